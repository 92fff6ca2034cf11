/- Walk of the reference's Tokens (layer 4). Printed by gen_tokens.py. -/
import Derived.Test.YtmajpambfblhnaaGreatDoorJoU2
import Derived.Test.YtmajpambfblhnaaGreatDoorJoU4
namespace Go.Proofs.YtmajpambfblhnaaGreatDoor
open Go.RowKit Jo

/-- The tokens ts stand in the slice value v, a row of the call's own. -/
def OwnT (B : Nat) (v : Value) (ts : List (List UInt8)) (w : World) : Prop := w.ownsRow B 9 1 v ts.length (ts.map S)
theorem OwnT.rd {B : Nat} {v : Value} {ts : List (List UInt8)} {w : World} (h : OwnT B v ts w) : _root_.Go.Proofs.YtmajpambfblhnaaGreatDoor.Rd w v ts.length (ts.map S) := by
  rcases h.2 with ⟨rfl, h0⟩ | ⟨g, cap, cur, rfl, hb, hgg, rest⟩
  · exact .inl ⟨none, 0, rfl, h0, by rw [List.eq_nil_of_length_eq_zero h0]; rfl⟩
  · by_cases h0 : ts.length = 0
    · exact .inl ⟨_, _, by rw [h0], h0, by rw [List.eq_nil_of_length_eq_zero h0]; rfl⟩
    · refine .inr ⟨g, 0, cap, rfl, by omega, fun j u hj => ?_⟩
      have := h.cells (g := g) rfl j u hj
      rwa [show (⟨g, 0, none⟩ : Addr).add j = ⟨g, 0 + j, none⟩ from by unfold Addr.add; split <;> simp_all] at this
theorem fresh_cells (w : World) (cs : List Value) (h : cs.length ≤ maxLen) : (w.alloc (.cells cs.toArray 9)).ownsRow w.heap.size 9 1 (.slice (some ⟨w.heap.size, 0, none⟩) cs.length cs.length) cs.length cs :=
  ⟨by simp, .inr ⟨w.heap.size, cs.length, cs.toArray, rfl, Nat.le_refl _, heap_alloc_new w _, Nat.le_refl _, h, by simp, by simp⟩⟩
theorem OwnT.one (w : World) (a : List UInt8) : OwnT w.heap.size (.slice (some ⟨w.heap.size, 0, none⟩) 1 1) [a] (w.alloc (.cells #[S a] 9)) := fresh_cells w [S a] (by simp [maxLen])
theorem OwnT.two (w : World) (a b : List UInt8) : OwnT w.heap.size (.slice (some ⟨w.heap.size, 0, none⟩) 2 2) [a, b] (w.alloc (.cells #[S a, S b] 9)) := fresh_cells w [S a, S b] (by simp [maxLen])
theorem OwnT.add {B : Nat} {v : Value} {ts us : List (List UInt8)} {w : World} (h : w.ownsRow B 9 1 v (ts.length + us.length) (ts.map S ++ us.map S)) : OwnT B v (ts ++ us) w := by
  unfold OwnT
  rw [List.length_append, List.map_append]
  exact h
theorem OwnT.keptT {B : Nat} {v : Value} {ts : List (List UInt8)} {w w' : World} (h : OwnT B v ts w) (hk : Kept (fun _ => True) w w') : OwnT B v ts w' := ownsRow_kept h hk fun _ _ => trivial
theorem flat_len : ∀ ts : List (List UInt8), (∀ t ∈ ts, t ≠ []) → ts.length ≤ ts.flatten.length
  | [], _ => by simp
  | t :: ts, h => by
    have h1 := flat_len ts fun u hu => h u (by simp [hu])
    have h2 : 1 ≤ t.length := List.length_pos_iff.2 (h t (by simp))
    simp only [List.flatten_cons, List.length_append, List.length_cons]
    omega
/-- What Tokens leaves. -/
def TokQ (l : List UInt8) (w : World) (e : Ending) (w' : World) : Prop := (∃ u ts, e = .returned u ∧ OwnT w.heap.size u ts w' ∧ ts.flatten = l ∧ ∀ t ∈ ts, t ≠ []) ∧ Kept (fun _ => True) w w'
def TokC (v : Value) (x : J) : Prop := ∀ w, JIn (fun _ => True) w x v → (layP x).length ≤ 274877906944 → Calls Tryz.prog 29 #[v] w (TokQ (layP x) w)

set_option maxHeartbeats 4000000 in
set_option maxRecDepth 100000 in
theorem tok_fls (v : Value) : TokC v (J.fls) := by
  intro w hx hl
  obtain ⟨na, nc, ia, ic, us, hv, -⟩ := JIn.invM (k := 1) (n := 0) (t := []) (ns := []) (xs := []) hx
  simp only [List.length_nil] at hv
  subst hv
  go_enter Tryz.func29, Tryz.ntmps29
  go_wp2
  refine bodyPost_ret (v := .slice (some ⟨w.heap.size + 1, 0, none⟩) 1 1) (by simp [results, Tryz.results29, go_sem]) rfl ?_
  have h1 := OwnT.one (w.alloc (.cells #[.int .i64 1, .int .i64 0, S [], .slice na 0 nc, .slice ia 0 ic] 25)) [102, 97, 108, 115, 101]
  have hz : (w.alloc (.cells #[.int .i64 1, .int .i64 0, S [], .slice na 0 nc, .slice ia 0 ic] 25)).heap.size = w.heap.size + 1 := by simp
  rw [hz] at h1
  exact ⟨⟨_, [[102, 97, 108, 115, 101]], rfl, ownsRow_base h1 (by omega), by rw [layP_fls]; rfl, by simp⟩, ((Kept.refl _ w).alloc _).alloc _⟩
set_option maxHeartbeats 4000000 in
set_option maxRecDepth 100000 in
theorem tok_tru (v : Value) : TokC v (J.tru) := by
  intro w hx hl
  obtain ⟨na, nc, ia, ic, us, hv, -⟩ := JIn.invM (k := 2) (n := 0) (t := []) (ns := []) (xs := []) hx
  simp only [List.length_nil] at hv
  subst hv
  go_enter Tryz.func29, Tryz.ntmps29
  go_wp2
  refine bodyPost_ret (v := .slice (some ⟨w.heap.size + 1, 0, none⟩) 1 1) (by simp [results, Tryz.results29, go_sem]) rfl ?_
  have h1 := OwnT.one (w.alloc (.cells #[.int .i64 2, .int .i64 0, S [], .slice na 0 nc, .slice ia 0 ic] 25)) [116, 114, 117, 101]
  have hz : (w.alloc (.cells #[.int .i64 2, .int .i64 0, S [], .slice na 0 nc, .slice ia 0 ic] 25)).heap.size = w.heap.size + 1 := by simp
  rw [hz] at h1
  exact ⟨⟨_, [[116, 114, 117, 101]], rfl, ownsRow_base h1 (by omega), by rw [layP_tru]; rfl, by simp⟩, ((Kept.refl _ w).alloc _).alloc _⟩
set_option maxHeartbeats 4000000 in
set_option maxRecDepth 100000 in
theorem tok_null (v : Value) : TokC v (J.null) := by
  intro w hx hl
  obtain ⟨na, nc, ia, ic, us, hv, -⟩ := JIn.invM (k := 0) (n := 0) (t := []) (ns := []) (xs := []) hx
  simp only [List.length_nil] at hv
  subst hv
  go_enter Tryz.func29, Tryz.ntmps29
  go_wp2
  refine bodyPost_ret (v := .slice (some ⟨w.heap.size + 1, 0, none⟩) 1 1) (by simp [results, Tryz.results29, go_sem]) rfl ?_
  have h1 := OwnT.one (w.alloc (.cells #[.int .i64 0, .int .i64 0, S [], .slice na 0 nc, .slice ia 0 ic] 25)) [110, 117, 108, 108]
  have hz : (w.alloc (.cells #[.int .i64 0, .int .i64 0, S [], .slice na 0 nc, .slice ia 0 ic] 25)).heap.size = w.heap.size + 1 := by simp
  rw [hz] at h1
  exact ⟨⟨_, [[110, 117, 108, 108]], rfl, ownsRow_base h1 (by omega), by rw [layP_null]; rfl, by simp⟩, ((Kept.refl _ w).alloc _).alloc _⟩
set_option maxHeartbeats 4000000 in
set_option maxRecDepth 100000 in
theorem tok_nr (n : Int) (h1 : -9007199254740991 ≤ n) (h2 : n ≤ 9007199254740991) (v : Value) : TokC v (J.nr n) := by
  intro w hx hl
  obtain ⟨na, nc, ia, ic, us, hv, -⟩ := JIn.invM (k := 3) (n := n) (t := []) (ns := []) (xs := []) hx
  simp only [List.length_nil] at hv
  subst hv
  have DG := Lib.hid (fun w => refdigits_any n w h1 h2)
  have HB := Lib.hid (And.intro h1 h2)
  clear h1 h2 hx hl
  go_enter Tryz.func29, Tryz.ntmps29
  go_wp2_with (refine (DG.out _).mono ?_; rintro e w2 ⟨rfl, hk2⟩)
  refine bodyPost_ret (v := .slice (some ⟨w2.heap.size, 0, none⟩) 1 1) (by simp [results, Tryz.results29, go_sem]) rfl ?_
  have h1 := OwnT.one w2 (Lib.itoa n)
  have hk0 : Kept (fun _ => True) w w2 := ((Kept.refl _ w).alloc _).tr hk2
  refine ⟨⟨_, [Lib.itoa n], rfl, ownsRow_base h1 hk0.size, by rw [layP_nr]; simp, ?_⟩, hk0.alloc _⟩
  intro t ht
  obtain rfl : t = Lib.itoa n := by simpa using ht
  intro e
  have := layP_pos (.nr n HB.out.1 HB.out.2)
  rw [layP_nr, e] at this
  simp at this
set_option maxHeartbeats 4000000 in
set_option maxRecDepth 100000 in
theorem tok_tx (t : List UInt8) (v : Value) : TokC v (J.tx t) := by
  intro w hx hl
  obtain ⟨na, nc, ia, ic, us, hv, -⟩ := JIn.invM (k := 4) (n := 0) (t := t) (ns := []) (xs := []) hx
  simp only [List.length_nil] at hv
  subst hv
  rw [layP_tx] at hl
  have QT := Lib.hid (fun w => refquoted_any t w (by omega))
  clear hx hl
  go_enter Tryz.func29, Tryz.ntmps29
  go_wp2_with (refine (QT.out _).mono ?_; rintro e w2 ⟨rfl, hk2⟩)
  refine bodyPost_ret (v := .slice (some ⟨w2.heap.size, 0, none⟩) 1 1) (by simp [results, Tryz.results29, go_sem]) rfl ?_
  have h1 := OwnT.one w2 (quoteP t)
  have hk0 : Kept (fun _ => True) w w2 := ((Kept.refl _ w).alloc _).tr hk2
  refine ⟨⟨_, [quoteP t], rfl, ownsRow_base h1 hk0.size, by rw [layP_tx]; simp, ?_⟩, hk0.alloc _⟩
  intro u hu
  obtain rfl : u = quoteP t := by simpa using hu
  simp [quoteP]
set_option maxHeartbeats 16000000 in
set_option maxRecDepth 100000 in
theorem tok_list (xs : List J) (hih : ∀ x ∈ xs, ∀ v, TokC v x) (v : Value) : TokC v (J.list xs) := by
  intro w hx hl
  obtain ⟨na, nc, ia, ic, us, hv, hr, hn, hi, hin⟩ := JIn.invM (k := 5) (n := 0) (t := []) (ns := []) (xs := xs) hx
  rw [layP_list] at hl ⊢
  obtain ⟨ls, hls⟩ : ∃ ls, xs.map layP = ls := ⟨_, rfl⟩
  have HLS := Lib.hid hls
  rw [hls] at hl ⊢
  have HL : Hid ((joinC ls).length + 2 ≤ 274877906944) := Lib.hid (by simp only [List.length_cons, List.length_append, List.length_nil] at hl; omega)
  obtain ⟨nl, hnl⟩ : ∃ y, ([] : List (List UInt8)).length = y := ⟨_, rfl⟩
  obtain ⟨il, hil⟩ : ∃ y, xs.length = y := ⟨_, rfl⟩
  have hil9 : il ≤ 9223372036854775807 := by rw [← hil]; exact hr.2.2.2.2.2.2.2
  have HLSN : Hid (ls.length = il) := Lib.hid (by rw [← hls, ← hil]; simp only [List.length_map])
  have HNI : Hid (xs.length = il) := Lib.hid (by rw [← hil]; try simp only [List.length_map])
  have HIN := Lib.hid (And.intro hn (And.intro hi hin))
  have HIH := Lib.hid hih
  have HEQ := Lib.hid (And.intro hnl hil)
  rw [hnl, hil] at hv
  subst hv
  obtain ⟨W0, hW0⟩ : ∃ W0, w.alloc (.cells #[.int .i64 5, .int .i64 0, S [], .slice na nl nc, .slice ia il ic] 25) = W0 := ⟨_, rfl⟩
  have hk0 : Kept (fun _ => True) w W0 := by rw [← hW0]; exact (Kept.refl _ w).alloc _
  have hz0 : W0.heap.size = w.heap.size + 1 := by rw [← hW0]; simp
  have hbox : OutAt w.heap.size 5 0 [] (.slice na nl nc) (.slice ia il ic) W0 := by rw [← hW0]; exact OutAt.new w _ _ _ _ _
  obtain ⟨o0, o1, o2, o3, o4, o5, o6⟩ := hbox.facts
  have HBOX := Lib.hid hbox
  have HK0 := Lib.hid (And.intro hk0 hz0)
  have HST := Lib.hid (OwnT.one W0 [91])
  have HKS : Hid (Kept (fun _ => True) W0 (W0.alloc (.cells #[S [91]] 9))) := Lib.hid ((Kept.refl _ _).alloc _)
  clear hx hl hls hnl hil hr hn hi hin hih hk0 hz0 hbox
  go_enter Tryz.func29, Tryz.ntmps29
  go_wp2
  go_loopg [5, 6] il (fun q v i wr => ∃ (j : Nat) (ts : List (List UInt8)), i = .int .i64 j ∧ q = il - j ∧ j ≤ il ∧ Hid (OwnT W0.heap.size v ts wr ∧ ts.flatten = 91 :: joinC (ls.take j) ∧ ∀ t ∈ ts, t ≠ []) ∧ Kept (fun _ => True) W0 wr)
  case atStart => exact ⟨0, [[91]], rfl, by omega, Nat.zero_le _, Lib.hid ⟨HST.out, by simp [joinC], by simp⟩, HKS.out⟩
  case round =>
    clear HST HKS hW0 o0 o1 o2 o3 o4 o5 o6
    obtain ⟨j, ts, rfl, rfl, hjl, ho, hk⟩ := hrel
    obtain ⟨va, vl, vc, rfl⟩ := ownsRow_slice ho.out.1
    obtain ⟨o0, o1, o2, o3, o4, o5, o6⟩ := (HBOX.out.kept hk trivial).facts
    have hkw := HK0.out.1.tr hk
    have hzr := hk.size
    have hfl : ts.length ≤ 274877906944 := by
      have h1 := flat_len ts ho.out.2.2
      have h2 := joinC_pre ls j
      have h3 := HL.out
      rw [ho.out.2.1, List.length_cons] at h1
      omega
    by_cases hlt : j < il
    · have hi := HIN.out.2.1
      rw [HEQ.out.2] at hi
      obtain ⟨b, off, rfl, hb, -, -, kx, nx, tx, nax, nlx, ncx, iax, ilx, icx, e1, c0, c1, c2, c3, c4⟩ := hi.at (j := j) hlt
      have HCELL := Lib.hid (fun w' (hkk : Kept (fun _ => True) w w') => (⟨(hkk.cell hb trivial).trans c0, (hkk.cell hb trivial).trans c1, (hkk.cell hb trivial).trans c2, (hkk.cell hb trivial).trans c3, (hkk.cell hb trivial).trans c4⟩ : _ ∧ _ ∧ _ ∧ _ ∧ _))
      replace c0 := (hkw.cell hb trivial).trans c0
      replace c1 := (hkw.cell hb trivial).trans c1
      replace c2 := (hkw.cell hb trivial).trans c2
      replace c3 := (hkw.cell hb trivial).trans c3
      replace c4 := (hkw.cell hb trivial).trans c4
      clear hi
      obtain ⟨x, hx⟩ : ∃ x, xs[j]? = some x := ⟨xs[j]'(by rw [HNI.out]; exact hlt), List.getElem?_eq_getElem _⟩
      have hN := joinC_next ls j (layP x) (by rw [← HLS.out, List.getElem?_map, hx]; rfl)
      have hB : (layP x).length ≤ (joinC ls).length := joinC_mem ls _ (by rw [← HLS.out]; exact List.mem_map_of_mem (List.mem_of_getElem? hx))
      have HLL : Hid ((layP x).length ≤ 274877906944) := Lib.hid (by have := HL.out; omega)
      have HC0 := Lib.hid (fun w' (hkk : Kept (fun _ => True) w w') => HIH.out x (List.mem_of_getElem? hx) (us j) w' ((HIN.out.2.2 j x hx).kept hkk fun _ _ _ => trivial) HLL.out)
      rw [e1] at HC0
      obtain ⟨m, hm⟩ : ∃ m, layP x = m := ⟨_, rfl⟩
      rw [hm] at HC0 hN HLL
      have HN := Lib.hid hN
      clear e1 hm hN hB hx
      by_cases hj0 : j = 0
      · have hjz : ¬ 0 < j := by omega
        have HJ := Lib.hid hj0
        clear hj0
        have HC := HC0.out wr (HK0.out.1.tr hk)
        go_wp2_with fail
        refine HC.mono ?_
        rintro e w4 ⟨⟨u, us4, rfl, hu, hfl4, hne4⟩, hk4⟩
        obtain ⟨ua, ul, uc, rfl⟩ := ownsRow_slice hu
        have hr4 := hu.rd
        have hz4 := hk4.size
        have hlen4 : us4.length ≤ 274877906944 := by have h1 := flat_len us4 hne4; rw [hfl4] at h1; have := HLL.out; omega
        have HU4 := Lib.hid (And.intro hfl4 hne4)
        clear hu hfl4 hne4 HC
        go_wp2_with (at_builtin; refine wpList_pushAll 22 9 Tryz.underlying22 infoStr rfl (by decide) rfl _ _ rfl W0.heap.size _ (ts).length ((ts).map S) _ us4.length ((us4).map S) (by simp) (ones_S _) rfl rfl hr4 (OwnT.keptT ho.out.1 hk4) (by (try simp only [List.length_append, List.length_cons, List.length_nil]); omega) (by decide) (by omega) ?_)
        intro v5 w5 k1 k2 k3
        obtain ⟨v5a, v5l, v5c, rfl⟩ := ownsRow_slice k1
        have HO5 : Hid (OwnT W0.heap.size (.slice v5a v5l v5c) (ts ++ us4) w5) := Lib.hid (OwnT.add k1)
        have hK5 : Kept (fun _ => True) W0 w5 := (hk.tr hk4).trans (ok2 := fun i => i < W0.heap.size) ⟨k2.os, k2.tape, k2.output, k2.size, fun i _ h => k2.block i h⟩ (fun i hi _ => hi)
        clear k1 k2 k3
        obtain ⟨Tv5, hT⟩ : ∃ T, ts ++ us4 = T := ⟨_, rfl⟩
        have hlv5 : Tv5.length ≤ (ts).length + (us4).length := by rw [← hT, List.length_append]; exact Nat.le_refl _
        (try simp only [List.length_cons, List.length_nil] at hlv5)
        rw [hT] at HO5
        have HTv5 := Lib.hid hT
        clear hT
        go_wp2
        go_roundg (il - (j + 1))
        case rel =>
          refine ⟨j + 1, Tv5, by go_num, rfl, by omega, Lib.hid ⟨HO5.out, ?_, ?_⟩, hK5⟩
          · have hn := HN.out
            rw [if_pos HJ.out] at hn
            rw [hn]
            rw [← HTv5.out]
            simp only [List.flatten_append, ho.out.2.1, HU4.out.1]
            simp
          · intro t ht
            rw [← HTv5.out] at ht
            simp only [List.mem_append] at ht
            have h1 := ho.out.2.2 t
            have h2 := HU4.out.2 t
            rcases ht with ht | ht
            · exact h1 ht
            · exact h2 ht
        case measure => omega
      · have hjz : 0 < j := by omega
        have HJ := Lib.hid hj0
        clear hj0
        have hr1 := (OwnT.one wr [44]).rd
        go_wp2_with (at_builtin; refine wpList_pushAll 22 9 Tryz.underlying22 infoStr rfl (by decide) rfl _ _ rfl W0.heap.size _ (ts).length ((ts).map S) _ 1 (([[44]]).map S) (by simp) (ones_S _) rfl rfl hr1 (OwnT.keptT ho.out.1 ((Kept.refl _ wr).alloc _)) (by (try simp only [List.length_append, List.length_cons, List.length_nil]); omega) (by decide) (by simp; omega) ?_)
        intro v1 w1 k1 k2 k3
        obtain ⟨v1a, v1l, v1c, rfl⟩ := ownsRow_slice k1
        have HO1 : Hid (OwnT W0.heap.size (.slice v1a v1l v1c) (ts ++ [[44]]) w1) := Lib.hid (OwnT.add k1)
        have hK1 : Kept (fun _ => True) W0 w1 := (hk.alloc _).trans (ok2 := fun i => i < W0.heap.size) ⟨k2.os, k2.tape, k2.output, k2.size, fun i _ h => k2.block i h⟩ (fun i hi _ => hi)
        clear k1 k2 k3
        obtain ⟨Tv1, hT⟩ : ∃ T, ts ++ [[44]] = T := ⟨_, rfl⟩
        have hlv1 : Tv1.length ≤ (ts).length + ([[44]]).length := by rw [← hT, List.length_append]; exact Nat.le_refl _
        (try simp only [List.length_cons, List.length_nil] at hlv1)
        rw [hT] at HO1
        have HTv1 := Lib.hid hT
        clear hT
        have hz1 := hK1.size
        have hkw1 : Kept (fun _ => True) w w1 := HK0.out.1.tr hK1
        obtain ⟨p0, p1, p2, p3, p4, p5, p6⟩ := (HBOX.out.kept hK1 trivial).facts
        obtain ⟨d0, d1, d2, d3, d4⟩ := HCELL.out w1 hkw1
        have HC := HC0.out w1 (HK0.out.1.tr hK1)
        go_wp2_with fail
        refine HC.mono ?_
        rintro e w4 ⟨⟨u, us4, rfl, hu, hfl4, hne4⟩, hk4⟩
        obtain ⟨ua, ul, uc, rfl⟩ := ownsRow_slice hu
        have hr4 := hu.rd
        have hz4 := hk4.size
        have hlen4 : us4.length ≤ 274877906944 := by have h1 := flat_len us4 hne4; rw [hfl4] at h1; have := HLL.out; omega
        have HU4 := Lib.hid (And.intro hfl4 hne4)
        clear hu hfl4 hne4 HC
        go_wp2_with (at_builtin; refine wpList_pushAll 22 9 Tryz.underlying22 infoStr rfl (by decide) rfl _ _ rfl W0.heap.size _ (Tv1).length ((Tv1).map S) _ us4.length ((us4).map S) (by simp) (ones_S _) rfl rfl hr4 (OwnT.keptT HO1.out hk4) (by (try simp only [List.length_append, List.length_cons, List.length_nil]); omega) (by decide) (by omega) ?_)
        intro v5 w5 k1 k2 k3
        obtain ⟨v5a, v5l, v5c, rfl⟩ := ownsRow_slice k1
        have HO5 : Hid (OwnT W0.heap.size (.slice v5a v5l v5c) (Tv1 ++ us4) w5) := Lib.hid (OwnT.add k1)
        have hK5 : Kept (fun _ => True) W0 w5 := (hK1.tr hk4).trans (ok2 := fun i => i < W0.heap.size) ⟨k2.os, k2.tape, k2.output, k2.size, fun i _ h => k2.block i h⟩ (fun i hi _ => hi)
        clear k1 k2 k3
        obtain ⟨Tv5, hT⟩ : ∃ T, Tv1 ++ us4 = T := ⟨_, rfl⟩
        have hlv5 : Tv5.length ≤ (Tv1).length + (us4).length := by rw [← hT, List.length_append]; exact Nat.le_refl _
        (try simp only [List.length_cons, List.length_nil] at hlv5)
        rw [hT] at HO5
        have HTv5 := Lib.hid hT
        clear hT
        go_wp2
        go_roundg (il - (j + 1))
        case rel =>
          refine ⟨j + 1, Tv5, by go_num, rfl, by omega, Lib.hid ⟨HO5.out, ?_, ?_⟩, hK5⟩
          · have hn := HN.out
            rw [if_neg HJ.out] at hn
            rw [hn]
            rw [← HTv5.out, ← HTv1.out]
            simp only [List.flatten_append, ho.out.2.1, HU4.out.1]
            simp
          · intro t ht
            rw [← HTv5.out, ← HTv1.out] at ht
            simp only [List.mem_append, List.mem_cons, List.not_mem_nil, or_false] at ht
            have h1 := ho.out.2.2 t
            have h2 := HU4.out.2 t
            rcases ht with (ht | rfl) | ht
            · exact h1 ht
            · simp
            · exact h2 ht
        case measure => omega
    · obtain rfl : il = j := by omega
      have hr9 := (OwnT.one wr [93]).rd
      have hall : ts.flatten = 91 :: joinC ls := by have := ho.out.2.1; rwa [List.take_of_length_le (by rw [HLSN.out]; exact Nat.le_refl _)] at this
      have HALL := Lib.hid (And.intro hall ho.out.2.2)
      clear hall
      go_wp2_with (at_builtin; refine wpList_pushAll 22 9 Tryz.underlying22 infoStr rfl (by decide) rfl _ _ rfl W0.heap.size _ (ts).length ((ts).map S) _ 1 (([[93]]).map S) (by simp) (ones_S _) rfl rfl hr9 (OwnT.keptT ho.out.1 ((Kept.refl _ wr).alloc _)) (by (try simp only [List.length_append, List.length_cons, List.length_nil]); omega) (by decide) (by simp; omega) ?_)
      intro v9 w9 k1 k2 k3
      obtain ⟨v9a, v9l, v9c, rfl⟩ := ownsRow_slice k1
      have HO9 : Hid (OwnT W0.heap.size (.slice v9a v9l v9c) (ts ++ [[93]]) w9) := Lib.hid (OwnT.add k1)
      have hK9 : Kept (fun _ => True) W0 w9 := (hk.alloc _).trans (ok2 := fun i => i < W0.heap.size) ⟨k2.os, k2.tape, k2.output, k2.size, fun i _ h => k2.block i h⟩ (fun i hi _ => hi)
      clear k1 k2 k3
      obtain ⟨Tv9, hT⟩ : ∃ T, ts ++ [[93]] = T := ⟨_, rfl⟩
      have hlv9 : Tv9.length ≤ (ts).length + ([[93]]).length := by rw [← hT, List.length_append]; exact Nat.le_refl _
      (try simp only [List.length_cons, List.length_nil] at hlv9)
      rw [hT] at HO9
      have HTv9 := Lib.hid hT
      clear hT
      go_wp2
      refine bodyPost_ret (v := .slice v9a v9l v9c) (by simp [results, Tryz.results29, go_sem]) rfl ?_
      refine ⟨⟨_, Tv9, rfl, ownsRow_base HO9.out (by have := HK0.out.2; omega), ?_, ?_⟩, HK0.out.1.tr hK9⟩
      · rw [← HTv9.out, List.flatten_append, HALL.out.1]; simp
      · intro t ht
        rw [← HTv9.out] at ht
        rcases List.mem_append.1 ht with ht | ht
        · exact HALL.out.2 t ht
        · obtain rfl : t = [93] := by simpa using ht
          simp

set_option maxHeartbeats 16000000 in
set_option maxRecDepth 100000 in
theorem tok_obj (ms : List (List UInt8 × J)) (hih : ∀ m ∈ ms, ∀ v, TokC v m.2) (v : Value) : TokC v (J.obj ms) := by
  intro w hx hl
  obtain ⟨na, nc, ia, ic, us, hv, hr, hn, hi, hin⟩ := JIn.invM (k := 6) (n := 0) (t := []) (ns := (ms.map (·.1))) (xs := (ms.map (·.2))) hx
  rw [layP_obj] at hl ⊢
  obtain ⟨ls, hls⟩ : ∃ ls, ms.map memP = ls := ⟨_, rfl⟩
  have HLS := Lib.hid hls
  rw [hls] at hl ⊢
  have HL : Hid ((joinC ls).length + 2 ≤ 274877906944) := Lib.hid (by simp only [List.length_cons, List.length_append, List.length_nil] at hl; omega)
  obtain ⟨nl, hnl⟩ : ∃ y, ((ms.map (·.1)) : List (List UInt8)).length = y := ⟨_, rfl⟩
  obtain ⟨il, hil⟩ : ∃ y, (ms.map (·.2)).length = y := ⟨_, rfl⟩
  have hil9 : il ≤ 9223372036854775807 := by rw [← hil]; exact hr.2.2.2.2.2.2.2
  have HLSN : Hid (ls.length = il) := Lib.hid (by rw [← hls, ← hil]; simp only [List.length_map])
  have HNI : Hid (ms.length = il) := Lib.hid (by rw [← hil]; try simp only [List.length_map])
  have HIN := Lib.hid (And.intro hn (And.intro hi hin))
  have HIH := Lib.hid hih
  have HEQ := Lib.hid (And.intro hnl hil)
  rw [hnl, hil] at hv
  subst hv
  obtain ⟨W0, hW0⟩ : ∃ W0, w.alloc (.cells #[.int .i64 6, .int .i64 0, S [], .slice na nl nc, .slice ia il ic] 25) = W0 := ⟨_, rfl⟩
  have hk0 : Kept (fun _ => True) w W0 := by rw [← hW0]; exact (Kept.refl _ w).alloc _
  have hz0 : W0.heap.size = w.heap.size + 1 := by rw [← hW0]; simp
  have hbox : OutAt w.heap.size 6 0 [] (.slice na nl nc) (.slice ia il ic) W0 := by rw [← hW0]; exact OutAt.new w _ _ _ _ _
  obtain ⟨o0, o1, o2, o3, o4, o5, o6⟩ := hbox.facts
  have HBOX := Lib.hid hbox
  have HK0 := Lib.hid (And.intro hk0 hz0)
  have HST := Lib.hid (OwnT.one W0 [123])
  have HKS : Hid (Kept (fun _ => True) W0 (W0.alloc (.cells #[S [123]] 9))) := Lib.hid ((Kept.refl _ _).alloc _)
  clear hx hl hls hnl hil hr hn hi hin hih hk0 hz0 hbox
  go_enter Tryz.func29, Tryz.ntmps29
  go_wp2
  go_loopg [5, 6] il (fun q v i wr => ∃ (j : Nat) (ts : List (List UInt8)), i = .int .i64 j ∧ q = il - j ∧ j ≤ il ∧ Hid (OwnT W0.heap.size v ts wr ∧ ts.flatten = 123 :: joinC (ls.take j) ∧ ∀ t ∈ ts, t ≠ []) ∧ Kept (fun _ => True) W0 wr)
  case atStart => exact ⟨0, [[123]], rfl, by omega, Nat.zero_le _, Lib.hid ⟨HST.out, by simp [joinC], by simp⟩, HKS.out⟩
  case round =>
    clear HST HKS hW0 o0 o1 o2 o3 o4 o5 o6
    obtain ⟨j, ts, rfl, rfl, hjl, ho, hk⟩ := hrel
    obtain ⟨va, vl, vc, rfl⟩ := ownsRow_slice ho.out.1
    obtain ⟨o0, o1, o2, o3, o4, o5, o6⟩ := (HBOX.out.kept hk trivial).facts
    have hkw := HK0.out.1.tr hk
    have hzr := hk.size
    have hfl : ts.length ≤ 274877906944 := by
      have h1 := flat_len ts ho.out.2.2
      have h2 := joinC_pre ls j
      have h3 := HL.out
      rw [ho.out.2.1, List.length_cons] at h1
      omega
    by_cases hlt : j < il
    · have hi := HIN.out.2.1
      rw [HEQ.out.2] at hi
      obtain ⟨b, off, rfl, hb, -, -, kx, nx, tx, nax, nlx, ncx, iax, ilx, icx, e1, c0, c1, c2, c3, c4⟩ := hi.at (j := j) hlt
      have HCELL := Lib.hid (fun w' (hkk : Kept (fun _ => True) w w') => (⟨(hkk.cell hb trivial).trans c0, (hkk.cell hb trivial).trans c1, (hkk.cell hb trivial).trans c2, (hkk.cell hb trivial).trans c3, (hkk.cell hb trivial).trans c4⟩ : _ ∧ _ ∧ _ ∧ _ ∧ _))
      replace c0 := (hkw.cell hb trivial).trans c0
      replace c1 := (hkw.cell hb trivial).trans c1
      replace c2 := (hkw.cell hb trivial).trans c2
      replace c3 := (hkw.cell hb trivial).trans c3
      replace c4 := (hkw.cell hb trivial).trans c4
      clear hi
      obtain ⟨⟨n, x⟩, hx⟩ : ∃ x, ms[j]? = some x := ⟨ms[j]'(by rw [HNI.out]; exact hlt), List.getElem?_eq_getElem _⟩
      have hxx : (ms.map (·.2))[j]? = some x := by rw [List.getElem?_map, hx]; rfl
      have hnn := HIN.out.1
      rw [HEQ.out.1] at hnn
      have hnl2 : j < nl := by have h1 := HEQ.out.1; have h2 := HNI.out; rw [List.length_map] at h1; omega
      obtain ⟨bn, on, rfl, hbn, -, -, n', hn', hcn⟩ := hnn.at (j := j) (by rw [HEQ.out.1]; exact hnl2)
      obtain rfl : n = n' := by rw [List.getElem?_map, hx] at hn'; simpa using hn'
      have HCN := Lib.hid (fun w' (hkk : Kept (fun _ => True) w w') => (hkk.cell hbn trivial).trans hcn)
      replace hcn := (hkw.cell hbn trivial).trans hcn
      have hmlen : (memP (n, x)).length = (quoteP n).length + 1 + (layP x).length := by show (quoteP n ++ 58 :: layP x).length = _; rw [List.length_append, List.length_cons]; omega
      have hN := joinC_next ls j (memP (n, x)) (by rw [← HLS.out, List.getElem?_map, hx]; rfl)
      have hB : (memP (n, x)).length ≤ (joinC ls).length := joinC_mem ls _ (by rw [← HLS.out]; exact List.mem_map_of_mem (List.mem_of_getElem? hx))
      have HLL : Hid ((layP x).length ≤ 274877906944) := Lib.hid (by have := HL.out; omega)
      have HQB : Hid ((quoteP n).length ≤ 274877906944) := Lib.hid (by have := HL.out; omega)
      have HC0 := Lib.hid (fun w' (hkk : Kept (fun _ => True) w w') => HIH.out (n, x) (List.mem_of_getElem? hx) (us j) w' ((HIN.out.2.2 j x hxx).kept hkk fun _ _ _ => trivial) HLL.out)
      have hmem : memP (n, x) = quoteP n ++ 58 :: layP x := rfl
      rw [hmem] at hN
      simp only at HC0
      rw [e1] at HC0
      obtain ⟨m, hm⟩ : ∃ m, layP x = m := ⟨_, rfl⟩
      rw [hm] at HC0 hN HLL
      have HN := Lib.hid hN
      clear e1 hm hN hB hxx hnn hn' hmlen hmem hx
      by_cases hj0 : j = 0
      · have hjz : ¬ 0 < j := by omega
        have HJ := Lib.hid hj0
        clear hj0
        have QT := Lib.hid (fun w => refquoted_any n w (by have := HQB.out; omega))
        go_wp2_with fail
        refine (QT.out _).mono ?_
        rintro e w2 ⟨rfl, hk2⟩
        have hr2 := (OwnT.two w2 (quoteP n) [58]).rd
        have hz2 := hk2.size
        go_wp2_with (at_builtin; refine wpList_pushAll 22 9 Tryz.underlying22 infoStr rfl (by decide) rfl _ _ rfl W0.heap.size _ (ts).length ((ts).map S) _ 2 (([quoteP n, [58]]).map S) (by simp) (ones_S _) rfl rfl hr2 (OwnT.keptT (OwnT.keptT ho.out.1 hk2) ((Kept.refl _ w2).alloc _)) (by (try simp only [List.length_append, List.length_cons, List.length_nil]); omega) (by decide) (by simp; omega) ?_)
        intro v3 w3 k1 k2 k3
        obtain ⟨v3a, v3l, v3c, rfl⟩ := ownsRow_slice k1
        have HO3 : Hid (OwnT W0.heap.size (.slice v3a v3l v3c) (ts ++ [quoteP n, [58]]) w3) := Lib.hid (OwnT.add k1)
        have hK3 : Kept (fun _ => True) W0 w3 := ((hk.tr hk2).alloc _).trans (ok2 := fun i => i < W0.heap.size) ⟨k2.os, k2.tape, k2.output, k2.size, fun i _ h => k2.block i h⟩ (fun i hi _ => hi)
        clear k1 k2 k3
        obtain ⟨Tv3, hT⟩ : ∃ T, ts ++ [quoteP n, [58]] = T := ⟨_, rfl⟩
        have hlv3 : Tv3.length ≤ (ts).length + ([quoteP n, [58]]).length := by rw [← hT, List.length_append]; exact Nat.le_refl _
        (try simp only [List.length_cons, List.length_nil] at hlv3)
        rw [hT] at HO3
        have HTv3 := Lib.hid hT
        clear hT
        have hz3 := hK3.size
        have hkw3 : Kept (fun _ => True) w w3 := HK0.out.1.tr hK3
        obtain ⟨r0, r1, r2, r3, r4, r5, r6⟩ := (HBOX.out.kept hK3 trivial).facts
        obtain ⟨g0, g1, g2, g3, g4⟩ := HCELL.out w3 hkw3
        have HC := HC0.out w3 (HK0.out.1.tr hK3)
        go_wp2_with fail
        refine HC.mono ?_
        rintro e w4 ⟨⟨u, us4, rfl, hu, hfl4, hne4⟩, hk4⟩
        obtain ⟨ua, ul, uc, rfl⟩ := ownsRow_slice hu
        have hr4 := hu.rd
        have hz4 := hk4.size
        have hlen4 : us4.length ≤ 274877906944 := by have h1 := flat_len us4 hne4; rw [hfl4] at h1; have := HLL.out; omega
        have HU4 := Lib.hid (And.intro hfl4 hne4)
        clear hu hfl4 hne4 HC
        go_wp2_with (at_builtin; refine wpList_pushAll 22 9 Tryz.underlying22 infoStr rfl (by decide) rfl _ _ rfl W0.heap.size _ (Tv3).length ((Tv3).map S) _ us4.length ((us4).map S) (by simp) (ones_S _) rfl rfl hr4 (OwnT.keptT HO3.out hk4) (by (try simp only [List.length_append, List.length_cons, List.length_nil]); omega) (by decide) (by omega) ?_)
        intro v5 w5 k1 k2 k3
        obtain ⟨v5a, v5l, v5c, rfl⟩ := ownsRow_slice k1
        have HO5 : Hid (OwnT W0.heap.size (.slice v5a v5l v5c) (Tv3 ++ us4) w5) := Lib.hid (OwnT.add k1)
        have hK5 : Kept (fun _ => True) W0 w5 := (hK3.tr hk4).trans (ok2 := fun i => i < W0.heap.size) ⟨k2.os, k2.tape, k2.output, k2.size, fun i _ h => k2.block i h⟩ (fun i hi _ => hi)
        clear k1 k2 k3
        obtain ⟨Tv5, hT⟩ : ∃ T, Tv3 ++ us4 = T := ⟨_, rfl⟩
        have hlv5 : Tv5.length ≤ (Tv3).length + (us4).length := by rw [← hT, List.length_append]; exact Nat.le_refl _
        (try simp only [List.length_cons, List.length_nil] at hlv5)
        rw [hT] at HO5
        have HTv5 := Lib.hid hT
        clear hT
        go_wp2
        go_roundg (il - (j + 1))
        case rel =>
          refine ⟨j + 1, Tv5, by go_num, rfl, by omega, Lib.hid ⟨HO5.out, ?_, ?_⟩, hK5⟩
          · have hn := HN.out
            rw [if_pos HJ.out] at hn
            rw [hn]
            rw [← HTv5.out, ← HTv3.out]
            simp only [List.flatten_append, ho.out.2.1, HU4.out.1]
            simp
          · intro t ht
            rw [← HTv5.out, ← HTv3.out] at ht
            simp only [List.mem_append, List.mem_cons, List.not_mem_nil, or_false] at ht
            have h1 := ho.out.2.2 t
            have h2 := HU4.out.2 t
            rcases ht with (ht | rfl | rfl) | ht
            · exact h1 ht
            · simp [quoteP]
            · simp
            · exact h2 ht
        case measure => omega
      · have hjz : 0 < j := by omega
        have HJ := Lib.hid hj0
        clear hj0
        have hr1 := (OwnT.one wr [44]).rd
        go_wp2_with (at_builtin; refine wpList_pushAll 22 9 Tryz.underlying22 infoStr rfl (by decide) rfl _ _ rfl W0.heap.size _ (ts).length ((ts).map S) _ 1 (([[44]]).map S) (by simp) (ones_S _) rfl rfl hr1 (OwnT.keptT ho.out.1 ((Kept.refl _ wr).alloc _)) (by (try simp only [List.length_append, List.length_cons, List.length_nil]); omega) (by decide) (by simp; omega) ?_)
        intro v1 w1 k1 k2 k3
        obtain ⟨v1a, v1l, v1c, rfl⟩ := ownsRow_slice k1
        have HO1 : Hid (OwnT W0.heap.size (.slice v1a v1l v1c) (ts ++ [[44]]) w1) := Lib.hid (OwnT.add k1)
        have hK1 : Kept (fun _ => True) W0 w1 := (hk.alloc _).trans (ok2 := fun i => i < W0.heap.size) ⟨k2.os, k2.tape, k2.output, k2.size, fun i _ h => k2.block i h⟩ (fun i hi _ => hi)
        clear k1 k2 k3
        obtain ⟨Tv1, hT⟩ : ∃ T, ts ++ [[44]] = T := ⟨_, rfl⟩
        have hlv1 : Tv1.length ≤ (ts).length + ([[44]]).length := by rw [← hT, List.length_append]; exact Nat.le_refl _
        (try simp only [List.length_cons, List.length_nil] at hlv1)
        rw [hT] at HO1
        have HTv1 := Lib.hid hT
        clear hT
        have hz1 := hK1.size
        have hkw1 : Kept (fun _ => True) w w1 := HK0.out.1.tr hK1
        obtain ⟨p0, p1, p2, p3, p4, p5, p6⟩ := (HBOX.out.kept hK1 trivial).facts
        obtain ⟨d0, d1, d2, d3, d4⟩ := HCELL.out w1 hkw1
        have dn := HCN.out w1 hkw1
        have QT := Lib.hid (fun w => refquoted_any n w (by have := HQB.out; omega))
        go_wp2_with fail
        refine (QT.out _).mono ?_
        rintro e w2 ⟨rfl, hk2⟩
        have hr2 := (OwnT.two w2 (quoteP n) [58]).rd
        have hz2 := hk2.size
        go_wp2_with (at_builtin; refine wpList_pushAll 22 9 Tryz.underlying22 infoStr rfl (by decide) rfl _ _ rfl W0.heap.size _ (Tv1).length ((Tv1).map S) _ 2 (([quoteP n, [58]]).map S) (by simp) (ones_S _) rfl rfl hr2 (OwnT.keptT (OwnT.keptT HO1.out hk2) ((Kept.refl _ w2).alloc _)) (by (try simp only [List.length_append, List.length_cons, List.length_nil]); omega) (by decide) (by simp; omega) ?_)
        intro v3 w3 k1 k2 k3
        obtain ⟨v3a, v3l, v3c, rfl⟩ := ownsRow_slice k1
        have HO3 : Hid (OwnT W0.heap.size (.slice v3a v3l v3c) (Tv1 ++ [quoteP n, [58]]) w3) := Lib.hid (OwnT.add k1)
        have hK3 : Kept (fun _ => True) W0 w3 := ((hK1.tr hk2).alloc _).trans (ok2 := fun i => i < W0.heap.size) ⟨k2.os, k2.tape, k2.output, k2.size, fun i _ h => k2.block i h⟩ (fun i hi _ => hi)
        clear k1 k2 k3
        obtain ⟨Tv3, hT⟩ : ∃ T, Tv1 ++ [quoteP n, [58]] = T := ⟨_, rfl⟩
        have hlv3 : Tv3.length ≤ (Tv1).length + ([quoteP n, [58]]).length := by rw [← hT, List.length_append]; exact Nat.le_refl _
        (try simp only [List.length_cons, List.length_nil] at hlv3)
        rw [hT] at HO3
        have HTv3 := Lib.hid hT
        clear hT
        have hz3 := hK3.size
        have hkw3 : Kept (fun _ => True) w w3 := HK0.out.1.tr hK3
        obtain ⟨r0, r1, r2, r3, r4, r5, r6⟩ := (HBOX.out.kept hK3 trivial).facts
        obtain ⟨g0, g1, g2, g3, g4⟩ := HCELL.out w3 hkw3
        have HC := HC0.out w3 (HK0.out.1.tr hK3)
        go_wp2_with fail
        refine HC.mono ?_
        rintro e w4 ⟨⟨u, us4, rfl, hu, hfl4, hne4⟩, hk4⟩
        obtain ⟨ua, ul, uc, rfl⟩ := ownsRow_slice hu
        have hr4 := hu.rd
        have hz4 := hk4.size
        have hlen4 : us4.length ≤ 274877906944 := by have h1 := flat_len us4 hne4; rw [hfl4] at h1; have := HLL.out; omega
        have HU4 := Lib.hid (And.intro hfl4 hne4)
        clear hu hfl4 hne4 HC
        go_wp2_with (at_builtin; refine wpList_pushAll 22 9 Tryz.underlying22 infoStr rfl (by decide) rfl _ _ rfl W0.heap.size _ (Tv3).length ((Tv3).map S) _ us4.length ((us4).map S) (by simp) (ones_S _) rfl rfl hr4 (OwnT.keptT HO3.out hk4) (by (try simp only [List.length_append, List.length_cons, List.length_nil]); omega) (by decide) (by omega) ?_)
        intro v5 w5 k1 k2 k3
        obtain ⟨v5a, v5l, v5c, rfl⟩ := ownsRow_slice k1
        have HO5 : Hid (OwnT W0.heap.size (.slice v5a v5l v5c) (Tv3 ++ us4) w5) := Lib.hid (OwnT.add k1)
        have hK5 : Kept (fun _ => True) W0 w5 := (hK3.tr hk4).trans (ok2 := fun i => i < W0.heap.size) ⟨k2.os, k2.tape, k2.output, k2.size, fun i _ h => k2.block i h⟩ (fun i hi _ => hi)
        clear k1 k2 k3
        obtain ⟨Tv5, hT⟩ : ∃ T, Tv3 ++ us4 = T := ⟨_, rfl⟩
        have hlv5 : Tv5.length ≤ (Tv3).length + (us4).length := by rw [← hT, List.length_append]; exact Nat.le_refl _
        (try simp only [List.length_cons, List.length_nil] at hlv5)
        rw [hT] at HO5
        have HTv5 := Lib.hid hT
        clear hT
        go_wp2
        go_roundg (il - (j + 1))
        case rel =>
          refine ⟨j + 1, Tv5, by go_num, rfl, by omega, Lib.hid ⟨HO5.out, ?_, ?_⟩, hK5⟩
          · have hn := HN.out
            rw [if_neg HJ.out] at hn
            rw [hn]
            rw [← HTv5.out, ← HTv3.out, ← HTv1.out]
            simp only [List.flatten_append, ho.out.2.1, HU4.out.1]
            simp
          · intro t ht
            rw [← HTv5.out, ← HTv3.out, ← HTv1.out] at ht
            simp only [List.mem_append, List.mem_cons, List.not_mem_nil, or_false] at ht
            have h1 := ho.out.2.2 t
            have h2 := HU4.out.2 t
            rcases ht with ((ht | rfl) | rfl | rfl) | ht
            · exact h1 ht
            · simp
            · simp [quoteP]
            · simp
            · exact h2 ht
        case measure => omega
    · obtain rfl : il = j := by omega
      have hr9 := (OwnT.one wr [125]).rd
      have hall : ts.flatten = 123 :: joinC ls := by have := ho.out.2.1; rwa [List.take_of_length_le (by rw [HLSN.out]; exact Nat.le_refl _)] at this
      have HALL := Lib.hid (And.intro hall ho.out.2.2)
      clear hall
      go_wp2_with (at_builtin; refine wpList_pushAll 22 9 Tryz.underlying22 infoStr rfl (by decide) rfl _ _ rfl W0.heap.size _ (ts).length ((ts).map S) _ 1 (([[125]]).map S) (by simp) (ones_S _) rfl rfl hr9 (OwnT.keptT ho.out.1 ((Kept.refl _ wr).alloc _)) (by (try simp only [List.length_append, List.length_cons, List.length_nil]); omega) (by decide) (by simp; omega) ?_)
      intro v9 w9 k1 k2 k3
      obtain ⟨v9a, v9l, v9c, rfl⟩ := ownsRow_slice k1
      have HO9 : Hid (OwnT W0.heap.size (.slice v9a v9l v9c) (ts ++ [[125]]) w9) := Lib.hid (OwnT.add k1)
      have hK9 : Kept (fun _ => True) W0 w9 := (hk.alloc _).trans (ok2 := fun i => i < W0.heap.size) ⟨k2.os, k2.tape, k2.output, k2.size, fun i _ h => k2.block i h⟩ (fun i hi _ => hi)
      clear k1 k2 k3
      obtain ⟨Tv9, hT⟩ : ∃ T, ts ++ [[125]] = T := ⟨_, rfl⟩
      have hlv9 : Tv9.length ≤ (ts).length + ([[125]]).length := by rw [← hT, List.length_append]; exact Nat.le_refl _
      (try simp only [List.length_cons, List.length_nil] at hlv9)
      rw [hT] at HO9
      have HTv9 := Lib.hid hT
      clear hT
      go_wp2
      refine bodyPost_ret (v := .slice v9a v9l v9c) (by simp [results, Tryz.results29, go_sem]) rfl ?_
      refine ⟨⟨_, Tv9, rfl, ownsRow_base HO9.out (by have := HK0.out.2; omega), ?_, ?_⟩, HK0.out.1.tr hK9⟩
      · rw [← HTv9.out, List.flatten_append, HALL.out.1]; simp
      · intro t ht
        rw [← HTv9.out] at ht
        rcases List.mem_append.1 ht with ht | ht
        · exact HALL.out.2 t ht
        · obtain rfl : t = [125] := by simpa using ht
          simp

theorem tokens_any {x : J} (hx : May x) : ∀ v, TokC v x := by
  induction hx with
  | null => exact tok_null
  | fls => exact tok_fls
  | tru => exact tok_tru
  | nr n h1 h2 => exact tok_nr n h1 h2
  | tx t _ => exact tok_tx t
  | list xs _ ih => exact tok_list xs ih
  | obj ms _ _ _ ih => exact tok_obj ms ih
end Go.Proofs.YtmajpambfblhnaaGreatDoor
