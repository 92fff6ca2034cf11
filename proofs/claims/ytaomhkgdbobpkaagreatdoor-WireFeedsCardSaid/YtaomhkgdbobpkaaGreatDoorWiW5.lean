/- Walks of wire (layer 5), fifth part: what stands behind a first line. -/
import Derived.Test.YtaomhkgdbobpkaaGreatDoorWiWA
import Derived.Deep.CutBlock
namespace Go.Proofs.YtaomhkgdbobpkaaGreatDoor
open Go.RowKit Wi

/-- What the library's own variables hold: the powers of ten, as its text lays them; bytealg.MaxLen, some number. -/
structure WE (B : Nat) (w : World) : Prop where
  pow : Lib.TabIs Tryz.prog w "internal/strconv.uint64pow10" .u64 Lib.pow10Tab
  max : ∃ m : Int, w.cell? ⟨5, 0, none⟩ = some (.int .i64 m)
  h1 : 2 < B
  h2 : 5 < B
theorem pow_named : Tryz.prog.globalNamed "internal/strconv.uint64pow10" = some 2 := by kernel_rfl
theorem WE.kept {B : Nat} {ok : Nat → Prop} {w w' : World} (h : WE B w) (hk : Kept ok w w') (ho : ∀ k, k < B → ok k) : WE B w' := by
  obtain ⟨p, ⟨m, hm⟩, h1, h2⟩ := h
  refine ⟨?_, ⟨m, (hk.cell (cell_isLt hm) (ho _ h2)).trans hm⟩, h1, h2⟩
  unfold Lib.TabIs World.var? at p ⊢
  rw [pow_named] at p ⊢
  simp only [Option.bind_some] at p ⊢
  have hlt : 2 < w.heap.size := by
    rcases Nat.lt_or_ge 2 w.heap.size with h' | h'
    · exact h'
    · rw [Array.getElem?_eq_none h'] at p; cases p
  rw [hk.block _ hlt (ho _ h1)]
  exact p
theorem WE.le {B C : Nat} {w : World} (h : WE B w) (hC : B ≤ C) : WE C w := ⟨h.pow, h.max, Nat.lt_of_lt_of_le h.h1 hC, Nat.lt_of_lt_of_le h.h2 hC⟩
theorem Kept.growN {ok : Nat → Prop} (w : World) (k : Nat) (os : Array Obj) : Kept ok w (Go.Sort.grow (w.drewN k) os) := ⟨rfl, rfl, rfl, by simp [Go.Sort.grow], fun i hi _ => by simp only [Go.Sort.grow, drewN_heap]; rw [Array.getElem?_append_left hi]⟩
/-- The slice value v holds the fields fs. -/
def RowF (ok : Nat → Prop) (w : World) (v : Value) (fs : List Fl) : Prop :=
  (∃ a c, v = .slice a 0 c ∧ fs = []) ∨ ∃ b off cap, v = .slice (some ⟨b, off, none⟩) fs.length cap ∧ fs.length ≤ cap ∧ ok b ∧ b < w.heap.size ∧ ∀ (j : Nat) f, fs[j]? = some f → w.cell? ⟨b, off + j * 2, none⟩ = some (S f.1) ∧ w.cell? ⟨b, off + j * 2 + 1, none⟩ = some (S f.2)
theorem RowF.kept {ok ok2 : Nat → Prop} {w w' : World} {v : Value} {fs : List Fl} (h : RowF ok w v fs) (hk : Kept ok2 w w') (hi : ∀ b, b < w.heap.size → ok b → ok2 b) : RowF ok w' v fs := by
  rcases h with h | ⟨b, off, cap, rfl, h1, h2, h3, h4⟩
  · exact .inl h
  · exact .inr ⟨b, off, cap, rfl, h1, h2, by have := hk.size; omega, fun j f hj => ⟨(hk.cell h3 (hi b h3 h2)).trans (h4 j f hj).1, (hk.cell h3 (hi b h3 h2)).trans (h4 j f hj).2⟩⟩
theorem RowF.mono {ok ok2 : Nat → Prop} {w : World} {v : Value} {fs : List Fl} (h : RowF ok w v fs) (hi : ∀ b, b < w.heap.size → ok b → ok2 b) : RowF ok2 w v fs := by
  rcases h with h | ⟨b, off, cap, rfl, h1, h2, h3, h4⟩
  · exact .inl h
  · exact .inr ⟨b, off, cap, rfl, h1, hi b h3 h2, h3, h4⟩
theorem RowF.slice {ok : Nat → Prop} {w : World} {v : Value} {fs : List Fl} (h : RowF ok w v fs) : ∃ a c, v = .slice a fs.length c := by
  rcases h with ⟨a, c, rfl, rfl⟩ | ⟨b, off, cap, rfl, _⟩
  · exact ⟨_, _, rfl⟩
  · exact ⟨_, _, rfl⟩
theorem RowF.at {ok : Nat → Prop} {w : World} {a : Option Addr} {m c : Nat} {fs : List Fl} (h : RowF ok w (.slice a m c) fs) {j : Nat} (hj : j < fs.length) : ∃ b off, a = some ⟨b, off, none⟩ ∧ b < w.heap.size ∧ ok b ∧ ∃ f, fs[j]? = some f ∧ w.cell? ⟨b, off + j * 2, none⟩ = some (S f.1) ∧ w.cell? ⟨b, off + j * 2 + 1, none⟩ = some (S f.2) := by
  rcases h with ⟨a', c', e, rfl⟩ | ⟨b, off, cap, e, h1, h2, h3, h4⟩
  · simp at hj
  · obtain ⟨rfl, rfl, rfl⟩ : a = some ⟨b, off, none⟩ ∧ m = fs.length ∧ c = cap := by simpa using e
    exact ⟨b, off, rfl, h3, h2, fs[j]'hj, List.getElem?_eq_getElem hj, h4 j _ (List.getElem?_eq_getElem hj)⟩
/-- A header that may be takes few bytes. -/
theorem headP_len {f : Fl} (h : isHeaderP f = true) : (headP f).length ≤ 1002 := by
  unfold isHeaderP at h
  simp only [Bool.and_eq_true, decide_eq_true_eq] at h
  have := h.1.1.2
  simp only [headP, List.length_append, List.length_cons, List.length_nil]
  omega
theorem heads_len {fs : List Fl} (h : fs.all isHeaderP = true) : ((fs.map headP).flatten).length ≤ 1002 * fs.length := by
  induction fs with
  | nil => simp
  | cons f r ih =>
    simp only [List.all_cons, Bool.and_eq_true] at h
    have h1 := headP_len h.1
    have h2 := ih h.2
    simp only [List.map_cons, List.flatten_cons, List.length_append, List.length_cons]
    omega
theorem all_takeF (p : Fl → Bool) {s : List Fl} {i : Nat} {c : Fl} (hc : s[i]? = some c) (h : (s.take i).all p = true) : (s.take (i + 1)).all p = p c := by
  rw [List.take_add_one, hc, List.all_append, h]
  simp
theorem heads_take {s : List Fl} {i : Nat} {c : Fl} (hc : s[i]? = some c) : ((s.take (i + 1)).map headP).flatten = ((s.take i).map headP).flatten ++ headP c := by
  rw [List.take_add_one, hc]
  simp
theorem nDigits_le : ∀ (k u : Nat), u < 10 ^ (k + 1) → Lib.nDigits u ≤ k + 1
  | 0, u, h => by rw [Lib.nDigits_small (by simpa using h)]; exact Nat.le_refl _
  | k + 1, u, h => by
    by_cases hu : u < 10
    · rw [Lib.nDigits_small hu]; omega
    · rw [Lib.nDigits_big hu]
      have := nDigits_le k (u / 10) (by rw [Nat.pow_succ] at h; omega)
      omega
theorem itoa_len (n : Int) (h1 : 0 ≤ n) (h2 : n ≤ 9007199254740991) : (Lib.itoa n).length ≤ 20 := by
  unfold Lib.itoa
  split
  · omega
  · rw [Lib.decDigits_length]
    have := nDigits_le 15 n.toNat (by simp only [Nat.reduceAdd, Nat.reducePow]; omega)
    omega
def RestQ (fs : List Fl) (body : List UInt8) (w : World) (e : Ending) (w' : World) : Prop := e = .returned (.tuple #[S (if restOk fs body = true then restP fs body else []), .bool (restOk fs body)]) ∧ Kept (fun _ => True) w w'
set_option maxHeartbeats 8000000 in
set_option maxRecDepth 100000 in
theorem rest_any (fs : List Fl) (v : Value) (body : List UInt8) (w : World) (hE : WE w.heap.size w) (hv : RowF (fun _ => True) w v fs) (hl : ∀ f ∈ fs, f.1.length ≤ 1099511627776 ∧ f.2.length ≤ 1099511627776) (hn : fs.length ≤ 1099511627776) (hb : body.length ≤ 1099511627776) :
    Calls Tryz.prog 49 #[v, S body] w (RestQ fs body w) := by
  obtain ⟨a, c, rfl⟩ := hv.slice
  have hbz : (⟨body.toArray⟩ : ByteArray).size = body.length := size_mk body
  by_cases hbig : fs.length ≤ 32 ∧ body.length ≤ 4000
  case neg =>
    have hR : restOk fs body = false := by
      unfold restOk
      by_cases h1 : fs.length ≤ 32
      · have h2 : ¬ body.length ≤ 4000 := fun h2 => hbig ⟨h1, h2⟩
        rw [decide_eq_false h2]; simp
      · rw [decide_eq_false h1]; simp
    unfold RestQ
    rw [hR]
    have hcs : ¬ fs.length ≤ 32 ∨ (fs.length ≤ 32 ∧ ¬ body.length ≤ 4000) := by omega
    clear hbig hR hE hv hl
    rcases hcs with h1 | ⟨h1, h2⟩
    · have h3 : (32 : Int) < (fs.length : Int) := by omega
      go_enter Tryz.func49, Tryz.ntmps49
      go_wp2
      refine bodyPost_ret (v := .tuple #[S [], .bool false]) (by simp [results, Tryz.results49, go_sem]) rfl ?_
      exact ⟨rfl, Kept.refl _ _⟩
    · have h3 : ¬ (32 : Int) < (fs.length : Int) := by omega
      have h4 : (4000 : Int) < (body.length : Int) := by omega
      go_enter Tryz.func49, Tryz.ntmps49
      go_wp2
      refine bodyPost_ret (v := .tuple #[S [], .bool false]) (by simp [results, Tryz.results49, go_sem]) rfl ?_
      exact ⟨rfl, Kept.refl _ _⟩
  obtain ⟨hb1, hb2⟩ := hbig
  have h3 : ¬ (32 : Int) < (fs.length : Int) := by omega
  have h4 : ¬ (4000 : Int) < (body.length : Int) := by omega
  have HRO : Hid (restOk fs body = fs.all isHeaderP) := Lib.hid (by unfold restOk; rw [decide_eq_true hb1, decide_eq_true hb2]; simp)
  obtain ⟨W1, hW1⟩ : ∃ W1, w.alloc (.cells #[.pointer none, .slice none 0 0] 118) = W1 := ⟨_, rfl⟩
  have hbd : Bd w.heap.size [] W1 := by rw [← hW1]; exact Lib.fresh_isBuilder _ _ _
  have hk1 : Kept (fun _ => True) w W1 := by rw [← hW1]; exact (Kept.refl _ w).alloc _
  have HBD := Lib.hid hbd
  have HK1 := Lib.hid hk1
  have HE := Lib.hid hE
  have HV := Lib.hid hv
  have HL := Lib.hid hl
  clear hbd hk1 hE hv hl
  go_enter Tryz.func49, Tryz.ntmps49
  go_wp2_with fail
  go_loopg [8, 19] fs.length (fun q _ n wr => ∃ i : Nat, n = .int .i64 i ∧ q = fs.length - i ∧ i ≤ fs.length ∧ Hid (Bd w.heap.size (((fs.take i).map headP).flatten) wr) ∧ Hid ((fs.take i).all isHeaderP = true) ∧ Hid (KB w.heap.size W1 wr))
  case atStart => exact ⟨0, rfl, rfl, Nat.zero_le _, HBD, Lib.hid (by simp), Lib.hid (KB.refl _ _)⟩
  case round =>
    clear HBD
    obtain ⟨i, rfl, rfl, hi, HBD, HA, HKB⟩ := hrel
    have hkw : Kept (fun _ => True) w wr := HK1.out.trans (KB.to HKB.out) fun i hi _ => hi
    by_cases hlt : i < fs.length
    · obtain ⟨b, off, rfl, hbw, -, f, hf, c0, c1⟩ := HV.out.at hlt
      replace c0 := (hkw.cell hbw trivial).trans c0
      replace c1 := (hkw.cell hbw trivial).trans c1
      obtain ⟨W2, hW2⟩ : ∃ W2, wr.alloc (.cells #[S f.1, S f.2] 61) = W2 := ⟨_, rfl⟩
      have hk2 : Kept (fun _ => True) wr W2 := by rw [← hW2]; exact (Kept.refl _ wr).alloc _
      have hbox : FAt wr.heap.size f W2 := by rw [← hW2]; exact heap_alloc_new wr _
      obtain ⟨hlf1, hlf2⟩ := HL.out f (List.mem_of_getElem? hf)
      have IH := Lib.hid (isHeader_any f W2 hlf1 hlf2)
      have HT := Lib.hid (all_takeF isHeaderP hf HA.out)
      have HH := Lib.hid (heads_take hf)
      have HF : Hid (isHeaderP f = false → fs.all isHeaderP = false) := Lib.hid (fun h => by
        rw [List.all_eq_false]
        exact ⟨f, List.mem_of_getElem? hf, by rw [h]; simp⟩)
      have hfz : (headP f).length = f.1.length + f.2.length + 4 := by simp only [headP, List.length_append, List.length_cons, List.length_nil]; omega
      have hhl := heads_len HA.out
      rw [List.length_take] at hhl
      obtain ⟨L, hL⟩ : ∃ L, ((fs.take i).map headP).flatten = L := ⟨_, rfl⟩
      rw [hL] at HBD HH hhl
      obtain ⟨q, hq⟩ : ∃ q, isHeaderP f = q := ⟨_, rfl⟩
      rw [hq] at IH HF HT
      have HBX := Lib.hid hbox
      have HK2 := Lib.hid hk2
      have HW2 := Lib.hid hW2
      have HQ := Lib.hid hq
      obtain ⟨b0, b1⟩ := hbox.facts
      clear hf hL hq hk2 hbox
      go_wp2_with fail
      refine IH.out.mono ?_
      rintro e w3 ⟨rfl, hk3⟩
      have hk23 := HK2.out.tr hk3
      have HB3 : Hid (Bd w.heap.size L w3) := Lib.hid (HBD.out.kept hk23.size fun k hk _ _ => hk23.block k hk trivial)
      have HKB3 : Hid (KB w.heap.size W1 w3) := Lib.hid (HKB.out.trans (hk23.mono fun _ _ _ => trivial))
      cases q with
      | false =>
        have HRF : Hid (restOk fs body = false) := Lib.hid (by rw [HRO.out]; exact HF.out rfl)
        have HKF := Lib.hid (hkw.tr hk23)
        clear hW2 c0 c1 b0 b1 hkw hk3 hk23
        go_wp2
        refine bodyPost_ret (v := .tuple #[S [], .bool false]) (by simp [results, Tryz.results49, go_sem]) rfl ?_
        unfold RestQ
        rw [HRF.out]
        exact ⟨rfl, HKF.out⟩
      | true =>
        obtain ⟨o0, o1⟩ := (HBX.out.kept hk3 trivial).facts
        obtain ⟨t1, ht1⟩ : ∃ t, f.1 ++ [58, 32] = t := ⟨_, rfl⟩
        obtain ⟨t2, ht2⟩ : ∃ t, t1 ++ f.2 = t := ⟨_, rfl⟩
        have hh := headP_len HQ.out
        have hl1 : t1.length = f.1.length + 2 := by rw [← ht1, List.length_append]; rfl
        have hl2 : t2.length = f.1.length + 2 + f.2.length := by rw [← ht2, List.length_append, hl1]
        obtain ⟨t3, ht3⟩ : ∃ t, headP f = t := ⟨_, rfl⟩
        have h3e : t2 ++ [13, 10] = t3 := by rw [← ht3, ← ht2, ← ht1]; unfold headP; simp
        have hl3 : t3.length ≤ 1002 := by rw [← ht3]; exact hh
        have CT1 := run_cat (P := Tryz.prog) f.1 [58, 32] t1 ht1 (by simp only [List.length_cons, List.length_nil]; omega)
        have CT2 := run_cat (P := Tryz.prog) t1 f.2 t2 ht2 (by rw [hl1]; omega)
        have CT3 := run_cat (P := Tryz.prog) t2 [13, 10] t3 h3e (by rw [hl2]; simp only [List.length_cons, List.length_nil]; omega)
        have WS := Lib.hid (WriteString_any w.heap.size t3 L w3 HB3.out (by omega))
        rw [ht3] at HH
        clear ht1 ht2 ht3 h3e hl1 hl2 hW2 c0 c1 b0 b1 hk3 hk23 hfz hkw hh
        go_wp2_with fail
        refine WS.out.mono ?_
        rintro e w4 ⟨⟨v4, rfl⟩, hb4, hk4⟩
        have HB4 : Hid (Bd w.heap.size (((fs.take (i + 1)).map headP).flatten) w4) := Lib.hid (by rw [HH.out]; exact hb4)
        have HKB4 := Lib.hid (HKB3.out.trans hk4)
        clear hb4 hk4 o0 o1 CT1 CT2 CT3
        go_wp2
        go_roundg (fs.length - (i + 1))
        case rel => exact ⟨i + 1, by go_num, rfl, by omega, HB4, HT, HKB4⟩
        case measure => omega
    · obtain rfl : i = fs.length := by omega
      have hall : fs.all isHeaderP = true := by have := HA.out; rwa [List.take_length] at this
      have HRT : Hid (restOk fs body = true) := Lib.hid (by rw [HRO.out]; exact hall)
      rw [List.take_length] at HBD
      have hhl := heads_len hall
      obtain ⟨L, hL⟩ : ∃ L, (fs.map headP).flatten = L := ⟨_, rfl⟩
      rw [hL] at HBD hhl
      have HE2 := Lib.hid ((HE.out.kept hkw fun _ _ => trivial))
      have HKW := Lib.hid hkw
      obtain ⟨D, hD⟩ : ∃ D, Lib.itoa (body.length : Int) = D := ⟨_, rfl⟩
      have hDl : D.length ≤ 20 := by rw [← hD]; exact itoa_len _ (by omega) (by omega)
      have IT := Lib.hid (Tryz.strconv_Itoa (body.length : Int) (by omega) (by omega) wr HE2.out.pow)
      rw [hD] at IT
      obtain ⟨a1, ha1⟩ : ∃ t, toldN ++ D = t := ⟨_, rfl⟩
      obtain ⟨a2, ha2⟩ : ∃ t, a1 ++ [13, 10] = t := ⟨_, rfl⟩
      obtain ⟨a3, ha3⟩ : ∃ t, a2 ++ [13, 10] = t := ⟨_, rfl⟩
      obtain ⟨a4, ha4⟩ : ∃ t, a3 ++ body = t := ⟨_, rfl⟩
      have l1 : a1.length = D.length + 16 := by rw [← ha1, List.length_append]; simp only [toldN, List.length_cons, List.length_nil]; omega
      have l2 : a2.length = D.length + 18 := by rw [← ha2, List.length_append, l1]; rfl
      have l3 : a3.length = D.length + 20 := by rw [← ha3, List.length_append, l2]; rfl
      have l4 : a4.length = D.length + 20 + body.length := by rw [← ha4, List.length_append, l3]
      have HRP : Hid (restP fs body = L ++ a4) := Lib.hid (by unfold restP; rw [hL, hD, ← ha4, ← ha3, ← ha2, ← ha1]; simp)
      have ha1' : [67, 111, 110, 116, 101, 110, 116, 45, 76, 101, 110, 103, 116, 104, 58, 32] ++ D = a1 := ha1
      have CT1 := run_cat (P := Tryz.prog) [67, 111, 110, 116, 101, 110, 116, 45, 76, 101, 110, 103, 116, 104, 58, 32] D a1 ha1' (by simp only [List.length_cons, List.length_nil]; omega)
      have CT2 := run_cat (P := Tryz.prog) a1 [13, 10] a2 ha2 (by rw [l1]; simp only [List.length_cons, List.length_nil]; omega)
      have CT3 := run_cat (P := Tryz.prog) a2 [13, 10] a3 ha3 (by rw [l2]; simp only [List.length_cons, List.length_nil]; omega)
      have CT4 := run_cat (P := Tryz.prog) a3 body a4 ha4 (by rw [l3]; omega)
      have l5 : L.length + a4.length ≤ 1099511627776 := by rw [l4]; omega
      clear ha1 ha1' ha2 ha3 ha4 l1 l2 l3 l4 hL hD hkw hall
      go_wp2_with fail
      refine IT.out.mono ?_
      rintro e w2 ⟨rfl, k, os, hw2⟩
      have hk2 : Kept (fun _ => True) wr w2 := by rw [hw2]; exact Kept.growN _ _ _
      have HB2 : Hid (Bd w.heap.size L w2) := Lib.hid (HBD.out.kept hk2.size fun k hk _ _ => hk2.block k hk trivial)
      have WS := Lib.hid (WriteString_any w.heap.size a4 L w2 HB2.out l5)
      have HK2 := Lib.hid hk2
      clear hw2 hk2
      go_wp2_with fail
      refine WS.out.mono ?_
      rintro e w3 ⟨⟨v4, rfl⟩, hb3, hk3⟩
      have HK3 := Lib.hid (KB.to hk3)
      have ST := Lib.hid (Tryz.Builder_String_any w.heap.size w.heap.size (L ++ a4) w3 hb3 (by have := HKW.out.size; have := HK2.out.size; have := hk3.size; omega))
      clear hb3 hk3
      go_wp2_with fail
      refine ST.out.mono ?_
      rintro e w4 ⟨rfl, hb4⟩
      have HKZ : Hid (Kept (fun _ => True) w w4) := Lib.hid (((HKW.out.tr HK2.out).trans HK3.out fun i hi _ => by omega).trans (ok2 := (· < w.heap.size)) ⟨hb4.os, hb4.tape, hb4.output, hb4.size, fun k _ ho => hb4.block k ho⟩ fun i hi _ => hi)
      go_wp2
      refine bodyPost_ret (v := .tuple #[S (L ++ a4), .bool true]) (by simp [results, Tryz.results49, go_sem]) rfl ?_
      unfold RestQ
      rw [HRT.out, if_pos rfl, HRP.out]
      exact ⟨rfl, HKZ.out⟩
end Go.Proofs.YtaomhkgdbobpkaaGreatDoor
