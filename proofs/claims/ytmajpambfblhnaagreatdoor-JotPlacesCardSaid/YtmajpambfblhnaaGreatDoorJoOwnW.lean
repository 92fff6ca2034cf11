/- Walk of jot's own (layer 4): a value that shares nothing. -/
import Derived.Test.YtmajpambfblhnaaGreatDoorJoOA
import Derived.Test.YtmajpambfblhnaaGreatDoorJoJA
import Derived.Test.YtmajpambfblhnaaGreatDoorJKit
namespace Go.Proofs.YtmajpambfblhnaaGreatDoor
open Go.RowKit Jo

/-- At most m names and items in each list. -/
inductive Few (m : Nat) : J → Prop where
  | mk (k n : Int) (t : List UInt8) (ns : List (List UInt8)) (xs : List J) (h1 : ns.length ≤ m) (h2 : xs.length ≤ m) (h : ∀ (j : Nat) x, xs[j]? = some x → Few m x) : Few m (.mk k n t ns xs)
theorem Few.inv {m : Nat} {x : J} (h : Few m x) : x.names.length ≤ m ∧ x.items.length ≤ m ∧ ∀ (j : Nat) y, x.items[j]? = some y → Few m y := by
  cases h with | mk k n t ns xs h1 h2 h => exact ⟨h1, h2, h⟩
theorem RowS.rd {ok : Nat → Prop} {w : World} {v : Value} {ns : List (List UInt8)} (h : RowS ok w v ns) : Rd w v ns.length (ns.map S) := by
  rcases h with ⟨a, c, rfl, rfl⟩ | ⟨b, off, cap, rfl, h1, h2, h3, h4⟩
  · exact .inl ⟨a, c, rfl, rfl, rfl⟩
  · by_cases h0 : ns.length = 0
    · exact .inl ⟨_, _, by rw [h0], h0, by rw [List.eq_nil_of_length_eq_zero h0]; rfl⟩
    · refine .inr ⟨b, off, cap, rfl, by omega, fun j u hj => ?_⟩
      rw [List.getElem?_map] at hj
      obtain ⟨l, hl, rfl⟩ := Option.map_eq_some_iff.1 hj
      exact h4 j l hl
theorem ones_S (ns : List (List UInt8)) : ∀ u ∈ ns.map S, u.oneCell' = true := by
  intro u hu
  obtain ⟨l, _, rfl⟩ := List.mem_map.1 hu
  rfl
theorem RowS.drewK {ok : Nat → Prop} {w w' : World} {v : Value} {ns : List (List UInt8)} (h : RowS ok w v ns) (hk : Kept (fun _ => True) w w') : RowS ok w' v ns := h.kept hk fun _ _ _ => trivial

set_option maxHeartbeats 8000000 in
set_option maxRecDepth 100000 in
theorem own_any : ∀ x : J, ∀ (va : Value) (ok : Nat → Prop) (w : World), JIn ok w x va → Few 1000000 x → Calls Tryz.prog 41 #[va] w (JotQ w x) := by
  refine J.ind fun k n t ns xs IH => ?_
  intro va ok w hx hf
  obtain ⟨na, nc, ia, ic, us, rfl, hr, hn, hi, h⟩ := hx.invM
  obtain ⟨hf1, hf2, hf3⟩ := hf.inv
  simp only [J.names, J.items] at hf1 hf2 hf3
  have HN := Lib.hid hn
  have HI := Lib.hid hi
  have HH := Lib.hid h
  have HIH := Lib.hid IH
  have HF3 := Lib.hid hf3
  clear hx hf hr hn hi h IH hf3
  go_enter Tryz.func41, Tryz.ntmps41
  obtain ⟨W0, hW0⟩ : ∃ W0, ((w.alloc (.cells #[.int .i64 k, .int .i64 n, S t, .slice na ns.length nc, .slice ia xs.length ic] 25)).alloc (.cells #[.int .i64 0, .int .i64 0, S [], .slice none 0 0, .slice none 0 0] 25)).alloc (.cells #[.int .i64 k, .int .i64 n, S t, .slice none 0 0, .slice none 0 0] 25) = W0 := ⟨_, rfl⟩
  have hk0 : Kept (fun _ => True) w W0 := by rw [← hW0]; exact (((Kept.refl _ w).alloc _).alloc _).alloc _
  have hz0 : W0.heap.size = w.heap.size + 3 := by rw [← hW0]; simp
  have hbox : OutAt w.heap.size k n t (.slice na ns.length nc) (.slice ia xs.length ic) W0 := by
    rw [← hW0]; exact ((OutAt.new w k n t _ _).kept (ok := fun _ => True) ((Kept.refl _ _).alloc _) trivial).kept (ok := fun _ => True) ((Kept.refl _ _).alloc _) trivial
  have hres : OutAt (w.heap.size + 1) 0 0 [] (.slice none 0 0) (.slice none 0 0) W0 := by
    rw [← hW0]
    have := (OutAt.new (w.alloc (.cells #[.int .i64 k, .int .i64 n, S t, .slice na ns.length nc, .slice ia xs.length ic] 25)) 0 0 [] (.slice none 0 0) (.slice none 0 0)).kept (ok := fun _ => True) ((Kept.refl _ _).alloc (.cells #[.int .i64 k, .int .i64 n, S t, .slice none 0 0, .slice none 0 0] 25)) trivial
    simpa using this
  have hout : OutAt (w.heap.size + 2) k n t (.slice none 0 0) (.slice none 0 0) W0 := by
    rw [← hW0]
    have := OutAt.new ((w.alloc (.cells #[.int .i64 k, .int .i64 n, S t, .slice na ns.length nc, .slice ia xs.length ic] 25)).alloc (.cells #[.int .i64 0, .int .i64 0, S [], .slice none 0 0, .slice none 0 0] 25)) k n t (.slice none 0 0) (.slice none 0 0)
    simpa using this
  have HW0 := Lib.hid hW0
  have hN0 := (HN.out.drewK hk0).rd
  clear hW0
  go_wp2_with (at_builtin; rw [HW0.out]; refine wpList_pushAll 22 9 Tryz.underlying22 infoStr rfl (by decide) rfl (.tmp 14) (.tmp 16) rfl (w.heap.size + 3) (.slice none 0 0) 0 [] _ ns.length (ns.map S) (by simp) (ones_S ns) rfl rfl hN0 (World.ownsRow_nil _ _ _ _) (by omega) (by decide) (by omega) ?_)
  intro nv w1 k1 k2 k3
  obtain ⟨nb, nl, nvc, rfl⟩ := ownsRow_slice k1
  have HOUT1 := Lib.hid (hout.below k2 (by omega))
  have HRES1 := Lib.hid (hres.below k2 (by omega))
  have HBOX1 := Lib.hid (hbox.below k2 (by omega))
  have hk01 : Kept (fun _ => True) w w1 := hk0.trans (ok2 := fun i => i < w.heap.size + 3) ⟨k2.os, k2.tape, k2.output, k2.size, fun i _ h => k2.block i h⟩ (fun i hi _ => by omega)
  have hks : Kept (· ≠ w.heap.size + 2) w1 (w1.setCell ⟨w.heap.size + 2, 3, none⟩ (.slice nb nl nvc)) := (Kept.refl _ w1).setCell (.inr (by simp)) _
  have hz1 : w.heap.size + 3 ≤ w1.heap.size := by have := k2.size; omega
  obtain ⟨o0, o1, o2, o3, o4, o5, o6⟩ := HOUT1.out.facts
  obtain ⟨W2, hW2⟩ : ∃ W2, w1.setCell ⟨w.heap.size + 2, 3, none⟩ (.slice nb nl nvc) = W2 := ⟨_, rfl⟩
  have HOUT2 := Lib.hid (HOUT1.out.setNames (.slice nb nl nvc))
  have HRES2 := Lib.hid (HRES1.out.kept hks (by omega))
  have HBOX2 := Lib.hid (HBOX1.out.kept hks (by omega))
  have hz2 : w1.heap.size = W2.heap.size := by rw [← hW2]; simp [World.setCell]
  have hk2 : Kept (fun _ => True) w W2 := by
    rw [← hW2]
    exact hk01.trans hks fun i hi _ => by omega
  have HNV : Hid (W2.ownsRow (w.heap.size + 3) 9 1 (.slice nb nl nvc) ns.length (ns.map S)) := Lib.hid (by
    have := ownsRow_kept k1 hks (fun b hb => by have := (k1.lt b hb).1; omega)
    rw [hW2] at this
    simpa using this)
  rw [hW2] at HOUT2 HRES2 HBOX2
  have HW2 := Lib.hid hW2
  obtain ⟨b0, b1, b2, b3, b4, b5, b6⟩ := HBOX1.out.facts
  have HW2' : Hid (w1.setCell ⟨w.heap.size + 1 + 1, 3, none⟩ (.slice nb nl nvc) = W2) := Lib.hid hW2
  clear HOUT1 HRES1 HBOX1 hout hres hbox k1 k2 k3 hks hW2 hk01 hN0 HW0
  go_wp2_with fail
  go_loopg [22] xs.length (fun q i wr => ∃ (j : Nat) (iv : Value), i = .int .i64 j ∧ q = xs.length - j ∧ j ≤ xs.length ∧ OutAt (w.heap.size + 2) k n t (.slice nb nl nvc) iv wr ∧ OutAt (w.heap.size + 1) 0 0 [] (.slice none 0 0) (.slice none 0 0) wr ∧
    OwnJ (w.heap.size + 3) (Value.slice nb nl nvc).ownBlock iv (xs.take j) wr ∧ wr.ownsRow (w.heap.size + 3) 9 1 (.slice nb nl nvc) ns.length (ns.map S) ∧ Hid (∀ b, (Value.slice nb nl nvc).ownBlock = some b → some b ≠ iv.ownBlock) ∧ w.heap.size + 3 ≤ wr.heap.size ∧ Kept (fun _ => True) w wr)
  case atStart =>
    rw [HW2'.out]
    exact ⟨0, _, rfl, by omega, Nat.zero_le _, HOUT2.out, HRES2.out, OwnJ.nil _ _ _, HNV.out, Lib.hid (fun b hb => by simp [Value.ownBlock]), by omega, hk2⟩
  case round =>
    clear b0 b1 b2 b3 b4 b5 b6 o0 o1 o2 o3 o4 o5 o6 HW2' HOUT2 HRES2 HBOX2 HNV hk2 hz2 hz1 HW2
    obtain ⟨j, iv, rfl, rfl, hjl, hout, hres, ho, hnv, hne, hz, hk⟩ := hrel
    have HOUT := Lib.hid hout
    have HRES := Lib.hid hres
    have HO := Lib.hid ho
    have HNV := Lib.hid hnv
    clear hout hres ho hnv
    by_cases hlt : j < xs.length
    · obtain ⟨b, off, rfl, hb, -, -, kx, nx, tx, nax, nlx, ncx, iax, ilx, icx, e1, c0, c1, c2, c3, c4⟩ := HI.out.at hlt
      replace c0 := (hk.cell hb trivial).trans c0
      replace c1 := (hk.cell hb trivial).trans c1
      replace c2 := (hk.cell hb trivial).trans c2
      replace c3 := (hk.cell hb trivial).trans c3
      replace c4 := (hk.cell hb trivial).trans c4
      obtain ⟨x, hx⟩ : ∃ x, xs[j]? = some x := ⟨xs[j]'hlt, List.getElem?_eq_getElem hlt⟩
      have hC := fun wx (hkx : Kept (fun _ => True) w wx) => HIH.out x (List.mem_of_getElem? hx) (us j) ok wx ((HH.out j x hx).kept hkx (fun _ _ _ => trivial)) (HF3.out j x hx)
      rw [e1] at hC
      have HC := Lib.hid hC
      have HX := Lib.hid hx
      -- the copy of the item in a block of its own
      have hka : Kept (fun _ => True) wr (wr.alloc (.cells #[.int .i64 kx, .int .i64 nx, S tx, .slice nax nlx ncx, .slice iax ilx icx] 25)) := (Kept.refl _ wr).alloc _
      have hit : OutAt wr.heap.size kx nx tx (.slice nax nlx ncx) (.slice iax ilx icx) (wr.alloc (.cells #[.int .i64 kx, .int .i64 nx, S tx, .slice nax nlx ncx, .slice iax ilx icx] 25)) := OutAt.new _ _ _ _ _ _
      obtain ⟨W4, hW4⟩ : ∃ W4, wr.alloc (.cells #[.int .i64 kx, .int .i64 nx, S tx, .slice nax nlx ncx, .slice iax ilx icx] 25) = W4 := ⟨_, rfl⟩
      have hz4 : W4.heap.size = wr.heap.size + 1 := by rw [← hW4]; simp
      rw [hW4] at hit hka
      have hk4 : Kept (fun _ => True) w W4 := hk.tr hka
      have HOUT4 := Lib.hid (HOUT.out.kept hka trivial)
      have HRES4 := Lib.hid (HRES.out.kept hka trivial)
      have HO4 := Lib.hid (HO.out.kept hka (fun _ _ => trivial))
      have HNV4 := Lib.hid (ownsRow_kept HNV.out hka (fun _ _ => trivial))
      have HW4 := Lib.hid hW4
      clear e1 hx hC hka HO HNV HOUT HRES hW4
      go_wp2_with fail
      rw [HW4.out]
      clear c0 c1 c2 c3 c4
      obtain ⟨o0, o1, o2, o3, o4, o5, o6⟩ := HOUT4.out.facts
      obtain ⟨i0, i1, i2, i3, i4, i5, i6⟩ := hit.facts
      obtain ⟨us2, fss, q1, q2, q3, q4, q5, q6⟩ := HO4.out
      have HQ := Lib.hid (And.intro q1 (And.intro q2 (And.intro q3 (And.intro q4 (And.intro q5 (And.intro q6 (mem_flat_lt q2 q4)))))))
      have htl : (xs.take j).length = j := by rw [List.length_take]; omega
      have HTL := Lib.hid htl
      have hkd : Kept (fun _ => True) W4 W4.drew := (Kept.refl _ W4).drew
      have HIT := Lib.hid hit
      clear q1 q2 q3 q4 q5 q6 HO4 htl hit
      go_region_law (first
        | (refine step_call1 41 (.tmp 28) 25 rfl rfl (fun w => by kernel_rfl) rfl (HC.out _ (hk4.tr hkd)) ?_
           rintro e w5 ⟨⟨u, fp, rfl, hown, hnd, hfp⟩, hk5⟩
           obtain ⟨xa, xl, xc, ya, yl, yc, rfl⟩ := hown.form2
           have hz5 : W4.heap.size ≤ w5.heap.size := hk5.size
           have hz6 : w.heap.size + 2 < w5.heap.size := by omega
           have HOUT5 := Lib.hid (HOUT4.out.kept (hkd.tr hk5) trivial)
           have HRES5 := Lib.hid (HRES4.out.kept (hkd.tr hk5) trivial)
           obtain ⟨p0, p1, p2, p3, p4, p5, p6⟩ := HOUT5.out.facts
           have HN5 := Lib.hid (And.intro hown (And.intro hnd hfp))
           have HK5 := Lib.hid (hkd.tr hk5)
           clear hown hnd hfp hk5
           refine ⟨_, rfl, ?_⟩)
        | (refine step_pushOne 23 25 Tryz.underlying23 infoJot rfl (by decide) rfl (.tmp 27) (.tmp 30) rfl (w.heap.size + 3) iv (xs.take j).length (jotCells us2) (jotV x.kind x.num x.text (.slice xa xl xc) (.slice ya yl yc)).cells.toList w5 _ rfl rfl rfl HN5.out.1.ones 1 _ rfl rfl rfl (ownsRow_kept HQ.out.2.2.1 HK5.out (fun _ _ => trivial)) (by have := HTL.out; omega) (by decide) (by omega) ?_
           intro v' w8 k1 k2 k3
           obtain ⟨vb, vc, rfl⟩ := ownsRow_some k1
           have HOUT8 := Lib.hid (HOUT5.out.below k2 (by omega))
           have HRES8 := Lib.hid (HRES5.out.below k2 (by omega))
           obtain ⟨s0, s1, s2, s3, s4, s5, s6⟩ := HOUT8.out.facts
           have HK8 := Lib.hid (And.intro k1 (And.intro k2 k3))
           clear k1 k2 k3))
      all_goals
        have HX' := HX.out
        have hks8 : Kept (· ≠ w.heap.size + 2) w8 (w8.setCell ⟨w.heap.size + 2, 4, none⟩ (.slice (some ⟨vb, 0, none⟩) (j + 1) vc)) := (Kept.refl _ _).setCell (.inr (by simp)) _
        have hO : OwnJ (w.heap.size + 3) (Value.slice nb nl nvc).ownBlock (.slice (some ⟨vb, 0, none⟩) ((xs.take j).length + 1) vc) (xs.take j ++ [x]) w8 := by
          obtain ⟨q1, q2, q3, q4, q5, q6, q7⟩ := HQ.out
          obtain ⟨hown, hnd, hfp⟩ := HN5.out
          have hfp' : ∀ b ∈ fp, W4.heap.size ≤ b := fun b hb => by have := hfp b hb; simpa using this
          refine ownJ_push q1 q2 (jown_kept q2 q4 HK5.out.size fun b hb => HK5.out.block b (q7 b hb) trivial) q5 q6 hown hnd (fun b hb => ⟨?_, ?_, ?_, ?_⟩) HK8.out.1 HK8.out.2.2
          · have h := hfp' b hb; omega
          · intro e
            have h := hfp' b hb
            have := (q3.lt b e.symm).2
            omega
          · intro e
            have h := hfp' b hb
            have := (HNV4.out.lt b e.symm).2
            omega
          · intro hin
            have h := hfp' b hb
            have := q7 b hin
            omega
        have hrow : w8.ownsRow (w.heap.size + 3) 9 1 (.slice nb nl nvc) ns.length (ns.map S) := by
          refine ownsRow_keptL (ownsRow_kept HNV4.out HK5.out (fun _ _ => trivial)) HK8.out.2.1.size fun b hb => ?_
          refine HK8.out.2.2.kept.2 b ?_ fun e => hne.out b hb e
          exact Nat.lt_of_lt_of_le (HNV4.out.lt b hb).2 HK5.out.size
        have hne8 : ∀ b, (Value.slice nb nl nvc).ownBlock = some b → some b ≠ (Value.slice (some ⟨vb, 0, none⟩) (j + 1) vc).ownBlock := by
          intro b hb e
          have h2 := HK8.out.2.2
          rcases h2 with ⟨e2, _⟩ | ⟨e2, _⟩
          · exact hne.out b hb (by rw [← e2]; rw [HTL.out]; exact e)
          · have := e2 b (by rw [HTL.out]; exact e.symm)
            have := (HNV4.out.lt b hb).2
            have := HK5.out.size
            omega
        have hk8 : Kept (fun _ => True) w w8 := (hk4.tr HK5.out).trans (ok2 := fun k => k < w.heap.size + 3) ⟨HK8.out.2.1.os, HK8.out.2.1.tape, HK8.out.2.1.output, HK8.out.2.1.size, fun k _ h => HK8.out.2.1.block k h⟩ fun i hi _ => by omega
        have ht : xs.take j ++ [x] = xs.take (j + 1) := by rw [List.take_add_one, HX']; rfl
        rw [ht, HTL.out] at hO
        have HO8 := Lib.hid (hO.kept hks8 (fun b hb => by omega))
        have HR8 := Lib.hid (ownsRow_kept hrow hks8 (fun b hb => by have := (hrow.lt b hb).1; omega))
        have HNE8 := Lib.hid hne8
        have hz8 := HK8.out.2.1.size
        have HRES9 := Lib.hid (HRES8.out.kept hks8 (by omega))
        clear hO ht HX' hrow hne8 hks8
        go_wp2
        go_roundg (xs.length - (j + 1))
        case rel => exact ⟨j + 1, _, by go_num, rfl, by omega, HOUT8.out.setItems _, HRES9.out, HO8.out, HR8.out, HNE8, by simp [World.setCell]; omega, hk8.setCell (.inl (by simp; omega)) _⟩
        case measure => omega
    · obtain rfl : j = xs.length := by omega
      have HO2 := Lib.hid (show OwnJ (w.heap.size + 3) (Value.slice nb nl nvc).ownBlock iv xs wr by have := HO.out; rwa [List.take_of_length_le (Nat.le_refl _)] at this)
      obtain ⟨ja, jl, jc, rfl⟩ := HO2.out.slice
      obtain ⟨o0, o1, o2, o3, o4, o5, o6⟩ := HOUT.out.facts
      obtain ⟨g0, g1, g2, g3, g4, g5, g6⟩ := HRES.out.facts
      obtain ⟨f0, f1, f2, f3, f4⟩ := HRES.out.free
      clear HO
      go_wp2
      refine bodyPost_ret (v := jotV k n t (.slice nb nl nvc) (.slice ja jl jc)) (by simp [results, Tryz.results41, go_sem, g0, g1, g2, g3, g4]) rfl ?_
      exact JotQ.of (g := w.heap.size + 1) (HO2.out.value k n t (ns := ns) HNV.out hne.out) (by omega) (by omega) (by omega) hk (kept_box _ _ _ _ _ _ _)
end Go.Proofs.YtmajpambfblhnaaGreatDoor
