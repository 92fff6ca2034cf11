/- Walk of the reference's Print (layer 4): it computes printP. -/
import Derived.Test.YtmajpambfblhnaaGreatDoorJoU5
namespace Go.Proofs.YtmajpambfblhnaaGreatDoor
open Go.RowKit Jo

theorem flatten_le (ts : List (List UInt8)) (j : Nat) : (ts.take j).flatten.length ≤ ts.flatten.length := by
  conv => rhs; rw [← List.take_append_drop j ts]
  rw [List.flatten_append, List.length_append]
  omega
set_option maxHeartbeats 16000000 in
set_option maxRecDepth 100000 in
theorem refPrint_any (x : J) (v : Value) (w : World) (hx : JIn (fun _ => True) w x v) (hf : Few 1000000 x) (hs : Short9 x) (hd : depthP x ≤ 1000000000) (hl : mayP x = true → (layP x).length ≤ 274877906944) :
    Calls Tryz.prog 11 #[v] w fun e w' => e = .returned (.tuple #[S (printP x).1, .int .i64 (printP x).2]) ∧ Kept (fun _ => True) w w' := by
  obtain ⟨na, nc, ia, ic, us, rfl, -⟩ := hx.inv
  obtain ⟨R, hR⟩ : ∃ R, printP x = R := ⟨_, rfl⟩
  have HR : Hid (R = if mayP x = false then ([], 43) else if 16 < depthP x then ([], 41) else if 4000 < (layP x).length then ([], 44) else (layP x, 0)) := Lib.hid (by rw [← hR]; rfl)
  rw [hR]
  clear hR
  obtain ⟨k, n, t, ns, xs⟩ := x
  simp only [J.kind, J.num, J.text, J.names, J.items] at *
  obtain ⟨X, hX⟩ : ∃ X, J.mk k n t ns xs = X := ⟨_, rfl⟩
  obtain ⟨W0, hW0⟩ : ∃ W0, w.alloc (.cells #[.int .i64 k, .int .i64 n, S t, .slice na ns.length nc, .slice ia xs.length ic] 25) = W0 := ⟨_, rfl⟩
  have hk0 : Kept (fun _ => True) w W0 := by rw [← hW0]; exact (Kept.refl _ w).alloc _
  have hbox : OutAt w.heap.size k n t (.slice na ns.length nc) (.slice ia xs.length ic) W0 := by rw [← hW0]; exact OutAt.new w k n t _ _
  rw [hX] at hx HR hd hl hf hs
  have HX0 := hx.kept hk0 fun _ _ _ => trivial
  have MC := Lib.hid (may_any X hf hs _ W0 HX0)
  have DC := Lib.hid (fun w' (hkk : Kept (fun _ => True) W0 w') => refDepth_any X _ w' hd (HX0.kept hkk fun _ _ _ => trivial))
  have HXX := Lib.hid HX0
  obtain ⟨o0, o1, o2, o3, o4, o5, o6⟩ := hbox.facts
  have HBOX := Lib.hid hbox
  have HW0 := Lib.hid hW0
  have HL := Lib.hid hl
  have HK0 := Lib.hid hk0
  obtain ⟨d, hdd⟩ : ∃ d, depthP X = d := ⟨_, rfl⟩
  rw [hdd] at HR DC hd
  clear hx hf hs hl hW0 hbox hX HX0 hdd hk0
  go_enter Tryz.func11, Tryz.ntmps11
  go_wp2_with fail
  rw [HW0.out]
  refine MC.out.mono ?_
  rintro e w1 ⟨rfl, hk1⟩
  clear o0 o1 o2 o3 o4 o5 o6
  obtain ⟨o0, o1, o2, o3, o4, o5, o6⟩ := (HBOX.out.kept hk1 trivial).facts
  have hk01 := HK0.out.tr hk1
  cases hm : mayP X with
  | false =>
    have HN : Hid (R = ([], 43)) := Lib.hid (by rw [HR.out, hm]; rfl)
    clear hm HR
    go_wp2
    refine bodyPost_ret (v := .tuple #[S [], .int .i64 43]) (by simp [results, Tryz.results11, go_sem]) rfl ?_
    rw [HN.out]
    exact ⟨rfl, hk01⟩
  | true =>
    have HR2 : Hid (R = if 16 < d then ([], 41) else if 4000 < (layP X).length then ([], 44) else (layP X, 0)) := Lib.hid (by rw [HR.out, hm]; rfl)
    have TC := Lib.hid (fun w' (hkk : Kept (fun _ => True) W0 w') => tokens_any (may_of X hm) _ w' (HXX.out.kept hkk fun _ _ _ => trivial) (HL.out hm))
    have hll := HL.out hm
    obtain ⟨L, hL⟩ : ∃ L, layP X = L := ⟨_, rfl⟩
    rw [hL] at HR2 TC hll
    clear hm hL HR HL
    by_cases h16 : 16 < d
    · have HN : Hid (R = ([], 41)) := Lib.hid (by rw [HR2.out, if_pos h16])
      clear HR2
      go_wp2_with (refine (DC.out _ hk1).mono ?_; rintro e w2 ⟨rfl, hk2⟩)
      refine bodyPost_ret (v := .tuple #[S [], .int .i64 41]) (by simp [results, Tryz.results11, go_sem]) rfl ?_
      rw [HN.out]
      exact ⟨rfl, hk01.tr hk2⟩
    · have HR3 : Hid (R = if 4000 < L.length then ([], 44) else (L, 0)) := Lib.hid (by rw [HR2.out, if_neg h16])
      clear HR2
      go_wp2_with fail
      refine (DC.out _ hk1).mono ?_
      rintro e w2 ⟨rfl, hk2⟩
      clear o0 o1 o2 o3 o4 o5 o6
      obtain ⟨o0, o1, o2, o3, o4, o5, o6⟩ := (HBOX.out.kept (hk1.tr hk2) trivial).facts
      go_wp2_with fail
      refine (TC.out _ (hk1.tr hk2)).mono ?_
      rintro e w3 ⟨⟨u, ts, rfl, hu, hfl, hne⟩, hk3⟩
      have hk03 := (hk01.tr hk2).tr hk3
      obtain ⟨ua, ul, uc, rfl⟩ := ownsRow_slice hu
      have hlenu : ul = ts.length := by
        rcases hu.2 with ⟨e, h0⟩ | ⟨g, cap, cur, e, _⟩
        · cases e; exact h0.symm
        · cases e; rfl
      subst hlenu
      have htl := flat_len ts hne
      rw [hfl] at htl
      have HU := Lib.hid hu
      have HFL := Lib.hid (And.intro hfl hne)
      clear hu hfl hne o0 o1 o2 o3 o4 o5 o6
      go_wp2
      go_loopg [6, 7] ts.length (fun q v i wr => ∃ j : Nat, i = .int .i64 j ∧ q = ts.length - j ∧ j ≤ ts.length ∧ Hid (OwnB 5 w3.heap.size v (ts.take j).flatten wr) ∧ Hid (Below w3.heap.size w3 wr))
      case atStart => exact ⟨0, rfl, by omega, Nat.zero_le _, Lib.hid (OwnB.nil _ _ _), Lib.hid (Below.refl _ _)⟩
      case round =>
        obtain ⟨j, rfl, rfl, hj, ho, hb⟩ := hrel
        obtain ⟨va, vl, vc, rfl⟩ := ownsRow_slice2 ho.out
        have hwb : w3.heap.size ≤ wr.heap.size := hb.out.size
        have hk3r : Kept (fun _ => True) w3 wr := ⟨hb.out.os, hb.out.tape, hb.out.output, hb.out.size, fun i hi _ => hb.out.block i hi⟩
        by_cases hlt : j < ts.length
        · rcases ownsRow_view HU.out with ⟨_, h0⟩ | ⟨g, cap, e, _, _, hg, hc⟩
          · omega
          obtain ⟨rfl, rfl⟩ : ua = some ⟨g, 0, none⟩ ∧ uc = cap := by simpa using e
          obtain ⟨t1, ht1⟩ : ∃ y, ts[j]? = some y := ⟨ts[j]'hlt, List.getElem?_eq_getElem hlt⟩
          have hcj : wr.cell? ⟨g, j, none⟩ = some (S t1) := (hk3r.cell hg trivial).trans (hc j _ (by rw [List.getElem?_map, ht1]; rfl))
          have HN : Hid ((ts.take (j + 1)).flatten = (ts.take j).flatten ++ t1) := Lib.hid (by rw [List.take_add_one, ht1]; simp)
          have hbd : (ts.take j).flatten.length + t1.length ≤ 274877906944 := by
            have h1 := flatten_le ts (j + 1)
            rw [HN.out, HFL.out.1, List.length_append] at h1
            omega
          obtain ⟨l0, hl0⟩ : ∃ y, (ts.take j).flatten = y := ⟨_, rfl⟩
          rw [hl0] at ho HN hbd
          clear e hc ht1 hl0
          go_wp2_with (at_builtin; refine wpList_pushS 55 9 5 Tryz.underlying55 Tryz.underlying9 infoByte rfl _ _ rfl w3.heap.size l0 _ t1 rfl rfl ho.out (by omega) hwb ?_)
          intro v' w5 k1 k2
          have HO2 := Lib.hid k1
          have HB2 := Lib.hid (hb.out.trans k2)
          clear k1 k2
          go_wp2
          go_roundg (ts.length - (j + 1))
          case rel => exact ⟨j + 1, by go_num, rfl, by omega, Lib.hid (by rw [HN.out]; exact HO2.out), HB2⟩
          case measure => omega
        · obtain rfl : ts.length = j := by omega
          have HO := Lib.hid (show OwnB 5 w3.heap.size (.slice va vl vc) L wr by have := ho.out; rwa [List.take_of_length_le (Nat.le_refl _), HFL.out.1] at this)
          have hvl : vl = L.length := by
            rcases HO.out.2 with ⟨e, h0⟩ | ⟨g, cap, cur, e, _⟩
            · cases e; exact h0.symm
            · cases e; rfl
          subst hvl
          have hcv := HO.out.string Tryz.underlying55 byteTypes Tryz.underlying9
          clear ho
          by_cases h4 : 4000 < L.length
          · have HN : Hid (R = ([], 44)) := Lib.hid (by rw [HR3.out, if_pos h4])
            clear HR3
            go_wp2
            refine bodyPost_ret (v := .tuple #[S [], .int .i64 44]) (by simp [results, Tryz.results11, go_sem]) rfl ?_
            rw [HN.out]
            exact ⟨rfl, hk03.tr hk3r⟩
          · have HN : Hid (R = (L, 0)) := Lib.hid (by rw [HR3.out, if_neg h4])
            clear HR3
            go_wp2
            refine bodyPost_ret (v := .tuple #[S L, .int .i64 0]) (by simp [results, Tryz.results11, go_sem]) rfl ?_
            rw [HN.out]
            exact ⟨rfl, hk03.tr hk3r⟩
end Go.Proofs.YtmajpambfblhnaaGreatDoor
