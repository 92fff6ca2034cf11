/- Walk of jot.Print (layer 4): it computes printP. -/
import Derived.Test.YtmajpambfblhnaaGreatDoorJoQ7
namespace Go.Proofs.YtmajpambfblhnaaGreatDoor
open Go.RowKit Jo Go.Shelf

set_option maxHeartbeats 8000000 in
set_option maxRecDepth 100000 in
theorem Print_any (x : J) (v : Value) (w : World) (hx : JIn (fun _ => True) w x v) (hE : JE w.heap.size w) (hf : Few 1000000 x) (hd : depthP x ≤ 1000000000) (hl : mayP x = true → (layP x).length ≤ 1099511627776) :
    Calls Tryz.prog 12 #[v] w fun e w' => e = .returned (.tuple #[S (printP x).1, .int .i64 (printP x).2]) ∧ Kept (fun _ => True) w w' := by
  obtain ⟨na, nc, ia, ic, us, rfl, hr, hn, hi, h⟩ := hx.inv
  obtain ⟨R, hR⟩ : ∃ R, printP x = R := ⟨_, rfl⟩
  have HR : Hid (R = if mayP x = false then ([], 43) else if 16 < depthP x then ([], 41) else if 4000 < (layP x).length then ([], 44) else (layP x, 0)) := Lib.hid (by rw [← hR]; rfl)
  rw [hR]
  clear hR
  obtain ⟨k, n, t, ns, xs⟩ := x
  simp only [J.kind, J.num, J.text, J.names, J.items] at *
  obtain ⟨X, hX⟩ : ∃ X, J.mk k n t ns xs = X := ⟨_, rfl⟩
  obtain ⟨W0, hW0⟩ : ∃ W0, w.alloc (.cells #[.int .i64 k, .int .i64 n, S t, .slice na ns.length nc, .slice ia xs.length ic] 25) = W0 := ⟨_, rfl⟩
  have hk0 : Kept (fun _ => True) w W0 := by rw [← hW0]; exact (Kept.refl _ w).alloc _
  have hz0 : W0.heap.size = w.heap.size + 1 := by rw [← hW0]; simp
  have hbox : OutAt w.heap.size k n t (.slice na ns.length nc) (.slice ia xs.length ic) W0 := by rw [← hW0]; exact OutAt.new w k n t _ _
  have HIN := Lib.hid (inside_any _ hf _ W0 (hx.kept hk0 fun _ _ _ => trivial) ((hE.kept hk0 fun _ _ => trivial).le (by omega)))
  rw [hX] at HIN HR hd hl
  obtain ⟨o0, o1, o2, o3, o4, o5, o6⟩ := hbox.facts
  have HE := Lib.hid hE
  have HW0 := Lib.hid hW0
  have HD := Lib.hid hd
  have HL := Lib.hid hl
  clear hx hr hn hi h hf hE hW0 hbox hX hd hl
  go_enter Tryz.func12, Tryz.ntmps12
  go_wp2_with fail
  rw [HW0.out]
  refine HIN.out.mono ?_
  rintro e w1 ⟨⟨u, rfl, hu⟩, hk1⟩
  have hk01 := hk0.tr hk1
  cases hm : mayP X with
  | false =>
    have HN : Hid (R = ([], 43)) := Lib.hid (by rw [HR.out, hm]; rfl)
    clear hm hu HR o0 o1 o2 o3 o4 o5 o6
    go_wp2
    refine bodyPost_ret (v := .tuple #[S [], .int .i64 43]) (by simp [results, Tryz.results12, go_sem]) rfl ?_
    rw [HN.out]
    exact ⟨rfl, hk01⟩
  | true =>
    have hu := hu hm
    have HU := Lib.hid hu
    have HDC := Lib.hid (depth_any X _ w1 u HD.out hu)
    have HM := Lib.hid hm
    have HR2 : Hid (R = if 16 < depthP X then ([], 41) else if 4000 < (layP X).length then ([], 44) else (layP X, 0)) := Lib.hid (by rw [HR.out, hm]; rfl)
    have HL2 := Lib.hid (HL.out hm)
    obtain ⟨d, hdd⟩ : ∃ d, depthP X = d := ⟨_, rfl⟩
    have HDX := Lib.hid hdd
    rw [hdd] at HDC HR2 HD
    have hd9 := HD.out
    clear hm hu hdd HR HL HIN o0 o1 o2 o3 o4 o5 o6
    by_cases h16 : 16 < d
    · have HN : Hid (R = ([], 41)) := Lib.hid (by rw [HR2.out, if_pos h16])
      clear HR2
      go_wp2_with (refine HDC.out.mono ?_; rintro e w2 ⟨rfl, hk2⟩)
      refine bodyPost_ret (v := .tuple #[S [], .int .i64 41]) (by simp [results, Tryz.results12, go_sem]) rfl ?_
      rw [HN.out]
      exact ⟨rfl, hk01.tr hk2⟩
    · have HR3 : Hid (R = if 4000 < (layP X).length then ([], 44) else (layP X, 0)) := Lib.hid (by rw [HR2.out, if_neg h16])
      clear HR2
      go_wp2_with (first
        | (go_at_call 31; refine HDC.out.mono ?_; rintro e w2 ⟨rfl, hk2⟩)
        | fail)
      have hk02 := hk01.tr hk2
      obtain ⟨W3, hW3⟩ : ∃ W3, w2.alloc (.cells #[.pointer none, .slice none 0 0] 63) = W3 := ⟨_, rfl⟩
      have hb : Bd w2.heap.size [] W3 := by rw [← hW3]; exact Lib.fresh_isBuilder _ _ _
      have hk3 : Kept (fun _ => True) w2 W3 := by rw [← hW3]; exact (Kept.refl _ w2).alloc _
      have hE3 : JE w2.heap.size W3 := (HE.out.kept (hk02.tr hk3) fun _ _ => trivial).le hk02.size
      have hV3 : VIn (· < w2.heap.size) W3 X u := ((HU.out.kept hk2 fun _ _ _ => trivial).mono (ok2 := (· < w2.heap.size)) fun b hb _ => hb).kept hk3 fun _ _ _ => trivial
      have HLY := Lib.hid (lays_any w2.heap.size (may_of X HM.out) u [] W3 hb hE3 hV3 (by simpa using HL2.out))
      have hzb : w2.heap.size ≤ W3.heap.size := hk3.size
      clear hb hE3 hV3
      rw [hW3]
      have HW3 := Lib.hid hW3
      clear hW3
      go_wp2_with fail
      refine HLY.out.mono ?_
      rintro e w4 ⟨rfl, hb4, hk4⟩
      have hk04 : Kept (fun _ => True) w w4 := (hk02.tr hk3).trans hk4.to fun i hi _ => by have := hk02.size; omega
      rw [List.nil_append] at hb4
      have hz4 := hk4.size
      have HB4 := Lib.hid hb4
      clear hb4
      have HLEN := Lib.hid (Tryz.Builder_Len w2.heap.size w2.heap.size _ w4 HB4.out)
      have hbl : (Lib.byteCells (layP X)).length = (layP X).length := by simp [Lib.byteCells]
      rw [hbl] at HLEN
      clear hbl
      obtain ⟨L, hL⟩ : ∃ L, layP X = L := ⟨_, rfl⟩
      rw [hL] at HLEN HB4 HR3 HL2
      have hll := HL2.out
      clear hL
      by_cases h4 : 4000 < L.length
      · have HN : Hid (R = ([], 44)) := Lib.hid (by rw [HR3.out, if_pos h4])
        clear HR3
        go_wp2_with (refine HLEN.out.mono ?_; rintro e w5 ⟨rfl, rfl⟩)
        refine bodyPost_ret (v := .tuple #[S [], .int .i64 44]) (by simp [results, Tryz.results12, go_sem]) rfl ?_
        rw [HN.out]
        exact ⟨rfl, hk04⟩
      · have HN : Hid (R = (L, 0)) := Lib.hid (by rw [HR3.out, if_neg h4])
        clear HR3
        have HST := Lib.hid (Tryz.Builder_String_any w2.heap.size w2.heap.size L w4 HB4.out (by omega))
        go_wp2_with (first
          | (go_at_call 33; refine HLEN.out.mono ?_; rintro e w5 ⟨rfl, rfl⟩)
          | (go_at_call 34; refine HST.out.mono ?_; rintro e w6 ⟨rfl, hb6⟩))
        refine bodyPost_ret (v := .tuple #[S L, .int .i64 0]) (by simp [results, Tryz.results12, go_sem]) rfl ?_
        rw [HN.out]
        exact ⟨rfl, hk04.trans (ok2 := fun i => i < w2.heap.size) ⟨hb6.os, hb6.tape, hb6.output, hb6.size, fun i _ h => hb6.block i h⟩ fun i hi _ => by have := hk02.size; omega⟩
end Go.Proofs.YtmajpambfblhnaaGreatDoor
