/- Walks of the law of layer 5, tenth part: the first calls. -/
import Derived.Test.YtaomhkgdbobpkaaGreatDoorWiL9
namespace Go.Proofs.YtaomhkgdbobpkaaGreatDoor
open Go.RowKit Wi

theorem aw_badF : feedP (begin' false) [120, 10] = ((feedP (begin' false) [120, 10]).1, (feedP (begin' false) [120, 10]).2.1, 50) := Prod.ext rfl (Prod.ext rfl aw_bad)
set_option maxHeartbeats 8000000 in
set_option maxRecDepth 100000 in
theorem awake_any (w : World) (hE : WE w.heap.size w) : Calls Tryz.prog 9 #[] w fun e w' => e = .returned (.bool true) ∧ Kept (fun _ => True) w w' := by
  obtain ⟨W1, hW1⟩ : ∃ W1, w.alloc (.cells #[S [72, 111, 115, 116], S [97, 46, 101, 120, 97, 109, 112, 108, 101]] 61) = W1 := ⟨_, rfl⟩
  obtain ⟨W2, hW2⟩ : ∃ W2, W1.alloc (.cells #[S [80, 79, 83, 84], S [47, 116, 111, 107, 101, 110], .slice (some ⟨w.heap.size, 0, none⟩) 1 1, S [120, 61, 49]] 50) = W2 := ⟨_, rfl⟩
  have hk1 : Kept (fun _ => True) w W1 := by rw [← hW1]; exact (Kept.refl _ w).alloc _
  have hk12 : Kept (fun _ => True) W1 W2 := by rw [← hW2]; exact (Kept.refl _ W1).alloc _
  have hz1 : W1.heap.size = w.heap.size + 1 := by rw [← hW1]; simp
  have hz2 : W2.heap.size = W1.heap.size + 1 := by rw [← hW2]; simp
  have hrow : RowF (· < W2.heap.size) W2 (.slice (some ⟨w.heap.size, 0, none⟩) 1 1) awM.hs := by
    have hb : W1.heap[w.heap.size]? = some (.cells #[S [72, 111, 115, 116], S [97, 46, 101, 120, 97, 109, 112, 108, 101]] 61 (0, 0)) := by rw [← hW1]; exact heap_alloc_new w _
    have hb2 := (hk12.block w.heap.size (by omega) trivial).trans hb
    refine .inr ⟨w.heap.size, 0, 1, rfl, Nat.le_refl _, by omega, by omega, fun j f hj => ?_⟩
    obtain ⟨rfl, rfl⟩ : j = 0 ∧ f = ([72, 111, 115, 116], [97, 46, 101, 120, 97, 109, 112, 108, 101]) := by
      match j, hj with
      | 0, hj => exact ⟨rfl, by simpa [awM] using hj.symm⟩
      | j + 1, hj => simp [awM] at hj
    constructor <;> rw [cell_of_row W2 w.heap.size _ _ _ (0, 0) hb2] <;> rfl
  have hbox : four W1.heap.size [80, 79, 83, 84] [47, 116, 111, 107, 101, 110] (.slice (some ⟨w.heap.size, 0, none⟩) 1 1) [120, 61, 49] W2 := by rw [← hW2]; exact heap_alloc_new W1 _
  have HE := Lib.hid ((hE.kept hk1 fun _ _ => trivial).kept hk12 fun _ _ => trivial)
  have HE2 := Lib.hid (HE.out.le (hk1.tr hk12).size)
  have PR : Hid (Calls Tryz.prog 22 #[.agg #[S [80, 79, 83, 84], S [47, 116, 111, 107, 101, 110], .slice (some ⟨w.heap.size, 0, none⟩) 1 1, S [120, 61, 49]]] W2 (PrintQ (awT, 0) W2)) := Lib.hid (aw_print ▸ printM_any awM _ W2 HE2.out (hrow.mono fun _ _ _ => trivial) ⟨by decide, fun f hf => by
    obtain rfl : f = ([72, 111, 115, 116], [97, 46, 101, 120, 97, 109, 112, 108, 101]) := by simpa [awM] using hf
    exact ⟨by unfold Sml; decide, by unfold Sml; decide⟩⟩ (by unfold Sml; decide) (by unfold Sml; decide) (by unfold Sml; decide))
  have HK02 := Lib.hid (hk1.tr hk12)
  have HROW := Lib.hid hrow
  have HB := Lib.hid hbox
  have hlT : awT.length = 63 := rfl
  have HEQ : Hid (awT = [80, 79, 83, 84, 32, 47, 116, 111, 107, 101, 110, 32, 72, 84, 84, 80, 47, 49, 46, 49, 13, 10, 72, 111, 115, 116, 58, 32, 97, 46, 101, 120, 97, 109, 112, 108, 101, 13, 10, 67, 111, 110, 116, 101, 110, 116, 45, 76, 101, 110, 103, 116, 104, 58, 32, 51, 13, 10, 13, 10, 120, 61, 49]) := Lib.hid rfl
  obtain ⟨wm, hm1, hm2, hm3, -, -, hmk⟩ := msg_pieces aw_ok.1 aw_ok.2.1 aw_ok.2.2
  simp only [aw_print] at hmk
  obtain ⟨rk, hr1, hr2, hr3⟩ := hmk 60 (by decide)
  have HMSG : Hid (msgOf wm = awM) := Lib.hid (by unfold msgOf; rw [hm1, hm2, hm3]; rfl)
  have HRI := Lib.hid (feedP_inv (awT.take 60) (begin' false) (RI.begin false) rfl (by rw [hr1]))
  rw [hr1] at HRI
  have HR1 := Lib.hid hr1
  have HR2 := Lib.hid hr2
  have HR3 := Lib.hid hr3
  clear hmk hr1 hr2 hr3 hm1 hm2 hm3
  obtain ⟨T, hT⟩ : ∃ T, awT = T := ⟨_, rfl⟩
  rw [hT] at PR hlT HEQ HR1 HR3
  have hbz : (⟨T.toArray⟩ : ByteArray).size = T.length := size_mk T
  have EX1 : (⟨T.toArray⟩ : ByteArray).extract 0 60 = ⟨(T.take 60).toArray⟩ := by rw [extract_ba]; simp
  have EX2 : (⟨T.toArray⟩ : ByteArray).extract 60 63 = ⟨(T.drop 60).toArray⟩ := by rw [extract_ba, List.take_of_length_le (by rw [List.length_drop]; omega)]
  have q1 : (T == [80, 79, 83, 84, 32, 47, 116, 111, 107, 101, 110, 32, 72, 84, 84, 80, 47, 49, 46, 49, 13, 10, 72, 111, 115, 116, 58, 32, 97, 46, 101, 120, 97, 109, 112, 108, 101, 13, 10, 67, 111, 110, 116, 101, 110, 116, 45, 76, 101, 110, 103, 116, 104, 58, 32, 51, 13, 10, 13, 10, 120, 61, 49]) = true := by rw [HEQ.out]; decide
  obtain ⟨c0, c1, c2, c3⟩ := hbox.facts
  have HWS : Hid (w.heap.size < W1.heap.size) := Lib.hid (by omega)
  clear hrow hbox hk1 hk12 hz1 hz2 hE hT
  go_enter Tryz.func9, Tryz.ntmps9
  go_wp2_with fail
  refine PR.out.mono ?_
  rintro e w3 ⟨rfl, hk3⟩
  have NR := Lib.hid (NewReader_any w3)
  have HK03 := Lib.hid (HK02.out.tr hk3)
  have HE3 := Lib.hid (HE.out.kept hk3 fun _ _ => trivial)
  have HROW3 := Lib.hid (HROW.out.kept hk3 fun _ _ _ => trivial)
  have HB3 := Lib.hid (HB.out.kept hk3 trivial)
  have HS2 := Lib.hid hk3.size
  clear hk3 c0 c1 c2 c3
  go_wp2_with fail
  refine NR.out.mono ?_
  rintro e w4 ⟨p, fp, rfl, hr4, hf4, hk4⟩
  have HK04 := Lib.hid (HK03.out.tr hk4)
  have HE4 := Lib.hid (HE3.out.kept hk4 fun _ _ => trivial)
  have HF4 : Hid (∀ b ∈ fp, w3.heap.size ≤ b) := Lib.hid hf4
  have FE1 := Lib.hid (Feed_any p (begin' false) (T.take 60) fp w4 w.heap.size HE4.out hr4 (RI.begin false) rfl (by simp only [begin', List.length_take]; omega) ⟨fun b hb => by have := hf4 b hb; have := HK03.out.size; omega, HK04.out.size⟩)
  have HS34 := Lib.hid hk4.size
  have HROW4 := Lib.hid (HROW3.out.kept hk4 fun _ _ _ => trivial)
  have HB4 := Lib.hid (HB3.out.kept hk4 trivial)
  have HS23 : Hid (W1.heap.size < w3.heap.size ∧ w.heap.size < w3.heap.size) := Lib.hid ⟨HB3.out.lt, by have := HK03.out.size; have := HB3.out.lt; have := HWS.out; omega⟩
  clear hk4 hf4 hr4
  go_wp2_with fail
  refine FE1.out.mono ?_
  rintro e w5 hq
  obtain ⟨a5, k5, fp5, rfl, -, -, hf5, hr5, -, hk5⟩ := hq.ok HR1.out
  have HK35 : Hid (Kept (· < w3.heap.size) w4 w5) := Lib.hid (hk5.mono fun i hi ho hm => by have := HF4.out i hm; omega)
  have WA : Hid (Calls Tryz.prog 17 #[.pointer (some ⟨p, 0, none⟩)] w5 fun e w' => e = .returned (.int .i64 60) ∧ Kept (fun _ => True) w5 w') := Lib.hid (by
    have h := Waiting_any p rk fp5 w5 hr5
    rw [HR2.out] at h
    exact h)
  have HR5 := Lib.hid hr5
  have HF5 : Hid (∀ b ∈ fp5, w3.heap.size ≤ b) := Lib.hid fun b hb => (hf5 b hb).elim (HF4.out b) fun h => by have := HK35.out.size; have := HS34.out; omega
  have HE5 := Lib.hid (HE4.out.kept HK35.out fun b hb => by have := HS23.out.2; omega)
  have HROW5 := Lib.hid (HROW4.out.kept HK35.out fun b hb ho => by have := HS2.out; omega)
  have HB5 := Lib.hid (HB4.out.kept HK35.out HS23.out.1)
  clear hf5 hk5 hr5 hq
  go_wp2_with fail
  refine WA.out.mono ?_
  rintro e w6 ⟨rfl, hk6⟩
  have HR6 := Lib.hid (HR5.out.kept hk6)
  have HK36 : Hid (Kept (· < w3.heap.size) w4 w6) := Lib.hid (HK35.out.trans hk6 fun _ _ _ => trivial)
  have HE6 := Lib.hid (HE5.out.kept hk6 fun _ _ => trivial)
  have HROW6 := Lib.hid (HROW5.out.kept hk6 fun _ _ _ => trivial)
  have HB6 := Lib.hid (HB5.out.kept hk6 trivial)
  have FE2 := Lib.hid (Feed_any p rk (T.drop 60) fp5 w6 w.heap.size HE6.out HR6.out HRI.out.1 HRI.out.2 (by rw [HR2.out, List.length_drop]; omega) ⟨fun b hb => by have := HF5.out b hb; have := HS23.out.2; omega, by have := HK04.out.size; have := HK36.out.size; omega⟩)
  clear hk6
  go_wp2_with fail
  refine FE2.out.mono ?_
  rintro e w7 hq
  obtain ⟨a7, k7, fp7, rfl, hrm7, hsm7, hf7, hr7, -, hk7⟩ := hq.ok HR3.out
  rw [show [wm].map msgOf = [awM] by simp [HMSG.out]] at hrm7 hsm7
  have HK37 : Hid (Kept (· < w3.heap.size) w4 w7) := Lib.hid (HK36.out.trans hk7 fun i hi ho hm => by have := HF5.out i hm; omega)
  have HR7 := Lib.hid hr7
  have HM7 := Lib.hid hrm7
  have HF7 : Hid (∀ b ∈ fp7, w3.heap.size ≤ b) := Lib.hid fun b hb => (hf7 b hb).elim (HF5.out b) fun h => by have := HK36.out.size; have := HS34.out; omega
  have HE7 := Lib.hid (HE6.out.kept hk7 fun b hb hm => by have := HF5.out b hm; have := HS23.out.2; omega)
  have HROW7 := Lib.hid (HROW6.out.kept hk7 fun b hb ho hm => by have := HF5.out b hm; have := HS2.out; omega)
  have HB7 := Lib.hid (HB6.out.kept hk7 fun hm => by have := HF5.out _ hm; have := HS23.out.1; omega)
  obtain ⟨c0, c1, c2, c3⟩ := HB7.out.facts
  obtain ⟨W8, hW8⟩ : ∃ W8, w7.alloc (.cells #[S [80, 79, 83, 84], S [47, 116, 111, 107, 101, 110], .slice (some ⟨w.heap.size, 0, none⟩) 1 1, S [120, 61, 49]] 50) = W8 := ⟨_, rfl⟩
  have hk78 : Kept (fun _ => True) w7 W8 := by rw [← hW8]; exact (Kept.refl _ w7).alloc _
  have hbox8 : four w7.heap.size [80, 79, 83, 84] [47, 116, 111, 107, 101, 110] (.slice (some ⟨w.heap.size, 0, none⟩) 1 1) [120, 61, 49] W8 := by rw [← hW8]; exact heap_alloc_new w7 _
  have ME := Lib.hid (messages_any [awM] [awM] _ _ W8 (HM7.out.kept hk78) (rowM_one (x := awM) (cap := 1) hbox8 ((HROW7.out.kept hk78 fun _ _ _ => trivial).mono fun _ _ _ => trivial) (Nat.le_refl _)) ⟨by decide, fun x hx => by have := hsm7 x hx; omega⟩ ⟨by decide, fun x hx => by have := hsm7 x hx; omega⟩)
  have HK78 := Lib.hid hk78
  clear hf7 hk7 hr7 hq hrm7 hsm7 hk78 hbox8
  go_wp2_with fail
  refine ME.out.mono ?_
  rintro e w9 ⟨⟨q, rfl, hq⟩, hk9⟩
  obtain rfl : q = true := hq.2 (by first | rfl | trivial)
  have hk79 := HK78.out.tr hk9
  have HK39 : Hid (Kept (· < w3.heap.size) w4 w9) := Lib.hid (HK37.out.trans hk79 fun _ _ _ => trivial)
  have HE9 := Lib.hid (HE7.out.kept hk79 fun _ _ => trivial)
  have FE3 := Lib.hid (Feed_any p (begin' false) [120, 10] fp7 w9 w.heap.size HE9.out (HR7.out.kept hk79) (RI.begin false) rfl (by simp [begin']) ⟨fun b hb => by have := HF7.out b hb; have := HS23.out.2; omega, by have := HK04.out.size; have := HK39.out.size; omega⟩)
  clear hk9 hk79 hq hW8 c0 c1 c2 c3
  go_wp2_with fail
  refine FE3.out.mono ?_
  rintro e w10 hq
  obtain ⟨a10, k10, rfl, -, -, ho10, hk10⟩ := hq.bad aw_badF (by decide)
  have HK3X : Hid (Kept (· < w3.heap.size) w4 w10) := Lib.hid (HK39.out.trans hk10 fun i hi ho hm => by have := HF7.out i hm; omega)
  have HEX := Lib.hid (HE9.out.kept hk10 fun b hb hm => by have := HF7.out b hm; have := HS23.out.2; omega)
  have FO := Lib.hid (Feed_over p [] w10 ho10)
  clear hq ho10 hk10
  go_wp2_with fail
  refine FO.out.mono ?_
  rintro e w11 ⟨rfl, hk11⟩
  have HK3Y : Hid (Kept (· < w3.heap.size) w4 w11) := Lib.hid (HK3X.out.trans hk11 fun _ _ _ => trivial)
  have HEY := Lib.hid (HEX.out.kept hk11 fun _ _ => trivial)
  have PA : Hid (Calls Tryz.prog 32 #[.agg #[.int .i64 404, .slice none 0 0, S []]] w11 (PrintQ (awE, 0) w11)) := Lib.hid (aw_answer ▸ printA_any ⟨404, [], []⟩ (.slice none 0 0) w11 (HEY.out.le (by have := HK04.out.size; have := HK3Y.out.size; omega)) (.inl ⟨none, 0, rfl, rfl⟩) ⟨by decide, by simp⟩ (by unfold Sml; decide))
  clear hk11
  go_wp2_with fail
  refine PA.out.mono ?_
  rintro e w12 ⟨rfl, hk12⟩
  have q2 : (awE == [72, 84, 84, 80, 47, 49, 46, 49, 32, 52, 48, 52, 32, 78, 111, 116, 32, 70, 111, 117, 110, 100, 13, 10, 67, 111, 110, 116, 101, 110, 116, 45, 76, 101, 110, 103, 116, 104, 58, 32, 48, 13, 10, 13, 10]) = true := by decide
  have HKZ : Hid (Kept (fun _ => True) w w12) := Lib.hid (HK04.out.trans (HK3Y.out.trans hk12 fun _ _ _ => trivial) fun i hi _ => by have := HS23.out.2; omega)
  clear hk12
  go_wp2
  go_ret
  exact ⟨rfl, HKZ.out⟩
end Go.Proofs.YtaomhkgdbobpkaaGreatDoor
