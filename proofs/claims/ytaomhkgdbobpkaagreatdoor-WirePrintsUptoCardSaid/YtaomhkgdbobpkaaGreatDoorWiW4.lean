/- Walks of wire (layer 5), fourth part: a header that may be. -/
import Derived.Test.YtaomhkgdbobpkaaGreatDoorWiW3
import Derived.Deep.DeepCutAuto
namespace Go.Proofs.YtaomhkgdbobpkaaGreatDoor
open Go.RowKit Wi

/-- A field's two texts at block g. -/
def FAt (g : Nat) (f : Fl) (w : World) : Prop := w.heap[g]? = some (.cells #[S f.1, S f.2] 61 (0, 0))
theorem FAt.lt {g : Nat} {f : Fl} {w : World} (h : FAt g f w) : g < w.heap.size := (Array.getElem?_eq_some_iff.1 h).1
theorem FAt.facts {g : Nat} {f : Fl} {w : World} (h : FAt g f w) : w.cell? ⟨g, 0, none⟩ = some (S f.1) ∧ w.cell? ⟨g, 1, none⟩ = some (S f.2) := by
  unfold FAt at h
  refine ⟨?_, ?_⟩ <;> rw [cell_of_row w g _ _ _ (0, 0) h] <;> rfl
theorem FAt.kept {g : Nat} {f : Fl} {w w' : World} {ok : Nat → Prop} (h : FAt g f w) (hk : Kept ok w w') (ho : ok g) : FAt g f w' := (hk.block g h.lt ho).trans h
set_option maxHeartbeats 4000000 in
set_option maxRecDepth 100000 in
theorem isHeader_any (f : Fl) (w : World) (h1 : f.1.length ≤ 1099511627776) (h2 : f.2.length ≤ 1099511627776) :
    Calls Tryz.prog 75 #[.agg #[S f.1, S f.2]] w fun e w' => e = .returned (.bool (isHeaderP f)) ∧ Kept (fun _ => True) w w' := by
  obtain ⟨n, v⟩ := f
  simp only at h1 h2
  obtain ⟨W0, hW0⟩ : ∃ W0, w.alloc (.cells #[S n, S v] 61) = W0 := ⟨_, rfl⟩
  have hk0 : Kept (fun _ => True) w W0 := by rw [← hW0]; exact (Kept.refl _ w).alloc _
  have hbox : FAt w.heap.size (n, v) W0 := by rw [← hW0]; exact heap_alloc_new w _
  have HB := Lib.hid hbox
  have HK0 := Lib.hid hk0
  have NM := Lib.hid (fun W => isName_any n W (by omega))
  have LW := Lib.hid (fun W => lower_any n W (by omega))
  have OV := Lib.hid (fun W => only_any v 0 1000 _ printedP W printed_may (by omega) (by omega) (by omega))
  obtain ⟨B, hB⟩ : ∃ B, bareP v = B := ⟨_, rfl⟩
  obtain ⟨a, ha⟩ : ∃ a, isNameP n = a := ⟨_, rfl⟩
  obtain ⟨b, hb⟩ : ∃ b, onlyP v 0 1000 printedP = b := ⟨_, rfl⟩
  obtain ⟨l, hl⟩ : ∃ l, low n = l := ⟨_, rfl⟩
  have HR : Hid (isHeaderP (n, v) = (a && b && B && decide (n.length + 2 + v.length ≤ 1000) && (l != lengthN) && (l != codingN))) := Lib.hid (by unfold isHeaderP; rw [ha, hb, hB, hl])
  rw [ha] at NM
  rw [hb] at OV
  rw [hl] at LW
  have HBB := Lib.hid hB
  have hnz : (⟨n.toArray⟩ : ByteArray).size = n.length := size_mk n
  have hvz : (⟨v.toArray⟩ : ByteArray).size = v.length := size_mk v
  obtain ⟨o0, o1⟩ := hbox.facts
  clear hbox hk0 hB ha hb hl
  simp only at o0 o1
  go_enter Tryz.func75, Tryz.ntmps75
  go_upto_region 2 with fail
  go_cut [4] (fun y wx => y = .bool B ∧ wx = W0)
  case first =>
    cases v with
    | nil =>
      obtain rfl : true = B := by rw [← HBB.out]; rfl
      go_wp2
      go_meet
      exact ⟨rfl, rfl⟩
    | cons x r =>
      obtain ⟨y, hyi⟩ : ∃ y, (x :: r)[r.length]? = some y := ⟨_, List.getElem?_eq_getElem (by simp)⟩
      have hy : (x :: r).getLast? = some y := by rw [List.getLast?_eq_getElem?]; exact hyi
      have hz0 : (((r.length : Int) + 1) == 0) = false := by rw [beq_eq_false_iff_ne]; omega
      have hx2 := run_at (x :: r) r.length y hyi
      have e1 := byte_is x 32 32 rfl
      have e2 := byte_is y 32 32 rfl
      have hBe : B = (!decide (x = 32) && !decide (y = 32)) := by
        rw [← HBB.out]
        unfold bareP
        rw [hy]
        by_cases k1 : x = 32 <;> by_cases k2 : y = 32 <;> simp [k1, k2]
      simp only [List.length_cons] at hvz h2
      have hsub : ((r.length + 1 : Nat) : Int) - 1 = (r.length : Int) := by omega
      obtain ⟨p, hp⟩ : ∃ p, decide (x = 32) = p := ⟨_, rfl⟩
      obtain ⟨q, hq⟩ : ∃ q, decide (y = 32) = q := ⟨_, rfl⟩
      rw [hp, hq] at hBe
      rw [hp] at e1
      rw [hq] at e2
      have h0s : 0 < (⟨(x :: r).toArray⟩ : ByteArray).size := by rw [hvz]; omega
      have e3 : ((((⟨(x :: r).toArray⟩ : ByteArray)[0]'h0s).toNat : Int) == 32) = p := e1
      have e4 : ((((⟨(x :: r).toArray⟩ : ByteArray)[0]'h0s).toNat : Int) != 32) = !p := by rw [bne, e3]
      have e5 : ((y.toNat : Int) != 32) = !q := by rw [bne, e2]
      clear hp hq hyi hy
      subst hBe
      cases p <;> cases q
      all_goals
        simp only [Bool.not_true, Bool.not_false] at e4 e5
        go_wp2
        all_goals
          go_meet
          first
            | exact ⟨rfl, rfl⟩
            | (exfalso; simp_all; done)
  case rest =>
  obtain ⟨rfl, rfl⟩ := hcut
  have hkc : Kept (fun _ => True) w wc := HK0.out
  clear hW0
  go_wp2_with fail
  refine (LW.out _).mono ?_
  rintro e w1 ⟨rfl, hk1⟩
  obtain ⟨o2, o3⟩ := (HB.out.kept hk1 trivial).facts
  simp only at o2 o3
  have hka := hkc.tr hk1
  clear hkc o0 o1
  go_wp2_with fail
  refine (NM.out _).mono ?_
  rintro e w2 ⟨rfl, hk2⟩
  obtain ⟨o4, o5⟩ := (HB.out.kept (hk1.tr hk2) trivial).facts
  simp only at o4 o5
  have hkb := hka.tr hk2
  clear o2 o3
  cases a with
  | false =>
    go_wp2
    go_ret
    exact ⟨ret_bool (by rw [HR.out]; rfl), hkb⟩
  | true =>
    go_wp2_with fail
    refine (OV.out _).mono ?_
    rintro e w3 ⟨rfl, hk3⟩
    obtain ⟨o2, o3⟩ := (HB.out.kept ((hk1.tr hk2).tr hk3) trivial).facts
    simp only at o2 o3
    have hkd := hkb.tr hk3
    clear o4 o5
    by_cases hlen : n.length + 2 + v.length ≤ 1000
    · have hl2 : (n.length : Int) + 2 + (v.length : Int) ≤ 1000 := by omega
      by_cases e1 : l = lengthN
      · have HF : Hid (isHeaderP (n, v) = false) := Lib.hid (by rw [HR.out, e1]; simp)
        have q1 : (l == [99, 111, 110, 116, 101, 110, 116, 45, 108, 101, 110, 103, 116, 104]) = true := by rw [e1]; rfl
        clear e1
        cases b <;> cases B
        all_goals
          go_wp2
          go_ret
          exact ⟨ret_bool HF.out.symm, hkd⟩
      · have q1 : (l == [99, 111, 110, 116, 101, 110, 116, 45, 108, 101, 110, 103, 116, 104]) = false := beq_eq_false_iff_ne.2 e1
        by_cases e2 : l = codingN
        · have HF : Hid (isHeaderP (n, v) = false) := Lib.hid (by rw [HR.out, e2]; simp)
          have q2 : (l == [116, 114, 97, 110, 115, 102, 101, 114, 45, 101, 110, 99, 111, 100, 105, 110, 103]) = true := by rw [e2]; rfl
          clear e1 e2
          cases b <;> cases B
          all_goals
            go_wp2
            go_ret
            exact ⟨ret_bool HF.out.symm, hkd⟩
        · have q2 : (l == [116, 114, 97, 110, 115, 102, 101, 114, 45, 101, 110, 99, 111, 100, 105, 110, 103]) = false := beq_eq_false_iff_ne.2 e2
          have HF : Hid (isHeaderP (n, v) = (b && B)) := Lib.hid (by rw [HR.out, bne_iff_ne.2 e1, bne_iff_ne.2 e2, decide_eq_true hlen]; simp)
          clear e1 e2
          cases b <;> cases B
          all_goals
            go_wp2
            go_ret
            exact ⟨ret_bool HF.out.symm, hkd⟩
    · have hl2 : ¬ ((n.length : Int) + 2 + (v.length : Int) ≤ 1000) := by omega
      have HF : Hid (isHeaderP (n, v) = false) := Lib.hid (by rw [HR.out]; simp [hlen])
      cases b <;> cases B
      all_goals
        go_wp2
        go_ret
        exact ⟨ret_bool HF.out.symm, hkd⟩
end Go.Proofs.YtaomhkgdbobpkaaGreatDoor
