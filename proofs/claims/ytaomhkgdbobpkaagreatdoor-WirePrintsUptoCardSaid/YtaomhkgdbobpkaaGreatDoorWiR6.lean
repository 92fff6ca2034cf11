/- Walks of the law of layer 5: are fields that were lent as they were? -/
import Derived.Test.YtaomhkgdbobpkaaGreatDoorWiR5
namespace Go.Proofs.YtaomhkgdbobpkaaGreatDoor
open Go.RowKit Wi

theorem fieldCells_set2 (A B : List Fl) (f : Fl) (y : List UInt8) : (fieldCells (A ++ f :: B)).toArray.setIfInBounds (A.length * 2 + 1) (S y) = (fieldCells (A ++ (f.1, y) :: B)).toArray := by
  have e : ∀ f : Fl, fieldCells (A ++ f :: B) = fieldCells A ++ (S f.1 :: S f.2 :: fieldCells B) := fun f => by rw [fieldCells_append]; rfl
  rw [e, e]
  apply Array.ext'
  rw [Array.toList_setIfInBounds]
  simp only
  rw [List.set_append_right _ _ (by rw [fieldCells_len]; omega), fieldCells_len, show A.length * 2 + 1 - A.length * 2 = 1 by omega]
  rfl
/-- A field is written. -/
theorem RowAt.setBoth {g : Nat} {A B : List Fl} {f : Fl} {w : World} (h : RowAt g (A ++ f :: B) w) (x y : List UInt8) : RowAt g (A ++ (x, y) :: B) ((w.setCell ⟨g, A.length * 2, none⟩ (S x)).setCell ⟨g, A.length * 2 + 1, none⟩ (S y)) := by
  have h1 := h.setName x
  unfold RowAt
  rw [setCell_eq_setRow _ g _ _ _ (0, 0) _ h1, setRow_heap _ g _ _ _ (0, 0) h1, fieldCells_set2]
theorem RowAt.kept {g : Nat} {l : List Fl} {w w' : World} {ok : Nat → Prop} (h : RowAt g l w) (hk : Kept ok w w') (ho : ok g) : RowAt g l w' := (hk.block g h.lt ho).trans h
abbrev OL (g o b p : Nat) (y0 y1 x0 x1 : List UInt8) (w : World) : Prop := w.cell? ⟨g, o, none⟩ = some (S y0) ∧ w.cell? ⟨g, o + 1, none⟩ = some (S y1) ∧ w.cell? ⟨b, p, none⟩ = some (S x0) ∧ w.cell? ⟨b, p + 1, none⟩ = some (S x1)
def overF : Fl := ([111, 118, 101, 114], [])
set_option maxHeartbeats 8000000 in
set_option maxRecDepth 100000 in
theorem kept_any (fs : List Fl) (vl : Value) (g : Nat) (w : World) (hl : RowF (· ≠ g) w vl fs) (hr : RowAt g (fs ++ List.replicate 4 spareF) w) (hn : fs.length ≤ 68719476736) :
    Calls Tryz.prog 54 #[.slice (some ⟨g, 0, none⟩) (fs.length + 4) (fs.length + 4), vl] w fun e w' => e = .returned (.bool true) ∧ Kept (· ≠ g) w w' := by
  obtain ⟨a, c, rfl⟩ := hl.slice
  have HL := Lib.hid hl
  obtain ⟨X, hX⟩ : ∃ X, fs ++ List.replicate 4 spareF = X := ⟨_, rfl⟩
  have hXl : X.length = fs.length + 4 := by rw [← hX]; simp
  have HX := Lib.hid hX
  have HXL := Lib.hid hXl
  rw [hX] at hr
  have HR := Lib.hid hr
  clear hl hr hX hXl
  go_enter Tryz.func54, Tryz.ntmps54
  go_wp2_with fail
  go_loopg [5, 6] (fs.length + 4) (fun q ok iv wr => ∃ j : Nat, iv = .int .i64 j ∧ ok = .bool true ∧ q = fs.length + 4 - j ∧ j ≤ fs.length + 4 ∧ Hid (RowAt g (List.replicate j overF ++ X.drop j) wr) ∧ Hid (Kept (· ≠ g) w wr))
  case atStart => exact ⟨0, rfl, rfl, rfl, Nat.zero_le _, Lib.hid (by simpa using HR.out), Lib.hid (Kept.refl _ _)⟩
  case round =>
    obtain ⟨j, rfl, rfl, rfl, hj, HRj, HK⟩ := hrel
    by_cases hlt : j < fs.length + 4
    · obtain ⟨x, hx⟩ : ∃ x, X[j]? = some x := ⟨_, List.getElem?_eq_getElem (by rw [HXL.out]; exact hlt)⟩
      have hdrop : X.drop j = x :: X.drop (j + 1) := by
        rw [List.drop_eq_getElem_cons (by rw [HXL.out]; exact hlt)]
        congr 1
        exact (List.getElem?_eq_some_iff.1 hx).2
      have hr := HRj.out
      rw [hdrop] at hr
      have hcells := hr.cells j x (by rw [List.getElem?_append_right (by simp)]; simp)
      obtain ⟨y0, y1⟩ := hcells
      have f0 := hr.frozen (j * 2)
      have f1 := hr.frozen (j * 2 + 1)
      have HSET : Hid (∀ W, Kept (fun _ => True) wr W → RowAt g (List.replicate (j + 1) overF ++ X.drop (j + 1)) ((W.setCell ⟨g, j * 2, none⟩ (S [111, 118, 101, 114])).setCell ⟨g, j * 2 + 1, none⟩ (S []))) := Lib.hid fun W hk => by
        have hset := (hr.kept hk trivial).setBoth [111, 118, 101, 114] []
        rw [List.length_replicate, show List.replicate j overF ++ ([111, 118, 101, 114], []) :: X.drop (j + 1) = List.replicate (j + 1) overF ++ X.drop (j + 1) by rw [List.replicate_succ', List.append_assoc]; rfl] at hset
        exact hset
      have HK2 : Hid (∀ m, Kept (· ≠ g) w (((wr.drewN m).setCell ⟨g, j * 2, none⟩ (S [111, 118, 101, 114])).setCell ⟨g, j * 2 + 1, none⟩ (S []))) := Lib.hid fun m => (((HK.out.drewN m).setCell (p := ⟨g, j * 2, none⟩) (.inr (by simp)) (S [111, 118, 101, 114])).setCell (p := ⟨g, j * 2 + 1, none⟩) (.inr (by simp)) (S []))
      have hkn : ∀ m, Kept (fun _ => True) wr (wr.drewN m) := fun m => (Kept.refl _ wr).drewN m
      have HKN := Lib.hid hkn
      clear hr hdrop hkn
      by_cases hjn : j < fs.length
      · obtain ⟨b, off, rfl, hb, hbg, f, hf, x0, x1⟩ := HL.out.at hjn
        obtain rfl : x = f := by
          rw [← HX.out, List.getElem?_append_left hjn, hf] at hx
          exact (Option.some.inj hx).symm
        replace x0 := (HK.out.cell hb hbg).trans x0
        replace x1 := (HK.out.cell hb hbg).trans x1
        obtain ⟨n1, n2⟩ := x
        simp only at x0 x1 y0 y1
        clear hf hx
        have t1 : ¬ fs.length ≤ j := by omega
        have t2 : ¬ (fs.length : Int) ≤ (j : Int) := by omega
        go_wp2
        go_quiet (fail)
        go_wp2
        go_roundg (fs.length + 4 - (j + 1))
        case rel => exact ⟨j + 1, by go_num, rfl, rfl, by omega, Lib.hid (HSET.out _ (HKN.out _)), Lib.hid (HK2.out _)⟩
        case measure => omega
      · obtain rfl : x = spareF := by
          rw [← HX.out, List.getElem?_append_right (by omega), List.getElem?_replicate, if_pos (by omega)] at hx
          exact (Option.some.inj hx).symm
        simp only [spareF] at y0 y1
        clear hx
        have t1 : fs.length ≤ j := by omega
        have t2 : (fs.length : Int) ≤ (j : Int) := by omega
        go_wp2
        go_quiet (fail)
        go_wp2
        go_roundg (fs.length + 4 - (j + 1))
        case rel => exact ⟨j + 1, by go_num, rfl, rfl, by omega, Lib.hid (HSET.out _ (HKN.out _)), Lib.hid (HK2.out _)⟩
        case measure => omega
    · obtain rfl : j = fs.length + 4 := by omega
      go_wp2
      go_ret
      exact ⟨rfl, HK.out⟩
end Go.Proofs.YtaomhkgdbobpkaaGreatDoor
