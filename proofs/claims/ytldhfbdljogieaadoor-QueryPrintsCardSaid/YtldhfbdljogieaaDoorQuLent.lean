/- Walks of the law's own lent and whole (layer 3). -/
import Derived.Test.YtldhfbdljogieaaDoorKit3
import Derived.Test.YtldhfbdljogieaaDoorQuRP
namespace Go.Proofs.YtldhfbdljogieaaDoor
open Go.RowKit Qu

def spareF : Fld := ([115, 112, 97, 114, 101], [])
theorem madeFields (n : Nat) : madeCells (Value.agg #[S [], S []]).cells (n * 2) = (fieldCells (List.replicate n (([], []) : Fld))).toArray := by
  apply Array.ext'
  have e : (Value.agg #[S [], S []]).cells = #[S [], S []] := rfl
  rw [e]
  apply List.ext_getElem
  · simp [madeCells, fieldCells_len]
  · intro i h1 h2
    have hi : i / 2 < n := by rw [fieldCells_len, List.length_replicate] at h2; omega
    obtain ⟨g1, g2⟩ := cells_fields (List.replicate n (([], []) : Fld)) (i / 2) ([], []) (by rw [List.getElem?_replicate, if_pos hi])
    have hv : (fieldCells (List.replicate n (([], []) : Fld)))[i]? = some (S []) := by
      rcases (by omega : i = i / 2 * 2 ∨ i = i / 2 * 2 + 1) with e | e
      · rw [e]; exact g1
      · rw [e]; exact g2
    have h3 : (fieldCells (List.replicate n (([], []) : Fld)))[i]'h2 = S [] := by
      have := List.getElem?_eq_getElem h2
      rw [hv] at this
      exact (Option.some.inj this).symm
    rw [h3]
    rcases (by omega : i % 2 = 0 ∨ i % 2 = 1) with e | e <;> simp [madeCells, e]

/-- The list in its owner's memory while the spare places are filled. -/
def lentL (l : List Fld) (j : Nat) : List Fld := l ++ List.replicate j spareF ++ List.replicate (4 - j) ([], [])

set_option maxHeartbeats 4000000 in
set_option maxRecDepth 100000 in
theorem lent_any (v : Value) (l : List Fld) (w : World) (hv : FldIn w v l) (hl : l.length ≤ 68719476736) :
    Calls Tryd.prog 19 #[v] w fun e w' => e = .returned (.slice (some ⟨w.heap.size, 0, none⟩) (l.length + 4) (l.length + 4)) ∧ Below w.heap.size w w' ∧ RowAt w.heap.size (l ++ List.replicate 4 spareF) w' := by
  obtain ⟨a, cap, hva⟩ := fldIn_len hv
  subst hva
  obtain ⟨i0, hi0, hz0, hz1, hz2⟩ := info_parts infoField
  obtain ⟨X, hX⟩ : ∃ X, fieldCells (List.replicate (l.length + 4) (([], []) : Fld)) = X := ⟨_, rfl⟩
  have hmk : ∀ w : World, (Instr.makeSlice 31 (.int .i64 ((l.length : Int) + 4)) (.int .i64 ((l.length : Int) + 4))).run Tryd.prog w = .ok (.slice (some ⟨w.heap.size, 0, none⟩) (l.length + 4) (l.length + 4)) (w.alloc (.cells X.toArray 44)) := by
    intro w
    have hr := run_make (P := Tryd.prog) w 31 44 i0 _ Tryd.underlying31 hi0 hz0 .i64 .i64 ((l.length : Int) + 4) ((l.length : Int) + 4) (by omega) (Int.le_refl _) (by rw [hz2]; omega) (by omega)
    rw [hr, hz1, show ((l.length : Int) + 4).toNat = l.length + 4 from by omega, madeFields, hX]
  have HX := Lib.hid hX
  have HV := Lib.hid hv
  clear hX hv
  go_enter Tryd.func19, Tryd.ntmps19
  have hr0 : RowAt w.heap.size (List.replicate (l.length + 4) ([], [])) (w.alloc (.cells X.toArray 44)) := by
    unfold RowAt
    rw [HX.out]
    exact heap_alloc_new w _
  have hbw0 : Below w.heap.size w (w.alloc (.cells X.toArray 44)) := (Below.refl _ _).alloc (Nat.le_refl _) _
  have hv0 := HV.out.below hbw0
  go_wp2_with ((with_reducible show wpList _ _ _ _ _ _); refine wpList_copyF (o := ⟨some 11, _, _, _, _, _⟩) rfl (.tmp 9) (.tmp 10) rfl w.heap.size (l.length + 4) (l.length + 4) _ _ l rfl rfl hr0 hv0 (by simp) ?_)
  intro w1 hr1 hb1 hz1'
  have hbw1 := hb1 _ _ hbw0 (Nat.le_refl _)
  have hL0 : l ++ [(([], []) : Fld), ([], []), ([], []), ([], [])] = lentL l 0 := by
    unfold lentL
    rw [List.replicate_zero, List.append_nil]
    rfl
  rw [hL0] at hr1
  have HR1 := Lib.hid hr1
  clear hr1 hr0 hb1 hz1' hL0 hv0 hmk
  go_wp2
  go_loopw [4] (fun i wr => ∃ j : Nat, j ≤ 4 ∧ i = .int .i64 ((l.length + j : Nat) : Int) ∧ Hid (RowAt w.heap.size (lentL l j) wr) ∧ Below w.heap.size w wr) (fun i _ => l.length + 4 - (intOf i).toNat)
  case atStart => exact ⟨0, by omega, rfl, HR1, hbw1⟩
  case round =>
    obtain ⟨j, hj, rfl, HR, hbw⟩ := hrel
    by_cases hlt : j < 4
    · have hsplit : lentL l j = (l ++ List.replicate j spareF) ++ ([], []) :: List.replicate (4 - (j + 1)) ([], []) := by
        unfold lentL
        rw [show 4 - j = (4 - (j + 1)) + 1 from by omega, List.replicate_succ]
      have hAl : (l ++ List.replicate j spareF).length = l.length + j := by simp
      have hr := HR.out
      rw [hsplit] at hr
      have hset := hr.setName [115, 112, 97, 114, 101]
      rw [hAl] at hset
      have hcell := (hr.cells (l.length + j) ([], []) (by rw [List.getElem?_append_right (by omega), hAl, Nat.sub_self]; rfl)).1
      have hfz := hr.frozen ((l.length + j) * 2)
      have hnext : (l ++ List.replicate j spareF) ++ ([115, 112, 97, 114, 101], (([], []) : Fld).2) :: List.replicate (4 - (j + 1)) ([], []) = lentL l (j + 1) := by
        unfold lentL
        rw [List.replicate_succ']
        simp [spareF]
      rw [hnext] at hset
      have HSet := Lib.hid hset
      have hk0 : (0 : Int) ≤ ((l.length + j : Nat) : Int) := by omega
      have hk1 : ((l.length + j : Nat) : Int) < (l.length : Int) + 4 := by omega
      clear hsplit hAl hr hset hnext
      go_wp2
      go_roundw
      case rel => exact ⟨j + 1, by omega, by go_num, HSet, hbw.setCell (Nat.le_refl _) _⟩
      case measure => simp [intOf]; omega
    · obtain rfl : j = 4 := by omega
      have hr := HR.out
      have hL4 : lentL l 4 = l ++ List.replicate 4 spareF := by simp [lentL]
      rw [hL4] at hr
      have HR4 := Lib.hid hr
      clear hr hL4
      go_wp2
      go_ret
      exact ⟨rfl, hbw, HR4.out⟩

set_option maxHeartbeats 4000000 in
set_option maxRecDepth 100000 in
/-- 'whole' of the lent list and the list: true. -/
theorem whole_any (v : Value) (l : List Fld) (g : Nat) (w : World) (hv : FldIn w v l) (hr : RowAt g (l ++ List.replicate 4 spareF) w) (hl : l.length ≤ 68719476736) :
    Calls Tryd.prog 23 #[.slice (some ⟨g, 0, none⟩) (l.length + 4) (l.length + 4), v] w fun e w' => e = .returned (.bool true) ∧ Below w.heap.size w w' := by
  obtain ⟨a, cap, hva⟩ := fldIn_len hv
  subst hva
  have hin := hr.fldIn l.length (l.length + 4) (by simp) (by omega)
  rw [List.take_left] at hin
  have CS := same_yes (.slice (some ⟨g, 0, none⟩) l.length (l.length + 4)) (.slice a l.length cap) l w hin hv hl
  have HCS := Lib.hid CS
  have HR := Lib.hid hr
  have hg := hr.lt
  clear CS hin hv hr
  go_enter Tryd.func23, Tryd.ntmps23
  go_wp2_with fail
  refine HCS.out.mono ?_
  rintro e w1 ⟨rfl, hb1⟩
  have HR1 := Lib.hid (HR.out.below hb1)
  go_wp2
  go_loopw [5, 6] (fun x i wr => ∃ j : Nat, j ≤ 4 ∧ x = .bool true ∧ i = .int .i64 ((l.length + j : Nat) : Int) ∧ Hid (RowAt g (l ++ List.replicate 4 spareF) wr) ∧ Below w.heap.size w wr) (fun _ i _ => l.length + 4 - (intOf i).toNat)
  case atStart => exact ⟨0, by omega, rfl, rfl, HR1, hb1⟩
  case round =>
    obtain ⟨j, hj, rfl, rfl, HRj, hbw⟩ := hrel
    by_cases hlt : j < 4
    · obtain ⟨c0, c1⟩ := HRj.out.cells (l.length + j) spareF (by rw [List.getElem?_append_right (by omega), List.getElem?_replicate, if_pos (by omega)])
      have hk0 : (0 : Int) ≤ ((l.length + j : Nat) : Int) := by omega
      have hk1 : ((l.length + j : Nat) : Int) < (l.length : Int) + 4 := by omega
      simp only [spareF] at c0 c1
      go_wp2
      go_roundw
      case rel => exact ⟨j + 1, by omega, rfl, by go_num, HRj, hbw⟩
      case measure => simp [intOf]; omega
    · obtain rfl : j = 4 := by omega
      go_wp2
      go_ret
      exact ⟨rfl, hbw⟩
end Go.Proofs.YtldhfbdljogieaaDoor
