/- Walks of jot's methods that hand out a value (layer 4), fourth part: every value. The reader: value, whole. -/
import Derived.Test.YtmajpambfblhnaaGreatDoorJoJA
import Derived.Test.YtmajpambfblhnaaGreatDoorJoSort
namespace Go.Proofs.YtmajpambfblhnaaGreatDoor
open Go.RowKit Jo

theorem Row1.slice {ok : Nat → Prop} {w : World} {v : Value} {n : Nat} {us : Nat → Value} (h : Row1 ok w v n us) : ∃ a l c, v = .slice a l c := by
  rcases h with ⟨rfl, _⟩ | ⟨b, cap, rfl, _⟩ <;> exact ⟨_, _, _, rfl⟩
theorem Row2.slice {ok : Nat → Prop} {w : World} {v : Value} {ns : List (List UInt8)} {us : Nat → Value} (h : Row2 ok w v ns us) : ∃ a l c, v = .slice a l c := by
  rcases h with ⟨rfl, _⟩ | ⟨b, cap, rfl, _⟩ <;> exact ⟨_, _, _, rfl⟩
/-- Every value that stands inside can be handed out. -/
theorem VIn.jotC : ∀ (x : J) {ok : Nat → Prop} {w : World} {u : Value}, VIn ok w x u → JotC u x := by
  intro x
  induction x using J.ind with
  | h k n t ns xs ih =>
    intro ok w u h
    generalize hy : J.mk k n t ns xs = y at h
    cases h with
    | null => exact ⟨_, _, _, _, rfl, method_null, fun _ W _ => null_jot W⟩
    | fls => exact ⟨_, _, _, _, rfl, method_fls, fun _ W _ => fls_jot W⟩
    | tru => exact ⟨_, _, _, _, rfl, method_tru, fun _ W _ => tru_jot W⟩
    | nr m => exact ⟨_, _, _, _, rfl, method_nr m, fun _ W _ => nr_jot m W⟩
    | tx l => exact ⟨_, _, _, _, rfl, method_tx _, fun _ W _ => tx_jot l W⟩
    | list ys v us hl hr hv =>
      obtain ⟨a, l, c, rfl⟩ := hr.slice
      refine ⟨_, _, _, _, rfl, method_list a l c, fun ok' W hW => ?_⟩
      obtain ⟨v', us', e, hl', hr', hv'⟩ := hW.list_inv ys rfl
      obtain rfl : v' = .slice a l c := by injection e with _ e; exact e.symm
      obtain rfl : xs = ys := by simpa [J.list] using (congrArg J.items hy)
      exact list_jot ok' xs _ us' W hl' hr' hv' fun j y hjy => ih y (List.mem_of_getElem? hjy) (hv' j y hjy)
    | obj ms v us hl hr hv =>
      obtain ⟨a, l, c, rfl⟩ := hr.slice
      refine ⟨_, _, _, _, rfl, method_object a l c, fun ok' W hW => ?_⟩
      obtain ⟨v', us', e, hl', hr', hv'⟩ := hW.obj_inv ms rfl
      obtain rfl : v' = .slice a l c := by injection e with _ e; exact e.symm
      obtain rfl : xs = ms.map (·.2) := by simpa [J.obj] using (congrArg J.items hy)
      exact object_jot ok' ms _ us' W hl' hr' hv' fun j m hjm => ih m.2 (List.mem_map.2 ⟨m, List.mem_of_getElem? hjm, rfl⟩) (hv' j m hjm)

theorem value_any (g : Nat) (s : List UInt8) (hl : s.length ≤ 4000) : ∀ (k d : Nat), d + k = 16 → ValC g s d k := by
  intro k
  induction k with
  | zero =>
    intro d hd i w hp hi
    obtain rfl : d = 16 := by omega
    exact value_step g s 16 _ _ (fun i w hp hi => list_deep g s i w hp hi _) (fun i w hp hi => object_deep g s i w hp hi _) i w hp hi hl
  | succ k ih =>
    intro d hd i w hp hi
    exact value_step g s d _ _ (fun i w hp hi => list_any g s i d k (ih (d + 1) (by omega)) w hp (by omega) hi hl) (fun i w hp hi => object_any g s i d k sort_any (ih (d + 1) (by omega)) w hp (by omega) hi hl) i w hp hi hl
end Go.Proofs.YtmajpambfblhnaaGreatDoor
