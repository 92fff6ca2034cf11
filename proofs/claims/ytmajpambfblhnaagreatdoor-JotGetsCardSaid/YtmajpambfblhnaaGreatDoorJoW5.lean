/- JotParses (layer 4), before its row: what a text says is of few parts; the lists of what came out, as the law's owned wants them. -/
import Derived.Test.YtmajpambfblhnaaGreatDoorJoW4
import Derived.Test.YtmajpambfblhnaaGreatDoorJoRP
import Derived.Test.YtmajpambfblhnaaGreatDoorJoQ9
import Derived.Test.YtmajpambfblhnaaGreatDoorJoSameR
namespace Go.Proofs.YtmajpambfblhnaaGreatDoor
open Go.RowKit Jo

theorem joinC_sum : ∀ l : List (List UInt8), (l.map List.length).sum ≤ (joinC l).length
  | [] => by simp
  | [x] => by simp [joinC]
  | x :: y :: r => by
    have := joinC_sum (y :: r)
    simp only [joinC, List.map_cons, List.sum_cons, List.length_append, List.length_cons] at this ⊢
    omega
theorem partsAll_sum : ∀ xs : List J, partsAll xs = (xs.map partsJ).sum
  | [] => by simp [partsAll]
  | x :: xs => by simp [partsAll, partsAll_sum xs]
theorem sum_le {α : Type} (f g : α → Nat) : ∀ (l : List α), (∀ x ∈ l, f x ≤ g x) → (l.map f).sum ≤ (l.map g).sum
  | [], _ => by simp
  | x :: r, h => by
    have h1 := h x (by simp)
    have h2 := sum_le f g r fun y hy => h y (by simp [hy])
    simp only [List.map_cons, List.sum_cons]
    omega
theorem sum_add {α : Type} (f g : α → Nat) : ∀ (l : List α), (l.map fun x => f x + g x).sum = (l.map f).sum + (l.map g).sum
  | [] => by simp
  | x :: r => by
    simp only [List.map_cons, List.sum_cons, sum_add f g r]
    omega
theorem sum_one {α : Type} : ∀ l : List α, (l.map fun _ => 1).sum = l.length
  | [] => rfl
  | _ :: r => by rw [List.map_cons, List.sum_cons, sum_one r, List.length_cons]; omega
theorem parts_lay {x : J} (hx : May x) : partsJ x ≤ (layP x).length := by
  induction hx with
  | null => simp [partsJ, partsAll, J.null, layP]
  | fls => simp [partsJ, partsAll, J.fls, layP]
  | tru => simp [partsJ, partsAll, J.tru, layP]
  | nr n _ _ => exact layP_pos (.nr n ‹_› ‹_›)
  | tx t h => exact layP_pos (.tx t h)
  | list xs hm ih =>
    rw [layP_list]
    have h1 := joinC_sum (xs.map layP)
    have h2 := sum_le partsJ (fun x => (layP x).length) xs ih
    rw [List.map_map] at h1
    simp only [J.list, partsJ, partsAll_sum, List.length_cons, List.length_append, List.length_nil]
    have e : (List.length ∘ layP) = fun x => (layP x).length := rfl
    rw [e] at h1
    omega
  | obj ms hv ha hm ih =>
    rw [layP_obj]
    have h1 := joinC_sum (ms.map memP)
    rw [List.map_map] at h1
    have h2 := sum_le (fun m : List UInt8 × J => 1 + partsJ m.2) (List.length ∘ memP) ms fun m hm' => by
      have := ih m hm'
      simp only [Function.comp, memP, List.length_append, List.length_cons]
      omega
    rw [sum_add] at h2
    have h3 := sum_one ms
    simp only [J.obj, partsJ, partsAll_sum, List.length_cons, List.length_append, List.length_nil, List.length_map, List.map_map]
    have e : (partsJ ∘ fun m : List UInt8 × J => m.2) = fun m => partsJ m.2 := rfl
    rw [e]
    omega
theorem parse_null {s : List UInt8} {x : J} {e : Int} {p : Nat} (h : parseP s = (x, e, p)) (he : e ≠ 0) : x = J.null := by
  unfold parseP at h
  split at h
  · cases h; rfl
  · unfold readP at h
    split at h
    · cases h; rfl
    · split at h
      · cases h; rfl
      · cases h; exact absurd rfl he
/-- What is read of a text has few parts. -/
theorem parse_fine (s : List UInt8) : Fine (parseP s).1 ∧ Few 1000000 (parseP s).1 ∧ partsJ (parseP s).1 ≤ 4000 := by
  obtain ⟨X, E, A, hP⟩ : ∃ X E A, parseP s = (X, E, A) := ⟨_, _, _, rfl⟩
  rw [hP]
  show Fine X ∧ Few 1000000 X ∧ partsJ X ≤ 4000
  by_cases he : E = 0
  · subst he
    obtain ⟨m1, m2, m3, m4, -⟩ := parse_short hP
    have hf := fine_of (may_of X m1) (by omega)
    exact ⟨hf.1, hf.2, Nat.le_trans (parts_lay (may_of X m1)) (by omega)⟩
  · obtain rfl := parse_null hP he
    have hf := fine_of May.null (by simp [J.null, layP])
    exact ⟨hf.1, hf.2, by simp [partsJ, partsAll, J.null]⟩
theorem lens_of {T : TypeId} {z : Nat} {us : List Value} {w : World} (h : ∀ u ∈ us, ∃ l xs, l ≤ 1000000 ∧ w.ownsRow 0 T z u l xs) :
    ∃ lu : Nat → Nat, (∀ (j : Nat) u, us[j]? = some u → ∃ xs, w.ownsRow 0 T z u (lu j) xs) ∧ ∀ j, j < us.length → lu j ≤ 1000000 := by
  have key : ∀ j : Nat, ∃ l : Nat, ∀ u, us[j]? = some u → l ≤ 1000000 ∧ ∃ xs, w.ownsRow 0 T z u l xs := fun j => by
    cases hu : us[j]? with
    | none => exact ⟨0, fun u e => by cases e⟩
    | some u =>
      obtain ⟨l, xs, h0, h1⟩ := h u (List.mem_of_getElem? hu)
      exact ⟨l, fun u' e => by cases e; exact ⟨h0, xs, h1⟩⟩
  obtain ⟨lu, hlu⟩ := Classical.axiomOfChoice key
  exact ⟨lu, fun j u hu => (hlu j u hu).2, fun j hj => (hlu j _ (List.getElem?_eq_getElem hj)).1⟩
theorem bookG_new (w : World) : BookG w.heap.size w.heap.size (.slice none 0 0) (.slice none 0 0) [] [] (w.alloc (.cells #[.slice none 0 0, .slice none 0 0] 32)) :=
  ⟨heap_alloc_new w _, Nat.le_refl _, World.ownsRow_nil _ _ _ _, World.ownsRow_nil _ _ _ _⟩
end Go.Proofs.YtmajpambfblhnaaGreatDoor
