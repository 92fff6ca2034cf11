/- Layer 4: what is written over by its owner: plain, and rows that are written in place. -/
import Derived.Test.YtmajpambfblhnaaGreatDoorJoM2
import Derived.Test.YtmajpambfblhnaaGreatDoorJoU2
namespace Go.Proofs.YtmajpambfblhnaaGreatDoor
open Go.RowKit Jo

namespace Jo
/-- A number one more. -/
def bumpJ : J → J
  | .mk k n t ns xs => .mk k (if k = 3 then IntKind.i64.wrap (n + 1) else n) t ns xs
mutual
/-- A value that its owner has written over: items turned round, numbers one more, names a letter longer. -/
def turnP : J → J
  | .mk k n t ns xs => .mk k n t (ns.map (· ++ [122])) (turnAll xs)
def turnAll : List J → List J
  | [] => []
  | x :: xs => turnAll xs ++ [bumpJ (turnP x)]
end
theorem turnAll_eq : ∀ xs, turnAll xs = (xs.map fun x => bumpJ (turnP x)).reverse
  | [] => rfl
  | x :: xs => by rw [turnAll, turnAll_eq xs]; simp
theorem turnAll_len (xs : List J) : (turnAll xs).length = xs.length := by rw [turnAll_eq]; simp
theorem turnAll_at {xs : List J} {j : Nat} {y : J} (h : (turnAll xs)[j]? = some y) : j < xs.length ∧ ∃ x, xs[xs.length - 1 - j]? = some x ∧ y = bumpJ (turnP x) := by
  have hj : j < xs.length := by have := (List.getElem?_eq_some_iff.1 h).1; rwa [turnAll_len] at this
  refine ⟨hj, ?_⟩
  rw [turnAll_eq, List.getElem?_reverse (by simpa using hj), List.length_map, List.getElem?_map] at h
  obtain ⟨x, hx, rfl⟩ := Option.map_eq_some_iff.1 h
  exact ⟨x, hx, rfl⟩
theorem mem_turnAll {xs : List J} {y : J} (h : y ∈ turnAll xs) : ∃ x ∈ xs, y = bumpJ (turnP x) := by
  rw [turnAll_eq, List.mem_reverse] at h
  obtain ⟨x, hx, rfl⟩ := List.mem_map.1 h
  exact ⟨x, hx, rfl⟩
theorem depth_bump (x : J) : depthP (bumpJ x) = depthP x := by cases x; rfl
theorem deepest_of {xs : List J} {m : Nat} (h : ∀ x ∈ xs, depthP x ≤ m) : deepest xs ≤ m := by
  induction xs with
  | nil => simp [deepest]
  | cons y ys ih =>
    have h1 := h y (by simp)
    have h2 := ih fun x hx => h x (by simp [hx])
    simp only [deepest]
    omega
theorem deepest_mem {xs : List J} {x : J} (h : x ∈ xs) : depthP x ≤ deepest xs := by
  induction xs with
  | nil => cases h
  | cons y ys ih =>
    simp only [deepest]
    rcases List.mem_cons.1 h with rfl | h
    · omega
    · have := ih h; omega
theorem depth_turn : ∀ x : J, depthP (turnP x) ≤ depthP x := by
  refine J.ind fun k n t ns xs IH => ?_
  rw [turnP]
  unfold depthP
  have : deepest (turnAll xs) ≤ deepest xs := deepest_of fun y hy => by
    obtain ⟨x, hx, rfl⟩ := mem_turnAll hy
    rw [depth_bump]
    exact Nat.le_trans (IH x hx) (deepest_mem hx)
  split <;> omega
theorem bulk_bump (x : J) : bulkJ (bumpJ x) = bulkJ x := by cases x; rfl
theorem sum_names (ns : List (List UInt8)) : ((ns.map (· ++ [122])).map fun l => l.length + 1).sum ≤ 2 * (ns.map fun l => l.length + 1).sum := by
  induction ns with
  | nil => simp
  | cons a l ih => simp only [List.map_cons, List.sum_cons, List.length_append, List.length_cons, List.length_nil] at ih ⊢; omega
theorem bulkAll_snoc (xs : List J) (x : J) : bulkAll (xs ++ [x]) = bulkAll xs + bulkJ x := by
  induction xs with
  | nil => simp [bulkAll]
  | cons y ys ih => simp only [List.cons_append, bulkAll, ih]; omega
theorem bulk_turn : ∀ x : J, bulkJ (turnP x) ≤ 2 * bulkJ x := by
  refine J.ind fun k n t ns xs IH => ?_
  rw [turnP]
  simp only [bulkJ]
  have h1 := sum_names ns
  have h2 : bulkAll (turnAll xs) ≤ 2 * bulkAll xs := by
    induction xs with
    | nil => simp [turnAll, bulkAll]
    | cons y ys ih =>
      have h3 := IH y (by simp)
      have h4 := ih fun x hx => IH x (by simp [hx])
      rw [turnAll, bulkAll_snoc, bulk_bump]
      simp only [bulkAll]
      omega
  omega
theorem bulk_mem {xs : List J} {x : J} (h : x ∈ xs) : bulkJ x ≤ bulkAll xs := by
  induction xs with
  | nil => cases h
  | cons y ys ih =>
    simp only [bulkAll]
    rcases List.mem_cons.1 h with rfl | h
    · omega
    · have := ih h; omega
theorem name_bulk {ns : List (List UInt8)} {l : List UInt8} (h : l ∈ ns) : l.length + 1 ≤ (ns.map fun l => l.length + 1).sum := by
  induction ns with
  | nil => cases h
  | cons a r ih =>
    simp only [List.map_cons, List.sum_cons]
    rcases List.mem_cons.1 h with rfl | h
    · omega
    · have := ih h; omega
end Jo
theorem few_bump {m : Nat} {x : J} (h : Few m x) : Few m (bumpJ x) := by
  cases h with | mk k n t ns xs h1 h2 h => exact .mk _ _ _ _ _ h1 h2 h
theorem few_turn {m : Nat} : ∀ x : J, Few m x → Few m (turnP x) := by
  refine J.ind fun k n t ns xs IH => ?_
  intro hf
  obtain ⟨h1, h2, h3⟩ := hf.inv
  simp only [J.names, J.items] at h1 h2 h3
  rw [turnP]
  refine .mk _ _ _ _ _ (by simpa using h1) (by rw [turnAll_len]; exact h2) fun j y hy => ?_
  obtain ⟨hj, x, hx, rfl⟩ := turnAll_at hy
  exact few_bump (IH x (List.mem_of_getElem? hx) (h3 _ x hx))
theorem short_of_bulk : ∀ x : J, bulkJ x ≤ 4611686018427387904 → Short9 x := by
  refine J.ind fun k n t ns xs IH => ?_
  intro hb
  simp only [bulkJ] at hb
  refine .mk _ _ _ _ _ (by omega) (fun l hl => by have := name_bulk hl; omega) fun j x hx => ?_
  have := bulk_mem (List.mem_of_getElem? hx)
  exact IH x (List.mem_of_getElem? hx) (by omega)

/-- The cells of us and more stand in the row at a. -/
def RowU (w : World) (a : Option Addr) (us : List Value) (rest : List Value) : Prop := us = [] ∨ ∃ g, a = some ⟨g, 0, none⟩ ∧ w.heap[g]? = some (.cells (jotCells us ++ rest).toArray 25 (0, 0))
/-- .. those of names. -/
def RowN (w : World) (a : Option Addr) (ls : List (List UInt8)) (rest : List Value) : Prop := ls = [] ∨ ∃ g, a = some ⟨g, 0, none⟩ ∧ w.heap[g]? = some (.cells (ls.map S ++ rest).toArray 9 (0, 0))
theorem RowU.kept {w w' : World} {ok : Nat → Prop} {a : Option Addr} {us rest : List Value} (h : RowU w a us rest) (hk : Kept ok w w') (hg : ∀ g, a = some ⟨g, 0, none⟩ → g < w.heap.size) (ho : ∀ g, a = some ⟨g, 0, none⟩ → ok g := by intros; trivial) : RowU w' a us rest := by
  rcases h with h | ⟨g, e, h⟩
  · exact .inl h
  · exact .inr ⟨g, e, (hk.block g (hg g e) (ho g e)).trans h⟩
theorem RowN.kept {w w' : World} {ok : Nat → Prop} {a : Option Addr} {ls : List (List UInt8)} {rest : List Value} (h : RowN w a ls rest) (hk : Kept ok w w') (hg : ∀ g, a = some ⟨g, 0, none⟩ → g < w.heap.size) (ho : ∀ g, a = some ⟨g, 0, none⟩ → ok g := by intros; trivial) : RowN w' a ls rest := by
  rcases h with h | ⟨g, e, h⟩
  · exact .inl h
  · exact .inr ⟨g, e, (hk.block g (hg g e) (ho g e)).trans h⟩
theorem jotCells_append (a b : List Value) : jotCells (a ++ b) = jotCells a ++ jotCells b := by simp [jotCells]
theorem split_at {α : Type} {l : List α} {i : Nat} {u : α} (h : l[i]? = some u) : ∃ A B, l = A ++ u :: B ∧ A.length = i := by
  obtain ⟨hi, e⟩ := List.getElem?_eq_some_iff.1 h
  refine ⟨l.take i, l.drop (i + 1), ?_, by rw [List.length_take]; omega⟩
  conv => lhs; rw [← List.take_append_drop i l]
  rw [List.drop_eq_getElem_cons hi, e]
theorem set5 {A B : List Value} {c0 c1 c2 c3 c4 d0 d1 d2 d3 d4 : Value} {rest : List Value} (hA : (jotCells A).length = A.length * 5) :
    (((((jotCells (A ++ .agg #[c0, c1, c2, c3, c4] :: B) ++ rest).toArray.setIfInBounds (A.length * 5) d0).setIfInBounds (A.length * 5 + 1) d1).setIfInBounds (A.length * 5 + 2) d2).setIfInBounds (A.length * 5 + 3) d3).setIfInBounds (A.length * 5 + 4) d4
      = (jotCells (A ++ .agg #[d0, d1, d2, d3, d4] :: B) ++ rest).toArray := by
  have e : ∀ a b c d f : Value, jotCells (A ++ .agg #[a, b, c, d, f] :: B) ++ rest = jotCells A ++ (a :: b :: c :: d :: f :: (jotCells B ++ rest)) := fun a b c d f => by
    rw [jotCells_append]; simp [jotCells, Value.cells]
  rw [e, e]
  apply Array.ext'
  simp only [Array.toList_setIfInBounds]
  have s : ∀ (m : Nat) (l : List Value) (v : Value), (jotCells A ++ l).set (A.length * 5 + m) v = jotCells A ++ l.set m v := fun m l v => by
    rw [List.set_append_right _ _ (by omega), hA, Nat.add_sub_cancel_left]
  have s0 := fun l v => s 0 l v
  simp only [Nat.add_zero] at s0
  rw [s0, s, s, s, s]
  rfl
/-- One value of a row is written over. -/
theorem RowU.set {w : World} {g : Nat} {us rest : List Value} {i : Nat} {c0 c1 c2 c3 c4 : Value} (h : w.heap[g]? = some (.cells (jotCells us ++ rest).toArray 25 (0, 0))) (h5 : ∀ u ∈ us, u.cells.size = 5) (hu : us[i]? = some (.agg #[c0, c1, c2, c3, c4])) (d0 d1 d2 d3 d4 : Value) :
    (((((w.setCell ⟨g, i * 5, none⟩ d0).setCell ⟨g, i * 5 + 1, none⟩ d1).setCell ⟨g, i * 5 + 2, none⟩ d2).setCell ⟨g, i * 5 + 3, none⟩ d3).setCell ⟨g, i * 5 + 4, none⟩ d4).heap[g]? = some (.cells (jotCells (us.set i (.agg #[d0, d1, d2, d3, d4])) ++ rest).toArray 25 (0, 0)) := by
  obtain ⟨A, B, rfl, rfl⟩ := split_at hu
  rw [setCell_heap (setCell_heap (setCell_heap (setCell_heap (setCell_heap h _) _) _) _) _, set5 (jotCells_len A fun u hu => h5 u (by simp [hu]))]
  rw [List.set_append_right _ _ (Nat.le_refl _), Nat.sub_self]
  rfl
theorem RowU.set1 {w : World} {g : Nat} {us rest : List Value} {i : Nat} {c0 c1 c2 c3 c4 : Value} (h : w.heap[g]? = some (.cells (jotCells us ++ rest).toArray 25 (0, 0))) (h5 : ∀ u ∈ us, u.cells.size = 5) (hu : us[i]? = some (.agg #[c0, c1, c2, c3, c4])) (d1 : Value) :
    (w.setCell ⟨g, i * 5 + 1, none⟩ d1).heap[g]? = some (.cells (jotCells (us.set i (.agg #[c0, d1, c2, c3, c4])) ++ rest).toArray 25 (0, 0)) := by
  obtain ⟨A, B, rfl, rfl⟩ := split_at hu
  rw [setCell_heap h _, List.set_append_right _ _ (Nat.le_refl _), Nat.sub_self]
  have hA := jotCells_len A fun u hu => h5 u (by simp [hu])
  have e : ∀ a b c d f : Value, jotCells (A ++ .agg #[a, b, c, d, f] :: B) ++ rest = jotCells A ++ (a :: b :: c :: d :: f :: (jotCells B ++ rest)) := fun a b c d f => by
    rw [jotCells_append]; simp [jotCells, Value.cells]
  congr 2
  rw [List.set_cons_zero, e, e]
  apply Array.ext'
  rw [Array.toList_setIfInBounds]
  simp only
  rw [List.set_append_right _ _ (by omega), hA, Nat.add_sub_cancel_left]
  rfl
theorem RowU.cells {w : World} {g : Nat} {us rest : List Value} {i : Nat} {c0 c1 c2 c3 c4 : Value} (h : w.heap[g]? = some (.cells (jotCells us ++ rest).toArray 25 (0, 0))) (h5 : ∀ u ∈ us, u.cells.size = 5) (hu : us[i]? = some (.agg #[c0, c1, c2, c3, c4])) :
    w.cell? ⟨g, i * 5, none⟩ = some c0 ∧ w.cell? ⟨g, i * 5 + 1, none⟩ = some c1 ∧ w.cell? ⟨g, i * 5 + 2, none⟩ = some c2 ∧ w.cell? ⟨g, i * 5 + 3, none⟩ = some c3 ∧ w.cell? ⟨g, i * 5 + 4, none⟩ = some c4 := by
  have hc := jotCells_at us h5 i _ hu
  have hl : ∀ m, m < 5 → (jotCells us ++ rest)[i * 5 + m]? = (#[c0, c1, c2, c3, c4] : Array Value).toList[m]? := fun m hm => by
    have h1 := hc m hm
    have h2 : i * 5 + m < (jotCells us).length := by
      rw [jotCells_len us h5]
      have := (List.getElem?_eq_some_iff.1 hu).1
      omega
    rw [List.getElem?_append_left h2, h1]
    rfl
  refine ⟨?_, ?_, ?_, ?_, ?_⟩ <;> rw [cell_of_row w g _ _ _ (0, 0) h, List.getElem?_toArray]
  · exact hl 0 (by omega)
  · exact hl 1 (by omega)
  · exact hl 2 (by omega)
  · exact hl 3 (by omega)
  · exact hl 4 (by omega)
theorem RowN.set {w : World} {g : Nat} {ls : List (List UInt8)} {rest : List Value} {i : Nat} (h : w.heap[g]? = some (.cells (ls.map S ++ rest).toArray 9 (0, 0))) (hi : i < ls.length) (l : List UInt8) :
    (w.setCell ⟨g, i, none⟩ (S l)).heap[g]? = some (.cells ((ls.set i l).map S ++ rest).toArray 9 (0, 0)) := by
  rw [setCell_heap h _]
  congr 2
  apply Array.ext'
  rw [Array.toList_setIfInBounds]
  simp only
  rw [List.set_append_left _ _ (by simpa using hi), List.map_set]
theorem RowN.cell {w : World} {g : Nat} {ls : List (List UInt8)} {rest : List Value} {i : Nat} {l : List UInt8} (h : w.heap[g]? = some (.cells (ls.map S ++ rest).toArray 9 (0, 0))) (hi : ls[i]? = some l) : w.cell? ⟨g, i, none⟩ = some (S l) := by
  rw [cell_of_row w g _ _ _ (0, 0) h, List.getElem?_toArray, List.getElem?_append_left (by simpa using (List.getElem?_eq_some_iff.1 hi).1), List.getElem?_map, hi]
  rfl
theorem RowN.of {B n : Nat} {v : Value} {ns : List (List UInt8)} {w : World} (h : w.ownsRow B 9 1 v n (ns.map S)) (hn : n = ns.length) : ∃ a c rest, v = .slice a ns.length c ∧ RowN w a ns rest ∧ (∀ g, a = some ⟨g, 0, none⟩ → ns.length ≤ c) ∧ ∀ b, a = some b → b = ⟨b.block, 0, none⟩ ∧ v.ownBlock = some b.block := by
  subst hn
  rcases h.2 with ⟨rfl, h0⟩ | ⟨g, cap, cur, rfl, hB, hg, h1, h2, h3, h4⟩
  · exact ⟨none, 0, [], by rw [h0], .inl (List.eq_nil_of_length_eq_zero h0), fun g e => (by cases e), fun b e => (by cases e)⟩
  · refine ⟨_, cap, cur.toList.drop (ns.length * 1), rfl, .inr ⟨g, rfl, ?_⟩, fun _ _ => h1, fun b e => (by cases e; exact ⟨rfl, rfl⟩)⟩
    rw [← h4, List.take_append_drop]
    exact hg
theorem RowU.of {B n : Nat} {v : Value} {us : List Value} {w : World} (h : w.ownsRow B 25 5 v n (jotCells us)) (hn : n = us.length) : ∃ a c rest, v = .slice a us.length c ∧ RowU w a us rest ∧ (∀ g, a = some ⟨g, 0, none⟩ → us.length ≤ c) ∧ ∀ b, a = some b → b = ⟨b.block, 0, none⟩ ∧ v.ownBlock = some b.block := by
  subst hn
  rcases h.2 with ⟨rfl, h0⟩ | ⟨g, cap, cur, rfl, hB, hg, h1, h2, h3, h4⟩
  · exact ⟨none, 0, [], by rw [h0], .inl (List.eq_nil_of_length_eq_zero h0), fun g e => (by cases e), fun b e => (by cases e)⟩
  · refine ⟨_, cap, cur.toList.drop (us.length * 5), rfl, .inr ⟨g, rfl, ?_⟩, fun _ _ => h1, fun b e => (by cases e; exact ⟨rfl, rfl⟩)⟩
    rw [← h4, List.take_append_drop]
    exact hg
end Go.Proofs.YtmajpambfblhnaaGreatDoor
