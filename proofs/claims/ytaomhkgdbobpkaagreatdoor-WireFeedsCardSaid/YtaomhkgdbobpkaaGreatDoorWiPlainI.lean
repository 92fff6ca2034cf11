/- Plain law of layer 5: messages printed one behind the other, and any bytes behind them, fed up to any place. -/
import Derived.Test.YtaomhkgdbobpkaaGreatDoorWiLY
namespace Go.Proofs.YtaomhkgdbobpkaaGreatDoor
open Wi
/-- A message that may be. -/
def ValidM (x : Msg) : Prop := restOk x.hs x.body = true ∧ isMethodP x.m = true ∧ isPathP x.p = true
def catP (xs : List Msg) : List UInt8 := (xs.map fun x => (printM x).1).flatten
theorem catP_snoc (xs : List Msg) (x : Msg) : catP (xs ++ [x]) = catP xs ++ (printM x).1 := by simp [catP]
theorem catP_len : ∀ {xs : List Msg}, (∀ x ∈ xs, ValidM x) → (catP xs).length ≤ 41000 * xs.length
  | [], _ => by simp [catP]
  | x :: xs, h => by
    have h1 := (printM_ok (h x (by simp)).1 (h x (by simp)).2.1 (h x (by simp)).2.2).2
    have h2 := catP_len (xs := xs) fun y hy => h y (by simp [hy])
    have e : catP (x :: xs) = (printM x).1 ++ catP xs := by simp [catP]
    rw [e, List.length_append, List.length_cons]
    omega
theorem cat_read : ∀ {xs : List Msg}, (∀ x ∈ xs, ValidM x) → ∃ ws : List R, ws.map msgOf = xs ∧ ∀ more, feedP (begin' false) (catP xs ++ more) = (ws ++ (feedP (begin' false) more).1, (feedP (begin' false) more).2)
  | [], _ => ⟨[], rfl, fun more => by simp [catP]⟩
  | x :: xs, h => by
    obtain ⟨v1, v2, v3⟩ := h x (by simp)
    obtain ⟨w, h1, h2, h3, -, h4, -⟩ := msg_pieces v1 v2 v3
    obtain ⟨ws, k1, k2⟩ := cat_read (xs := xs) fun y hy => h y (by simp [hy])
    refine ⟨w :: ws, ?_, fun more => ?_⟩
    · rw [List.map_cons, k1]
      congr 1
      unfold msgOf
      rw [h1, h2, h3]
      rfl
    · have e : catP (x :: xs) = (printM x).1 ++ catP xs := by simp [catP]
      rw [e, List.append_assoc, h4, k2]
      rfl
/-- Where the printed messages are cut: nothing is wrong. -/
theorem cat_fine {xs : List Msg} (h : ∀ x ∈ xs, ValidM x) (tail : List UInt8) {k : Nat} (hk : k ≤ (catP xs).length) : (feedP (begin' false) ((catP xs ++ tail).take k)).2.2 = 0 := by
  rw [List.take_append_of_le_length hk]
  obtain ⟨ws, -, k2⟩ := cat_read h
  have h0 := k2 []
  rw [List.append_nil] at h0
  by_cases he : (feedP (begin' false) ((catP xs).take k)).2.2 = 0
  · exact he
  · have := (feedP_fail ((catP xs).take k) (begin' false) ((catP xs).drop k) he).2
    rw [List.take_append_drop, h0] at this
    rw [← this]
    rfl
/-- The first messages that are told are those that were printed. -/
theorem cat_first {xs : List Msg} (h : ∀ x ∈ xs, ValidM x) (tail : List UInt8) : ∃ more, (feedP (begin' false) (catP xs ++ tail)).1.map msgOf = xs ++ more := by
  obtain ⟨ws, k1, k2⟩ := cat_read h
  exact ⟨(feedP (begin' false) tail).1.map msgOf, by rw [k2, List.map_append, k1]⟩
theorem feedP_len : ∀ (s : List UInt8) (r : R), (feedP r s).1.length ≤ s.length
  | [], r => by simp [feedP]
  | c :: s, r => by
    rw [feedP_cons]
    split
    · simp
    · split
      · have := feedP_len s (begin' false)
        simp only [List.length_cons]; omega
      · have := feedP_len s (takesP r c).1
        simp only [List.length_cons]; omega
theorem take_piece (s : List UInt8) {a b : Nat} (h : a ≤ b) : s.take b = s.take a ++ (s.drop a).take (b - a) := by
  have := List.take_add (l := s) (i := a) (j := b - a)
  rw [show a + (b - a) = b by omega] at this
  exact this
theorem feed_piece_ok (s : List UInt8) {a b : Nat} (h : a ≤ b) (he : (feedP (begin' false) (s.take a)).2.2 = 0) :
    feedP (begin' false) (s.take b) = ((feedP (begin' false) (s.take a)).1 ++ (feedP (feedP (begin' false) (s.take a)).2.1 ((s.drop a).take (b - a))).1, (feedP (feedP (begin' false) (s.take a)).2.1 ((s.drop a).take (b - a))).2) := by
  rw [take_piece s h]
  exact feedP_append _ _ _ he
theorem feed_piece_bad (s : List UInt8) {a b : Nat} (h : a ≤ b) (he : (feedP (begin' false) (s.take a)).2.2 ≠ 0) :
    (feedP (begin' false) (s.take b)).1 = (feedP (begin' false) (s.take a)).1 ∧ (feedP (begin' false) (s.take b)).2.2 = (feedP (begin' false) (s.take a)).2.2 := by
  rw [take_piece s h]
  exact feedP_fail _ _ _ he
end Go.Proofs.YtaomhkgdbobpkaaGreatDoor
