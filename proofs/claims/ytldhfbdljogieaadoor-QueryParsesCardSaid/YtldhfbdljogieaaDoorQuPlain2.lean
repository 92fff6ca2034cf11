/- Plain mathematics of forms (layer 3), second part: pieces, fields, Parse, Print, One on lists of bytes. -/
import Derived.Test.YtldhfbdljogieaaDoorQuPlain
import Derived.Lib.SplitLaws
import Derived.Lib.Join
namespace Go.Proofs.YtldhfbdljogieaaDoor.Qu

theorem snoc_ind {α : Type} {P : List α → Prop} (h0 : P []) (h1 : ∀ l a, P l → P (l ++ [a])) (l : List α) : P l := by
  have h : ∀ l : List α, P l.reverse := by
    intro l
    induction l with
    | nil => exact h0
    | cons a l ih => rw [List.reverse_cons]; exact h1 _ _ ih
  have := h l.reverse
  rwa [List.reverse_reverse] at this
/-- What rd answers: a text no longer than what was read; an error is 30 or 31, its place within; beside an error no text. -/
theorem rd_facts : ∀ (n : Nat) (l : List UInt8), l.length ≤ n → ∀ (out : List UInt8) (p : Nat),
    (rd out p l).1.length ≤ out.length + l.length ∧ (rd out p l).2.2 ≤ p + l.length ∧ (((rd out p l).2.1 = 0 ∧ (rd out p l).2.2 = 0) ∨ (((rd out p l).2.1 = 30 ∨ (rd out p l).2.1 = 31) ∧ (rd out p l).1 = [] ∧ (rd out p l).2.2 < p + l.length)) := by
  intro n
  induction n with
  | zero =>
    intro l hl out p
    obtain rfl : l = [] := List.eq_nil_of_length_eq_zero (by omega)
    simp [rd]
  | succ n ih =>
    intro l hl out p
    match l, hl with
    | [], _ => simp [rd]
    | c :: r, hl =>
      rw [List.length_cons] at hl
      by_cases h1 : c.toNat = 43
      · rw [rd_plus _ _ _ _ h1]
        obtain ⟨g1, g2, g3⟩ := ih r (by omega) (out ++ [32]) (p + 1)
        simp only [List.length_append, List.length_cons, List.length_nil] at g1 ⊢
        refine ⟨by omega, by omega, ?_⟩
        rcases g3 with g | ⟨ga, gb, gc⟩
        · exact .inl g
        · exact .inr ⟨ga, gb, by omega⟩
      · by_cases h2 : c.toNat = 37
        · by_cases hs : r.length < 2
          · rw [rd_short _ _ _ _ h2 hs]
            simp
          · match r, hs, hl with
            | a :: b :: r', _, hl =>
              simp only [List.length_cons] at hl
              by_cases hx : hexV a < 0 ∨ hexV b < 0
              · rw [rd_none _ _ _ _ _ _ h2 hx]
                simp
              · rw [rd_hex _ _ _ _ _ _ h2 hx]
                obtain ⟨g1, g2, g3⟩ := ih r' (by omega) (out ++ [(16 * hexV a + hexV b).toNat.toUInt8]) (p + 3)
                simp only [List.length_append, List.length_cons, List.length_nil] at g1 ⊢
                refine ⟨by omega, by omega, ?_⟩
                rcases g3 with g | ⟨ga, gb, gc⟩
                · exact .inl g
                · exact .inr ⟨ga, gb, by omega⟩
            | [], hs, _ => simp at hs
            | [_], hs, _ => simp at hs
        · by_cases h3 : c.toNat < 33 ∨ 126 < c.toNat ∨ c.toNat = 38 ∨ c.toNat = 61
          · rw [rd_bad _ _ _ _ h1 h2 h3]
            simp
          · rw [rd_self _ _ _ _ h1 h2 h3]
            obtain ⟨g1, g2, g3⟩ := ih r (by omega) (out ++ [c]) (p + 1)
            simp only [List.length_append, List.length_cons, List.length_nil] at g1 ⊢
            refine ⟨by omega, by omega, ?_⟩
            rcases g3 with g | ⟨ga, gb, gc⟩
            · exact .inl g
            · exact .inr ⟨ga, gb, by omega⟩
theorem rd_len (l : List UInt8) : (rd [] 0 l).1.length ≤ l.length := by have := (rd_facts l.length l (Nat.le_refl _) [] 0).1; simpa using this
theorem rd_at (l : List UInt8) : (rd [] 0 l).2.2 ≤ l.length := by have := (rd_facts l.length l (Nat.le_refl _) [] 0).2.1; simpa using this
theorem rd_err (l : List UInt8) : (rd [] 0 l).2.1 = 0 ∨ (rd [] 0 l).2.1 = 30 ∨ (rd [] 0 l).2.1 = 31 := by
  rcases (rd_facts l.length l (Nat.le_refl _) [] 0).2.2 with h | h
  · exact .inl h.1
  · exact .inr h.1
abbrev Fld := List UInt8 × List UInt8
def tw (p : List UInt8) : List UInt8 := p.takeWhile fun c => c ≠ 61
def dw (p : List UInt8) : List UInt8 := (p.dropWhile fun c => c ≠ 61).tail
/-- A piece of a form: the field, or the error's number and its place. -/
def fieldP (p : List UInt8) : Fld × Int × Nat :=
  if (rd [] 0 (tw p)).2.1 ≠ 0 then (([], []), (rd [] 0 (tw p)).2.1, (rd [] 0 (tw p)).2.2)
  else if (rd [] 0 (dw p)).2.1 ≠ 0 then (([], []), (rd [] 0 (dw p)).2.1, (tw p).length + 1 + (rd [] 0 (dw p)).2.2)
  else (((rd [] 0 (tw p)).1, (rd [] 0 (dw p)).1), 0, 0)
/-- The pieces of a text: what its ampersands part. -/
def pieces : List UInt8 → List (List UInt8)
  | [] => [[]]
  | c :: r => if c = 38 then [] :: pieces r else (c :: (pieces r).headD []) :: (pieces r).tail
def parseGo (acc : List Fld) (at' : Nat) : List (List UInt8) → List Fld × Int × Nat
  | [] => (acc, 0, 0)
  | p :: r =>
    if acc.length = 32 then ([], 32, at')
    else if p = [] then ([], 31, at')
    else if (fieldP p).2.1 ≠ 0 then ([], (fieldP p).2.1, at' + (fieldP p).2.2)
    else parseGo (acc ++ [(fieldP p).1]) (at' + p.length + 1) r
theorem parseGo_many (acc : List Fld) (a : Nat) (p : List UInt8) (r : List (List UInt8)) (h : acc.length = 32) : parseGo acc a (p :: r) = ([], 32, a) := by rw [parseGo, if_pos h]
theorem parseGo_empty (acc : List Fld) (a : Nat) (r : List (List UInt8)) (h : acc.length ≠ 32) : parseGo acc a ([] :: r) = ([], 31, a) := by rw [parseGo, if_neg h, if_pos rfl]
theorem parseGo_bad (acc : List Fld) (a : Nat) (p : List UInt8) (r : List (List UInt8)) (h : acc.length ≠ 32) (hp : p ≠ []) (he : (fieldP p).2.1 ≠ 0) : parseGo acc a (p :: r) = ([], (fieldP p).2.1, a + (fieldP p).2.2) := by rw [parseGo, if_neg h, if_neg hp, if_pos he]
theorem parseGo_ok (acc : List Fld) (a : Nat) (p : List UInt8) (r : List (List UInt8)) (h : acc.length ≠ 32) (hp : p ≠ []) (he : ¬ (fieldP p).2.1 ≠ 0) : parseGo acc a (p :: r) = parseGo (acc ++ [(fieldP p).1]) (a + p.length + 1) r := by rw [parseGo, if_neg h, if_neg hp, if_neg he]
def parse (l : List UInt8) : List Fld × Int × Nat := if l = [] then ([], 0, 0) else parseGo [] 0 (pieces l)

def oneStep (name : List UInt8) (st : List UInt8 × Nat) (f : Fld) : List UInt8 × Nat := if f.1 = name then (f.2, st.2 + 1) else st
def oneGo (l : List Fld) (name : List UInt8) : List UInt8 × Nat := l.foldl (oneStep name) ([], 0)
def oneP (l : List Fld) (name : List UInt8) : List UInt8 × Int := if (oneGo l name).2 = 0 then ([], 33) else if (oneGo l name).2 = 1 then ((oneGo l name).1, 0) else ([], 34)
theorem oneGo_snoc (l : List Fld) (f : Fld) (name : List UInt8) : oneGo (l ++ [f]) name = oneStep name (oneGo l name) f := by simp [oneGo]
theorem oneGo_le (l : List Fld) (name : List UInt8) : (oneGo l name).2 ≤ l.length := by
  induction l using snoc_ind with
  | h0 => simp [oneGo]
  | h1 l f ih =>
    rw [oneGo_snoc, List.length_append]
    unfold oneStep
    split <;> simp <;> omega

def fldP (f : Fld) : List UInt8 := esc f.1 ++ [61] ++ esc f.2
def printP (l : List Fld) : List UInt8 := Lib.join (l.map fldP) [38]
/-- How many bytes and items fields are. -/
def wt (l : List Fld) : Nat := (l.map fun f => f.1.length + f.2.length).sum + l.length
theorem wt_snoc (l : List Fld) (f : Fld) : wt (l ++ [f]) = wt l + f.1.length + f.2.length + 1 := by simp [wt]; omega
theorem fldP_le (f : Fld) : (fldP f).length ≤ 3 * (f.1.length + f.2.length) + 1 := by
  have h1 := esc_le f.1
  have h2 := esc_le f.2
  simp [fldP]; omega
theorem joinTail_snoc (sep : List UInt8) (r : List (List UInt8)) (x : List UInt8) : Lib.joinTail sep (r ++ [x]) = Lib.joinTail sep r ++ sep ++ x := by simp [Lib.joinTail]
theorem join_snoc (xs : List (List UInt8)) (x sep : List UInt8) (h : xs ≠ []) : Lib.join (xs ++ [x]) sep = Lib.join xs sep ++ sep ++ x := by
  cases xs with
  | nil => exact absurd rfl h
  | cons a r => rw [List.cons_append, Lib.join_cons, Lib.join_cons, joinTail_snoc]; simp
theorem printP_nil : printP [] = [] := rfl
theorem printP_one (f : Fld) : printP [f] = fldP f := by simp [printP, Lib.join_one]
theorem printP_snoc (l : List Fld) (f : Fld) (h : l ≠ []) : printP (l ++ [f]) = printP l ++ [38] ++ fldP f := by
  unfold printP
  rw [List.map_append]
  exact join_snoc _ _ _ (by simpa using h)
theorem printP_le (l : List Fld) : (printP l).length ≤ 3 * wt l := by
  induction l using snoc_ind with
  | h0 => simp [printP, Lib.join_nil]
  | h1 l f ih =>
    rw [wt_snoc]
    have h := fldP_le f
    by_cases hl : l = []
    · subst hl
      rw [List.nil_append, printP_one]
      omega
    · rw [printP_snoc l f hl]
      simp only [List.length_append, List.length_cons, List.length_nil]
      omega

theorem pieces_ne' (l : List UInt8) : pieces l ≠ [] := by
  cases l with
  | nil => simp [pieces]
  | cons c r => unfold pieces; split <;> simp
def psum (ps : List (List UInt8)) : Nat := (ps.map fun p => p.length + 1).sum
theorem psum_cons (p : List UInt8) (r : List (List UInt8)) : psum (p :: r) = p.length + 1 + psum r := by simp [psum]
theorem pieces_sum (l : List UInt8) : psum (pieces l) = l.length + 1 := by
  induction l with
  | nil => rfl
  | cons c r ih =>
    unfold pieces
    split
    · rw [psum_cons, ih]; simp; omega
    · have h := pieces_ne' r
      match hp : pieces r, h with
      | p :: q, _ =>
        rw [hp] at ih
        rw [psum_cons] at ih
        simp only [List.headD_cons, List.tail_cons, psum_cons, List.length_cons]
        omega
/-! ### The library's Split and Cut say the same -/
theorem index_mem (c : UInt8) : ∀ l : List UInt8, (Lib.index l [c] = -1 ∧ c ∉ l) ∨ ∃ i : Nat, Lib.index l [c] = i ∧ i < l.length ∧ l = l.take i ++ c :: l.drop (i + 1) ∧ c ∉ l.take i
  | [] => by left; exact ⟨by simp [Lib.index], by simp⟩
  | b :: l => by
    by_cases hb : b = c
    · subst hb
      right
      exact ⟨0, by simp [Lib.index, List.isPrefixOf], by simp, by simp, by simp⟩
    · have hp : ([c].isPrefixOf (b :: l)) = false := by
        simp [List.isPrefixOf, Ne.symm hb]
      rcases index_mem c l with ⟨h1, h2⟩ | ⟨i, h1, h2, h3, h4⟩
      · left
        refine ⟨?_, by simp [Ne.symm hb, h2]⟩
        rw [Lib.index, hp, h1]
        rfl
      · right
        refine ⟨i + 1, ?_, by simp; omega, ?_, by simp [Ne.symm hb, h4]⟩
        · rw [Lib.index, hp, h1]
          have : ((i : Int) == -1) = false := by simp
          rw [this]
          simp
        · simp only [List.take_succ_cons, List.drop_succ_cons, List.cons_append]
          exact congrArg (b :: ·) h3

theorem tw_split (a b : List UInt8) (h : (61 : UInt8) ∉ a) : tw (a ++ 61 :: b) = a ∧ dw (a ++ 61 :: b) = b := by
  induction a with
  | nil => simp [tw, dw]
  | cons x a ih =>
    have hx : x ≠ 61 := fun e => h (by simp [e])
    have h2 := ih (fun e => h (by simp [e]))
    simp only [tw, dw, List.cons_append] at h2 ⊢
    rw [List.takeWhile_cons_of_pos (by simpa using hx), List.dropWhile_cons_of_pos (by simpa using hx), h2.1]
    exact ⟨rfl, h2.2⟩
theorem tw_none (a : List UInt8) (h : (61 : UInt8) ∉ a) : tw a = a ∧ dw a = [] := by
  induction a with
  | nil => simp [tw, dw]
  | cons x a ih =>
    have hx : x ≠ 61 := fun e => h (by simp [e])
    have h2 := ih (fun e => h (by simp [e]))
    simp only [tw, dw] at h2 ⊢
    rw [List.takeWhile_cons_of_pos (by simpa using hx), List.dropWhile_cons_of_pos (by simpa using hx), h2.1]
    exact ⟨rfl, h2.2⟩
theorem cut_is (p : List UInt8) : (Lib.cut p [61]).1 = tw p ∧ (Lib.cut p [61]).2.1 = dw p := by
  unfold Lib.cut
  rcases index_mem 61 p with ⟨h1, h2⟩ | ⟨i, h1, h2, h3, h4⟩
  · rw [h1, if_neg (by decide)]
    exact ⟨(tw_none p h2).1.symm, (tw_none p h2).2.symm⟩
  · rw [h1, if_pos (by omega)]
    simp only [Int.toNat_natCast, List.length_cons, List.length_nil]
    obtain ⟨g1, g2⟩ := tw_split (p.take i) (p.drop (i + 1)) h4
    rw [← h3] at g1 g2
    exact ⟨g1.symm, g2.symm⟩

theorem pieces_ne (l : List UInt8) : pieces l ≠ [] := by
  cases l with
  | nil => simp [pieces]
  | cons c r => unfold pieces; split <;> simp
theorem pieces_none (a : List UInt8) (h : (38 : UInt8) ∉ a) : pieces a = [a] := by
  induction a with
  | nil => rfl
  | cons x a ih =>
    have hx : x ≠ 38 := fun e => h (by simp [e])
    unfold pieces
    rw [if_neg hx, ih (fun e => h (by simp [e]))]
    rfl
theorem pieces_split (a b : List UInt8) (h : (38 : UInt8) ∉ a) : pieces (a ++ 38 :: b) = a :: pieces b := by
  induction a with
  | nil => simp [pieces]
  | cons x a ih =>
    have hx : x ≠ 38 := fun e => h (by simp [e])
    rw [List.cons_append, pieces, if_neg hx, ih (fun e => h (by simp [e]))]
    rfl
theorem splitK_is : ∀ (k : Nat) (l : List UInt8), l.count 38 = k → Lib.splitK [38] 0 k l = pieces l
  | 0, l, h => by
    rw [pieces_none l (List.count_eq_zero.1 h)]; rfl
  | k + 1, l, h => by
    rcases index_mem 38 l with ⟨h1, h2⟩ | ⟨i, h1, h2, h3, h4⟩
    · rw [List.count_eq_zero.2 h2] at h; omega
    · have hc : (l.drop (i + 1)).count 38 = k := by
        have := congrArg (List.count 38) h3
        rw [List.count_append, List.count_cons_self, List.count_eq_zero.2 h4] at this
        omega
      rw [Lib.splitK, h1, if_neg (by simp)]
      simp only [Int.toNat_natCast, Nat.add_zero, List.length_cons, List.length_nil]
      rw [splitK_is k _ hc]
      conv => rhs; rw [h3, pieces_split _ _ h4]
end Go.Proofs.YtldhfbdljogieaaDoor.Qu
