/- What the proof of this law needs, part 10: walks of the program's functions and plain laws (texts JoPlainB, JoQ1). -/
import Derived.Test.YtpcgfhleloonfaaGreatDoorZb9
import Derived.Lib.ItoaNum
import Derived.Lib.ValidU
import Derived.Lib.ValidLaws
import Derived.KernelRfl
namespace Go.Proofs.YtpcgfhleloonfaaGreatDoor
namespace Jo
/-- The letter that tells a byte behind a backslash; 0: there is none. -/
def signP (c : UInt8) : UInt8 := if c = 34 ∨ c = 92 then c else if c = 8 then 98 else if c = 9 then 116 else if c = 10 then 110 else if c = 12 then 102 else if c = 13 then 114 else 0
def hexD : List UInt8 := [48, 49, 50, 51, 52, 53, 54, 55, 56, 57, 97, 98, 99, 100, 101, 102]
/-- A byte as it stands in a printed text. -/
def quoteC (c : UInt8) : List UInt8 := if signP c ≠ 0 then [92, signP c] else if c < 32 then [92, 117, 48, 48, hexD.getD (c.toNat / 16) 0, hexD.getD (c.toNat % 16) 0] else [c]
def quoteP (s : List UInt8) : List UInt8 := 34 :: (s.flatMap quoteC ++ [34])
/-- With commas between. -/
def joinC : List (List UInt8) → List UInt8
  | [] => []
  | [a] => a
  | a :: r => a ++ 44 :: joinC r
theorem joinC_snoc : ∀ (l : List (List UInt8)) (a : List UInt8), l ≠ [] → joinC (l ++ [a]) = joinC l ++ 44 :: a := by
  intro l
  induction l with
  | nil => intro a h; exact absurd rfl h
  | cons x r ih =>
    intro a _
    cases r with
    | nil => simp [joinC]
    | cons y q =>
      have := ih a (by simp)
      simp only [List.cons_append, joinC] at this ⊢
      rw [this]
      simp
mutual
/-- A value as it is printed. -/
def layP : J → List UInt8
  | .mk k n t ns xs =>
    if k = 0 then [110, 117, 108, 108] else if k = 1 then [102, 97, 108, 115, 101] else if k = 2 then [116, 114, 117, 101] else if k = 3 then Lib.itoa n else if k = 4 then quoteP t
    else if k = 5 then 91 :: (joinC (layAll xs) ++ [93]) else 123 :: (joinC (List.zipWith (fun n y => quoteP n ++ 58 :: y) ns (layAll xs)) ++ [125])
def layAll : List J → List (List UInt8)
  | [] => []
  | x :: xs => layP x :: layAll xs
end
theorem layAll_map : ∀ xs, layAll xs = xs.map layP
  | [] => by simp [layAll]
  | x :: xs => by simp [layAll, layAll_map xs]
mutual
/-- How many lists and objects stand in one another. -/
def depthP : J → Nat
  | .mk k _ _ _ xs => if k = 5 ∨ k = 6 then deepest xs + 1 else 0
def deepest : List J → Nat
  | [] => 0
  | x :: xs => max (depthP x) (deepest xs)
end
theorem deepest_snoc : ∀ (xs : List J) (x : J), deepest (xs ++ [x]) = max (deepest xs) (depthP x)
  | [], x => by simp [deepest]
  | y :: xs, x => by simp only [List.cons_append, deepest, deepest_snoc xs x]; omega
/-- Names: valid, and rising. -/
def namesOk : List (List UInt8) → Bool
  | [] => true
  | [a] => Lib.validD a
  | a :: b :: r => Lib.validD a && ltB a b && namesOk (b :: r)
mutual
/-- May a value's parts be? -/
def mayP : J → Bool
  | .mk k n t ns xs =>
    if k = 0 ∨ k = 1 ∨ k = 2 then n == 0 && t == [] && ns == [] && xs.isEmpty
    else if k = 3 then t == [] && ns == [] && xs.isEmpty && decide (-9007199254740991 ≤ n) && decide (n ≤ 9007199254740991)
    else if k = 4 then n == 0 && ns == [] && xs.isEmpty && Lib.validD t
    else if k = 5 then n == 0 && t == [] && ns == [] && mays xs
    else if k = 6 then n == 0 && t == [] && ns.length == xs.length && namesOk ns && mays xs
    else false
def mays : List J → Bool
  | [] => true
  | x :: xs => mayP x && mays xs
end
theorem mays_all : ∀ xs, mays xs = xs.all mayP
  | [] => by simp [mays]
  | x :: xs => by simp [mays, mays_all xs]
/-- Print: the text and no error, or what is wrong. -/
def printP (x : J) : List UInt8 × Int := if mayP x = false then ([], 43) else if 16 < depthP x then ([], 41) else if 4000 < (layP x).length then ([], 44) else (layP x, 0)
end Jo
end Go.Proofs.YtpcgfhleloonfaaGreatDoor
namespace Go.Proofs.YtpcgfhleloonfaaGreatDoor
namespace Jo
-- at a place
theorem at_drop {s l : List UInt8} {i : Nat} (h : s.drop i = l) (j : Nat) : s[i + j]? = l[j]? := by rw [← h, List.getElem?_drop]
theorem at0 {s l : List UInt8} {i : Nat} {c : UInt8} (h : s.drop i = c :: l) : s[i]? = some c := by simpa using at_drop h 0
theorem drop_app {s a r : List UInt8} {i : Nat} (h : s.drop i = a ++ r) : s.drop (i + a.length) = r := by rw [← List.drop_drop, h, List.drop_left]
theorem drop_tl {s r : List UInt8} {i : Nat} {c : UInt8} (h : s.drop i = c :: r) : s.drop (i + 1) = r := drop_app (a := [c]) h
theorem drop_len {s l : List UInt8} {i : Nat} (h : s.drop i = l) : l.length = s.length - i := by rw [← h, List.length_drop]
-- letters
def followW : Nat → UInt8 → UInt8 → List UInt8 → Bool
  | 0, _, _, _ => true
  | _ + 1, _, _, [] => false
  | m + 1, lo, hi, x :: r => decide (lo ≤ x) && decide (x ≤ hi) && followW m 128 191 r
/-- How many bytes the letter in front has, if there is one. -/
def letW : List UInt8 → Option Nat
  | [] => none
  | c :: r => if c < 128 then some 1 else if (behindP c).2.2 = 0 then none else if followW (behindP c).2.2 (behindP c).1 (behindP c).2.1 r then some ((behindP c).2.2 + 1) else none
theorem letW_cons (c : UInt8) (r : List UInt8) : letW (c :: r) = if c < 128 then some 1 else if (behindP c).2.2 = 0 then none else if followW (behindP c).2.2 (behindP c).1 (behindP c).2.1 r then some ((behindP c).2.2 + 1) else none := rfl
theorem followW_app : ∀ (m : Nat) (lo hi : UInt8) (t r : List UInt8), followW m lo hi t = true → followW m lo hi (t ++ r) = true
  | 0, _, _, _, _, _ => by simp [followW]
  | _ + 1, _, _, [], _, h => by simp [followW] at h
  | m + 1, lo, hi, x :: t, r, h => by
    simp only [followW, List.cons_append, Bool.and_eq_true] at h ⊢
    exact ⟨h.1, followW_app m _ _ t r h.2⟩
theorem followW_take : ∀ (m : Nat) (lo hi : UInt8) (t : List UInt8), followW m lo hi t = true → followW m lo hi (t.take m) = true
  | 0, _, _, _, _ => by simp [followW]
  | _ + 1, _, _, [], h => by simp [followW] at h
  | m + 1, lo, hi, x :: t, h => by
    rw [List.take_succ_cons]
    simp only [followW, Bool.and_eq_true] at h ⊢
    exact ⟨h.1, followW_take m _ _ t h.2⟩
theorem followW_len : ∀ (m : Nat) (lo hi : UInt8) (t : List UInt8), 128 ≤ lo → followW m lo hi t = true → m ≤ t.length ∧ ∀ b ∈ t.take m, 128 ≤ b
  | 0, _, _, _, _, _ => by simp
  | _ + 1, _, _, [], _, h => by simp [followW] at h
  | m + 1, lo, hi, x :: t, hl, h => by
    simp only [followW, Bool.and_eq_true, decide_eq_true_eq] at h
    have := followW_len m 128 191 t (by decide) h.2
    refine ⟨by simp only [List.length_cons]; omega, fun b hb => ?_⟩
    rw [List.take_succ_cons] at hb
    rcases List.mem_cons.1 hb with rfl | hb
    · rw [UInt8.le_iff_toNat_le] at *; omega
    · exact this.2 b hb
theorem followP_eq {s : List UInt8} : ∀ (m : Nat) (lo hi : UInt8) (i : Nat) (l : List UInt8), s.drop i = l → (followW m lo hi l = true ∧ followP s m lo hi i = .ok () (i + m)) ∨ (followW m lo hi l = false ∧ ∃ j, followP s m lo hi i = .bad 40 j)
  | 0, _, _, _, _, _ => .inl ⟨by simp [followW], rfl⟩
  | m + 1, lo, hi, i, [], h => .inr ⟨rfl, i, by
      have : s[i]? = none := by simpa using at_drop h 0
      unfold followP; rw [this]⟩
  | m + 1, lo, hi, i, x :: r, h => by
    unfold followP followW
    rw [at0 h]
    by_cases hx : x < lo ∨ hi < x
    · right
      refine ⟨?_, i, by simp [hx]⟩
      have : ¬ (lo ≤ x ∧ x ≤ hi) := by simp only [UInt8.le_iff_toNat_le, UInt8.lt_iff_toNat_lt] at *; omega
      by_cases h1 : lo ≤ x
      · have h2 : ¬ x ≤ hi := fun e => this ⟨h1, e⟩
        simp [h2]
      · simp [h1]
    · have h1 : lo ≤ x := by simp only [UInt8.le_iff_toNat_le, UInt8.lt_iff_toNat_lt] at *; omega
      have h2 : x ≤ hi := by simp only [UInt8.le_iff_toNat_le, UInt8.lt_iff_toNat_lt] at *; omega
      simp only [if_neg hx, h1, h2, decide_true, Bool.true_and]
      rcases followP_eq m 128 191 (i + 1) r (drop_tl h) with ⟨e1, e2⟩ | ⟨e1, e2⟩
      · exact .inl ⟨e1, by rw [e2]; congr 1; omega⟩
      · exact .inr ⟨e1, e2⟩
theorem letterP_eq {s l : List UInt8} {i : Nat} (h : s.drop i = l) : (∃ k, letW l = some k ∧ letterP s i = .ok () (i + k)) ∨ (letW l = none ∧ ∃ j, letterP s i = .bad 40 j) := by
  cases l with
  | nil =>
    have : s[i]? = none := by simpa using at_drop h 0
    exact .inr ⟨rfl, i, by unfold letterP; rw [this]⟩
  | cons c r =>
    unfold letterP
    rw [at0 h, letW_cons]
    by_cases h1 : c < 128
    · left; exact ⟨1, by simp [h1], by simp [h1]⟩
    · simp only [if_neg h1]
      by_cases h2 : (behindP c).2.2 = 0
      · right; simp [h2]
      · simp only [if_neg h2]
        rcases followP_eq (behindP c).2.2 (behindP c).1 (behindP c).2.1 (i + 1) r (drop_tl h) with ⟨e1, e2⟩ | ⟨e1, e2⟩
        · left; exact ⟨(behindP c).2.2 + 1, by simp [e1], by rw [e2]; congr 1; omega⟩
        · right; exact ⟨by simp [e1], e2⟩
theorem letW_app {t : List UInt8} {k : Nat} (r : List UInt8) (h : letW t = some k) : letW (t ++ r) = some k := by
  cases t with
  | nil => simp [letW] at h
  | cons c t =>
    rw [List.cons_append]
    rw [letW_cons] at h ⊢
    split at h
    · rename_i h1; rw [if_pos h1]; exact h
    · rename_i h1
      rw [if_neg h1]
      split at h
      · cases h
      · rename_i h2
        rw [if_neg h2]
        split at h
        · rename_i h3; rw [if_pos (followW_app _ _ _ _ _ h3)]; exact h
        · cases h
theorem letW_take {t : List UInt8} {k : Nat} (h : letW t = some k) : letW (t.take k) = some k := by
  cases t with
  | nil => simp [letW] at h
  | cons c t =>
    rw [letW_cons] at h
    split at h
    · rename_i h1; cases h; simp [letW, h1]
    · rename_i h1
      split at h
      · cases h
      · rename_i h2
        split at h
        · rename_i h3
          cases h
          rw [List.take_succ_cons, letW_cons]
          rw [if_neg h1, if_neg h2, if_pos (followW_take _ _ _ _ h3)]
        · cases h
theorem behind_lo (c : UInt8) : 128 ≤ (behindP c).1 := by
  unfold behindP; simp only; split
  · decide
  · split <;> decide
theorem letW_some {t : List UInt8} {k : Nat} (h : letW t = some k) : 1 ≤ k ∧ k ≤ t.length ∧ ((k = 1 ∧ ∃ c r, t = c :: r ∧ c < 128) ∨ (∀ b ∈ t.take k, 128 ≤ b)) := by
  cases t with
  | nil => simp [letW] at h
  | cons c t =>
    rw [letW_cons] at h
    split at h
    · rename_i h1; cases h; exact ⟨Nat.le_refl _, by simp, .inl ⟨rfl, c, t, rfl, h1⟩⟩
    · rename_i h1
      split at h
      · cases h
      · split at h
        · rename_i h3
          cases h
          obtain ⟨e1, e2⟩ := followW_len _ _ _ _ (behind_lo c) h3
          refine ⟨by omega, by simp only [List.length_cons]; omega, .inr fun b hb => ?_⟩
          rw [List.take_succ_cons] at hb
          rcases List.mem_cons.1 hb with rfl | hb
          · rw [UInt8.le_iff_toNat_le]; rw [UInt8.lt_iff_toNat_lt] at h1; omega
          · exact e2 b hb
        · cases h
theorem tab_fin : ∀ c : Fin 256, 128 ≤ c.val → ((behindP (UInt8.ofNat c.val)).2.2 = 0 ∧ Lib.firstT c.val % 8 = 1) ∨ (((behindP (UInt8.ofNat c.val)).2.2 = 1 ∨ (behindP (UInt8.ofNat c.val)).2.2 = 2 ∨ (behindP (UInt8.ofNat c.val)).2.2 = 3) ∧
    Lib.firstT c.val % 8 = (behindP (UInt8.ofNat c.val)).2.2 + 1 ∧ Lib.accLo (Lib.firstT c.val / 16) = (behindP (UInt8.ofNat c.val)).1.toNat ∧ Lib.accHi (Lib.firstT c.val / 16) = (behindP (UInt8.ofNat c.val)).2.1.toNat) := by decide +kernel
theorem tab_of (c : UInt8) (h : ¬ c < 128) : ((behindP c).2.2 = 0 ∧ Lib.firstT c.toNat % 8 = 1) ∨ (((behindP c).2.2 = 1 ∨ (behindP c).2.2 = 2 ∨ (behindP c).2.2 = 3) ∧
    Lib.firstT c.toNat % 8 = (behindP c).2.2 + 1 ∧ Lib.accLo (Lib.firstT c.toNat / 16) = (behindP c).1.toNat ∧ Lib.accHi (Lib.firstT c.toNat / 16) = (behindP c).2.1.toNat) := by
  have := tab_fin ⟨c.toNat, c.toNat_lt⟩ (by rw [UInt8.lt_iff_toNat_lt] at h; simp at h ⊢; omega)
  simpa using this
theorem validD_letW (l : List UInt8) (hne : l ≠ []) : Lib.validD l = match letW l with | none => false | some k => Lib.validD (l.drop k) := by
  cases l with
  | nil => exact absurd rfl hne
  | cons c r =>
    by_cases h1 : c < 128
    · rw [Lib.validD_cons c r (by rw [UInt8.lt_iff_toNat_lt] at h1; exact h1)]
      simp [letW, h1]
    · rw [Lib.validD_lead (c :: r) hne (by rw [UInt8.lt_iff_toNat_lt] at h1; simp at h1 ⊢; omega)]
      have hk : letW (c :: r) = if (behindP c).2.2 = 0 then none else if followW (behindP c).2.2 (behindP c).1 (behindP c).2.1 r then some ((behindP c).2.2 + 1) else none := by
        rw [letW_cons, if_neg h1]
      rw [hk]
      have e0 : (c :: r).getD 0 0 = c := rfl
      rw [e0]
      rcases tab_of c h1 with ⟨e1, e2⟩ | ⟨e1, e2, e3, e4⟩
      · rw [e1, e2]; simp [Lib.checkN]
      · rw [e2, e3, e4]
        obtain ⟨lo, hlo⟩ : ∃ lo, (behindP c).1 = lo := ⟨_, rfl⟩
        obtain ⟨hi, hhi⟩ : ∃ lo, (behindP c).2.1 = lo := ⟨_, rfl⟩
        rw [hlo, hhi]
        have key : ∀ m, (m = 1 ∨ m = 2 ∨ m = 3) → Lib.checkN (c :: r).length ((c :: r).getD 1 0).toNat ((c :: r).getD 2 0).toNat ((c :: r).getD 3 0).toNat (m + 1) lo.toNat hi.toNat = if followW m lo hi r then some (m + 1) else none := by
          intro m hm
          rcases r with _ | ⟨x, _ | ⟨y, _ | ⟨z, r⟩⟩⟩ <;> rcases hm with rfl | rfl | rfl <;> simp [Lib.checkN, followW, UInt8.le_iff_toNat_le]
          all_goals (split <;> split <;> first | rfl | (exfalso; omega))
        rw [key _ e1]
        have : ¬ (behindP c).2.2 = 0 := by omega
        rw [if_neg this]
        generalize (if followW (behindP c).2.2 lo hi r = true then some ((behindP c).2.2 + 1) else none) = o
        cases o <;> rfl
-- texts
theorem sign_eq : ∀ c : UInt8, (c = 34 ∧ signP c = 34) ∨ (c = 92 ∧ signP c = 92) ∨ (c = 8 ∧ signP c = 98) ∨ (c = 9 ∧ signP c = 116) ∨ (c = 10 ∧ signP c = 110) ∨ (c = 12 ∧ signP c = 102) ∨ (c = 13 ∧ signP c = 114) ∨
    (c ≠ 34 ∧ c ≠ 92 ∧ c ≠ 8 ∧ c ≠ 9 ∧ c ≠ 10 ∧ c ≠ 12 ∧ c ≠ 13 ∧ signP c = 0) := by
  intro c
  unfold signP
  by_cases h1 : c = 34
  · exact .inl ⟨h1, by subst h1; rfl⟩
  by_cases h2 : c = 92
  · exact .inr (.inl ⟨h2, by subst h2; rfl⟩)
  by_cases h3 : c = 8
  · exact .inr (.inr (.inl ⟨h3, by subst h3; rfl⟩))
  by_cases h4 : c = 9
  · exact .inr (.inr (.inr (.inl ⟨h4, by subst h4; rfl⟩)))
  by_cases h5 : c = 10
  · exact .inr (.inr (.inr (.inr (.inl ⟨h5, by subst h5; rfl⟩))))
  by_cases h6 : c = 12
  · exact .inr (.inr (.inr (.inr (.inr (.inl ⟨h6, by subst h6; rfl⟩)))))
  by_cases h7 : c = 13
  · exact .inr (.inr (.inr (.inr (.inr (.inr (.inl ⟨h7, by subst h7; rfl⟩))))))
  · exact .inr (.inr (.inr (.inr (.inr (.inr (.inr ⟨h1, h2, h3, h4, h5, h6, h7, by simp [h1, h2, h3, h4, h5, h6, h7]⟩))))))
theorem quoteC_le (c : UInt8) : 1 ≤ (quoteC c).length ∧ (quoteC c).length ≤ 6 := by
  unfold quoteC
  split
  · simp
  · split <;> simp
theorem quoteC_self (c : UInt8) (h1 : c ≠ 34) (h2 : c ≠ 92) (h3 : ¬ c < 32) : quoteC c = [c] := by
  have hs : signP c = 0 := by
    rcases sign_eq c with ⟨h, _⟩ | ⟨h, _⟩ | ⟨rfl, _⟩ | ⟨rfl, _⟩ | ⟨rfl, _⟩ | ⟨rfl, _⟩ | ⟨rfl, _⟩ | ⟨_, _, _, _, _, _, _, h⟩
    · exact absurd h h1
    · exact absurd h h2
    · exact absurd (by decide) h3
    · exact absurd (by decide) h3
    · exact absurd (by decide) h3
    · exact absurd (by decide) h3
    · exact absurd (by decide) h3
    · exact h
  unfold quoteC
  rw [if_neg (by simp [hs]), if_neg h3]
theorem quoteC_hi (c : UInt8) (h : 128 ≤ c) : quoteC c = [c] := by
  rw [UInt8.le_iff_toNat_le] at h
  refine quoteC_self c (fun e => by subst e; revert h; decide) (fun e => by subst e; revert h; decide) (fun e => ?_)
  rw [UInt8.lt_iff_toNat_lt] at e
  have : (32 : UInt8).toNat = 32 := rfl
  have : (128 : UInt8).toNat = 128 := rfl
  omega
theorem quote_his : ∀ l : List UInt8, (∀ b ∈ l, 128 ≤ b) → l.flatMap quoteC = l
  | [], _ => rfl
  | c :: l, h => by rw [List.flatMap_cons, quoteC_hi c (h c (by simp)), quote_his l (fun b hb => h b (by simp [hb]))]; rfl
theorem quote_len : ∀ l : List UInt8, l.length ≤ (l.flatMap quoteC).length
  | [] => by simp
  | c :: l => by
    have := quote_len l
    have := quoteC_le c
    rw [List.flatMap_cons, List.length_append, List.length_cons]; omega
theorem escP_sign {s : List UInt8} {i : Nat} {c : UInt8} (h : signP c ≠ 0) (hs : s[i]? = some (signP c)) : escP s i = .ok [c] (i + 1) := by
  unfold escP
  rw [hs]
  rcases sign_eq c with ⟨rfl, e⟩ | ⟨rfl, e⟩ | ⟨rfl, e⟩ | ⟨rfl, e⟩ | ⟨rfl, e⟩ | ⟨rfl, e⟩ | ⟨rfl, e⟩ | ⟨_, _, _, _, _, _, _, e⟩
  case inr.inr.inr.inr.inr.inr.inr => exact absurd e h
  all_goals (rw [e]; rfl)
theorem hex_fin : ∀ c : Fin 32, hexZ (hexD.getD (c.val / 16) 0) = ((c.val / 16 : Nat) : Int) ∧ hexZ (hexD.getD (c.val % 16) 0) = ((c.val % 16 : Nat) : Int) := by decide +kernel
theorem hex48 : hexZ 48 = 0 := by decide
theorem enc_low (c : UInt8) (h : c.toNat < 128) : Lib.encodeRune (c.toNat : Int) = [c] := by
  unfold Lib.encodeRune
  rw [Lib.encodeRuneZ_one (by omega) (by omega)]
  simp
theorem hexP_at {s : List UInt8} {i : Nat} {c : UInt8} {lo hi n : Int} (h : s[i]? = some c) (hz : hexZ c = n) (h1 : lo ≤ n) (h2 : n ≤ hi) : hexP s lo hi i = .ok n (i + 1) := by
  unfold hexP
  rw [h]
  simp only [hz]
  rw [if_neg (by omega)]
theorem escP_hex {s r : List UInt8} {i : Nat} {c : UInt8} (hc : c < 32) (h : s.drop i = 117 :: 48 :: 48 :: hexD.getD (c.toNat / 16) 0 :: hexD.getD (c.toNat % 16) 0 :: r) : escP s i = .ok [c] (i + 5) := by
  have hl : c.toNat < 32 := by rw [UInt8.lt_iff_toNat_lt] at hc; exact hc
  obtain ⟨x1, x2⟩ := hex_fin ⟨c.toNat, hl⟩
  have g0 := at_drop h 0
  have g1 := at_drop h 1
  have g2 := at_drop h 2
  have g3 := at_drop h 3
  have g4 := at_drop h 4
  simp only [Nat.add_zero, List.getElem?_cons_zero, List.getElem?_cons_succ] at g0 g1 g2 g3 g4
  unfold escP
  rw [g0]
  obtain ⟨x, hx⟩ : ∃ x : Int, ((c.toNat / 16 : Nat) : Int) = x := ⟨_, rfl⟩
  obtain ⟨y, hy⟩ : ∃ x : Int, ((c.toNat % 16 : Nat) : Int) = x := ⟨_, rfl⟩
  have e1 : hexZ (hexD.getD (c.toNat / 16) 0) = x := by rw [← hx]; exact x1
  have e2 : hexZ (hexD.getD (c.toNat % 16) 0) = y := by rw [← hy]; exact x2
  have hxy : ((0 * 16 + 0) * 16 + x) * 16 + y = c.toNat := by omega
  have hp : pointP s (i + 1) = .ok (c.toNat : Int) (i + 5) := by
    unfold pointP
    rw [hexP_at (lo := 0) (hi := 15) g1 hex48 (by omega) (by omega), PR.bind_ok, if_neg (by omega : ¬ (0 : Int) = 13), hexP_at (i := i + 1 + 1) (lo := 0) (hi := 15) g2 hex48 (by omega) (by omega), PR.bind_ok,
      hexP_at (i := i + 1 + 1 + 1) (lo := 0) (hi := 15) g3 e1 (by omega) (by omega), PR.bind_ok, hexP_at (i := i + 1 + 1 + 1 + 1) (lo := 0) (hi := 15) g4 e2 (by omega) (by omega), PR.bind_ok, hxy, if_pos (by omega)]
  simp only [show ¬ ((117 : UInt8) = 34 ∨ (117 : UInt8) = 92 ∨ (117 : UInt8) = 47) by decide, show ¬ (117 : UInt8) = 98 by decide, show ¬ (117 : UInt8) = 102 by decide, show ¬ (117 : UInt8) = 110 by decide, show ¬ (117 : UInt8) = 114 by decide, show ¬ (117 : UInt8) = 116 by decide, if_false, if_true]
  rw [hp, PR.bind_ok, enc_low c (by omega)]
theorem textL_quote (s : List UInt8) (seen : List (List UInt8)) : ∀ (n : Nat) (t acc r : List UInt8) (i f : Nat), t.length ≤ n → t.length < f → Lib.validD t = true → acc ++ t ∉ seen → s.drop i = t.flatMap quoteC ++ 34 :: r →
    textL s seen f acc i = .ok (acc ++ t) (i + (t.flatMap quoteC).length + 1) := by
  intro n
  induction n with
  | zero =>
    intro t acc r i f hn hf hv hm h
    obtain rfl : t = [] := List.eq_nil_of_length_eq_zero (by omega)
    obtain ⟨f, rfl⟩ : ∃ g, f = g + 1 := ⟨f - 1, by omega⟩
    unfold textL
    rw [at0 (by simpa using h)]
    simp only [List.append_nil] at hm ⊢
    simp [hm]
  | succ n ih =>
    intro t acc r i f hn hf hv hm h
    obtain ⟨f, rfl⟩ : ∃ g, f = g + 1 := ⟨f - 1, by omega⟩
    cases t with
    | nil =>
      unfold textL
      rw [at0 (by simpa using h)]
      simp only [List.append_nil] at hm ⊢
      simp [hm]
    | cons c t =>
      rw [List.flatMap_cons, List.append_assoc] at h
      have hlen : ((c :: t).flatMap quoteC).length = (quoteC c).length + (t.flatMap quoteC).length := by rw [List.flatMap_cons, List.length_append]
      rw [hlen]
      simp only [List.length_cons] at hn hf
      have hacc : acc ++ c :: t = (acc ++ [c]) ++ t := by simp
      by_cases hs : signP c = 0
      · by_cases h32 : c < 32
        · have hq : quoteC c = [92, 117, 48, 48, hexD.getD (c.toNat / 16) 0, hexD.getD (c.toNat % 16) 0] := by unfold quoteC; rw [if_neg (by simp [hs]), if_pos h32]
          have h' := drop_app h
          rw [hq] at h h' ⊢
          have hv' : Lib.validD t = true := by rw [← Lib.validD_cons c t (by rw [UInt8.lt_iff_toNat_lt] at h32; have : (32 : UInt8).toNat = 32 := rfl; omega)]; exact hv
          unfold textL
          rw [at0 (by simpa using h)]
          simp only [show ¬ (92 : UInt8) = 34 by decide, if_false, if_true]
          rw [escP_hex (i := i + 1) h32 (r := t.flatMap quoteC ++ 34 :: r) (drop_tl (by simpa using h))]
          simp only [PR.bind_ok]
          rw [hacc] at hm ⊢
          rw [ih t (acc ++ [c]) r (i + 1 + 5) f (by omega) (by omega) hv' hm (by simpa using h')]
          congr 1
          simp only [List.length_cons, List.length_nil]; omega
        · have hne : c ≠ 34 ∧ c ≠ 92 := by
            rcases sign_eq c with ⟨rfl, e⟩ | ⟨rfl, e⟩ | ⟨rfl, e⟩ | ⟨rfl, e⟩ | ⟨rfl, e⟩ | ⟨rfl, e⟩ | ⟨rfl, e⟩ | ⟨h1, h2, _, _, _, _, _, e⟩
            case inr.inr.inr.inr.inr.inr.inr => exact ⟨h1, h2⟩
            all_goals (rw [hs] at e; exact absurd e (by decide))
          have hq : quoteC c = [c] := quoteC_self c hne.1 hne.2 h32
          rw [validD_letW _ (by simp)] at hv
          cases hw : letW (c :: t) with
          | none => rw [hw] at hv; simp at hv
          | some k =>
            rw [hw] at hv
            obtain ⟨k1, k2, k3⟩ := letW_some hw
            -- the text stands from here on with its first letter whole
            have hsplit : (c :: t).flatMap quoteC = (c :: t).take k ++ ((c :: t).drop k).flatMap quoteC := by
              conv => lhs; rw [← List.take_append_drop k (c :: t)]
              rw [List.flatMap_append]
              congr 1
              rcases k3 with ⟨rfl, _⟩ | k3
              · simp [hq]
              · exact quote_his _ k3
            have h2 : s.drop i = (c :: t).take k ++ (((c :: t).drop k).flatMap quoteC ++ 34 :: r) := by
              rw [← List.append_assoc, ← hsplit, List.flatMap_cons, List.append_assoc]; exact h
            have hwt : letW ((c :: t).take k) = some k := letW_take hw
            have hw2 : letW (s.drop i) = some k := by rw [h2]; exact letW_app _ hwt
            have hlk : ((c :: t).take k).length = k := by rw [List.length_take]; omega
            unfold textL
            have h0 : s[i]? = some c := by rw [hq] at h; exact at0 h
            rw [h0]
            simp only [if_neg hne.1, if_neg hne.2, if_neg h32]
            rcases letterP_eq (s := s) (i := i) rfl with ⟨k', e1, e2⟩ | ⟨e1, _⟩
            · obtain rfl : k = k' := by rw [hw2] at e1; simpa using e1
              rw [e2]
              simp only [PR.bind_ok]
              have e3 : (s.drop i).take (i + k - i) = (c :: t).take k := by
                rw [show i + k - i = k by omega, h2, List.take_append_of_le_length (by omega), List.take_take, Nat.min_self]
              rw [e3]
              have e4 : acc ++ c :: t = (acc ++ (c :: t).take k) ++ (c :: t).drop k := by rw [List.append_assoc, List.take_append_drop]
              rw [e4] at hm ⊢
              have h3 := drop_app h2
              rw [hlk] at h3
              rw [ih _ (acc ++ (c :: t).take k) r (i + k) f (by rw [List.length_drop, List.length_cons]; omega) (by rw [List.length_drop, List.length_cons]; omega) hv hm h3]
              congr 1
              rw [← hlen, hsplit, List.length_append, hlk]
              omega
            · rw [hw2] at e1; cases e1
      · have hq : quoteC c = [92, signP c] := by unfold quoteC; rw [if_pos hs]
        have h' := drop_app h
        rw [hq] at h h' ⊢
        have hc : c.toNat < 128 := by
          rcases sign_eq c with ⟨rfl, e⟩ | ⟨rfl, e⟩ | ⟨rfl, e⟩ | ⟨rfl, e⟩ | ⟨rfl, e⟩ | ⟨rfl, e⟩ | ⟨rfl, e⟩ | ⟨_, _, _, _, _, _, _, e⟩
          case inr.inr.inr.inr.inr.inr.inr => exact absurd e hs
          all_goals decide
        have hv' : Lib.validD t = true := by rw [← Lib.validD_cons c t hc]; exact hv
        unfold textL
        rw [at0 (by simpa using h)]
        simp only [show ¬ (92 : UInt8) = 34 by decide, if_false, if_true]
        have h1 : s[i + 1]? = some (signP c) := by simpa using at_drop h 1
        rw [escP_sign hs h1]
        simp only [PR.bind_ok]
        rw [hacc] at hm ⊢
        rw [ih t (acc ++ [c]) r (i + 1 + 1) f (by omega) (by omega) hv' hm (by simpa using h')]
        congr 1
        simp only [List.length_cons, List.length_nil]; omega
theorem textP_quote {s r t : List UInt8} {seen : List (List UInt8)} {i : Nat} (hv : Lib.validD t = true) (hm : t ∉ seen) (h : s.drop i = quoteP t ++ r) : textP s seen i = .ok t (i + (quoteP t).length) := by
  unfold quoteP at h ⊢
  have h1 : s.drop i = 34 :: (t.flatMap quoteC ++ 34 :: r) := by rw [h]; simp
  have h2 := drop_tl h1
  unfold textP wantP
  rw [if_pos (at0 h1)]
  simp only [PR.bind_ok]
  have hl := drop_len h1
  have := quote_len t
  simp only [List.length_cons, List.length_append] at hl
  rw [textL_quote s seen t.length t [] r (i + 1) (s.length + 1) (Nat.le_refl _) (by omega) hv (by simpa using hm) h2]
  simp
  omega
end Jo
end Go.Proofs.YtpcgfhleloonfaaGreatDoor
namespace Go.Proofs.YtpcgfhleloonfaaGreatDoor
namespace Jo
def noDig (r : List UInt8) : Prop := ∀ c, r[0]? = some c → isDig c = false
-- numbers
theorem digit_of {d : Nat} (h : d < 10) : isDig (UInt8.ofNat (48 + d)) = true ∧ ((UInt8.ofNat (48 + d)).toNat : Int) - 48 = d := by
  have : ∀ d : Fin 10, isDig (UInt8.ofNat (48 + d.val)) = true ∧ ((UInt8.ofNat (48 + d.val)).toNat : Int) - 48 = d.val := by decide
  exact this ⟨d, h⟩
theorem digP_dec : ∀ (u : Nat) (r : List UInt8) (i : Nat), (u : Int) ≤ 9007199254740991 → digP 0 (Lib.decDigits u ++ r) i = digP u r (i + Lib.nDigits u) := by
  intro u
  induction u using Nat.strongRecOn with
  | _ u ih =>
    intro r i hu
    by_cases h : u < 10
    · rw [Lib.decDigits, dif_pos h, Lib.nDigits_small h]
      obtain ⟨h1, h2⟩ := digit_of h
      simp only [List.cons_append, List.nil_append]
      rw [digP, if_pos h1, h2, if_neg (by omega)]
      simp
    · rw [Lib.decDigits, dif_neg h, Lib.nDigits_big h, List.append_assoc, ih (u / 10) (by omega) _ _ (by omega)]
      obtain ⟨h1, h2⟩ := digit_of (d := u % 10) (by omega)
      simp only [List.cons_append, List.nil_append]
      rw [digP, if_pos h1, h2]
      have e : 10 * ((u / 10 : Nat) : Int) + ((u % 10 : Nat) : Int) = u := by omega
      rw [e, if_neg (by omega)]
      rfl
theorem dec_head : ∀ u : Nat, ∃ c l, Lib.decDigits u = c :: l ∧ isDig c = true ∧ (c = 48 → u = 0) := by
  intro u
  induction u using Nat.strongRecOn with
  | _ u ih =>
    by_cases h : u < 10
    · rw [Lib.decDigits, dif_pos h]
      have : ∀ d : Fin 10, isDig (UInt8.ofNat (48 + d.val)) = true ∧ (UInt8.ofNat (48 + d.val) = 48 → d.val = 0) := by decide
      obtain ⟨h1, h2⟩ := this ⟨u, h⟩
      exact ⟨_, _, rfl, h1, h2⟩
    · rw [Lib.decDigits, dif_neg h]
      obtain ⟨c, l, e, h1, h2⟩ := ih (u / 10) (by omega)
      exact ⟨c, l ++ _, by rw [e]; rfl, h1, fun e => by have := h2 e; omega⟩
theorem digP_stop (n : Int) (r : List UInt8) (i : Nat) (h : noDig r) : digP n r i = .ok n i := by
  cases r with
  | nil => rfl
  | cons c r => rw [digP, if_neg (by rw [h c rfl]; simp)]
theorem numQ_dec {s r : List UInt8} {u i : Nat} (sg : Int) (hu : (u : Int) ≤ 9007199254740991) (hr : noDig r) (h : s.drop i = Lib.decDigits u ++ r) : numQ s sg i = .ok (sg * u) (i + Lib.nDigits u) := by
  obtain ⟨c, l, e, h1, h2⟩ := dec_head u
  have h0 : s[i]? = some c := by rw [e] at h; exact at0 h
  unfold numQ
  rw [h0]
  simp only
  rw [if_neg (by rw [h1]; simp)]
  by_cases hc : c = 48
  · obtain rfl := h2 hc
    rw [if_pos hc, Lib.nDigits_small (by omega)]
    simp
  · rw [if_neg hc, h, digP_dec u r i hu, digP_stop _ _ _ hr]
    rfl
theorem numP_lay {s r : List UInt8} {n : Int} {i : Nat} (h1 : -9007199254740991 ≤ n) (h2 : n ≤ 9007199254740991) (hr : noDig r) (h : s.drop i = Lib.itoa n ++ r) : numP s i = .ok n (i + (Lib.itoa n).length) := by
  unfold Lib.itoa at h ⊢
  unfold numP
  by_cases hn : n < 0
  · rw [if_pos hn] at h ⊢
    rw [if_pos (at0 h), numQ_dec (-1) (by omega) hr (drop_tl h)]
    rw [List.length_cons, Lib.decDigits_length]
    congr 1
    · omega
    · omega
  · rw [if_neg hn] at h ⊢
    obtain ⟨c, l, e, h3, _⟩ := dec_head n.toNat
    have h0 : s[i]? = some c := by rw [e] at h; exact at0 h
    have hc : c ≠ 45 := fun e => by subst e; revert h3; decide
    rw [if_neg (by rw [h0]; simpa using hc), numQ_dec 1 (by omega) hr h, Lib.decDigits_length]
    congr 1
    omega
-- words, blanks
theorem wordP_app {s r : List UInt8} : ∀ (w : List UInt8) (i : Nat), s.drop i = w ++ r → wordP s w i = .ok () (i + w.length)
  | [], i, _ => rfl
  | c :: w, i, h => by
    unfold wordP
    rw [if_pos (at0 h), wordP_app w (i + 1) (drop_tl h), List.length_cons]
    congr 1; omega
theorem bl_app {s r : List UInt8} {c : UInt8} {i : Nat} (h : s.drop i = c :: r) (hc : isBl c = false) : bl s i = i := bl_no s i c (at0 h) hc
-- rows with commas
theorem joinC_cons2 (a b : List UInt8) (l : List (List UInt8)) : joinC (a :: b :: l) = a ++ 44 :: joinC (b :: l) := rfl
theorem joinC_len : ∀ l : List (List UInt8), l ≠ [] → (joinC l).length + 1 = (l.map List.length).sum + l.length
  | [], h => absurd rfl h
  | [a], _ => by simp [joinC]
  | a :: b :: l, _ => by
    have := joinC_len (b :: l) (by simp)
    rw [joinC_cons2, List.length_append, List.length_cons, List.map_cons, List.sum_cons, List.length_cons]
    omega
theorem joinC_one (a : List UInt8) : joinC [a] = a := rfl
/-- The value that stands at a place is read as it. -/
def Rd (s : List UInt8) (val : Nat → PR J) (x : J) (l : List UInt8) : Prop := ∀ (i : Nat) (r : List UInt8), noDig r → s.drop i = l ++ r → val i = .ok x (i + l.length)
theorem noDig_cons {c : UInt8} (r : List UInt8) (h : isDig c = false) : noDig (c :: r) := fun d hd => by
  obtain rfl : c = d := by simpa using hd
  exact h
theorem listL_lay (s : List UInt8) (val : Nat → PR J) : ∀ (xs : List J) (acc : List J) (i f : Nat) (r : List UInt8), xs ≠ [] → xs.length ≤ f → (∀ x ∈ xs, Rd s val x (layP x)) → s.drop i = joinC (xs.map layP) ++ 93 :: r →
    listL s val f acc i = .ok (acc ++ xs) (i + (joinC (xs.map layP)).length + 1)
  | [], _, _, _, _, h, _, _, _ => absurd rfl h
  | [x], acc, i, f, r, _, hf, hv, h => by
    obtain ⟨f, rfl⟩ : ∃ g, f = g + 1 := ⟨f - 1, by simp at hf; omega⟩
    unfold listL
    simp only [List.map_cons, List.map_nil, joinC_one] at h ⊢
    rw [hv x (by simp) i (93 :: r) (noDig_cons _ rfl) h]
    simp only [PR.bind_ok]
    have h2 := drop_app h
    have hb := bl_app h2 rfl
    rw [hb, at0 h2]
    simp
  | x :: y :: xs, acc, i, f, r, _, hf, hv, h => by
    obtain ⟨f, rfl⟩ : ∃ g, f = g + 1 := ⟨f - 1, by simp at hf; omega⟩
    have hj : joinC ((x :: y :: xs).map layP) = layP x ++ 44 :: joinC ((y :: xs).map layP) := rfl
    rw [hj] at h ⊢
    rw [List.append_assoc, List.cons_append] at h
    unfold listL
    rw [hv x (by simp) i _ (noDig_cons _ rfl) h]
    simp only [PR.bind_ok]
    have h2 := drop_app h
    have hb := bl_app h2 rfl
    rw [hb, at0 h2]
    simp only [if_true]
    rw [listL_lay s val (y :: xs) (acc ++ [x]) _ f r (by simp) (by simp at hf ⊢; omega) (fun z hz => hv z (by simp [hz])) (drop_tl h2)]
    simp only [List.append_assoc, List.cons_append, List.nil_append, List.length_append, List.length_cons]
    congr 1
    omega
def memP (m : List UInt8 × J) : List UInt8 := quoteP m.1 ++ 58 :: layP m.2
theorem nodup_last {acc ms : List (List UInt8 × J)} {m : List UInt8 × J} (h : ((acc ++ m :: ms).map (·.1)).Nodup) : m.1 ∉ acc.map (·.1) := by
  rw [List.map_append, List.map_cons] at h
  intro hm
  exact (List.nodup_append.1 h).2.2 _ hm _ (by simp) rfl
theorem objL_lay (s : List UInt8) (val : Nat → PR J) : ∀ (ms acc : List (List UInt8 × J)) (i f : Nat) (r : List UInt8), ms ≠ [] → ms.length ≤ f → (∀ m ∈ ms, Rd s val m.2 (layP m.2) ∧ Lib.validD m.1 = true) → ((acc ++ ms).map (·.1)).Nodup →
    s.drop i = joinC (ms.map memP) ++ 125 :: r → objL s val f acc i = .ok (acc ++ ms) (i + (joinC (ms.map memP)).length + 1)
  | [], _, _, _, _, h, _, _, _, _ => absurd rfl h
  | [m], acc, i, f, r, _, hf, hv, hn, h => by
    obtain ⟨f, rfl⟩ : ∃ g, f = g + 1 := ⟨f - 1, by simp at hf; omega⟩
    obtain ⟨n, x⟩ := m
    obtain ⟨hv1, hv2⟩ := hv (n, x) (by simp)
    simp only [List.map_cons, List.map_nil, joinC_one] at h ⊢
    have h' := h
    unfold memP at h' ⊢
    simp only [List.append_assoc, List.cons_append] at h' ⊢
    have hq : s.drop i = 34 :: (n.flatMap quoteC ++ [34] ++ (58 :: (layP x ++ 125 :: r))) := by rw [h']; simp [quoteP]
    unfold objL
    rw [bl_app hq rfl, textP_quote hv2 (nodup_last hn) h']
    simp only [PR.bind_ok]
    have h2 := drop_app h'
    rw [bl_app h2 rfl]
    unfold wantP
    rw [if_pos (at0 h2)]
    simp only [PR.bind_ok]
    have h3 := drop_tl h2
    rw [hv1 _ (125 :: r) (noDig_cons _ rfl) h3]
    simp only [PR.bind_ok]
    have h4 := drop_app h3
    rw [bl_app h4 rfl, at0 h4]
    simp
    omega
  | m :: m2 :: ms, acc, i, f, r, _, hf, hv, hn, h => by
    obtain ⟨f, rfl⟩ : ∃ g, f = g + 1 := ⟨f - 1, by simp at hf; omega⟩
    have hj : joinC ((m :: m2 :: ms).map memP) = memP m ++ 44 :: joinC ((m2 :: ms).map memP) := rfl
    rw [hj] at h ⊢
    obtain ⟨n, x⟩ := m
    obtain ⟨hv1, hv2⟩ := hv (n, x) (by simp)
    have h' := h
    have hmem : memP (n, x) = quoteP n ++ 58 :: layP x := rfl
    rw [hmem] at h' ⊢
    simp only [List.append_assoc, List.cons_append] at h' ⊢
    have hq : s.drop i = 34 :: (n.flatMap quoteC ++ [34] ++ (58 :: (layP x ++ 44 :: (joinC ((m2 :: ms).map memP) ++ 125 :: r)))) := by rw [h']; simp [quoteP]
    unfold objL
    rw [bl_app hq rfl, textP_quote hv2 (nodup_last hn) h']
    simp only [PR.bind_ok]
    have h2 := drop_app h'
    rw [bl_app h2 rfl]
    unfold wantP
    rw [if_pos (at0 h2)]
    simp only [PR.bind_ok]
    have h3 := drop_tl h2
    rw [hv1 _ _ (noDig_cons _ rfl) h3]
    simp only [PR.bind_ok]
    have h4 := drop_app h3
    rw [bl_app h4 rfl, at0 h4]
    simp only [if_true]
    rw [objL_lay s val (m2 :: ms) (acc ++ [(n, x)]) _ f r (by simp) (by simp at hf ⊢; omega) (fun z hz => hv z (by simp [hz])) (by simpa using hn) (drop_tl h4)]
    simp only [List.append_assoc, List.cons_append, List.nil_append, List.length_append, List.length_cons]
    congr 1
    omega
theorem namesOk_iff : ∀ ns : List (List UInt8), namesOk ns = true ↔ (∀ n ∈ ns, Lib.validD n = true) ∧ ns.Pairwise fun a b => ltB a b = true
  | [] => by simp [namesOk]
  | [a] => by simp [namesOk]
  | a :: b :: r => by
    have ih := namesOk_iff (b :: r)
    simp only [namesOk, Bool.and_eq_true, ih]
    constructor
    · rintro ⟨⟨h1, h2⟩, h3, h4⟩
      refine ⟨fun n hn => ?_, List.pairwise_cons.2 ⟨fun c hc => ?_, h4⟩⟩
      · rcases List.mem_cons.1 hn with rfl | hn
        · exact h1
        · exact h3 n hn
      · rcases List.mem_cons.1 hc with rfl | hc
        · exact h2
        · exact ltB_trans h2 ((List.pairwise_cons.1 h4).1 c hc)
    · rintro ⟨h1, h2⟩
      have h3 := List.pairwise_cons.1 h2
      exact ⟨⟨h1 a (by simp), h3.1 b (by simp)⟩, fun n hn => h1 n (by simp [hn]), h3.2⟩
theorem foldl_insM_asc_id : ∀ (l acc : List (List UInt8 × J)), Asc (acc ++ l) → l.foldl (fun l m => insM m l) acc = acc ++ l
  | [], acc, _ => by simp
  | m :: r, acc, h => by
    rw [List.foldl_cons]
    have hi : ∀ a : List (List UInt8 × J), (∀ y ∈ a, ltB y.1 m.1 = true) → insM m a = a ++ [m] := by
      intro a
      induction a with
      | nil => intro _; rfl
      | cons y a ih =>
        intro hy
        unfold insM
        rw [if_pos (hy y (by simp)), ih (fun z hz => hy z (by simp [hz]))]
        rfl
    have ha : ∀ y ∈ acc, ltB y.1 m.1 = true := fun y hy => (List.pairwise_append.1 h).2.2 y hy m (by simp)
    rw [hi acc ha, foldl_insM_asc_id r (acc ++ [m]) (by simpa using h)]
    simp
theorem sortM_id {l : List (List UInt8 × J)} (h : Asc l) : sortM l = l := by unfold sortM; rw [foldl_insM_asc_id l [] (by simpa using h)]; rfl
theorem asc_nodup {l : List (List UInt8)} (h : l.Pairwise fun a b => ltB a b = true) : l.Nodup := h.imp fun {a b} hab e => by subst e; rw [ltB_irrefl] at hab; cases hab
theorem zip_lay : ∀ (ns : List (List UInt8)) (xs : List J), List.zipWith (fun n y => quoteP n ++ 58 :: y) ns (layAll xs) = (ns.zip xs).map memP
  | [], xs => by simp
  | n :: ns, [] => by simp [layAll]
  | n :: ns, x :: xs => by simp [layAll, zip_lay ns xs, memP]
theorem deepest_le {xs : List J} {k : Nat} (h : deepest xs ≤ k) : ∀ x ∈ xs, depthP x ≤ k := by
  induction xs with
  | nil => simp
  | cons y ys ih =>
    simp only [deepest] at h
    intro x hx
    rcases List.mem_cons.1 hx with rfl | hx
    · omega
    · exact ih (by omega) x hx
theorem deepest_max {xs : List J} {k : Nat} (h : ∀ x ∈ xs, depthP x ≤ k) : deepest xs ≤ k := by
  induction xs with
  | nil => simp [deepest]
  | cons y ys ih =>
    simp only [deepest]
    have := h y (by simp)
    have := ih fun x hx => h x (by simp [hx])
    omega
theorem layP_null : layP J.null = [110, 117, 108, 108] := by simp [layP, J.null]
theorem layP_fls : layP J.fls = [102, 97, 108, 115, 101] := by simp [layP, J.fls]
theorem layP_tru : layP J.tru = [116, 114, 117, 101] := by simp [layP, J.tru]
theorem layP_nr (n : Int) : layP (J.nr n) = Lib.itoa n := by simp [layP, J.nr]
theorem layP_tx (t : List UInt8) : layP (J.tx t) = quoteP t := by simp [layP, J.tx]
theorem layP_list (xs : List J) : layP (J.list xs) = 91 :: (joinC (xs.map layP) ++ [93]) := by simp [layP, J.list, layAll_map]
theorem layP_obj (ms : List (List UInt8 × J)) : layP (J.obj ms) = 123 :: (joinC (ms.map memP) ++ [125]) := by
  have : (ms.map (·.1)).zip (ms.map (·.2)) = ms := by
    induction ms with
    | nil => rfl
    | cons m ms ih => simp [ih]
  simp [layP, J.obj, zip_lay, this]
/-- What may be is of one of these kinds. -/
inductive May : J → Prop where
  | null : May J.null
  | fls : May J.fls
  | tru : May J.tru
  | nr (n : Int) (h1 : -9007199254740991 ≤ n) (h2 : n ≤ 9007199254740991) : May (J.nr n)
  | tx (t : List UInt8) (h : Lib.validD t = true) : May (J.tx t)
  | list (xs : List J) (h : ∀ x ∈ xs, May x) : May (J.list xs)
  | obj (ms : List (List UInt8 × J)) (h : ∀ m ∈ ms, Lib.validD m.1 = true) (ha : Asc ms) (hm : ∀ m ∈ ms, May m.2) : May (J.obj ms)
theorem zip_fst {α β : Type} : ∀ (a : List α) (b : List β), a.length = b.length → (a.zip b).map (·.1) = a
  | [], _, _ => by simp
  | x :: a, [], h => by simp at h
  | x :: a, y :: b, h => by simp [zip_fst a b (by simpa using h)]
theorem zip_snd {α β : Type} : ∀ (a : List α) (b : List β), a.length = b.length → (a.zip b).map (·.2) = b
  | a, [], _ => by simp
  | [], y :: b, h => by simp at h
  | x :: a, y :: b, h => by simp [zip_snd a b (by simpa using h)]
theorem may_of : ∀ x, mayP x = true → May x := by
  apply J.ind
  intro k n t ns xs ih h
  unfold mayP at h
  split at h
  · rename_i hk
    simp only [Bool.and_eq_true, beq_iff_eq, List.isEmpty_iff] at h
    obtain ⟨⟨⟨rfl, rfl⟩, rfl⟩, rfl⟩ := h
    rcases hk with rfl | rfl | rfl
    · exact .null
    · exact .fls
    · exact .tru
  · split at h
    · rename_i hk
      simp only [Bool.and_eq_true, beq_iff_eq, List.isEmpty_iff, decide_eq_true_eq] at h
      obtain ⟨⟨⟨⟨rfl, rfl⟩, rfl⟩, h1⟩, h2⟩ := h
      subst hk
      exact .nr n h1 h2
    · split at h
      · rename_i hk
        simp only [Bool.and_eq_true, beq_iff_eq, List.isEmpty_iff] at h
        obtain ⟨⟨⟨rfl, rfl⟩, rfl⟩, h1⟩ := h
        subst hk
        exact .tx t h1
      · split at h
        · rename_i hk
          simp only [Bool.and_eq_true, beq_iff_eq, mays_all, List.all_eq_true] at h
          obtain ⟨⟨⟨rfl, rfl⟩, rfl⟩, h1⟩ := h
          subst hk
          exact .list xs fun x hx => ih x hx (h1 x hx)
        · split at h
          · rename_i hk
            simp only [Bool.and_eq_true, beq_iff_eq, mays_all, List.all_eq_true] at h
            obtain ⟨⟨⟨⟨rfl, rfl⟩, hl⟩, hn⟩, h1⟩ := h
            subst hk
            have hn := (namesOk_iff ns).1 hn
            have e : J.mk 6 0 [] ns xs = J.obj (ns.zip xs) := by
              unfold J.obj
              rw [zip_fst _ _ hl, zip_snd _ _ hl]
            rw [e]
            refine .obj _ (fun m hm => hn.1 _ (List.of_mem_zip hm).1) ?_ (fun m hm => ih _ (List.of_mem_zip hm).2 (h1 _ (List.of_mem_zip hm).2))
            have := hn.2
            rw [← zip_fst ns xs hl, List.pairwise_map] at this
            exact this
          · cases h
theorem may_to : ∀ x, May x → mayP x = true := by
  intro x h
  induction h with
  | null => simp [mayP, J.null]
  | fls => simp [mayP, J.fls]
  | tru => simp [mayP, J.tru]
  | nr n h1 h2 => simp [mayP, J.nr, h1, h2]
  | tx t h => simp [mayP, J.tx, h]
  | list xs _ ih => simpa [mayP, J.list, mays_all] using ih
  | obj ms h ha _ ih =>
    have hn : namesOk (ms.map (·.1)) = true := (namesOk_iff _).2 ⟨by simpa using fun a b hm => h (a, b) hm, by rw [List.pairwise_map]; exact ha⟩
    simp only [mayP, J.obj, mays_all, hn]
    simpa using fun a b hm => ih (a, b) hm
theorem valP_same (s : List UInt8) (k i : Nat) : ∃ li ob, valP s k i = valQ s li ob (bl s i) := by
  cases k with
  | zero => exact ⟨_, _, rfl⟩
  | succ k => exact ⟨_, _, rfl⟩
theorem depthP_list (xs : List J) : depthP (J.list xs) = deepest xs + 1 := by simp [depthP, J.list]
theorem depthP_obj (ms : List (List UInt8 × J)) : depthP (J.obj ms) = deepest (ms.map (·.2)) + 1 := by simp [depthP, J.obj]
theorem layP_front {x : J} (h : May x) : ∃ c l, layP x = c :: l ∧ isBl c = false ∧ c ≠ 93 := by
  cases h with
  | null => exact ⟨_, _, layP_null, rfl, by decide⟩
  | fls => exact ⟨_, _, layP_fls, rfl, by decide⟩
  | tru => exact ⟨_, _, layP_tru, rfl, by decide⟩
  | nr n _ _ =>
    rw [layP_nr]
    unfold Lib.itoa
    split
    · exact ⟨_, _, rfl, rfl, by decide⟩
    · obtain ⟨c, l, e, h, _⟩ := dec_head n.toNat
      refine ⟨c, l, e, ?_⟩
      have : ∀ c : Fin 256, isDig (UInt8.ofNat c.val) = true → isBl (UInt8.ofNat c.val) = false ∧ UInt8.ofNat c.val ≠ 93 := by decide +kernel
      have := this ⟨c.toNat, c.toNat_lt⟩
      simp only [UInt8.ofNat_toNat] at this
      exact this h
  | tx t _ => exact ⟨_, _, layP_tx t, rfl, by decide⟩
  | list xs _ => exact ⟨_, _, layP_list xs, rfl, by decide⟩
  | obj ms _ _ _ => exact ⟨_, _, layP_obj ms, rfl, by decide⟩
theorem layP_pos {x : J} (h : May x) : 1 ≤ (layP x).length := by
  obtain ⟨c, l, e, _, _⟩ := layP_front h
  rw [e]; simp
theorem sum_len {α : Type} (f : α → List UInt8) : ∀ l : List α, (∀ x ∈ l, 1 ≤ (f x).length) → l.length ≤ ((l.map f).map List.length).sum
  | [], _ => by simp
  | x :: l, h => by
    have := sum_len f l fun y hy => h y (by simp [hy])
    have := h x (by simp)
    simp only [List.map_cons, List.sum_cons, List.length_cons]
    omega
theorem valP_lay {x : J} (hx : May x) : ∀ (s : List UInt8) (k : Nat), depthP x ≤ k → Rd s (valP s k) x (layP x) := by
  induction hx with
  | null =>
    intro s k _ i r _ h
    obtain ⟨li, ob, e⟩ := valP_same s k i
    rw [layP_null] at h ⊢
    rw [e, bl_app h rfl]
    unfold valQ
    rw [at0 h]
    simp only [if_true]
    rw [wordP_app _ _ h]
    rfl
  | fls =>
    intro s k _ i r _ h
    obtain ⟨li, ob, e⟩ := valP_same s k i
    rw [layP_fls] at h ⊢
    rw [e, bl_app h rfl]
    unfold valQ
    rw [at0 h]
    simp only [show ¬ (102 : UInt8) = 110 by decide, if_true, if_false]
    rw [wordP_app _ _ h]
    rfl
  | tru =>
    intro s k _ i r _ h
    obtain ⟨li, ob, e⟩ := valP_same s k i
    rw [layP_tru] at h ⊢
    rw [e, bl_app h rfl]
    unfold valQ
    rw [at0 h]
    simp only [show ¬ (116 : UInt8) = 110 by decide, show ¬ (116 : UInt8) = 102 by decide, if_true, if_false]
    rw [wordP_app _ _ h]
    rfl
  | nr n h1 h2 =>
    intro s k _ i r hr h
    obtain ⟨li, ob, e⟩ := valP_same s k i
    obtain ⟨c, l, e1, e2, _⟩ := layP_front (.nr n h1 h2)
    have h0 : s.drop i = c :: (l ++ r) := by rw [h, e1]; rfl
    rw [e, bl_app h0 e2]
    have hc : c ≠ 110 ∧ c ≠ 102 ∧ c ≠ 116 ∧ c ≠ 34 ∧ c ≠ 91 ∧ c ≠ 123 := by
      rw [layP_nr] at e1
      unfold Lib.itoa at e1
      split at e1
      · obtain rfl : (45 : UInt8) = c := by simpa using (List.cons.inj e1).1
        decide
      · obtain ⟨d, l2, e3, h3, _⟩ := dec_head n.toNat
        rw [e3] at e1
        obtain rfl : d = c := (List.cons.inj e1).1
        refine ⟨?_, ?_, ?_, ?_, ?_, ?_⟩ <;> (intro e; subst e; revert h3; decide)
    unfold valQ
    rw [at0 h0]
    simp only [if_neg hc.1, if_neg hc.2.1, if_neg hc.2.2.1, if_neg hc.2.2.2.1, if_neg hc.2.2.2.2.1, if_neg hc.2.2.2.2.2]
    rw [layP_nr] at h ⊢
    rw [numP_lay h1 h2 hr h]
    rfl
  | tx t hv =>
    intro s k _ i r _ h
    obtain ⟨li, ob, e⟩ := valP_same s k i
    rw [layP_tx] at h ⊢
    have h0 : s.drop i = 34 :: (t.flatMap quoteC ++ [34] ++ r) := by rw [h]; rfl
    rw [e, bl_app h0 rfl]
    unfold valQ
    rw [at0 h0]
    simp only [show ¬ (34 : UInt8) = 110 by decide, show ¬ (34 : UInt8) = 102 by decide, show ¬ (34 : UInt8) = 116 by decide, if_true, if_false]
    rw [textP_quote hv (by simp) h]
    rfl
  | list xs hxs ih =>
    intro s k hk i r _ h
    rw [depthP_list] at hk
    obtain ⟨k, rfl⟩ : ∃ j, k = j + 1 := ⟨k - 1, by omega⟩
    have hd := deepest_le (xs := xs) (k := k) (by omega)
    rw [layP_list] at h ⊢
    rw [List.cons_append, List.append_assoc] at h
    unfold valP
    rw [bl_app h rfl]
    unfold valQ
    rw [at0 h]
    simp only [show ¬ (91 : UInt8) = 110 by decide, show ¬ (91 : UInt8) = 102 by decide, show ¬ (91 : UInt8) = 116 by decide, show ¬ (91 : UInt8) = 34 by decide, if_true, if_false]
    have h1 := drop_tl h
    have hP : listP s (valP s k) i = .ok xs (i + (91 :: (joinC (xs.map layP) ++ [93])).length) := by
      unfold listP
      cases hx : xs with
      | nil =>
        rw [hx] at h1
        have h2 : s.drop (i + 1) = 93 :: r := by simpa [joinC] using h1
        rw [bl_app h2 rfl, at0 h2]
        simp [joinC]
      | cons x xs' =>
        rw [← hx]
        obtain ⟨c, l, e1, e2, hc⟩ := layP_front (hxs x (by simp [hx]))
        obtain ⟨q, hq⟩ : ∃ q, joinC (xs.map layP) = c :: q := by
          rw [hx]
          cases xs' with
          | nil => exact ⟨l, by simp [joinC, e1]⟩
          | cons y ys => exact ⟨l ++ 44 :: joinC ((y :: ys).map layP), by simp only [List.map_cons, joinC_cons2, e1]; rfl⟩
        have h2 : s.drop (i + 1) = c :: (q ++ 93 :: r) := by rw [h1, hq]; simp
        rw [bl_app h2 e2, at0 h2]
        simp only [if_neg hc]
        have hl := drop_len h1
        have hj := joinC_len (xs.map layP) (by simp [hx])
        have hs := sum_len layP xs fun y hy => layP_pos (hxs y hy)
        rw [List.length_append, List.length_map] at *
        rw [listL_lay s (valP s k) xs [] (i + 1) (s.length + 1) r (by simp [hx]) (by omega) (fun y hy => ih y hy s k (hd y hy)) (by simpa using h1)]
        simp
        omega
    rw [hP]
    rfl
  | obj ms hv ha hms ih =>
    intro s k hk i r _ h
    rw [depthP_obj] at hk
    obtain ⟨k, rfl⟩ : ∃ j, k = j + 1 := ⟨k - 1, by omega⟩
    have hd := deepest_le (xs := ms.map (·.2)) (k := k) (by omega)
    rw [layP_obj] at h ⊢
    rw [List.cons_append, List.append_assoc] at h
    unfold valP
    rw [bl_app h rfl]
    unfold valQ
    rw [at0 h]
    simp only [show ¬ (123 : UInt8) = 110 by decide, show ¬ (123 : UInt8) = 102 by decide, show ¬ (123 : UInt8) = 116 by decide, show ¬ (123 : UInt8) = 34 by decide, show ¬ (123 : UInt8) = 91 by decide, if_true, if_false]
    have h1 := drop_tl h
    have hP : objP s (valP s k) i = .ok ms (i + (123 :: (joinC (ms.map memP) ++ [125])).length) := by
      unfold objP
      cases hx : ms with
      | nil =>
        rw [hx] at h1
        have h2 : s.drop (i + 1) = 125 :: r := by simpa [joinC] using h1
        rw [bl_app h2 rfl, at0 h2]
        simp [joinC]
      | cons x xs' =>
        rw [← hx]
        obtain ⟨q, hq⟩ : ∃ q, joinC (ms.map memP) = 34 :: q := by
          rw [hx]
          cases xs' with
          | nil => exact ⟨_, rfl⟩
          | cons y ys => exact ⟨_, rfl⟩
        have h2 : s.drop (i + 1) = 34 :: (q ++ 125 :: r) := by rw [h1, hq]; simp
        rw [bl_app h2 rfl, at0 h2]
        simp only [show ¬ (34 : UInt8) = 125 by decide, if_false]
        have hl := drop_len h1
        have hj := joinC_len (ms.map memP) (by simp [hx])
        have hs := sum_len memP ms fun y hy => by simp [memP]; omega
        rw [List.length_append, List.length_map] at *
        rw [objL_lay s (valP s k) ms [] (i + 1) (s.length + 1) r (by simp [hx]) (by omega) (fun y hy => ⟨ih y hy s k (hd y.2 (List.mem_map_of_mem hy)), hv y hy⟩)
          (by rw [List.nil_append]; exact asc_nodup (by rw [List.pairwise_map]; exact ha)) (by simpa using h1)]
        simp
        omega
    rw [hP]
    simp only [PR.bind_ok, sortM_id ha]
/-- What is printed is read as the same value. -/
theorem parse_lay {x : J} (h : mayP x = true) (hd : depthP x ≤ 16) (hl : (layP x).length ≤ 4000) : parseP (layP x) = (x, 0, 0) := by
  have := valP_lay (may_of x h) (layP x) 16 hd 0 [] (fun c hc => by simp at hc) (by simp)
  unfold parseP
  rw [if_neg (by omega)]
  unfold readP
  rw [this]
  simp only [Nat.zero_add]
  rw [bl_end _ _ (Nat.le_refl _), if_neg (by omega)]
end Jo
end Go.Proofs.YtpcgfhleloonfaaGreatDoor
namespace Go.Proofs.YtpcgfhleloonfaaGreatDoor
namespace Jo
/-- A step that goes on within the text as Q says, or tells what is wrong. -/
def Take {α : Type} (s : List UInt8) (p : PR α) (Q : α → Nat → Prop) : Prop := match p with | .ok a j => j ≤ s.length ∧ Q a j | .bad e _ => e ≠ 0
theorem Take.bind {α β : Type} {s : List UInt8} {p : PR α} {f : α → Nat → PR β} {Q : α → Nat → Prop} {R : β → Nat → Prop} (h : Take s p Q) (k : ∀ a j, j ≤ s.length → Q a j → Take s (f a j) R) : Take s (p.bind f) R := by
  cases p with
  | ok a j => exact k a j h.1 h.2
  | bad e i => exact h
theorem Take.mono {α : Type} {s : List UInt8} {p : PR α} {Q R : α → Nat → Prop} (h : Take s p Q) (k : ∀ a j, j ≤ s.length → Q a j → R a j) : Take s p R := by
  cases p with
  | ok a j => exact ⟨h.1, k a j h.1 h.2⟩
  | bad e i => exact h
theorem take_bad {α : Type} {s : List UInt8} {Q : α → Nat → Prop} {e : Int} {i : Nat} (h : e ≠ 0) : Take s (.bad e i : PR α) Q := h
theorem take_ok {α : Type} {s : List UInt8} {Q : α → Nat → Prop} {a : α} {i : Nat} (h : i ≤ s.length) (q : Q a i) : Take s (.ok a i) Q := ⟨h, q⟩
theorem lt_of_at {s : List UInt8} {i : Nat} {c : UInt8} (h : s[i]? = some c) : i < s.length := (List.getElem?_eq_some_iff.1 h).1
theorem wantP_take (s : List UInt8) (c : UInt8) (i : Nat) : Take s (wantP s c i) fun _ j => j = i + 1 := by
  unfold wantP
  split
  · rename_i h; exact take_ok (lt_of_at h) rfl
  · exact take_bad (by decide)
theorem wordP_take (s : List UInt8) : ∀ (w : List UInt8) (i : Nat), i ≤ s.length → Take s (wordP s w i) fun _ j => j = i + w.length
  | [], i, h => take_ok h rfl
  | c :: w, i, h => by
    unfold wordP
    split
    · rename_i hc
      exact (wordP_take s w (i + 1) (lt_of_at hc)).mono fun _ j _ e => by rw [e, List.length_cons]; omega
    · exact take_bad (by decide)
theorem hexP_take (s : List UInt8) (lo hi : Int) (i : Nat) : Take s (hexP s lo hi i) fun n j => j = i + 1 ∧ lo ≤ n ∧ n ≤ hi := by
  unfold hexP
  split
  · exact take_bad (by decide)
  · rename_i c hc
    split
    · exact take_bad (by decide)
    · exact take_ok (lt_of_at hc) ⟨rfl, by omega, by omega⟩
theorem pointP_take (s : List UInt8) (i : Nat) : Take s (pointP s i) fun n j => (j = i + 4 ∧ 0 ≤ n ∧ n ≤ 65535 ∧ (n < 55296 ∨ 57343 < n)) ∨ (j = i + 10 ∧ 65536 ≤ n ∧ n ≤ 1114111) := by
  unfold pointP
  refine (hexP_take s 0 15 i).bind fun a ia _ ha => ?_
  refine (hexP_take s 0 _ ia).bind fun b ib _ hb => ?_
  refine (hexP_take s 0 15 ib).bind fun c ic _ hc => ?_
  refine (hexP_take s 0 15 ic).bind fun d jd hj hd => ?_
  obtain ⟨rfl, b1, b2⟩ := hb
  have hb3 : a = 13 → b ≤ 11 := fun e => by rw [if_pos e] at b2; exact b2
  have hb4 : b ≤ 15 := by split at b2 <;> omega
  clear b2
  split
  · rename_i hn
    refine take_ok hj (.inl ⟨by omega, by omega, by omega, ?_⟩)
    by_cases e : a = 13
    · have := hb3 e; omega
    · omega
  · rename_i hn
    refine (wordP_take s _ jd hj).bind fun _ iw _ hw => ?_
    refine (hexP_take s 13 13 iw).bind fun e ie _ he => ?_
    refine (hexP_take s 12 15 ie).bind fun f jf _ hf => ?_
    refine (hexP_take s 0 15 jf).bind fun g ig _ hg => ?_
    refine (hexP_take s 0 15 ig).bind fun p ip hp2 hp => ?_
    refine take_ok hp2 (.inr ?_)
    simp only [List.length_cons, List.length_nil] at hw
    omega
-- letters
/-- One letter. -/
def Letter (x : List UInt8) : Prop := letW x = some x.length
theorem Letter.valid {x t : List UInt8} (h : Letter x) (hx : x ≠ []) (ht : Lib.validD t = true) : Lib.validD (x ++ t) = true := by
  rw [validD_letW _ (by simp [hx]), letW_app t h]
  simpa using ht
theorem byteZ {n : Int} (h0 : 0 ≤ n) (h1 : n < 256) : (n.toNat.toUInt8.toNat : Int) = n := by simp; omega
theorem behind_nat (c : UInt8) : behindP c = (if c.toNat = 224 then 160 else if c.toNat = 240 then 144 else 128, if c.toNat = 237 then 159 else if c.toNat = 244 then 143 else 191,
    if 194 ≤ c.toNat ∧ c.toNat ≤ 223 then 1 else if 224 ≤ c.toNat ∧ c.toNat ≤ 239 then 2 else if 240 ≤ c.toNat ∧ c.toNat ≤ 244 then 3 else 0) := by
  simp only [behindP, ← UInt8.toNat_inj, UInt8.le_iff_toNat_le]
  rfl
theorem followW_one {lo hi : UInt8} {m : Nat} {x : UInt8} {r : List UInt8} (h1 : lo.toNat ≤ x.toNat) (h2 : x.toNat ≤ hi.toNat) (h : followW m 128 191 r = true) : followW (m + 1) lo hi (x :: r) = true := by
  simp only [followW, UInt8.le_iff_toNat_le, h1, h2, h, decide_true, Bool.true_and]
theorem letW_lead {c : UInt8} {r : List UInt8} {lo hi : UInt8} {m : Nat} (hb : behindP c = (lo, hi, m)) (h1 : 128 ≤ c.toNat) (hm : m ≠ 0) (hf : followW m lo hi r = true) : letW (c :: r) = some (m + 1) := by
  rw [letW_cons, hb]
  simp only
  rw [if_neg (by rw [UInt8.lt_iff_toNat_lt]; exact Nat.not_lt.2 h1), if_neg hm, if_pos hf]
theorem enc_letter {n : Int} (h0 : 0 ≤ n) (h1 : n < 55296 ∨ (57343 < n ∧ n ≤ 1114111)) : Letter (Lib.encodeRune n) ∧ Lib.encodeRune n ≠ [] ∧ (128 ≤ n → ∀ b ∈ Lib.encodeRune n, 128 ≤ b) ∧ (n < 128 → (Lib.encodeRune n).length = 1) ∧ (n ≤ 65535 → (Lib.encodeRune n).length ≤ 3) := by
  have k128 : (128 : UInt8).toNat = 128 := rfl
  have k191 : (191 : UInt8).toNat = 191 := rfl
  have k144 : (144 : UInt8).toNat = 144 := rfl
  have k143 : (143 : UInt8).toNat = 143 := rfl
  have k159 : (159 : UInt8).toNat = 159 := rfl
  have k160 : (160 : UInt8).toNat = 160 := rfl
  unfold Letter Lib.encodeRune
  by_cases c1 : n ≤ 127
  · rw [Lib.encodeRuneZ_one h0 c1]
    have hb := byteZ h0 (by omega)
    refine ⟨?_, by simp, fun h => by omega, fun _ => by simp, fun _ => by simp⟩
    simp only [List.map_cons, List.map_nil, List.length_cons, List.length_nil]
    rw [letW_cons, if_pos (by rw [UInt8.lt_iff_toNat_lt]; omega)]
  by_cases c2 : n ≤ 2047
  · rw [Lib.encodeRuneZ_two (by omega) c2]
    have ha := byteZ (n := 192 + n / 64) (by omega) (by omega)
    have hb := byteZ (n := 128 + n % 64) (by omega) (by omega)
    simp only [List.map_cons, List.map_nil]
    generalize (192 + n / 64).toNat.toUInt8 = x at ha
    generalize (128 + n % 64).toNat.toUInt8 = y at hb
    refine ⟨letW_lead (lo := 128) (hi := 191) (m := 1) ?_ (by omega) (by simp) (followW_one (by omega) (by omega) rfl), by simp, fun _ b hm => ?_, fun h => by omega, fun _ => by simp⟩
    · rw [behind_nat, if_neg (by omega), if_neg (by omega), if_neg (by omega), if_neg (by omega), if_pos (by omega)]
    · rw [UInt8.le_iff_toNat_le]
      simp only [List.mem_cons, List.not_mem_nil, or_false] at hm
      rcases hm with rfl | rfl <;> omega
  by_cases c3 : n ≤ 65535
  · rw [Lib.encodeRuneZ_three (by omega)]
    have ha := byteZ (n := 224 + n / 4096) (by omega) (by omega)
    have hb := byteZ (n := 128 + n / 64 % 64) (by omega) (by omega)
    have hc := byteZ (n := 128 + n % 64) (by omega) (by omega)
    simp only [List.map_cons, List.map_nil]
    generalize (224 + n / 4096).toNat.toUInt8 = x at ha
    generalize (128 + n / 64 % 64).toNat.toUInt8 = y at hb
    generalize (128 + n % 64).toNat.toUInt8 = z at hc
    have hz : followW 1 128 191 [z] = true := followW_one (by omega) (by omega) rfl
    refine ⟨?_, by simp, fun _ b hm => ?_, fun h => by omega, fun _ => by simp⟩
    · by_cases q1 : x.toNat = 224
      · exact letW_lead (lo := 160) (hi := 191) (m := 2) (by rw [behind_nat, if_pos q1, if_neg (by omega), if_neg (by omega), if_neg (by omega), if_pos (by omega)]) (by omega) (by simp) (followW_one (by omega) (by omega) hz)
      · by_cases q2 : x.toNat = 237
        · exact letW_lead (lo := 128) (hi := 159) (m := 2) (by rw [behind_nat, if_neg q1, if_neg (by omega), if_pos q2, if_neg (by omega), if_pos (by omega)]) (by omega) (by simp) (followW_one (by omega) (by omega) hz)
        · exact letW_lead (lo := 128) (hi := 191) (m := 2) (by rw [behind_nat, if_neg q1, if_neg (by omega), if_neg q2, if_neg (by omega), if_neg (by omega), if_pos (by omega)]) (by omega) (by simp) (followW_one (by omega) (by omega) hz)
    · rw [UInt8.le_iff_toNat_le]
      simp only [List.mem_cons, List.not_mem_nil, or_false] at hm
      rcases hm with rfl | rfl | rfl <;> omega
  · rw [Lib.encodeRuneZ_four (by omega) (by omega)]
    have ha := byteZ (n := 240 + n / 262144) (by omega) (by omega)
    have hb := byteZ (n := 128 + n / 4096 % 64) (by omega) (by omega)
    have hc := byteZ (n := 128 + n / 64 % 64) (by omega) (by omega)
    have hd := byteZ (n := 128 + n % 64) (by omega) (by omega)
    simp only [List.map_cons, List.map_nil]
    generalize (240 + n / 262144).toNat.toUInt8 = x at ha
    generalize (128 + n / 4096 % 64).toNat.toUInt8 = y at hb
    generalize (128 + n / 64 % 64).toNat.toUInt8 = z at hc
    generalize (128 + n % 64).toNat.toUInt8 = u at hd
    have hz : followW 2 128 191 [z, u] = true := followW_one (by omega) (by omega) (followW_one (by omega) (by omega) rfl)
    refine ⟨?_, by simp, fun _ b hm => ?_, fun h => by omega, fun h => by omega⟩
    · by_cases q1 : x.toNat = 240
      · exact letW_lead (lo := 144) (hi := 191) (m := 3) (by rw [behind_nat, if_neg (by omega), if_pos q1, if_neg (by omega), if_neg (by omega), if_neg (by omega), if_neg (by omega), if_pos (by omega)]) (by omega) (by simp) (followW_one (by omega) (by omega) hz)
      · by_cases q2 : x.toNat = 244
        · exact letW_lead (lo := 128) (hi := 143) (m := 3) (by rw [behind_nat, if_neg (by omega), if_neg q1, if_neg (by omega), if_pos q2, if_neg (by omega), if_neg (by omega), if_pos (by omega)]) (by omega) (by simp) (followW_one (by omega) (by omega) hz)
        · exact letW_lead (lo := 128) (hi := 191) (m := 3) (by rw [behind_nat, if_neg (by omega), if_neg q1, if_neg (by omega), if_neg q2, if_neg (by omega), if_neg (by omega), if_pos (by omega)]) (by omega) (by simp) (followW_one (by omega) (by omega) hz)
    · rw [UInt8.le_iff_toNat_le]
      simp only [List.mem_cons, List.not_mem_nil, or_false] at hm
      rcases hm with rfl | rfl | rfl | rfl <;> omega
theorem letter_one {c : UInt8} (h : c.toNat < 128) : Letter [c] := by
  unfold Letter
  rw [letW_cons, if_pos (by rw [UInt8.lt_iff_toNat_lt]; exact h)]
  rfl
-- texts
theorem escP_take (s : List UInt8) (i : Nat) (_hi : i ≤ s.length) : Take s (escP s i) fun x j => i < j ∧ Letter x ∧ x ≠ [] ∧ (x.flatMap quoteC).length ≤ j - i + 1 := by
  unfold escP
  split
  · exact take_bad (by decide)
  · rename_i c hc
    have hl := lt_of_at hc
    split
    · rename_i h
      refine take_ok hl ⟨by omega, ?_, by simp, ?_⟩
      · rcases h with rfl | rfl | rfl <;> exact letter_one (by decide)
      · rcases h with rfl | rfl | rfl <;> (have e : i + 1 - i = 1 := by omega) <;> rw [e] <;> decide
    · have e : i + 1 - i = 1 := by omega
      split
      · exact take_ok hl ⟨by omega, letter_one (by decide), by simp, by rw [e]; decide⟩
      · split
        · exact take_ok hl ⟨by omega, letter_one (by decide), by simp, by rw [e]; decide⟩
        · split
          · exact take_ok hl ⟨by omega, letter_one (by decide), by simp, by rw [e]; decide⟩
          · split
            · exact take_ok hl ⟨by omega, letter_one (by decide), by simp, by rw [e]; decide⟩
            · split
              · exact take_ok hl ⟨by omega, letter_one (by decide), by simp, by rw [e]; decide⟩
              · split
                · refine (pointP_take s (i + 1)).bind fun n j hj hn => take_ok hj ?_
                  have hr : 0 ≤ n ∧ (n < 55296 ∨ (57343 < n ∧ n ≤ 1114111)) := by omega
                  obtain ⟨q1, q2, q3, q4, q5⟩ := enc_letter hr.1 hr.2
                  refine ⟨by omega, q1, q2, ?_⟩
                  by_cases h128 : 128 ≤ n
                  · rw [quote_his _ (q3 h128)]
                    have := encodeRune_len n
                    rcases hn with hn | hn
                    · have := q5 (by omega); omega
                    · omega
                  · have h1 := q4 (by omega)
                    obtain ⟨b, hb⟩ : ∃ b, Lib.encodeRune n = [b] := List.length_eq_one_iff.1 h1
                    rw [hb]
                    have := quoteC_le b
                    simp only [List.flatMap_cons, List.flatMap_nil, List.append_nil]
                    omega
                · exact take_bad (by decide)
theorem textL_take (s : List UInt8) (seen : List (List UInt8)) : ∀ (f : Nat) (acc : List UInt8) (i : Nat), i ≤ s.length → s.length + 1 ≤ f + i →
    Take s (textL s seen f acc i) fun l j => i < j ∧ l ∉ seen ∧ ∃ t, l = acc ++ t ∧ Lib.validD t = true ∧ (t.flatMap quoteC).length + 1 ≤ j - i
  | 0, acc, i, hi, hf => by omega
  | f + 1, acc, i, hi, hf => by
    unfold textL
    split
    · exact take_bad (by decide)
    · rename_i c hc
      have hl := lt_of_at hc
      split
      · split
        · exact take_bad (by decide)
        · rename_i hm
          exact take_ok hl ⟨by omega, hm, [], by simp, rfl, by simp⟩
      · rename_i h34
        split
        · refine (escP_take s (i + 1) hl).bind fun x j hj hx => ?_
          obtain ⟨x1, x2, x3, x4⟩ := hx
          refine (textL_take s seen f (acc ++ x) j hj (by omega)).mono fun l k _ hk => ?_
          obtain ⟨k1, k2, t, rfl, k3, k4⟩ := hk
          refine ⟨by omega, k2, x ++ t, by simp, x2.valid x3 k3, ?_⟩
          rw [List.flatMap_append, List.length_append]
          omega
        · rename_i h92
          split
          · exact take_bad (by decide)
          · rename_i h32
            rcases letterP_eq (s := s) (i := i) rfl with ⟨k, e1, e2⟩ | ⟨e1, j, e2⟩
            · rw [e2]
              obtain ⟨k1, k2, k3⟩ := letW_some e1
              rw [List.length_drop] at k2
              simp only [PR.bind_ok]
              have ek : i + k - i = k := by omega
              rw [ek]
              refine (textL_take s seen f _ (i + k) (by omega) (by omega)).mono fun l j _ hk => ?_
              obtain ⟨q1, q2, t, rfl, q3, q4⟩ := hk
              have hlk : ((s.drop i).take k).length = k := by rw [List.length_take, List.length_drop]; omega
              have hlet : Letter ((s.drop i).take k) := by unfold Letter; rw [hlk]; exact letW_take e1
              refine ⟨by omega, q2, (s.drop i).take k ++ t, by simp, hlet.valid (fun e => by rw [e] at hlk; simp at hlk; omega) q3, ?_⟩
              have hq : (((s.drop i).take k).flatMap quoteC).length = k := by
                rcases k3 with ⟨rfl, d, r, e, hd⟩ | k3
                · have e0 : d = c := by
                    have := at0 e
                    rw [hc] at this
                    simpa using this.symm
                  subst e0
                  rw [e]
                  simp [quoteC_self d h34 h92 h32]
                · rw [quote_his _ k3, hlk]
              rw [List.flatMap_append, List.length_append, hq]
              omega
            · rw [e2]
              exact take_bad (by decide)
theorem textP_take (s : List UInt8) (seen : List (List UInt8)) (i : Nat) : Take s (textP s seen i) fun l j => i < j ∧ l ∉ seen ∧ Lib.validD l = true ∧ (quoteP l).length ≤ j - i := by
  unfold textP
  refine (wantP_take s 34 i).bind fun _ k hk e => ?_
  refine (textL_take s seen (s.length + 1) [] k hk (by omega)).mono fun l j _ h => ?_
  obtain ⟨h1, h2, t, rfl, h3, h4⟩ := h
  refine ⟨by omega, h2, h3, ?_⟩
  simp only [quoteP, List.length_cons, List.length_append, List.length_nil]
  omega
-- numbers
theorem dig_val {c : UInt8} (h : isDig c = true) : 48 ≤ c.toNat ∧ c.toNat ≤ 57 := by
  unfold isDig at h
  simp only [Bool.and_eq_true, decide_eq_true_eq, UInt8.le_iff_toNat_le] at h
  exact h
theorem digP_take (s : List UInt8) : ∀ (l : List UInt8) (n i : Nat), i + l.length ≤ s.length → 1 ≤ n → (n : Int) ≤ 9007199254740991 →
    Take s (digP n l i) fun m j => i ≤ j ∧ ∃ u : Nat, m = u ∧ (u : Int) ≤ 9007199254740991 ∧ Lib.nDigits u ≤ Lib.nDigits n + (j - i)
  | [], n, i, hi, h1, hn => by
    unfold digP
    exact take_ok (by simpa using hi) ⟨Nat.le_refl _, n, rfl, hn, by omega⟩
  | c :: r, n, i, hi, h1, hn => by
    unfold digP
    simp only [List.length_cons] at hi
    split
    · rename_i hd
      have hd := dig_val hd
      split
      · exact take_bad (by decide)
      · rename_i hb
        obtain ⟨m, hm⟩ : ∃ m : Nat, 10 * (n : Int) + ((c.toNat : Int) - 48) = m := ⟨10 * n + (c.toNat - 48), by omega⟩
        rw [hm] at hb ⊢
        have hg : Lib.nDigits m = Lib.nDigits n + 1 := by
          rw [Lib.nDigits_big (by omega : ¬ m < 10)]
          congr 2
          omega
        refine (digP_take s r m (i + 1) (by omega) (by omega) (by omega)).mono fun a j _ h => ?_
        obtain ⟨q1, u, q2, q3, q4⟩ := h
        exact ⟨by omega, u, q2, q3, by omega⟩
    · exact take_ok (by omega) ⟨Nat.le_refl _, n, rfl, hn, by omega⟩
theorem numQ_take (s : List UInt8) (sg : Int) (i : Nat) : Take s (numQ s sg i) fun m j => i < j ∧ ∃ u : Nat, m = sg * u ∧ (u : Int) ≤ 9007199254740991 ∧ Lib.nDigits u ≤ j - i := by
  unfold numQ
  split
  · exact take_bad (by decide)
  · rename_i c hc
    have hl := lt_of_at hc
    split
    · exact take_bad (by decide)
    · rename_i hd
      have hd2 := dig_val (by simpa using hd)
      split
      · refine take_ok hl ⟨by omega, 0, by simp, by decide, ?_⟩
        rw [Lib.nDigits_small (by omega)]
        omega
      · rename_i h48
        have hne : c.toNat ≠ 48 := fun e => h48 (UInt8.toNat_inj.1 e)
        have hs : s.drop i = c :: s.drop (i + 1) := by
          rw [List.drop_eq_getElem_cons hl]
          congr 1
          simpa [List.getElem?_eq_getElem hl] using hc
        rw [hs, digP, if_pos (by simpa using hd), if_neg (by omega)]
        obtain ⟨m, hm⟩ : ∃ m : Nat, 10 * (0 : Int) + ((c.toNat : Int) - 48) = m := ⟨c.toNat - 48, by omega⟩
        rw [hm]
        refine (digP_take s (s.drop (i + 1)) m (i + 1) (by rw [List.length_drop]; omega) (by omega) (by omega)).bind fun a j hj h => take_ok hj ?_
        obtain ⟨q1, u, q2, q3, q4⟩ := h
        rw [Lib.nDigits_small (by omega : m < 10)] at q4
        exact ⟨by omega, u, by rw [q2], q3, by omega⟩
theorem numP_take (s : List UInt8) (i : Nat) : Take s (numP s i) fun m j => i < j ∧ -9007199254740991 ≤ m ∧ m ≤ 9007199254740991 ∧ (Lib.itoa m).length ≤ j - i := by
  have hi0 : ∀ u : Nat, (Lib.itoa (u : Int)).length = Lib.nDigits u := fun u => by
    unfold Lib.itoa
    rw [if_neg (by omega), Lib.decDigits_length]
    rfl
  unfold numP
  split
  · refine (numQ_take s (-1) (i + 1)).mono fun m j _ h => ?_
    obtain ⟨q1, u, rfl, q2, q3⟩ := h
    refine ⟨by omega, by omega, by omega, ?_⟩
    by_cases hu : u = 0
    · subst hu
      have := hi0 0
      rw [Lib.nDigits_small (by omega)] at this
      simp at this ⊢
      omega
    · unfold Lib.itoa
      rw [if_pos (by omega), List.length_cons, Lib.decDigits_length]
      have : (-1 * (u : Int)).natAbs = u := by omega
      rw [this]
      omega
  · refine (numQ_take s 1 i).mono fun m j _ h => ?_
    obtain ⟨q1, u, rfl, q2, q3⟩ := h
    refine ⟨by omega, by omega, by omega, ?_⟩
    rw [Int.one_mul, hi0]
    exact q3
-- values
/-- A value such as may be, not too deep. -/
def Good (k : Nat) (x : J) : Prop := May x ∧ depthP x ≤ k
def Val (s : List UInt8) (val : Nat → PR J) (k : Nat) : Prop := ∀ i, i ≤ s.length → Take s (val i) fun x j => i < j ∧ Good k x ∧ (layP x).length ≤ j - i
theorem joinC_push (x : List UInt8) (l : List (List UInt8)) (h : l ≠ []) : (joinC (x :: l)).length = x.length + 1 + (joinC l).length := by
  cases l with
  | nil => exact absurd rfl h
  | cons y l => rw [joinC_cons2, List.length_append, List.length_cons]; omega
theorem listL_take {s : List UInt8} {val : Nat → PR J} {k : Nat} (hv : Val s val k) : ∀ (f : Nat) (acc : List J) (i : Nat), i ≤ s.length → s.length + 1 ≤ f + i →
    Take s (listL s val f acc i) fun xs j => i < j ∧ ∃ ys, xs = acc ++ ys ∧ ys ≠ [] ∧ (∀ y ∈ ys, Good k y) ∧ (joinC (ys.map layP)).length + 1 ≤ j - i
  | 0, acc, i, hi, hf => by omega
  | f + 1, acc, i, hi, hf => by
    unfold listL
    refine (hv i hi).bind fun x j hj hx => ?_
    obtain ⟨x1, x2, x3⟩ := hx
    have hb := bl_le s j
    split
    · exact take_bad (by decide)
    · rename_i c hc
      have hl := lt_of_at hc
      split
      · refine (listL_take hv f (acc ++ [x]) (bl s j + 1) hl (by omega)).mono fun xs q _ h => ?_
        obtain ⟨h1, ys, rfl, h2, h3, h4⟩ := h
        refine ⟨by omega, x :: ys, by simp, by simp, fun y hy => ?_, ?_⟩
        · rcases List.mem_cons.1 hy with rfl | hy
          · exact x2
          · exact h3 y hy
        · rw [List.map_cons, joinC_push _ _ (by simpa using h2)]
          omega
      · split
        · refine take_ok hl ⟨by omega, [x], rfl, by simp, by simpa using x2, ?_⟩
          simp only [List.map_cons, List.map_nil, joinC_one]
          omega
        · exact take_bad (by decide)
theorem listP_take {s : List UInt8} {val : Nat → PR J} {k : Nat} (hv : Val s val k) (i : Nat) (_hi : i < s.length) : Take s (listP s val i) fun xs j => i < j ∧ (∀ y ∈ xs, Good k y) ∧ (joinC (xs.map layP)).length + 2 ≤ j - i := by
  unfold listP
  have hb := bl_le s (i + 1)
  split
  · exact take_bad (by decide)
  · rename_i c hc
    have hl := lt_of_at hc
    split
    · exact take_ok hl ⟨by omega, by simp, by simp [joinC]; omega⟩
    · refine (listL_take hv (s.length + 1) [] _ (by omega) (by omega)).mono fun xs j _ h => ?_
      obtain ⟨h1, ys, rfl, h2, h3, h4⟩ := h
      exact ⟨by omega, h3, by omega⟩
theorem nodup_snoc {acc : List (List UInt8 × J)} {n : List UInt8} {x : J} (h : (acc.map (·.1)).Nodup) (hn : n ∉ acc.map (·.1)) : ((acc ++ [(n, x)]).map (·.1)).Nodup := by
  rw [List.map_append]
  refine List.nodup_append.2 ⟨h, by simp, fun a ha b hb e => ?_⟩
  subst e
  simp only [List.map_cons, List.map_nil, List.mem_cons, List.not_mem_nil, or_false] at hb
  exact hn (hb ▸ ha)
theorem objL_take {s : List UInt8} {val : Nat → PR J} {k : Nat} (hv : Val s val k) : ∀ (f : Nat) (acc : List (List UInt8 × J)) (i : Nat), i ≤ s.length → s.length + 1 ≤ f + i → (acc.map (·.1)).Nodup →
    Take s (objL s val f acc i) fun ms j => i < j ∧ (ms.map (·.1)).Nodup ∧ ∃ ys, ms = acc ++ ys ∧ ys ≠ [] ∧ (∀ y ∈ ys, Lib.validD y.1 = true ∧ Good k y.2) ∧ (joinC (ys.map memP)).length + 1 ≤ j - i
  | 0, acc, i, hi, hf, hn => by omega
  | f + 1, acc, i, hi, hf, hn => by
    unfold objL
    have hb0 := bl_le s i
    refine (textP_take s (acc.map (·.1)) (bl s i)).bind fun n j hj ht => ?_
    obtain ⟨t1, t2, t3, t4⟩ := ht
    have hb1 := bl_le s j
    refine (wantP_take s 58 (bl s j)).bind fun _ j2 hj2 e2 => ?_
    refine (hv j2 hj2).bind fun x j3 hj3 hx => ?_
    obtain ⟨x1, x2, x3⟩ := hx
    have hb := bl_le s j3
    have hmem : (memP (n, x)).length = (quoteP n).length + 1 + (layP x).length := by show (quoteP n ++ 58 :: layP x).length = _; rw [List.length_append, List.length_cons]; omega
    split
    · exact take_bad (by decide)
    · rename_i c hc
      have hl := lt_of_at hc
      split
      · refine (objL_take hv f (acc ++ [(n, x)]) (bl s j3 + 1) hl (by omega) (nodup_snoc hn t2)).mono fun xs q _ h => ?_
        obtain ⟨h1, h5, ys, rfl, h2, h3, h4⟩ := h
        refine ⟨by omega, h5, (n, x) :: ys, by simp, by simp, fun y hy => ?_, ?_⟩
        · rcases List.mem_cons.1 hy with rfl | hy
          · exact ⟨t3, x2⟩
          · exact h3 y hy
        · rw [List.map_cons, joinC_push _ _ (by simpa using h2)]
          omega
      · split
        · refine take_ok hl ⟨by omega, nodup_snoc hn t2, [(n, x)], rfl, by simp, by simpa using ⟨t3, x2⟩, ?_⟩
          simp only [List.map_cons, List.map_nil, joinC_one]
          omega
        · exact take_bad (by decide)
theorem objP_take {s : List UInt8} {val : Nat → PR J} {k : Nat} (hv : Val s val k) (i : Nat) (_hi : i < s.length) : Take s (objP s val i) fun ms j => i < j ∧ (ms.map (·.1)).Nodup ∧ (∀ y ∈ ms, Lib.validD y.1 = true ∧ Good k y.2) ∧ (joinC (ms.map memP)).length + 2 ≤ j - i := by
  unfold objP
  have hb := bl_le s (i + 1)
  split
  · exact take_bad (by decide)
  · rename_i c hc
    have hl := lt_of_at hc
    split
    · exact take_ok hl ⟨by omega, by simp, by simp, by simp [joinC]; omega⟩
    · refine (objL_take hv (s.length + 1) [] _ (by omega) (by omega) (by simp)).mono fun xs j _ h => ?_
      obtain ⟨h1, h5, ys, rfl, h2, h3, h4⟩ := h
      exact ⟨by omega, h5, h3, by omega⟩
theorem joinC_perm {a b : List (List UInt8)} (h : a.Perm b) : (joinC a).length = (joinC b).length := by
  by_cases ha : a = []
  · subst ha
    rw [List.nil_perm.1 h]
  · have hb : b ≠ [] := fun e => ha (by subst e; exact List.perm_nil.1 h)
    have h1 := joinC_len a ha
    have h2 := joinC_len b hb
    have h3 : (a.map List.length).sum = (b.map List.length).sum := (h.map _).sum_nat
    have h4 := h.length_eq
    omega
theorem valQ_take {s : List UInt8} {li : Nat → PR (List J)} {ob : Nat → PR (List (List UInt8 × J))} {k : Nat} (i : Nat)
    (hl : ∀ j, j < s.length → Take s (li j) fun xs q => j < q ∧ 1 ≤ k ∧ (∀ y ∈ xs, Good (k - 1) y) ∧ (joinC (xs.map layP)).length + 2 ≤ q - j)
    (ho : ∀ j, j < s.length → Take s (ob j) fun ms q => j < q ∧ 1 ≤ k ∧ (ms.map (·.1)).Nodup ∧ (∀ y ∈ ms, Lib.validD y.1 = true ∧ Good (k - 1) y.2) ∧ (joinC (ms.map memP)).length + 2 ≤ q - j) :
    Take s (valQ s li ob i) fun x j => i < j ∧ Good k x ∧ (layP x).length ≤ j - i := by
  unfold valQ
  split
  · exact take_bad (by decide)
  · rename_i c hc
    have hi := lt_of_at hc
    split
    · refine (wordP_take s _ i (by omega)).bind fun _ j hj e => take_ok hj ?_
      simp only [List.length_cons, List.length_nil] at e
      exact ⟨by omega, ⟨.null, by simp [depthP, J.null]⟩, by rw [layP_null]; simp; omega⟩
    split
    · refine (wordP_take s _ i (by omega)).bind fun _ j hj e => take_ok hj ?_
      simp only [List.length_cons, List.length_nil] at e
      exact ⟨by omega, ⟨.fls, by simp [depthP, J.fls]⟩, by rw [layP_fls]; simp; omega⟩
    split
    · refine (wordP_take s _ i (by omega)).bind fun _ j hj e => take_ok hj ?_
      simp only [List.length_cons, List.length_nil] at e
      exact ⟨by omega, ⟨.tru, by simp [depthP, J.tru]⟩, by rw [layP_tru]; simp; omega⟩
    split
    · refine (textP_take s [] i).bind fun t j hj h => take_ok hj ?_
      obtain ⟨h1, _, h2, h3⟩ := h
      exact ⟨h1, ⟨.tx t h2, by simp [depthP, J.tx]⟩, by rw [layP_tx]; exact h3⟩
    split
    · refine (hl i hi).bind fun xs j hj h => take_ok hj ?_
      obtain ⟨h1, h2, h3, h4⟩ := h
      refine ⟨h1, ⟨.list xs fun x hx => (h3 x hx).1, ?_⟩, ?_⟩
      · rw [depthP_list]
        have := deepest_max (xs := xs) (k := k - 1) fun x hx => (h3 x hx).2
        omega
      · rw [layP_list]
        simp only [List.length_cons, List.length_append, List.length_nil]
        omega
    split
    · refine (ho i hi).bind fun ms j hj h => take_ok hj ?_
      obtain ⟨h1, h2, h5, h3, h4⟩ := h
      have hp := sortM_perm ms
      refine ⟨h1, ⟨.obj _ (fun m hm => (h3 m (hp.mem_iff.1 hm)).1) (sortM_asc ms h5) fun m hm => (h3 m (hp.mem_iff.1 hm)).2.1, ?_⟩, ?_⟩
      · rw [depthP_obj]
        have := deepest_max (xs := (sortM ms).map (·.2)) (k := k - 1) fun x hx => by
          obtain ⟨m, hm, rfl⟩ := List.mem_map.1 hx
          exact (h3 m (hp.mem_iff.1 hm)).2.2
        omega
      · rw [layP_obj]
        simp only [List.length_cons, List.length_append, List.length_nil]
        rw [joinC_perm (hp.map memP)]
        omega
    · refine (numP_take s i).bind fun n j hj h => take_ok hj ?_
      obtain ⟨h1, h2, h3, h4⟩ := h
      exact ⟨h1, ⟨.nr n h2 h3, by simp [depthP, J.nr]⟩, by rw [layP_nr]; exact h4⟩
theorem valP_take (s : List UInt8) : ∀ k, Val s (valP s k) k
  | 0 => fun i hi => by
    unfold valP
    have := bl_le s i
    refine (valQ_take (k := 0) (bl s i) (fun j _ => take_bad (by decide)) (fun j _ => take_bad (by decide))).mono fun x j _ h => ?_
    exact ⟨by omega, h.2.1, by omega⟩
  | k + 1 => fun i hi => by
    unfold valP
    have := bl_le s i
    refine (valQ_take (k := k + 1) (bl s i) (fun j hj => (listP_take (valP_take s k) j hj).mono fun xs q _ h => ?_) (fun j hj => (objP_take (valP_take s k) j hj).mono fun xs q _ h => ?_)).mono fun x j _ h => ?_
    · exact ⟨h.1, by omega, h.2⟩
    · exact ⟨h.1, by omega, h.2⟩
    · exact ⟨by omega, h.2.1, by omega⟩
/-- What is read may be, is not too deep, and is printed in no more bytes. -/
theorem parse_short {s : List UInt8} {x : J} {at' : Nat} (h : parseP s = (x, 0, at')) : mayP x = true ∧ depthP x ≤ 16 ∧ (layP x).length ≤ s.length ∧ s.length ≤ 4000 ∧ at' = 0 := by
  unfold parseP at h
  split at h
  · cases h
  · unfold readP at h
    have hv := valP_take s 16 0 (Nat.zero_le _)
    cases hp : valP s 16 0 with
    | bad e i =>
      rw [hp] at h hv
      simp only [Prod.mk.injEq] at h
      exact absurd h.2.1 hv
    | ok y i =>
      rw [hp] at h hv
      simp only at h
      obtain ⟨h1, h2, h3, h4⟩ := hv
      split at h
      · simp at h
      · simp only [Prod.mk.injEq, true_and] at h
        obtain ⟨rfl, rfl⟩ := h
        exact ⟨may_to _ h3.1, h3.2, by omega, by omega, rfl⟩
end Jo
end Go.Proofs.YtpcgfhleloonfaaGreatDoor
namespace Go.Proofs.YtpcgfhleloonfaaGreatDoor
namespace Jo
theorem joinC_mem : ∀ (ls : List (List UInt8)) (l : List UInt8), l ∈ ls → l.length ≤ (joinC ls).length
  | [], l, h => by cases h
  | [a], l, h => by
    obtain rfl : l = a := by simpa using h
    simp [joinC]
  | a :: b :: r, l, h => by
    rw [joinC_push _ _ (by simp)]
    rcases List.mem_cons.1 h with rfl | h
    · omega
    · have := joinC_mem (b :: r) l h; omega
theorem joinC_count {α : Type} (f : α → List UInt8) (l : List α) (h : ∀ x ∈ l, 1 ≤ (f x).length) : l.length ≤ (joinC (l.map f)).length := by
  by_cases hl : l = []
  · subst hl; simp
  · have h1 := joinC_len (l.map f) (by simpa using hl)
    have h2 := sum_len f l h
    rw [List.length_map] at h1
    omega
def ex1 : List UInt8 := [123, 32, 34, 98, 34, 32, 58, 32, 91, 32, 93, 32, 44, 32, 34, 97, 34, 32, 58, 32, 45, 48, 32, 125]
def ex2 : List UInt8 := [91, 49, 44, 93]
end Jo
end Go.Proofs.YtpcgfhleloonfaaGreatDoor
namespace Go.Proofs.YtpcgfhleloonfaaGreatDoor
namespace Jo
theorem quoteP_le (t : List UInt8) : (quoteP t).length ≤ 6 * t.length + 2 := by
  have : ∀ l : List UInt8, (l.flatMap quoteC).length ≤ 6 * l.length := by
    intro l
    induction l with
    | nil => simp
    | cons c l ih =>
      have := quoteC_le c
      rw [List.flatMap_cons, List.length_append, List.length_cons]; omega
  have := this t
  unfold quoteP
  simp only [List.length_cons, List.length_append, List.length_nil]
  omega
theorem nDigits_le : ∀ (k u : Nat), u < 10 ^ (k + 1) → Lib.nDigits u ≤ k + 1
  | 0, u, h => by rw [Lib.nDigits_small (by simpa using h)]; exact Nat.le_refl _
  | k + 1, u, h => by
    by_cases hu : u < 10
    · rw [Lib.nDigits_small hu]; omega
    · rw [Lib.nDigits_big hu]
      have := nDigits_le k (u / 10) (by rw [Nat.pow_succ] at h; omega)
      omega
end Jo
end Go.Proofs.YtpcgfhleloonfaaGreatDoor
namespace Go.Proofs.YtpcgfhleloonfaaGreatDoor
open Go.RowKit Jo
set_option maxHeartbeats 1000000 in
theorem sign_any (c : UInt8) (w : World) : Calls Tryz.prog 276 #[.int .u8 c.toNat] w fun e w' => e = .returned (.int .u8 (signP c).toNat) ∧ w' = w := by
  rcases sign_eq c with ⟨rfl, h⟩ | ⟨rfl, h⟩ | ⟨rfl, h⟩ | ⟨rfl, h⟩ | ⟨rfl, h⟩ | ⟨rfl, h⟩ | ⟨rfl, h⟩ | ⟨h1, h2, h3, h4, h5, h6, h7, h⟩
  case inr.inr.inr.inr.inr.inr.inr =>
    have q1 := (byte_is c 34 34 rfl).trans (decide_eq_false h1)
    have q2 := (byte_is c 92 92 rfl).trans (decide_eq_false h2)
    have q3 := (byte_is c 8 8 rfl).trans (decide_eq_false h3)
    have q4 := (byte_is c 9 9 rfl).trans (decide_eq_false h4)
    have q5 := (byte_is c 10 10 rfl).trans (decide_eq_false h5)
    have q6 := (byte_is c 12 12 rfl).trans (decide_eq_false h6)
    have q7 := (byte_is c 13 13 rfl).trans (decide_eq_false h7)
    rw [h]
    clear h h1 h2 h3 h4 h5 h6 h7
    go_enter Tryz.func276, Tryz.ntmps276
    go_wp2
    go_ret
    exact ⟨rfl, rfl⟩
  all_goals
    rw [h]
    clear h
    go_enter Tryz.func276, Tryz.ntmps276
    go_wp2
    go_ret
    exact ⟨rfl, rfl⟩
theorem quote_room (s : List UInt8) (j : Nat) (c : UInt8) (h : s[j]? = some c) : ((s.take j).flatMap quoteC).length + (quoteC c).length + 2 ≤ (quoteP s).length := by
  obtain ⟨hj, rfl⟩ := List.getElem?_eq_some_iff.1 h
  have e : s = s.take j ++ (s[j]'hj :: s.drop (j + 1)) := by
    rw [← List.drop_eq_getElem_cons hj]
    exact (List.take_append_drop j s).symm
  have : (quoteP s).length = 2 + (s.flatMap quoteC).length := by unfold quoteP; simp; omega
  rw [this]
  have e2 : (s.flatMap quoteC).length = ((s.take j).flatMap quoteC).length + (quoteC (s[j]'hj)).length + ((s.drop (j + 1)).flatMap quoteC).length := by
    conv => lhs; rw [e]
    rw [List.flatMap_append, List.flatMap_cons, List.length_append, List.length_append]
    omega
  omega
theorem dig_fin : ∀ k : Fin 16, (⟨#[48, 49, 50, 51, 52, 53, 54, 55, 56, 57, 97, 98, 99, 100, 101, 102]⟩ : ByteArray)[k.val]'k.2 = hexD.getD k.val 0 := by decide
theorem dig_at (k : Nat) {h' : k < (⟨#[48, 49, 50, 51, 52, 53, 54, 55, 56, 57, 97, 98, 99, 100, 101, 102]⟩ : ByteArray).size} (h : k < 16) : (⟨#[48, 49, 50, 51, 52, 53, 54, 55, 56, 57, 97, 98, 99, 100, 101, 102]⟩ : ByteArray)[k]'h' = hexD.getD k 0 := dig_fin ⟨k, h⟩
set_option maxHeartbeats 8000000 in
set_option maxRecDepth 100000 in
theorem quoted_any (b : Nat) (s l : List UInt8) (w : World) (h : Bd b l w) (hs : s.length ≤ 1099511627776) (hl : l.length + (quoteP s).length ≤ 1099511627776) :
    Calls Tryz.prog 272 #[.pointer (some ⟨b, 0, none⟩), S s] w fun e w' => e = .returned (.tuple #[]) ∧ Bd b (l ++ quoteP s) w' ∧ KB b w w' := by
  have hsz : (⟨s.toArray⟩ : ByteArray).size = s.length := size_mk s
  have hq2 : 2 ≤ (quoteP s).length := by unfold quoteP; simp
  have HL : Hid (l.length + (quoteP s).length ≤ 1099511627776 ∧ 2 ≤ (quoteP s).length) := Lib.hid ⟨hl, hq2⟩
  clear hl hq2
  go_enter Tryz.func272, Tryz.ntmps272
  go_wp2_with (refine (WriteByte_any b 34 l _ h (by have := HL.out; omega)).mono ?_; rintro e w1 ⟨rfl, hb1, hk1⟩; have HB1 := Lib.hid hb1; have HK1 := Lib.hid hk1; clear hb1 hk1)
  go_loopg [11] s.length (fun q i wr => ∃ j : Nat, i = .int .i64 j ∧ q = s.length - j ∧ j ≤ s.length ∧ Hid (Bd b (l ++ 34 :: (s.take j).flatMap quoteC) wr) ∧ Hid (KB b w wr))
  case atStart => exact ⟨0, rfl, by omega, Nat.zero_le _, Lib.hid (by simpa using HB1.out), HK1⟩
  case round =>
    clear HB1 HK1
    obtain ⟨j, rfl, rfl, hj, hb, hk⟩ := hrel
    by_cases hlt : j < s.length
    · obtain ⟨c, hc⟩ : ∃ c, s[j]? = some c := ⟨s[j]'hlt, List.getElem?_eq_getElem hlt⟩
      have hix := run_index_str (P := Tryz.prog) Tryz.underlying9 ⟨s.toArray⟩ j j rfl (by rw [hsz]; exact hlt) c (List.getElem?_eq_some_iff.1 hc).2
      have HR : Hid (l.length + ((s.take j).flatMap quoteC).length + (quoteC c).length + 2 ≤ 1099511627776) := Lib.hid (by have := quote_room s j c hc; have := HL.out; omega)
      have HN : Hid (l ++ 34 :: (s.take (j + 1)).flatMap quoteC = (l ++ 34 :: (s.take j).flatMap quoteC) ++ quoteC c) := Lib.hid (by rw [List.take_add_one, hc]; simp)
      obtain ⟨L, hL⟩ : ∃ L, l ++ 34 :: (s.take j).flatMap quoteC = L := ⟨_, rfl⟩
      have HLL : Hid (L.length + (quoteC c).length ≤ 1099511627776) := Lib.hid (by rw [← hL]; simp only [List.length_append, List.length_cons]; have := HR.out; omega)
      rw [hL] at hb HN
      clear hc hL HR
      by_cases hs0 : signP c = 0
      · by_cases hc32 : c < 32
        · have HQ : Hid (quoteC c = [92, 117, 48, 48, hexD.getD (c.toNat / 16) 0, hexD.getD (c.toNat % 16) 0]) := Lib.hid (by unfold quoteC; rw [if_neg (by simp [hs0]), if_pos hc32])
          have q32 : decide ((c.toNat : Int) < 32) = true := by
            have : c.toNat < 32 := UInt8.lt_iff_toNat_lt.1 hc32
            simp; omega
          have CS : ∀ w, Calls Tryz.prog 276 #[.int .u8 c.toNat] w fun e w' => e = .returned (.int .u8 0) ∧ w' = w := fun w => (sign_any c w).mono fun e w' h => ⟨by rw [h.1, hs0]; rfl, h.2⟩
          have hcn : c.toNat < 32 := UInt8.lt_iff_toNat_lt.1 hc32
          obtain ⟨h1, e1⟩ : ∃ d, hexD.getD (c.toNat / 16) 0 = d := ⟨_, rfl⟩
          obtain ⟨h2, e2⟩ : ∃ d, hexD.getD (c.toNat % 16) 0 = d := ⟨_, rfl⟩
          clear hc32 hs0
          go_wp2_with (first
            | (go_at_call 276; refine (CS _).mono ?_; rintro e w2 ⟨rfl, rfl⟩)
            | (go_at_call 95; refine (WriteString_any b [92, 117, 48, 48] L _ hb.out (by have := HLL.out; rw [HQ.out] at this; simp only [List.length_cons, List.length_nil] at this ⊢; omega)).mono ?_; rintro e w2 ⟨⟨v, rfl⟩, hb2, hk2⟩; have HB2 := Lib.hid hb2; have HK2 := Lib.hid hk2; clear hb2 hk2)
            | (go_at_call 273; refine (WriteByte_any b _ (L ++ [92, 117, 48, 48] ++ [h1]) _ HB3.out (by have := HLL.out; rw [HQ.out] at this; simp only [List.length_append, List.length_cons, List.length_nil] at this ⊢; omega)).mono ?_; rintro e w4 ⟨rfl, hb4, hk4⟩; rw [dig_at _ (by omega)] at hb4; have HB4 := Lib.hid hb4; have HK4 := Lib.hid hk4; clear hb4 hk4)
            | (go_at_call 273; refine (WriteByte_any b _ (L ++ [92, 117, 48, 48]) _ HB2.out (by have := HLL.out; rw [HQ.out] at this; simp only [List.length_append, List.length_cons, List.length_nil] at this ⊢; omega)).mono ?_; rintro e w3 ⟨rfl, hb3, hk3⟩; rw [dig_at _ (by omega), e1] at hb3; have HB3 := Lib.hid hb3; have HK3 := Lib.hid hk3; clear hb3 hk3))
          go_roundg (s.length - (j + 1))
          case rel => exact ⟨j + 1, by go_num, rfl, by omega, Lib.hid (by rw [HN.out, HQ.out, e1]; have := HB4.out; simpa using this), Lib.hid (KB.trans (KB.trans (KB.trans hk.out HK2.out) HK3.out) HK4.out)⟩
          case measure => omega
        · have HQ : Hid (quoteC c = [c]) := Lib.hid (by unfold quoteC; rw [if_neg (by simp [hs0]), if_neg hc32])
          have q32 : decide ((c.toNat : Int) < 32) = false := by
            have : ¬ c.toNat < 32 := fun e => hc32 (UInt8.lt_iff_toNat_lt.2 e)
            simp; omega
          have q0 : (((signP c).toNat : Int) == 0) = true := by rw [hs0]; rfl
          have q0' : (((signP c).toNat : Int) != 0) = false := by rw [hs0]; rfl
          clear hc32 hs0
          go_wp2_with (first
            | (go_at_call 276; refine (sign_any c _).mono ?_; rintro e w2 ⟨rfl, rfl⟩)
            | (go_at_call 273; refine (WriteByte_any b c L _ hb.out (by have := HLL.out; rw [HQ.out] at this; simpa using this)).mono ?_; rintro e w2 ⟨rfl, hb2, hk2⟩; have HB2 := Lib.hid hb2; have HK2 := Lib.hid hk2; clear hb2 hk2))
          go_roundg (s.length - (j + 1))
          case rel => exact ⟨j + 1, by go_num, rfl, by omega, Lib.hid (by rw [HN.out, HQ.out]; exact HB2.out), Lib.hid (KB.trans hk.out HK2.out)⟩
          case measure => omega
      · have HQ : Hid (quoteC c = [92, signP c]) := Lib.hid (by unfold quoteC; rw [if_pos hs0])
        have q0' : (((signP c).toNat : Int) != 0) = true := by
          have : (signP c).toNat ≠ 0 := fun e => hs0 (UInt8.toNat_inj.1 e)
          simp; omega
        have CS : ∀ w, Calls Tryz.prog 276 #[.int .u8 c.toNat] w fun e w' => e = .returned (.int .u8 (signP c).toNat) ∧ w' = w := fun w => sign_any c w
        clear hs0
        obtain ⟨x, hx⟩ : ∃ x, signP c = x := ⟨_, rfl⟩
        rw [hx] at HQ q0' CS
        clear hx
        go_wp2_with (first
          | (go_at_call 276; refine (CS _).mono ?_; rintro e w2 ⟨rfl, rfl⟩)
          | (go_at_call 273; refine (WriteByte_any b x (L ++ [92]) _ HB2.out (by have := HLL.out; rw [HQ.out] at this; simp only [List.length_append, List.length_cons, List.length_nil] at this ⊢; omega)).mono ?_; rintro e w3 ⟨rfl, hb3, hk3⟩; have HB3 := Lib.hid hb3; have HK3 := Lib.hid hk3; clear hb3 hk3)
          | (go_at_call 273; refine (WriteByte_any b 92 L _ hb.out (by have := HLL.out; rw [HQ.out] at this; simp only [List.length_cons, List.length_nil] at this; omega)).mono ?_; rintro e w2 ⟨rfl, hb2, hk2⟩; have HB2 := Lib.hid hb2; have HK2 := Lib.hid hk2; clear hb2 hk2))
        go_roundg (s.length - (j + 1))
        case rel => exact ⟨j + 1, by go_num, rfl, by omega, Lib.hid (by rw [HN.out, HQ.out]; have := HB3.out; rw [List.append_assoc] at this; exact this), Lib.hid (KB.trans (KB.trans hk.out HK2.out) HK3.out)⟩
        case measure => omega
    · obtain rfl : j = s.length := by omega
      have HB2 := Lib.hid (show Bd b (l ++ 34 :: s.flatMap quoteC) wr by have := hb.out; rwa [List.take_of_length_le (Nat.le_refl _)] at this)
      have HR : Hid ((l ++ 34 :: s.flatMap quoteC).length + 1 ≤ 1099511627776) := Lib.hid (by have := HL.out; unfold quoteP at this; simp only [List.length_append, List.length_cons, List.length_nil] at this ⊢; omega)
      clear hb
      go_wp2_with (refine (WriteByte_any b 34 _ _ HB2.out HR.out).mono ?_; rintro e w3 ⟨rfl, hb3, hk3⟩; have HB3 := Lib.hid hb3; have HK3 := Lib.hid hk3; clear hb3 hk3)
      go_end0
      refine ⟨rfl, ?_, KB.trans hk.out HK3.out⟩
      have := HB3.out
      unfold quoteP
      simpa using this
end Go.Proofs.YtpcgfhleloonfaaGreatDoor
