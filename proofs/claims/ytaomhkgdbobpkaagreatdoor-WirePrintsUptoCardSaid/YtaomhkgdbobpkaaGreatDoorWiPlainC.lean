/- Layer 5 in plain Lean: texts cut, split and trimmed; numbers there and back. No program in sight. -/
import Derived.Test.YtaomhkgdbobpkaaGreatDoorWiPlainB
import Derived.Lib.IndexBytes
import Derived.Lib.CountLaws
namespace Go.Proofs.YtaomhkgdbobpkaaGreatDoor
namespace Wi

theorem index_hit {a b : List UInt8} {c : UInt8} (h : c ∉ a) : Lib.index (a ++ c :: b) [c] = (a.length : Int) := by
  rw [Lib.index_one]
  induction a with
  | nil => simp [Lib.indexByte]
  | cons x a ih =>
    have hx : ¬ (x == c) = true := fun e => h (by rw [beq_iff_eq.1 e]; simp)
    have ih := ih fun hm => h (List.mem_cons_of_mem _ hm)
    simp only [List.cons_append, Lib.indexByte]
    rw [if_neg hx, ih, if_neg (by rw [beq_iff_eq]; omega)]
    simp only [List.length_cons]
    omega
theorem index_miss {a : List UInt8} {c : UInt8} (h : c ∉ a) : Lib.index a [c] = -1 := by
  rw [Lib.index_one]
  induction a with
  | nil => rfl
  | cons x a ih =>
    have hx : ¬ (x == c) = true := fun e => h (by rw [beq_iff_eq.1 e]; simp)
    have ih := ih fun hm => h (List.mem_cons_of_mem _ hm)
    simp only [Lib.indexByte]
    rw [if_neg hx, ih]
    rfl
theorem cutP_hit {a b : List UInt8} {c : UInt8} (h : c ∉ a) : cutP c (a ++ c :: b) = some (a, b) := by
  unfold cutP Lib.cut
  rw [index_hit h, if_pos (show (0 : Int) ≤ (a.length : Int) from Int.natCast_nonneg _)]
  simp
theorem split_hit {a b : List UInt8} {k : Nat} (h : 32 ∉ a) : Lib.splitK [32] 0 (k + 1) (a ++ 32 :: b) = a :: Lib.splitK [32] 0 k b := by
  have e : Lib.splitK [32] 0 (k + 1) (a ++ 32 :: b) = if Lib.index (a ++ 32 :: b) [32] == -1 then [a ++ 32 :: b] else (a ++ 32 :: b).take ((Lib.index (a ++ 32 :: b) [32]).toNat + 0) :: Lib.splitK [32] 0 k ((a ++ 32 :: b).drop ((Lib.index (a ++ 32 :: b) [32]).toNat + [(32 : UInt8)].length)) := rfl
  rw [e, index_hit h, if_neg (by rw [beq_iff_eq]; omega)]
  simp
theorem splitS3 {m p v : List UInt8} (hm : 32 ∉ m) (hp : 32 ∉ p) (hv : 32 ∉ v) : splitS (m ++ 32 :: (p ++ 32 :: v)) = [m, p, v] := by
  have hc : Lib.countB ⟨(m ++ 32 :: (p ++ 32 :: v)).toArray⟩ ⟨#[32]⟩ = 2 := by
    show Lib.count (m ++ 32 :: (p ++ 32 :: v)) [32] = 2
    rw [Lib.count_hit (i := m.length) (by simp) (index_hit hm)]
    have e1 : (m ++ 32 :: (p ++ 32 :: v)).drop (m.length + [(32 : UInt8)].length) = p ++ 32 :: v := by simp
    rw [e1, Lib.count_hit (i := p.length) (by simp) (index_hit hp)]
    have e2 : (p ++ 32 :: v).drop (p.length + [(32 : UInt8)].length) = v := by simp
    rw [e2, Lib.count_miss (index_miss hv)]
  unfold splitS
  rw [hc, split_hit hm, split_hit hp]
  rfl
theorem dropW_not {p : UInt8 → Bool} {x : UInt8} {l : List UInt8} (h : p x = false) : (x :: l).dropWhile p = x :: l := by
  rw [List.dropWhile_cons, h]; rfl
theorem trim_head {v : List UInt8} (h : bareP v = true) : trimP (32 :: v) = v := by
  unfold trimP Lib.trimB Lib.trimLeftB Lib.trimRightB
  cases v with
  | nil => rfl
  | cons x r =>
    unfold bareP at h
    simp only [List.isEmpty_cons, Bool.false_or, Bool.and_eq_true, List.head?_cons] at h
    have hx : (x == 32) = false := by
      have := bne_iff_ne.1 h.1
      rw [beq_eq_false_iff_ne]
      exact fun e => this (by rw [e])
    have hl := bne_iff_ne.1 h.2
    obtain ⟨y, t, hy⟩ : ∃ y t, (x :: r).reverse = y :: t := by
      cases hh : (x :: r).reverse with
      | nil => simp at hh
      | cons y t => exact ⟨y, t, rfl⟩
    have hy2 : (x :: r).getLast? = some y := by rw [List.getLast?_eq_head?_reverse, hy]; rfl
    have hyn : (y == 32) = false := by
      rw [beq_eq_false_iff_ne]
      exact fun e => hl (by rw [hy2, e])
    rw [List.reverse_cons, hy, List.cons_append, dropW_not (p := fun b => b == 32) hyn, ← List.cons_append, ← hy, ← List.reverse_cons, List.reverse_reverse, List.dropWhile_cons]
    simp only [beq_self_eq_true, if_true]
    exact dropW_not (p := fun b => b == 32) hx
theorem decFrom_snoc : ∀ (l : List UInt8) (acc : Nat) (b : UInt8), Lib.decFrom acc (l ++ [b]) = (Lib.decFrom acc l).bind fun n => (Lib.digitVal b).map fun d => n * 10 + d
  | [], acc, b => by
    simp only [List.nil_append, Lib.decFrom, Option.bind_some]
    cases Lib.digitVal b <;> rfl
  | x :: l, acc, b => by
    simp only [List.cons_append, Lib.decFrom]
    cases Lib.digitVal x with
    | none => rfl
    | some d => exact decFrom_snoc l _ b
theorem dig_of {d : Nat} (h : d < 10) : Lib.digitVal (UInt8.ofNat (48 + d)) = some d := by
  have : ∀ d : Fin 10, Lib.digitVal (UInt8.ofNat (48 + d.val)) = some d.val := by decide
  exact this ⟨d, h⟩
theorem dec_back (u : Nat) : Lib.decFrom 0 (Lib.decDigits u) = some u := by
  induction u using Nat.strongRecOn with
  | _ u ih =>
    by_cases h : u < 10
    · rw [Lib.decDigits_one h]
      simp only [Lib.decFrom]
      rw [dig_of h]
      simp
    · rw [Lib.decDigits, dif_neg h, decFrom_snoc, ih (u / 10) (by omega), Option.bind_some, dig_of (by omega)]
      simp only [Option.map_some]
      congr 1
      omega
theorem decP_itoa (n : Nat) : decP (Lib.itoa (n : Int)) = n := by
  have : Lib.itoa (n : Int) = Lib.decDigits n := by unfold Lib.itoa; rw [if_neg (by omega)]; simp
  unfold decP
  rw [this, dec_back]
  rfl
end Wi
end Go.Proofs.YtaomhkgdbobpkaaGreatDoor
