/- Layer 5 in plain Lean: what is printed is read back. No program in sight. -/
import Derived.Test.YtaomhkgdbobpkaaGreatDoorWiPlainD
namespace Go.Proofs.YtaomhkgdbobpkaaGreatDoor
namespace Wi

theorem nDigits_leP : ∀ (k u : Nat), u < 10 ^ (k + 1) → Lib.nDigits u ≤ k + 1
  | 0, u, h => by rw [Lib.nDigits_small (by simpa using h)]; exact Nat.le_refl _
  | k + 1, u, h => by
    by_cases hu : u < 10
    · rw [Lib.nDigits_small hu]; omega
    · rw [Lib.nDigits_big hu]
      have := nDigits_leP k (u / 10) (by rw [Nat.pow_succ] at h; omega)
      omega
theorem dig_is {d : Nat} (h : d < 10) : digitP (UInt8.ofNat (48 + d)) = true ∧ (UInt8.ofNat (48 + d) = 48 → d = 0) := by
  have : ∀ d : Fin 10, digitP (UInt8.ofNat (48 + d.val)) = true ∧ (UInt8.ofNat (48 + d.val) = 48 → d.val = 0) := by decide
  exact this ⟨d, h⟩
theorem dec_all (u : Nat) : (Lib.decDigits u).all digitP = true ∧ Lib.decDigits u ≠ [] ∧ ((Lib.decDigits u).head? = some 48 → u = 0) := by
  induction u using Nat.strongRecOn with
  | _ u ih =>
    by_cases h : u < 10
    · rw [Lib.decDigits_one h]
      obtain ⟨h1, h2⟩ := dig_is h
      exact ⟨by rw [List.all_cons, h1]; rfl, by simp, fun e => h2 (by simpa using e)⟩
    · obtain ⟨i1, i2, i3⟩ := ih (u / 10) (by omega)
      obtain ⟨h1, -⟩ := dig_is (d := u % 10) (by omega)
      rw [Lib.decDigits, dif_neg h]
      refine ⟨by rw [List.all_append, i1, List.all_cons, h1]; rfl, by simp, fun e => ?_⟩
      obtain ⟨x, t, hx⟩ : ∃ x t, Lib.decDigits (u / 10) = x :: t := by
        cases hh : Lib.decDigits (u / 10) with
        | nil => exact absurd hh i2
        | cons x t => exact ⟨x, t, rfl⟩
      rw [hx] at e i3
      have := i3 (by simpa using e)
      omega
theorem itoa_nat (n : Nat) : Lib.itoa (n : Int) = Lib.decDigits n := by unfold Lib.itoa; rw [if_neg (by omega)]; simp
theorem itoa_only {n : Nat} (h : n ≤ 4000) : (Lib.itoa (n : Int)).length ≤ 4 ∧ onlyP (Lib.itoa (n : Int)) 1 1000 digitP = true ∧ bareP (Lib.itoa (n : Int)) = true ∧ ¬ ((Lib.itoa (n : Int)).head? = some 48 ∧ Lib.itoa (n : Int) ≠ [48]) := by
  obtain ⟨h1, h2, h3⟩ := dec_all n
  have hl : (Lib.decDigits n).length ≤ 4 := by
    rw [Lib.decDigits_length]
    exact nDigits_leP 3 n (by omega)
  rw [itoa_nat]
  have hp : 1 ≤ (Lib.decDigits n).length := by
    cases hh : Lib.decDigits n with
    | nil => exact absurd hh h2
    | cons x t => simp
  have hno : ∀ c, c ∈ Lib.decDigits n → c ≠ 32 := fun c hc e => by
    have := List.all_eq_true.1 h1 c hc
    rw [e] at this
    exact absurd this (by decide)
  refine ⟨hl, ?_, ?_, ?_⟩
  · unfold onlyP
    rw [h1, decide_eq_true hp, decide_eq_true (by omega)]
    rfl
  · unfold bareP
    obtain ⟨x, t, hx⟩ : ∃ x t, Lib.decDigits n = x :: t := by
      cases hh : Lib.decDigits n with
      | nil => exact absurd hh h2
      | cons x t => exact ⟨x, t, rfl⟩
    have hl1 : (Lib.decDigits n).head? ≠ some 32 := fun e => hno 32 (List.mem_of_mem_head? (by rw [e]; rfl)) rfl
    have hl2 : (Lib.decDigits n).getLast? ≠ some 32 := fun e => hno 32 (List.mem_of_getLast? e) rfl
    rw [bne_iff_ne.2 hl1, bne_iff_ne.2 hl2]
    simp
  · rintro ⟨e1, e2⟩
    have := h3 e1
    subst this
    exact e2 (by rw [Lib.decDigits_one (by omega)]; rfl)
/-- Content-Length -/
def clN : List UInt8 := [67, 111, 110, 116, 101, 110, 116, 45, 76, 101, 110, 103, 116, 104]
theorem judge_told {r : R} {n : Nat} (h1 : r.ph = 1) (h2 : r.len = -1) (hn : n ≤ 4000) :
    judgeP r ((clN ++ 58 :: 32 :: Lib.itoa (n : Int)) ++ [13]) = ({ r with len := n }, false, 0) := by
  obtain ⟨k1, k2, k3, k4⟩ := itoa_only hn
  have hc := cutP_hit (a := clN) (b := 32 :: Lib.itoa (n : Int)) (c := 58) (by decide)
  have hv : onlyP (32 :: Lib.itoa (n : Int)) 0 1000 printedP = true := by
    have hall : (Lib.itoa (n : Int)).all printedP = true := by
      unfold onlyP at k2
      simp only [Bool.and_eq_true] at k2
      rw [List.all_eq_true]
      intro c hc
      have hd := List.all_eq_true.1 k2.1.1 c hc
      unfold digitP at hd
      unfold printedP
      simp only [Bool.and_eq_true, decide_eq_true_eq] at hd ⊢
      have e1 := UInt8.le_iff_toNat_le.1 hd.1
      have e2 := UInt8.le_iff_toNat_le.1 hd.2
      have x1 : (48 : UInt8).toNat = 48 := rfl
      have x2 : (57 : UInt8).toNat = 57 := rfl
      have x3 : (32 : UInt8).toNat = 32 := rfl
      have x4 : (126 : UInt8).toNat = 126 := rfl
      exact ⟨UInt8.le_iff_toNat_le.2 (by omega), UInt8.le_iff_toNat_le.2 (by omega)⟩
    unfold onlyP
    simp only [Bool.and_eq_true, decide_eq_true_eq, List.all_cons, List.length_cons]
    exact ⟨⟨⟨by decide, hall⟩, by omega⟩, by omega⟩
  have hh : headerP r (clN ++ 58 :: 32 :: Lib.itoa (n : Int)) = ({ r with len := n }, 0) := by
    unfold headerP
    rw [hc]
    simp only
    rw [if_neg (by rintro (h | h | h)
                   · exact absurd h (by decide)
                   · rw [hv] at h; cases h
                   · exact absurd h (by decide)), if_pos (by decide), trim_head k3]
    unfold toldP
    rw [if_neg (by rintro (h | h | h)
                   · omega
                   · rw [k2] at h; cases h
                   · exact k4 h), decP_itoa, if_neg (by omega)]
  unfold judgeP
  simp only
  rw [if_neg (by omega), (suffix13 _).1, (suffix13 _).2, if_neg (by simp), if_neg (by simp), hh]
/-- Headers, printed. -/
theorem run_heads : ∀ (fs : List Fl) (r : R), fs.all isHeaderP = true → r.hs.length + fs.length ≤ 32 → r.ph = 1 → r.line = [] → ∃ c, runP r ((fs.map headP).flatten) = some { r with cnt := c, hs := r.hs ++ fs }
  | [], r, _, _, _, _ => ⟨r.cnt, by simp [runP]⟩
  | f :: fs, r, ha, hl, hp, he => by
    simp only [List.all_cons, Bool.and_eq_true] at ha
    simp only [List.length_cons] at hl
    have hf := ha.1
    unfold isHeaderP at hf
    simp only [Bool.and_eq_true, decide_eq_true_eq] at hf
    have hlen := hf.1.1.2
    have hn1 : 10 ∉ f.1 := only_not (a := 1) (b := 40) hf.1.1.1.1.1 (by decide : ofNameP 10 = false)
    have hn2 : 10 ∉ f.2 := only_not hf.1.1.1.1.2 (by decide)
    have h1 : runP r (((f.1 ++ 58 :: 32 :: f.2) ++ [13]) ++ [10]) = some { r with cnt := r.cnt + ((f.1 ++ 58 :: 32 :: f.2) ++ [13]).length + 1, line := [], hs := r.hs ++ [f] } :=
      run_line (by omega) he (by simp [hn1, hn2]) (by simp only [List.length_append, List.length_cons, List.length_nil]; omega) (judge_header hp ha.1 (by simp only; omega))
    obtain ⟨c, h2⟩ := run_heads fs { r with cnt := r.cnt + ((f.1 ++ 58 :: 32 :: f.2) ++ [13]).length + 1, line := [], hs := r.hs ++ [f] } ha.2 (by simp only [List.length_append, List.length_cons, List.length_nil]; omega) hp rfl
    refine ⟨c, ?_⟩
    have e : ((f :: fs).map headP).flatten = (((f.1 ++ 58 :: 32 :: f.2) ++ [13]) ++ [10]) ++ (fs.map headP).flatten := by simp [headP]
    rw [e, runP_trans h1 h2]
    simp only [Option.some.injEq, R.mk.injEq, true_and, and_true]
    exact ⟨he.symm, by simp⟩
end Wi
end Go.Proofs.YtaomhkgdbobpkaaGreatDoor
