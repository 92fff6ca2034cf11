/- Plain mathematics of forms (layer 3, query): what Escape, Unescape, Print, Parse and One compute, on lists of bytes. No program in sight. -/
import Derived.WalkKit
import Derived.Lib.RuneCountTail
namespace Go.Proofs.YtldhfbdljogieaaDoor.Qu

/-- A byte (as a number) that stands in a form as it is. -/
def stayI (n : Int) : Bool := decide ((97 ≤ n ∧ n ≤ 122) ∨ (65 ≤ n ∧ n ≤ 90) ∨ (48 ≤ n ∧ n ≤ 57) ∨ n = 45 ∨ n = 46 ∨ n = 95 ∨ n = 42)
def hexUp (n : Nat) : UInt8 := if n < 10 then (48 + n).toUInt8 else (55 + n).toUInt8
def pct (c : UInt8) : List UInt8 := [37, hexUp (c.toNat / 16), hexUp (c.toNat % 16)]
def escB (c : UInt8) : List UInt8 := if c.toNat = 32 then [43] else if stayI c.toNat = true then [c] else pct c
def esc (l : List UInt8) : List UInt8 := l.flatMap escB

theorem esc_snoc (l : List UInt8) (c : UInt8) : esc (l ++ [c]) = esc l ++ escB c := by simp [esc]
theorem esc_append (l m : List UInt8) : esc (l ++ m) = esc l ++ esc m := by simp [esc]
theorem escB_le (c : UInt8) : (escB c).length ≤ 3 := by unfold escB; split <;> (try split) <;> simp [pct]
theorem escB_pos (c : UInt8) : 1 ≤ (escB c).length := by unfold escB; split <;> (try split) <;> simp [pct]
theorem esc_le (l : List UInt8) : (esc l).length ≤ 3 * l.length := by
  induction l with
  | nil => simp [esc]
  | cons c l ih =>
    have h := escB_le c
    have e : esc (c :: l) = escB c ++ esc l := by simp [esc]
    rw [e, List.length_append, List.length_cons]; omega
theorem escB_high (c : UInt8) (h : 128 ≤ c.toNat) : escB c = pct c := by
  unfold escB stayI
  rw [if_neg (by omega), if_neg (by simp; omega)]

/-- The bytes of a rune that begins with a byte from 128 on are all from 128 on, and lie within the text. -/
theorem rune_high (s : ByteArray) (pos : Nat) (h : pos < s.size) (ha : 128 ≤ (s[pos]'h).toNat) :
    pos + (Utf8.decode s pos).2 ≤ s.size ∧ ∀ k, k < (Utf8.decode s pos).2 → ∃ hk : pos + k < s.size, 128 ≤ (s[pos + k]'hk).toNat := by
  have g : ∀ k, (hk : k < s.size) → s.get! k = s[k]'hk := by
    intro k hk
    cases s with
    | mk d => exact getElem!_pos d k hk
  have h0 : ∀ k, k < 1 → ∃ hk : pos + k < s.size, 128 ≤ (s[pos + k]'hk).toNat := by
    intro k hk
    obtain rfl : k = 0 := by omega
    exact ⟨h, ha⟩
  unfold Utf8.decode
  simp only []
  split
  · exact ⟨h, h0⟩
  split
  · rename_i h1 h2
    split
    · simp only [Bool.and_eq_true, decide_eq_true_eq, beq_iff_eq] at h2
      obtain ⟨-, hs1, hc1⟩ := h2
      refine ⟨by show pos + 2 ≤ s.size; omega, fun k hk => ?_⟩
      have hk' : k < 2 := hk
      rcases (by omega : k = 0 ∨ k = 1) with rfl | rfl
      · exact ⟨h, ha⟩
      · rw [g (pos + 1) hs1] at hc1
        exact ⟨hs1, by omega⟩
    · exact ⟨h, h0⟩
  split
  · rename_i h1 h2 h3
    split
    · simp only [Bool.and_eq_true, decide_eq_true_eq, beq_iff_eq] at h3
      obtain ⟨⟨-, hs1, hc1⟩, hs2, hc2⟩ := h3
      refine ⟨by show pos + 3 ≤ s.size; omega, fun k hk => ?_⟩
      have hk' : k < 3 := hk
      rcases (by omega : k = 0 ∨ k = 1 ∨ k = 2) with rfl | rfl | rfl
      · exact ⟨h, ha⟩
      · rw [g (pos + 1) hs1] at hc1
        exact ⟨hs1, by omega⟩
      · rw [g (pos + 2) hs2] at hc2
        exact ⟨hs2, by omega⟩
    · exact ⟨h, h0⟩
  split
  · rename_i h1 h2 h3 h4
    split
    · simp only [Bool.and_eq_true, decide_eq_true_eq, beq_iff_eq] at h4
      obtain ⟨⟨⟨-, hs1, hc1⟩, hs2, hc2⟩, hs3, hc3⟩ := h4
      refine ⟨by show pos + 4 ≤ s.size; omega, fun k hk => ?_⟩
      have hk' : k < 4 := hk
      rcases (by omega : k = 0 ∨ k = 1 ∨ k = 2 ∨ k = 3) with rfl | rfl | rfl | rfl
      · exact ⟨h, ha⟩
      · rw [g (pos + 1) hs1] at hc1
        exact ⟨hs1, by omega⟩
      · rw [g (pos + 2) hs2] at hc2
        exact ⟨hs2, by omega⟩
      · rw [g (pos + 3) hs3] at hc3
        exact ⟨hs3, by omega⟩
    · exact ⟨h, h0⟩
  · exact ⟨h, h0⟩

theorem take_snoc (s : ByteArray) (k : Nat) (h : k < s.size) : s.data.toList.take (k + 1) = s.data.toList.take k ++ [s[k]'h] := by
  rw [List.take_succ_eq_append_getElem (by simpa using h)]; rfl
theorem drop_cons (s : ByteArray) (k : Nat) (h : k < s.size) : s.data.toList.drop k = s[k]'h :: s.data.toList.drop (k + 1) := by
  rw [List.drop_eq_getElem_cons (by simpa using h)]; rfl
theorem drop_end (s : ByteArray) (k : Nat) (h : s.size ≤ k) : s.data.toList.drop k = [] := List.drop_eq_nil_of_le (by simpa using h)

/-- What a digit of sixteen says; -1: it is none. -/
def hexV (c : UInt8) : Int := if 48 ≤ c.toNat ∧ c.toNat ≤ 57 then (c.toNat : Int) - 48 else if 97 ≤ c.toNat ∧ c.toNat ≤ 102 then (c.toNat : Int) - 87 else if 65 ≤ c.toNat ∧ c.toNat ≤ 70 then (c.toNat : Int) - 55 else -1
theorem hexV_rng (c : UInt8) : -1 ≤ hexV c ∧ hexV c ≤ 15 := by unfold hexV; split <;> (try split) <;> (try split) <;> omega

/-- A text as it stands in a form, read from place p on: what is read, the error's number, its place. -/
def rd (out : List UInt8) (p : Nat) : List UInt8 → List UInt8 × Int × Nat
  | [] => (out, 0, 0)
  | c :: r =>
    if c.toNat = 43 then rd (out ++ [32]) (p + 1) r
    else if c.toNat = 37 then
      match r with
      | a :: b :: r' => if hexV a < 0 ∨ hexV b < 0 then ([], 30, p) else rd (out ++ [(16 * hexV a + hexV b).toNat.toUInt8]) (p + 3) r'
      | _ => ([], 30, p)
    else if c.toNat < 33 ∨ 126 < c.toNat ∨ c.toNat = 38 ∨ c.toNat = 61 then ([], 31, p)
    else rd (out ++ [c]) (p + 1) r

theorem rd_cons (out : List UInt8) (p : Nat) (c : UInt8) (r : List UInt8) : rd out p (c :: r) =
    if c.toNat = 43 then rd (out ++ [32]) (p + 1) r
    else if c.toNat = 37 then
      (match r with
      | a :: b :: r' => if hexV a < 0 ∨ hexV b < 0 then ([], 30, p) else rd (out ++ [(16 * hexV a + hexV b).toNat.toUInt8]) (p + 3) r'
      | _ => ([], 30, p))
    else if c.toNat < 33 ∨ 126 < c.toNat ∨ c.toNat = 38 ∨ c.toNat = 61 then ([], 31, p)
    else rd (out ++ [c]) (p + 1) r := by
  match r with
  | [] => rfl
  | [_] => rfl
  | _ :: _ :: _ => rfl
theorem rd_plus (out : List UInt8) (p : Nat) (c : UInt8) (r : List UInt8) (h : c.toNat = 43) : rd out p (c :: r) = rd (out ++ [32]) (p + 1) r := by
  rw [rd_cons, if_pos h]
theorem rd_bad (out : List UInt8) (p : Nat) (c : UInt8) (r : List UInt8) (h1 : c.toNat ≠ 43) (h2 : c.toNat ≠ 37) (h : c.toNat < 33 ∨ 126 < c.toNat ∨ c.toNat = 38 ∨ c.toNat = 61) : rd out p (c :: r) = ([], 31, p) := by
  rw [rd_cons, if_neg h1, if_neg h2, if_pos h]
theorem rd_self (out : List UInt8) (p : Nat) (c : UInt8) (r : List UInt8) (h1 : c.toNat ≠ 43) (h2 : c.toNat ≠ 37) (h : ¬ (c.toNat < 33 ∨ 126 < c.toNat ∨ c.toNat = 38 ∨ c.toNat = 61)) : rd out p (c :: r) = rd (out ++ [c]) (p + 1) r := by
  rw [rd_cons, if_neg h1, if_neg h2, if_neg h]
theorem rd_short (out : List UInt8) (p : Nat) (c : UInt8) (r : List UInt8) (h : c.toNat = 37) (hl : r.length < 2) : rd out p (c :: r) = ([], 30, p) := by
  rw [rd_cons, if_neg (by omega), if_pos h]
  match r, hl with
  | [], _ => rfl
  | [_], _ => rfl
  | _ :: _ :: _, hl => simp at hl; omega
theorem rd_none (out : List UInt8) (p : Nat) (c a b : UInt8) (r : List UInt8) (h : c.toNat = 37) (hx : hexV a < 0 ∨ hexV b < 0) : rd out p (c :: a :: b :: r) = ([], 30, p) := by
  rw [rd_cons, if_neg (by omega), if_pos h]
  simp only [if_pos hx]
theorem rd_hex (out : List UInt8) (p : Nat) (c a b : UInt8) (r : List UInt8) (h : c.toNat = 37) (hx : ¬ (hexV a < 0 ∨ hexV b < 0)) : rd out p (c :: a :: b :: r) = rd (out ++ [(16 * hexV a + hexV b).toNat.toUInt8]) (p + 3) r := by
  rw [rd_cons, if_neg (by omega), if_pos h]
  simp only [if_neg hx]
end Go.Proofs.YtldhfbdljogieaaDoor.Qu
