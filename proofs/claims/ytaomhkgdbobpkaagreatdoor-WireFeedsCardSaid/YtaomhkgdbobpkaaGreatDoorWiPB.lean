/- Layer 5 in plain Lean: what stays true of a reading; cuts, splits, blanks; runs over a line; numbers; what is printed is read; lines; lengths; what stands at a text's beginning and what is fed. No program in sight. -/
import Derived.Test.YtaomhkgdbobpkaaGreatDoorWiPlain
import Derived.Lib.IndexBytes
import Derived.Lib.CountLaws
namespace Go.Proofs.YtaomhkgdbobpkaaGreatDoor
namespace Wi

/-- What holds of a reading that nothing is wrong with and that is not whole. -/
structure RI (r : R) : Prop where
  line : r.line.length ≤ 1001
  hs : r.hs.length ≤ 32
  len : r.len ≤ 4000
  ph : r.ph ≤ 2
  nobody : r.ph < 2 → r.body = []
  inbody : r.ph = 2 → (r.body.length : Int) < r.len
  first : r.ans = false → 1 ≤ r.ph → ∃ m p, r.first = [m, p]
  code : r.ans = true → 1 ≤ r.ph → ∃ d, r.first = [d] ∧ onlyP d 3 3 digitP = true
theorem RI.begin (ans : Bool) : RI (begin' ans) := ⟨by simp [begin'], by simp [begin'], by simp [begin'], by simp [begin'], fun _ => rfl, fun h => by simp [begin'] at h, fun _ h => by simp [begin'] at h, fun _ h => by simp [begin'] at h⟩
/-- .. that is whole. -/
structure RW (r : R) : Prop where
  hs : r.hs.length ≤ 32
  body : r.body.length ≤ 4000
  first : r.ans = false → ∃ m p, r.first = [m, p]
  code : r.ans = true → ∃ d, r.first = [d] ∧ onlyP d 3 3 digitP = true
theorem toldP_inv {r : R} {v : List UInt8} (h : RI r) (hp : r.ph < 2) (he : (toldP r v).2 = 0) : RI (toldP r v).1 ∧ (toldP r v).1.ans = r.ans ∧ (toldP r v).1.ph = r.ph := by
  unfold toldP at he ⊢
  split at he
  · simp at he
  · rename_i h1
    rw [if_neg h1]
    split at he
    · simp at he
    · rename_i h2
      rw [if_neg h2]
      refine ⟨⟨h.line, h.hs, ?_, h.ph, h.nobody, fun e => ?_, h.first, h.code⟩, rfl, rfl⟩
      · simp only; omega
      · simp only at e; omega
theorem headerP_inv {r : R} {s : List UInt8} (h : RI r) (hp : r.ph < 2) (he : (headerP r s).2 = 0) : RI (headerP r s).1 ∧ (headerP r s).1.ans = r.ans ∧ (headerP r s).1.ph = r.ph := by
  unfold headerP at he ⊢
  cases hc : cutP 58 s with
  | none => rw [hc] at he; simp at he
  | some x =>
    obtain ⟨n, v⟩ := x
    rw [hc] at he
    simp only at he ⊢
    split at he
    · simp at he
    · rename_i h1
      rw [if_neg h1]
      split at he
      · rename_i h2
        rw [if_pos h2]
        exact toldP_inv h hp he
      · rename_i h2
        rw [if_neg h2]
        split at he
        · simp at he
        · rename_i h3
          rw [if_neg h3]
          refine ⟨⟨h.line, ?_, h.len, h.ph, h.nobody, h.inbody, h.first, h.code⟩, rfl, rfl⟩
          have := h.hs
          simp only [List.length_append, List.length_cons, List.length_nil]
          omega
theorem beginsP_inv {r r' : R} {s : List UInt8} (h : beginsP r s = some r') : (∃ f, r' = { r with first := f } ∧ (r.ans = false → ∃ m p, f = [m, p]) ∧ (r.ans = true → ∃ d, f = [d] ∧ onlyP d 3 3 digitP = true)) := by
  unfold beginsP at h
  split at h
  · rename_i ha
    obtain ⟨d, hd, rfl⟩ := Option.map_eq_some_iff.1 h
    refine ⟨_, rfl, fun e => (by rw [ha] at e; cases e), fun _ => ⟨d, rfl, ?_⟩⟩
    unfold statusP at hd
    split at hd
    · rename_i hc
      obtain rfl := Option.some.inj hd
      have := hc.2.1
      unfold codeP at this
      simp only [Bool.and_eq_true] at this
      exact this.1.2
    · cases hd
  · rename_i ha
    obtain ⟨x, _, rfl⟩ := Option.map_eq_some_iff.1 h
    exact ⟨_, rfl, fun _ => ⟨_, _, rfl⟩, fun e => absurd e ha⟩
theorem judgeP_inv {r : R} {line : List UInt8} (h : RI r) (hp : r.ph < 2) (he : (judgeP r line).2.2 = 0) :
    ((judgeP r line).2.1 = false → RI (judgeP r line).1) ∧ ((judgeP r line).2.1 = true → RW (judgeP r line).1) ∧ (judgeP r line).1.ans = r.ans := by
  unfold judgeP at he ⊢
  simp only at he ⊢
  split at he
  · rename_i h0
    rw [if_pos h0]
    split at he
    · simp at he
    · rename_i r' hb
      have hb2 : beginsP r (Lib.trimSuffix line [13]) = some r' := by
        by_cases hed : Lib.hasSuffix line [13] = true
        · rw [if_pos hed] at hb; exact hb
        · rw [if_neg hed] at hb; cases hb
      obtain ⟨f, rfl, h1, h2⟩ := beginsP_inv hb2
      refine ⟨fun _ => ⟨h.line, h.hs, h.len, by simp, fun _ => h.nobody hp, fun e => by simp at e, fun e _ => h1 e, fun e _ => h2 e⟩, fun e => by simp at e, rfl⟩
  · rename_i h0
    have hp1 : r.ph = 1 := by omega
    rw [if_neg h0]
    split at he
    · simp at he
    · rename_i h1
      rw [if_neg h1]
      split at he
      · rename_i h2
        rw [if_pos h2]
        refine ⟨fun e => ⟨h.line, h.hs, h.len, by simp, fun e => by simp at e, fun _ => ?_, fun e _ => h.first e (by omega), fun e _ => h.code e (by omega)⟩, fun _ => ⟨h.hs, ?_, fun e => h.first e (by omega), fun e => h.code e (by omega)⟩, rfl⟩
        · simp only [decide_eq_false_iff_not] at e
          rw [h.nobody hp]
          simp only [List.length_nil]
          omega
        · simp only; rw [h.nobody hp]; simp
      · rename_i h2
        rw [if_neg h2]
        obtain ⟨k1, k2, k3⟩ := headerP_inv h hp he
        exact ⟨fun _ => k1, fun e => by simp at e, k2⟩
theorem takesP_inv {r : R} {c : UInt8} (h : RI r) (he : (takesP r c).2.2 = 0) :
    ((takesP r c).2.1 = false → RI (takesP r c).1) ∧ ((takesP r c).2.1 = true → RW (takesP r c).1) ∧ (takesP r c).1.ans = r.ans := by
  unfold takesP nextP at he ⊢
  simp only at he ⊢
  by_cases hp : r.ph = 2
  · rw [if_pos hp] at he ⊢
    have hb := h.inbody hp
    refine ⟨fun e => ⟨h.line, h.hs, h.len, h.ph, fun e => (by simp only at e; omega), fun _ => ?_, h.first, h.code⟩, fun e => ⟨h.hs, ?_, fun e => h.first e (by omega), fun e => h.code e (by omega)⟩, rfl⟩
    · simp only [decide_eq_false_iff_not] at e
      simp only [List.length_append, List.length_cons, List.length_nil]
      omega
    · have := h.len
      simp only [List.length_append, List.length_cons, List.length_nil]
      omega
  · rw [if_neg hp] at he ⊢
    have hp2 : r.ph < 2 := by have := h.ph; omega
    by_cases hc : c = 10
    · rw [if_pos hc] at he ⊢
      exact judgeP_inv ⟨by simp, h.hs, h.len, h.ph, h.nobody, h.inbody, h.first, h.code⟩ hp2 he
    · rw [if_neg hc] at he ⊢
      simp only at he ⊢
      refine ⟨fun _ => ⟨?_, h.hs, h.len, h.ph, h.nobody, h.inbody, h.first, h.code⟩, fun e => (by simp at e), (by simp)⟩
      by_cases hl : 1002 ≤ r.line.length + 1
      · rw [if_pos hl] at he; simp at he
      · simp only [List.length_append, List.length_cons, List.length_nil]; omega
theorem toldP_cnt (r : R) (v : List UInt8) : (toldP r v).1.cnt = r.cnt := by
  unfold toldP
  split
  · rfl
  · split <;> rfl
theorem headerP_cnt (r : R) (s : List UInt8) : (headerP r s).1.cnt = r.cnt := by
  unfold headerP
  split
  · rfl
  · split
    · rfl
    · split
      · exact toldP_cnt _ _
      · split <;> rfl
theorem takesP_cnt (r : R) (c : UInt8) : (takesP r c).1.cnt = r.cnt + 1 := by
  unfold takesP nextP judgeP
  simp only
  split
  · rfl
  · split
    · split
      · split
        · rfl
        · rename_i r' hb
          have hb2 : beginsP { r with cnt := r.cnt + 1, line := [] } (Lib.trimSuffix r.line [13]) = some r' := by
            by_cases hed : Lib.hasSuffix r.line [13] = true
            · rw [if_pos hed] at hb; exact hb
            · rw [if_neg hed] at hb; cases hb
          obtain ⟨f, rfl, _, _⟩ := beginsP_inv hb2
          rfl
      · split
        · rfl
        · split
          · rfl
          · exact headerP_cnt _ _
    · rfl
/-- An answer at a text's beginning: the reading that is whole, and what is behind; or what is wrong. -/
def ansP : R → List UInt8 → (R × List UInt8) ⊕ Int
  | _, [] => .inr 56
  | r, c :: s => if (takesP r c).2.2 ≠ 0 then .inr (takesP r c).2.2 else if (takesP r c).2.1 = true then .inl ((takesP r c).1, s) else ansP (takesP r c).1 s
theorem ansP_cons (r : R) (c : UInt8) (s : List UInt8) : ansP r (c :: s) = if (takesP r c).2.2 ≠ 0 then .inr (takesP r c).2.2 else if (takesP r c).2.1 = true then .inl ((takesP r c).1, s) else ansP (takesP r c).1 s := rfl
def ofAns : (R × List UInt8) ⊕ Int → Ans × List UInt8 × Int
  | .inr e => (⟨0, [], []⟩, [], e)
  | .inl (r, t) => (⟨(decP (r.first.getD 0 []) : Nat), r.hs, r.body⟩, t, 0)
def parseA (s : List UInt8) : Ans × List UInt8 × Int := ofAns (ansP (begin' true) s)
end Wi
end Go.Proofs.YtaomhkgdbobpkaaGreatDoor

namespace Go.Proofs.YtaomhkgdbobpkaaGreatDoor
namespace Wi

theorem index_hit {a b : List UInt8} {c : UInt8} (h : c ∉ a) : Lib.index (a ++ c :: b) [c] = (a.length : Int) := by
  rw [Lib.index_one]
  induction a with
  | nil => simp [Lib.indexByte]
  | cons x a ih =>
    have hx : ¬ (x == c) = true := fun e => h (by rw [beq_iff_eq.1 e]; simp)
    have ih := ih fun hm => h (List.mem_cons_of_mem _ hm)
    simp only [List.cons_append, Lib.indexByte]
    rw [if_neg hx, ih, if_neg (by rw [beq_iff_eq]; omega)]
    simp only [List.length_cons]
    omega
theorem index_miss {a : List UInt8} {c : UInt8} (h : c ∉ a) : Lib.index a [c] = -1 := by
  rw [Lib.index_one]
  induction a with
  | nil => rfl
  | cons x a ih =>
    have hx : ¬ (x == c) = true := fun e => h (by rw [beq_iff_eq.1 e]; simp)
    have ih := ih fun hm => h (List.mem_cons_of_mem _ hm)
    simp only [Lib.indexByte]
    rw [if_neg hx, ih]
    rfl
theorem cutP_hit {a b : List UInt8} {c : UInt8} (h : c ∉ a) : cutP c (a ++ c :: b) = some (a, b) := by
  unfold cutP Lib.cut
  rw [index_hit h, if_pos (show (0 : Int) ≤ (a.length : Int) from Int.natCast_nonneg _)]
  simp
theorem split_hit {a b : List UInt8} {k : Nat} (h : 32 ∉ a) : Lib.splitK [32] 0 (k + 1) (a ++ 32 :: b) = a :: Lib.splitK [32] 0 k b := by
  have e : Lib.splitK [32] 0 (k + 1) (a ++ 32 :: b) = if Lib.index (a ++ 32 :: b) [32] == -1 then [a ++ 32 :: b] else (a ++ 32 :: b).take ((Lib.index (a ++ 32 :: b) [32]).toNat + 0) :: Lib.splitK [32] 0 k ((a ++ 32 :: b).drop ((Lib.index (a ++ 32 :: b) [32]).toNat + [(32 : UInt8)].length)) := rfl
  rw [e, index_hit h, if_neg (by rw [beq_iff_eq]; omega)]
  simp
theorem splitS3 {m p v : List UInt8} (hm : 32 ∉ m) (hp : 32 ∉ p) (hv : 32 ∉ v) : splitS (m ++ 32 :: (p ++ 32 :: v)) = [m, p, v] := by
  have hc : Lib.countB ⟨(m ++ 32 :: (p ++ 32 :: v)).toArray⟩ ⟨#[32]⟩ = 2 := by
    show Lib.count (m ++ 32 :: (p ++ 32 :: v)) [32] = 2
    rw [Lib.count_hit (i := m.length) (by simp) (index_hit hm)]
    have e1 : (m ++ 32 :: (p ++ 32 :: v)).drop (m.length + [(32 : UInt8)].length) = p ++ 32 :: v := by simp
    rw [e1, Lib.count_hit (i := p.length) (by simp) (index_hit hp)]
    have e2 : (p ++ 32 :: v).drop (p.length + [(32 : UInt8)].length) = v := by simp
    rw [e2, Lib.count_miss (index_miss hv)]
  unfold splitS
  rw [hc, split_hit hm, split_hit hp]
  rfl
theorem dropW_not {p : UInt8 → Bool} {x : UInt8} {l : List UInt8} (h : p x = false) : (x :: l).dropWhile p = x :: l := by
  rw [List.dropWhile_cons, h]; rfl
theorem trim_head {v : List UInt8} (h : bareP v = true) : trimP (32 :: v) = v := by
  unfold trimP Lib.trimB Lib.trimLeftB Lib.trimRightB
  cases v with
  | nil => rfl
  | cons x r =>
    unfold bareP at h
    simp only [List.isEmpty_cons, Bool.false_or, Bool.and_eq_true, List.head?_cons] at h
    have hx : (x == 32) = false := by
      have := bne_iff_ne.1 h.1
      rw [beq_eq_false_iff_ne]
      exact fun e => this (by rw [e])
    have hl := bne_iff_ne.1 h.2
    obtain ⟨y, t, hy⟩ : ∃ y t, (x :: r).reverse = y :: t := by
      cases hh : (x :: r).reverse with
      | nil => simp at hh
      | cons y t => exact ⟨y, t, rfl⟩
    have hy2 : (x :: r).getLast? = some y := by rw [List.getLast?_eq_head?_reverse, hy]; rfl
    have hyn : (y == 32) = false := by
      rw [beq_eq_false_iff_ne]
      exact fun e => hl (by rw [hy2, e])
    rw [List.reverse_cons, hy, List.cons_append, dropW_not (p := fun b => b == 32) hyn, ← List.cons_append, ← hy, ← List.reverse_cons, List.reverse_reverse, List.dropWhile_cons]
    simp only [beq_self_eq_true, if_true]
    exact dropW_not (p := fun b => b == 32) hx
theorem decFrom_snoc : ∀ (l : List UInt8) (acc : Nat) (b : UInt8), Lib.decFrom acc (l ++ [b]) = (Lib.decFrom acc l).bind fun n => (Lib.digitVal b).map fun d => n * 10 + d
  | [], acc, b => by
    simp only [List.nil_append, Lib.decFrom, Option.bind_some]
    cases Lib.digitVal b <;> rfl
  | x :: l, acc, b => by
    simp only [List.cons_append, Lib.decFrom]
    cases Lib.digitVal x with
    | none => rfl
    | some d => exact decFrom_snoc l _ b
theorem dig_of {d : Nat} (h : d < 10) : Lib.digitVal (UInt8.ofNat (48 + d)) = some d := by
  have : ∀ d : Fin 10, Lib.digitVal (UInt8.ofNat (48 + d.val)) = some d.val := by decide
  exact this ⟨d, h⟩
theorem dec_back (u : Nat) : Lib.decFrom 0 (Lib.decDigits u) = some u := by
  induction u using Nat.strongRecOn with
  | _ u ih =>
    by_cases h : u < 10
    · rw [Lib.decDigits_one h]
      simp only [Lib.decFrom]
      rw [dig_of h]
      simp
    · rw [Lib.decDigits, dif_neg h, decFrom_snoc, ih (u / 10) (by omega), Option.bind_some, dig_of (by omega)]
      simp only [Option.map_some]
      congr 1
      omega
theorem decP_itoa (n : Nat) : decP (Lib.itoa (n : Int)) = n := by
  have : Lib.itoa (n : Int) = Lib.decDigits n := by unfold Lib.itoa; rw [if_neg (by omega)]; simp
  unfold decP
  rw [this, dec_back]
  rfl
end Wi
end Go.Proofs.YtaomhkgdbobpkaaGreatDoor

namespace Go.Proofs.YtaomhkgdbobpkaaGreatDoor
namespace Wi

/-- Bytes that are taken, and by which nothing is whole. -/
def runP : R → List UInt8 → Option R
  | r, [] => some r
  | r, c :: s => if (takesP r c).2.2 = 0 ∧ (takesP r c).2.1 = false then runP (takesP r c).1 s else none
theorem runP_app : ∀ (a : List UInt8) (r : R) (b : List UInt8), runP r (a ++ b) = (runP r a).bind fun r' => runP r' b
  | [], _, _ => rfl
  | c :: a, r, b => by
    simp only [List.cons_append, runP]
    by_cases h : (takesP r c).2.2 = 0 ∧ (takesP r c).2.1 = false
    · rw [if_pos h, if_pos h]; exact runP_app a _ b
    · rw [if_neg h, if_neg h]; rfl
theorem runP_trans {r r1 r2 : R} {a b : List UInt8} (h1 : runP r a = some r1) (h2 : runP r1 b = some r2) : runP r (a ++ b) = some r2 := by
  rw [runP_app, h1]; exact h2
theorem feed_run : ∀ (a : List UInt8) {r r' : R} (b : List UInt8), runP r a = some r' → feedP r (a ++ b) = feedP r' b
  | [], r, r', b, h => by
    obtain rfl := Option.some.inj h
    rfl
  | c :: a, r, r', b, h => by
    unfold runP at h
    split at h
    · rename_i h1
      rw [List.cons_append]
      have e : feedP r (c :: (a ++ b)) = if (takesP r c).2.2 ≠ 0 then ([], (takesP r c).1, (takesP r c).2.2) else if (takesP r c).2.1 = true then ((takesP r c).1 :: (feedP (begin' false) (a ++ b)).1, (feedP (begin' false) (a ++ b)).2) else feedP (takesP r c).1 (a ++ b) := rfl
      rw [e, if_neg (by rw [h1.1]; simp), if_neg (by rw [h1.2]; simp)]
      exact feed_run a b h
    · cases h
theorem ans_run : ∀ (a : List UInt8) {r r' : R} (b : List UInt8), runP r a = some r' → ansP r (a ++ b) = ansP r' b
  | [], r, r', b, h => by
    obtain rfl := Option.some.inj h
    rfl
  | c :: a, r, r', b, h => by
    unfold runP at h
    split at h
    · rename_i h1
      rw [List.cons_append, ansP_cons, if_neg (by rw [h1.1]; simp), if_neg (by rw [h1.2]; simp)]
      exact ans_run a b h
    · cases h
theorem takes_char {r : R} {c : UInt8} (hp : r.ph < 2) (hc : c ≠ 10) (hl : r.line.length + 1 ≤ 1001) : takesP r c = ({ r with cnt := r.cnt + 1, line := r.line ++ [c] }, false, 0) := by
  unfold takesP nextP
  simp only
  rw [if_neg (by omega), if_neg hc, if_neg (by omega)]
theorem run_chars : ∀ (l : List UInt8) (r : R), r.ph < 2 → 10 ∉ l → r.line.length + l.length ≤ 1001 → runP r l = some { r with cnt := r.cnt + l.length, line := r.line ++ l }
  | [], r, _, _, _ => by simp [runP]
  | c :: l, r, hp, hn, hl => by
    simp only [List.length_cons] at hl
    have h1 := takes_char (r := r) (c := c) hp (fun e => hn (by rw [e]; simp)) (by omega)
    unfold runP
    rw [h1]
    simp only [and_self, if_true]
    have ih := run_chars l { r with cnt := r.cnt + 1, line := r.line ++ [c] } hp (fun h => hn (List.mem_cons_of_mem _ h)) (by simp only [List.length_append, List.length_cons, List.length_nil]; omega)
    rw [ih]
    simp only [List.length_cons, Option.some.injEq, R.mk.injEq, true_and, and_true]
    exact ⟨by omega, by simp⟩
/-- A line. -/
theorem run_line {r r2 : R} {l : List UInt8} (hp : r.ph < 2) (he : r.line = []) (hn : 10 ∉ l) (hl : l.length ≤ 1001) (hj : judgeP { r with cnt := r.cnt + l.length + 1, line := [] } l = (r2, false, 0)) : runP r (l ++ [10]) = some r2 := by
  refine runP_trans (run_chars l r hp hn (by rw [he]; simpa using hl)) ?_
  have e : takesP { r with cnt := r.cnt + l.length, line := r.line ++ l } 10 = judgeP { r with cnt := r.cnt + l.length + 1, line := [] } l := by
    unfold takesP nextP
    simp only
    rw [if_neg (by omega), if_pos trivial, he]
    rfl
  unfold runP
  rw [e, hj]
  simp [runP]
theorem suffix13 (x : List UInt8) : Lib.hasSuffix (x ++ [13]) [13] = true ∧ Lib.trimSuffix (x ++ [13]) [13] = x := by
  have h : Lib.hasSuffix (x ++ [13]) [13] = true := by simp [Lib.hasSuffix, List.isSuffixOf]
  refine ⟨h, ?_⟩
  unfold Lib.trimSuffix
  rw [if_pos h]
  simp
theorem only_not {s : List UInt8} {a b : Nat} {p : UInt8 → Bool} (h : onlyP s a b p = true) {c : UInt8} (hc : p c = false) : c ∉ s := fun hm => by
  unfold onlyP at h
  simp only [Bool.and_eq_true, List.all_eq_true] at h
  have := h.1.1 c hm
  rw [hc] at this
  cases this
theorem judge_first {r : R} {m p : List UInt8} (h0 : r.ph = 0) (ha : r.ans = false) (hm : isMethodP m = true) (hp : isPathP p = true) :
    judgeP r ((m ++ 32 :: (p ++ 32 :: versionL)) ++ [13]) = ({ r with first := [m, p], ph := 1 }, false, 0) := by
  have hp2 : onlyP p 1 200 shownP = true := by
    unfold isPathP at hp
    simp only [Bool.and_eq_true] at hp
    exact hp.1
  have hs := splitS3 (m := m) (p := p) (v := versionL) (only_not (a := 1) (b := 16) hm (by decide)) (only_not hp2 (by decide)) (by decide)
  have hb : beginsP r (m ++ 32 :: (p ++ 32 :: versionL)) = some { r with first := [m, p] } := by
    unfold beginsP askedP
    rw [hs, ha]
    simp [hm, hp]
  unfold judgeP
  simp only
  rw [if_pos h0, (suffix13 _).1, (suffix13 _).2, if_pos rfl, hb]
theorem judge_header {r : R} {f : Fl} (h1 : r.ph = 1) (hf : isHeaderP f = true) (hl : r.hs.length < 32) :
    judgeP r ((f.1 ++ 58 :: 32 :: f.2) ++ [13]) = ({ r with hs := r.hs ++ [f] }, false, 0) := by
  unfold isHeaderP at hf
  simp only [Bool.and_eq_true, decide_eq_true_eq, bne_iff_ne] at hf
  obtain ⟨⟨⟨⟨⟨k1, k2⟩, k3⟩, k4⟩, k5⟩, k6⟩ := hf
  have hc := cutP_hit (a := f.1) (b := 32 :: f.2) (only_not (a := 1) (b := 40) k1 (by decide : ofNameP 58 = false))
  have hv : onlyP (32 :: f.2) 0 1000 printedP = true := by
    unfold onlyP at k2 ⊢
    simp only [Bool.and_eq_true, decide_eq_true_eq, List.all_cons, List.length_cons] at k2 ⊢
    exact ⟨⟨⟨by decide, k2.1.1⟩, by omega⟩, by omega⟩
  have hh : headerP r (f.1 ++ 58 :: 32 :: f.2) = ({ r with hs := r.hs ++ [f] }, 0) := by
    unfold headerP
    rw [hc]
    simp only
    rw [if_neg (by rintro (h | h | h); · rw [k1] at h; cases h
                   · rw [hv] at h; cases h
                   · exact k6 h), if_neg k5, if_neg (by omega), trim_head k3]
  unfold judgeP
  simp only
  rw [if_neg (by omega), (suffix13 _).1, (suffix13 _).2, if_neg (by simp), if_neg (by simp), hh]
theorem judge_blank {r : R} (h1 : r.ph = 1) : judgeP r [13] = ({ r with ph := 2 }, decide (r.len ≤ 0), 0) := by
  have h := suffix13 []
  simp only [List.nil_append] at h
  unfold judgeP
  simp only
  rw [if_neg (by omega), h.1, h.2, if_neg (by simp), if_pos rfl]
end Wi
end Go.Proofs.YtaomhkgdbobpkaaGreatDoor

namespace Go.Proofs.YtaomhkgdbobpkaaGreatDoor
namespace Wi

theorem nDigits_leP : ∀ (k u : Nat), u < 10 ^ (k + 1) → Lib.nDigits u ≤ k + 1
  | 0, u, h => by rw [Lib.nDigits_small (by simpa using h)]; exact Nat.le_refl _
  | k + 1, u, h => by
    by_cases hu : u < 10
    · rw [Lib.nDigits_small hu]; omega
    · rw [Lib.nDigits_big hu]
      have := nDigits_leP k (u / 10) (by rw [Nat.pow_succ] at h; omega)
      omega
theorem dig_is {d : Nat} (h : d < 10) : digitP (UInt8.ofNat (48 + d)) = true ∧ (UInt8.ofNat (48 + d) = 48 → d = 0) := by
  have : ∀ d : Fin 10, digitP (UInt8.ofNat (48 + d.val)) = true ∧ (UInt8.ofNat (48 + d.val) = 48 → d.val = 0) := by decide
  exact this ⟨d, h⟩
theorem dec_all (u : Nat) : (Lib.decDigits u).all digitP = true ∧ Lib.decDigits u ≠ [] ∧ ((Lib.decDigits u).head? = some 48 → u = 0) := by
  induction u using Nat.strongRecOn with
  | _ u ih =>
    by_cases h : u < 10
    · rw [Lib.decDigits_one h]
      obtain ⟨h1, h2⟩ := dig_is h
      exact ⟨by rw [List.all_cons, h1]; rfl, by simp, fun e => h2 (by simpa using e)⟩
    · obtain ⟨i1, i2, i3⟩ := ih (u / 10) (by omega)
      obtain ⟨h1, -⟩ := dig_is (d := u % 10) (by omega)
      rw [Lib.decDigits, dif_neg h]
      refine ⟨by rw [List.all_append, i1, List.all_cons, h1]; rfl, by simp, fun e => ?_⟩
      obtain ⟨x, t, hx⟩ : ∃ x t, Lib.decDigits (u / 10) = x :: t := by
        cases hh : Lib.decDigits (u / 10) with
        | nil => exact absurd hh i2
        | cons x t => exact ⟨x, t, rfl⟩
      rw [hx] at e i3
      have := i3 (by simpa using e)
      omega
theorem itoa_nat (n : Nat) : Lib.itoa (n : Int) = Lib.decDigits n := by unfold Lib.itoa; rw [if_neg (by omega)]; simp
theorem itoa_only {n : Nat} (h : n ≤ 4000) : (Lib.itoa (n : Int)).length ≤ 4 ∧ onlyP (Lib.itoa (n : Int)) 1 1000 digitP = true ∧ bareP (Lib.itoa (n : Int)) = true ∧ ¬ ((Lib.itoa (n : Int)).head? = some 48 ∧ Lib.itoa (n : Int) ≠ [48]) := by
  obtain ⟨h1, h2, h3⟩ := dec_all n
  have hl : (Lib.decDigits n).length ≤ 4 := by
    rw [Lib.decDigits_length]
    exact nDigits_leP 3 n (by omega)
  rw [itoa_nat]
  have hp : 1 ≤ (Lib.decDigits n).length := by
    cases hh : Lib.decDigits n with
    | nil => exact absurd hh h2
    | cons x t => simp
  have hno : ∀ c, c ∈ Lib.decDigits n → c ≠ 32 := fun c hc e => by
    have := List.all_eq_true.1 h1 c hc
    rw [e] at this
    exact absurd this (by decide)
  refine ⟨hl, ?_, ?_, ?_⟩
  · unfold onlyP
    rw [h1, decide_eq_true hp, decide_eq_true (by omega)]
    rfl
  · unfold bareP
    obtain ⟨x, t, hx⟩ : ∃ x t, Lib.decDigits n = x :: t := by
      cases hh : Lib.decDigits n with
      | nil => exact absurd hh h2
      | cons x t => exact ⟨x, t, rfl⟩
    have hl1 : (Lib.decDigits n).head? ≠ some 32 := fun e => hno 32 (List.mem_of_mem_head? (by rw [e]; rfl)) rfl
    have hl2 : (Lib.decDigits n).getLast? ≠ some 32 := fun e => hno 32 (List.mem_of_getLast? e) rfl
    rw [bne_iff_ne.2 hl1, bne_iff_ne.2 hl2]
    simp
  · rintro ⟨e1, e2⟩
    have := h3 e1
    subst this
    exact e2 (by rw [Lib.decDigits_one (by omega)]; rfl)
/-- Content-Length -/
def clN : List UInt8 := [67, 111, 110, 116, 101, 110, 116, 45, 76, 101, 110, 103, 116, 104]
theorem judge_told {r : R} {n : Nat} (h1 : r.ph = 1) (h2 : r.len = -1) (hn : n ≤ 4000) :
    judgeP r ((clN ++ 58 :: 32 :: Lib.itoa (n : Int)) ++ [13]) = ({ r with len := n }, false, 0) := by
  obtain ⟨k1, k2, k3, k4⟩ := itoa_only hn
  have hc := cutP_hit (a := clN) (b := 32 :: Lib.itoa (n : Int)) (c := 58) (by decide)
  have hv : onlyP (32 :: Lib.itoa (n : Int)) 0 1000 printedP = true := by
    have hall : (Lib.itoa (n : Int)).all printedP = true := by
      unfold onlyP at k2
      simp only [Bool.and_eq_true] at k2
      rw [List.all_eq_true]
      intro c hc
      have hd := List.all_eq_true.1 k2.1.1 c hc
      unfold digitP at hd
      unfold printedP
      simp only [Bool.and_eq_true, decide_eq_true_eq] at hd ⊢
      have e1 := UInt8.le_iff_toNat_le.1 hd.1
      have e2 := UInt8.le_iff_toNat_le.1 hd.2
      have x1 : (48 : UInt8).toNat = 48 := rfl
      have x2 : (57 : UInt8).toNat = 57 := rfl
      have x3 : (32 : UInt8).toNat = 32 := rfl
      have x4 : (126 : UInt8).toNat = 126 := rfl
      exact ⟨UInt8.le_iff_toNat_le.2 (by omega), UInt8.le_iff_toNat_le.2 (by omega)⟩
    unfold onlyP
    simp only [Bool.and_eq_true, decide_eq_true_eq, List.all_cons, List.length_cons]
    exact ⟨⟨⟨by decide, hall⟩, by omega⟩, by omega⟩
  have hh : headerP r (clN ++ 58 :: 32 :: Lib.itoa (n : Int)) = ({ r with len := n }, 0) := by
    unfold headerP
    rw [hc]
    simp only
    rw [if_neg (by rintro (h | h | h)
                   · exact absurd h (by decide)
                   · rw [hv] at h; cases h
                   · exact absurd h (by decide)), if_pos (by decide), trim_head k3]
    unfold toldP
    rw [if_neg (by rintro (h | h | h)
                   · omega
                   · rw [k2] at h; cases h
                   · exact k4 h), decP_itoa, if_neg (by omega)]
  unfold judgeP
  simp only
  rw [if_neg (by omega), (suffix13 _).1, (suffix13 _).2, if_neg (by simp), if_neg (by simp), hh]
/-- Headers, printed. -/
theorem run_heads : ∀ (fs : List Fl) (r : R), fs.all isHeaderP = true → r.hs.length + fs.length ≤ 32 → r.ph = 1 → r.line = [] → ∃ c, runP r ((fs.map headP).flatten) = some { r with cnt := c, hs := r.hs ++ fs }
  | [], r, _, _, _, _ => ⟨r.cnt, by simp [runP]⟩
  | f :: fs, r, ha, hl, hp, he => by
    simp only [List.all_cons, Bool.and_eq_true] at ha
    simp only [List.length_cons] at hl
    have hf := ha.1
    unfold isHeaderP at hf
    simp only [Bool.and_eq_true, decide_eq_true_eq] at hf
    have hlen := hf.1.1.2
    have hn1 : 10 ∉ f.1 := only_not (a := 1) (b := 40) hf.1.1.1.1.1 (by decide : ofNameP 10 = false)
    have hn2 : 10 ∉ f.2 := only_not hf.1.1.1.1.2 (by decide)
    have h1 : runP r (((f.1 ++ 58 :: 32 :: f.2) ++ [13]) ++ [10]) = some { r with cnt := r.cnt + ((f.1 ++ 58 :: 32 :: f.2) ++ [13]).length + 1, line := [], hs := r.hs ++ [f] } :=
      run_line (by omega) he (by simp [hn1, hn2]) (by simp only [List.length_append, List.length_cons, List.length_nil]; omega) (judge_header hp ha.1 (by simp only; omega))
    obtain ⟨c, h2⟩ := run_heads fs { r with cnt := r.cnt + ((f.1 ++ 58 :: 32 :: f.2) ++ [13]).length + 1, line := [], hs := r.hs ++ [f] } ha.2 (by simp only [List.length_append, List.length_cons, List.length_nil]; omega) hp rfl
    refine ⟨c, ?_⟩
    have e : ((f :: fs).map headP).flatten = (((f.1 ++ 58 :: 32 :: f.2) ++ [13]) ++ [10]) ++ (fs.map headP).flatten := by simp [headP]
    rw [e, runP_trans h1 h2]
    simp only [Option.some.injEq, R.mk.injEq, true_and, and_true]
    exact ⟨he.symm, by simp⟩
end Wi
end Go.Proofs.YtaomhkgdbobpkaaGreatDoor

namespace Go.Proofs.YtaomhkgdbobpkaaGreatDoor
namespace Wi

theorem run_body : ∀ (s : List UInt8) (r : R), r.ph = 2 → ((r.body.length + s.length : Nat) : Int) < r.len → runP r s = some { r with cnt := r.cnt + s.length, body := r.body ++ s }
  | [], r, _, _ => by simp [runP]
  | c :: s, r, hp, hl => by
    simp only [List.length_cons] at hl
    have h1 : takesP r c = ({ r with cnt := r.cnt + 1, body := r.body ++ [c] }, false, 0) := by
      unfold takesP nextP
      simp only
      rw [if_pos hp, decide_eq_false (by omega)]
    unfold runP
    rw [h1]
    simp only [and_self, if_true]
    have ih := run_body s { r with cnt := r.cnt + 1, body := r.body ++ [c] } hp (by simp only [List.length_append, List.length_cons, List.length_nil]; omega)
    rw [ih]
    simp only [List.length_cons, Option.some.injEq, R.mk.injEq, true_and]
    exact ⟨by omega, by simp⟩
/-- What is behind a first line is read, and whole at its last byte. -/
theorem rest_read {r1 : R} {hs : List Fl} {body : List UInt8} (h1 : r1.ph = 1) (he : r1.line = []) (hh : r1.hs = []) (hl : r1.len = -1) (hb : r1.body = []) (h : restOk hs body = true) :
    ∃ pre b rl w, restP hs body = pre ++ [b] ∧ runP r1 pre = some rl ∧ takesP rl b = (w, true, 0) ∧ w.first = r1.first ∧ w.hs = hs ∧ w.body = body := by
  unfold restOk at h
  simp only [Bool.and_eq_true, decide_eq_true_eq] at h
  obtain ⟨⟨k1, k2⟩, k3⟩ := h
  obtain ⟨c, e1⟩ := run_heads hs r1 k3 (by rw [hh]; simpa using k1) h1 he
  rw [hh, List.nil_append] at e1
  obtain ⟨d1, d2, d3, d4⟩ := itoa_only k2
  have hnd : 10 ∉ Lib.itoa (body.length : Int) := only_not d2 (by decide)
  have hn10 : 10 ∉ (clN ++ 58 :: 32 :: Lib.itoa (body.length : Int)) ++ [13] := by
    intro hm
    simp only [List.mem_append, List.mem_cons, List.not_mem_nil, or_false] at hm
    rcases hm with (hm | hm | hm | hm) | hm
    · exact absurd hm (by decide)
    · exact absurd hm (by decide)
    · exact absurd hm (by decide)
    · exact hnd hm
    · exact absurd hm (by decide)
  have e2 : runP { r1 with cnt := c, hs := hs } (((clN ++ 58 :: 32 :: Lib.itoa (body.length : Int)) ++ [13]) ++ [10]) = some { r1 with cnt := c + ((clN ++ 58 :: 32 :: Lib.itoa (body.length : Int)) ++ [13]).length + 1, line := [], hs := hs, len := (body.length : Nat) } :=
    run_line (by simp only; omega) he hn10 (by simp only [clN, List.length_append, List.length_cons, List.length_nil]; omega) (judge_told h1 hl k2)
  obtain ⟨c3, hc3⟩ : ∃ c3, c + ((clN ++ 58 :: 32 :: Lib.itoa (body.length : Int)) ++ [13]).length + 1 = c3 := ⟨_, rfl⟩
  rw [hc3] at e2
  have e3 : runP { r1 with cnt := c3, line := [], hs := hs, len := (body.length : Nat) } [13] = some { r1 with cnt := c3 + 1, line := [13], hs := hs, len := (body.length : Nat) } := by
    have := run_chars [13] { r1 with cnt := c3, line := [], hs := hs, len := (body.length : Nat) } (by simp only; omega) (by decide) (by simp)
    simpa using this
  have e4 : takesP { r1 with cnt := c3 + 1, line := [13], hs := hs, len := (body.length : Nat) } 10 = ({ r1 with ph := 2, cnt := c3 + 1 + 1, line := [], hs := hs, len := (body.length : Nat) }, decide (((body.length : Nat) : Int) ≤ 0), 0) := by
    have hj := judge_blank (r := { r1 with cnt := c3 + 1 + 1, line := [], hs := hs, len := (body.length : Nat) }) h1
    unfold takesP nextP
    simp only
    rw [if_neg (by omega), if_pos trivial]
    exact hj
  have E := runP_trans (runP_trans e1 e2) e3
  have hT : restP hs body = ((hs.map headP).flatten ++ (((clN ++ 58 :: 32 :: Lib.itoa (body.length : Int)) ++ [13]) ++ [10]) ++ [13]) ++ (10 :: body) := by
    unfold restP
    have : toldN = clN ++ [58, 32] := rfl
    rw [this]
    simp
  rcases List.eq_nil_or_concat body with hbe | ⟨bs, z, hbz⟩
  · refine ⟨_, 10, _, { r1 with ph := 2, cnt := c3 + 1 + 1, line := [], hs := hs, len := (body.length : Nat) }, ?_, E, e4.trans ?_, rfl, rfl, ?_⟩
    · rw [hT, hbe]
    · rw [decide_eq_true (by rw [hbe]; simp)]
    · simp only; rw [hb, hbe]
  · rw [List.concat_eq_append] at hbz
    have hlen : body.length = bs.length + 1 := by rw [hbz]; simp
    have e5 : runP { r1 with cnt := c3 + 1, line := [13], hs := hs, len := (body.length : Nat) } [10] = some { r1 with ph := 2, cnt := c3 + 1 + 1, line := [], hs := hs, len := (body.length : Nat) } := by
      unfold runP
      rw [e4, decide_eq_false (by omega)]
      simp [runP]
    have e6 := run_body bs { r1 with ph := 2, cnt := c3 + 1 + 1, line := [], hs := hs, len := (body.length : Nat) } rfl (by simp only; rw [hb]; simp only [List.length_nil]; omega)
    refine ⟨_, z, _, { r1 with ph := 2, cnt := c3 + 1 + 1 + bs.length + 1, line := [], hs := hs, len := (body.length : Nat), body := bs ++ [z] }, ?_, runP_trans (runP_trans E e5) e6, ?_, rfl, rfl, hbz.symm⟩
    · rw [hT]
      obtain ⟨P, hP⟩ : ∃ P, (hs.map headP).flatten ++ (((clN ++ 58 :: 32 :: Lib.itoa (body.length : Int)) ++ [13]) ++ [10]) ++ [13] = P := ⟨_, rfl⟩
      rw [hP]
      conv => lhs; rw [hbz]
      simp
    · unfold takesP nextP
      simp only
      rw [if_pos trivial, hb, List.nil_append, decide_eq_true (by omega)]
/-- A printed message is read back, whole at its last byte. -/
theorem msg_read {x : Msg} (h : restOk x.hs x.body = true) (hm : isMethodP x.m = true) (hp : isPathP x.p = true) :
    ∃ pre b rl w, (printM x).1 = pre ++ [b] ∧ runP (begin' false) pre = some rl ∧ takesP rl b = (w, true, 0) ∧ w.first = [x.m, x.p] ∧ w.hs = x.hs ∧ w.body = x.body := by
  have hp2 : onlyP x.p 1 200 shownP = true := by
    unfold isPathP at hp
    simp only [Bool.and_eq_true] at hp
    exact hp.1
  have hlm : x.m.length ≤ 16 := by
    unfold isMethodP onlyP at hm
    simp only [Bool.and_eq_true, decide_eq_true_eq] at hm
    exact hm.2
  have hlp : x.p.length ≤ 200 := by
    unfold onlyP at hp2
    simp only [Bool.and_eq_true, decide_eq_true_eq] at hp2
    exact hp2.2
  have n1 : 10 ∉ x.m := only_not (a := 1) (b := 16) hm (by decide)
  have n2 : 10 ∉ x.p := only_not hp2 (by decide)
  have hn : 10 ∉ (x.m ++ 32 :: (x.p ++ 32 :: versionL)) ++ [13] := by
    intro hc
    simp only [List.mem_append, List.mem_cons, List.not_mem_nil, or_false] at hc
    rcases hc with (hc | hc | hc | hc | hc) | hc
    · exact n1 hc
    · exact absurd hc (by decide)
    · exact n2 hc
    · exact absurd hc (by decide)
    · exact absurd hc (by decide)
    · exact absurd hc (by decide)
  have e1 : runP (begin' false) (((x.m ++ 32 :: (x.p ++ 32 :: versionL)) ++ [13]) ++ [10]) = some { begin' false with cnt := (begin' false).cnt + ((x.m ++ 32 :: (x.p ++ 32 :: versionL)) ++ [13]).length + 1, line := [], first := [x.m, x.p], ph := 1 } :=
    run_line (by simp [begin']) rfl hn (by simp only [versionL, List.length_append, List.length_cons, List.length_nil]; omega) (judge_first rfl rfl hm hp)
  obtain ⟨pre, b, rl, w, k1, k2, k3, k4, k5, k6⟩ := rest_read (r1 := { begin' false with cnt := (begin' false).cnt + ((x.m ++ 32 :: (x.p ++ 32 :: versionL)) ++ [13]).length + 1, line := [], first := [x.m, x.p], ph := 1 }) rfl rfl rfl rfl rfl h
  refine ⟨_, b, rl, w, ?_, runP_trans e1 k2, k3, k4, k5, k6⟩
  unfold printM
  rw [h, hm, hp]
  simp only [Bool.and_self, if_true]
  rw [k1]
  simp
end Wi
end Go.Proofs.YtaomhkgdbobpkaaGreatDoor

namespace Go.Proofs.YtaomhkgdbobpkaaGreatDoor
namespace Wi

theorem reason_printed (n : Int) : onlyP (reasonP n) 0 1000 printedP = true := by
  have hcs : n = 200 ∨ n = 201 ∨ n = 400 ∨ n = 401 ∨ n = 403 ∨ n = 404 ∨ n = 405 ∨ n = 415 ∨ n = 429 ∨ n = 500 ∨ n = 503 ∨ (n ≠ 200 ∧ n ≠ 201 ∧ n ≠ 400 ∧ n ≠ 401 ∧ n ≠ 403 ∧ n ≠ 404 ∧ n ≠ 405 ∧ n ≠ 415 ∧ n ≠ 429 ∧ n ≠ 500 ∧ n ≠ 503) := by omega
  rcases hcs with rfl | rfl | rfl | rfl | rfl | rfl | rfl | rfl | rfl | rfl | rfl | ⟨h1, h2, h3, h4, h5, h6, h7, h8, h9, h10, h11⟩
  case inr.inr.inr.inr.inr.inr.inr.inr.inr.inr.inr =>
    unfold reasonP
    rw [if_neg h1, if_neg h2, if_neg h3, if_neg h4, if_neg h5, if_neg h6, if_neg h7, if_neg h8, if_neg h9, if_neg h10, if_neg h11]
    decide
  all_goals decide
theorem status_len {n : Nat} (h1 : 100 ≤ n) (h2 : n ≤ 599) : (Lib.itoa (n : Int)).length = 3 := by
  rw [itoa_nat, Lib.decDigits_length, Lib.nDigits_big (by omega), Lib.nDigits_big (by omega), Lib.nDigits_small (by omega)]
theorem judge_status {r : R} {n : Nat} (h0 : r.ph = 0) (ha : r.ans = true) (h1 : 100 ≤ n) (h2 : n ≤ 599) :
    judgeP r ((versionL ++ 32 :: (Lib.itoa (n : Int) ++ 32 :: reasonP n)) ++ [13]) = ({ r with first := [Lib.itoa (n : Int)], ph := 1 }, false, 0) := by
  have hl := status_len h1 h2
  obtain ⟨-, d2, -, -⟩ := itoa_only (n := n) (by omega)
  have hr := reason_printed n
  obtain ⟨D, hD⟩ : ∃ D, Lib.itoa (n : Int) = D := ⟨_, rfl⟩
  obtain ⟨E, hE⟩ : ∃ E, reasonP n = E := ⟨_, rfl⟩
  have hdec : decP D = n := by rw [← hD]; exact decP_itoa n
  rw [hD] at hl d2 ⊢
  rw [hE] at hr ⊢
  have hpre : Lib.hasPrefix (versionL ++ 32 :: (D ++ 32 :: E)) (versionL ++ [32]) = true := by
    unfold Lib.hasPrefix
    rw [List.isPrefixOf_iff_prefix]
    exact ⟨D ++ 32 :: E, by simp⟩
  have hdrop : (versionL ++ 32 :: (D ++ 32 :: E)).drop 9 = D ++ 32 :: E := rfl
  have ht3 : (D ++ 32 :: E).take 3 = D := by rw [← hl, List.take_left]
  have hd3 : onlyP D 3 3 digitP = true := by
    unfold onlyP at d2 ⊢
    simp only [Bool.and_eq_true, decide_eq_true_eq] at d2 ⊢
    exact ⟨⟨d2.1.1, by omega⟩, by omega⟩
  have hcode : codeP (D ++ 32 :: E) = true := by
    unfold codeP
    have e1 : (D ++ 32 :: E)[3]? = some 32 := by rw [← hl]; simp
    have e2 : (D ++ 32 :: E).drop 4 = E := by
      have : (4 : Nat) = D.length + 1 := by omega
      rw [this]; simp
    rw [e1, e2, ht3, hd3, hr, decide_eq_true (by simp only [List.length_append, List.length_cons]; omega)]
    rfl
  have hs : statusP (versionL ++ 32 :: (D ++ 32 :: E)) = some D := by
    unfold statusP
    rw [hdrop, ht3, hdec, if_pos ⟨hpre, hcode, h1, h2⟩]
  have hb : beginsP r (versionL ++ 32 :: (D ++ 32 :: E)) = some { r with first := [D] } := by
    unfold beginsP
    rw [if_pos ha, hs]
    rfl
  unfold judgeP
  simp only
  rw [if_pos h0, (suffix13 _).1, (suffix13 _).2, if_pos rfl, hb]
theorem ans_read {st : Nat} {hs : List Fl} {body : List UInt8} (h : restOk hs body = true) (h1 : 100 ≤ st) (h2 : st ≤ 599) :
    ∃ pre b rl w, (printA ⟨st, hs, body⟩).1 = pre ++ [b] ∧ runP (begin' true) pre = some rl ∧ takesP rl b = (w, true, 0) ∧ w.first = [Lib.itoa (st : Int)] ∧ w.hs = hs ∧ w.body = body := by
  obtain ⟨-, d2, -, -⟩ := itoa_only (n := st) (by omega)
  have hl := status_len h1 h2
  have hrp := reason_printed st
  have n1 : 10 ∉ Lib.itoa (st : Int) := only_not d2 (by decide)
  have n2 : 10 ∉ reasonP st := only_not hrp (by decide)
  have hrl : (reasonP st).length ≤ 900 := by
    have hcs : ∀ n : Int, (reasonP n).length ≤ 900 := fun n => by
      have hcs : n = 200 ∨ n = 201 ∨ n = 400 ∨ n = 401 ∨ n = 403 ∨ n = 404 ∨ n = 405 ∨ n = 415 ∨ n = 429 ∨ n = 500 ∨ n = 503 ∨ (n ≠ 200 ∧ n ≠ 201 ∧ n ≠ 400 ∧ n ≠ 401 ∧ n ≠ 403 ∧ n ≠ 404 ∧ n ≠ 405 ∧ n ≠ 415 ∧ n ≠ 429 ∧ n ≠ 500 ∧ n ≠ 503) := by omega
      rcases hcs with rfl | rfl | rfl | rfl | rfl | rfl | rfl | rfl | rfl | rfl | rfl | ⟨h1, h2, h3, h4, h5, h6, h7, h8, h9, h10, h11⟩
      case inr.inr.inr.inr.inr.inr.inr.inr.inr.inr.inr =>
        unfold reasonP
        rw [if_neg h1, if_neg h2, if_neg h3, if_neg h4, if_neg h5, if_neg h6, if_neg h7, if_neg h8, if_neg h9, if_neg h10, if_neg h11]
        decide
      all_goals decide
    exact hcs _
  have hn : 10 ∉ (versionL ++ 32 :: (Lib.itoa (st : Int) ++ 32 :: reasonP st)) ++ [13] := by
    intro hc
    simp only [List.mem_append, List.mem_cons, List.not_mem_nil, or_false] at hc
    rcases hc with (hc | hc | hc | hc | hc) | hc
    · exact absurd hc (by decide)
    · exact absurd hc (by decide)
    · exact n1 hc
    · exact absurd hc (by decide)
    · exact n2 hc
    · exact absurd hc (by decide)
  have e1 : runP (begin' true) (((versionL ++ 32 :: (Lib.itoa (st : Int) ++ 32 :: reasonP st)) ++ [13]) ++ [10]) = some { begin' true with cnt := (begin' true).cnt + ((versionL ++ 32 :: (Lib.itoa (st : Int) ++ 32 :: reasonP st)) ++ [13]).length + 1, line := [], first := [Lib.itoa (st : Int)], ph := 1 } :=
    run_line (by simp [begin']) rfl hn (by simp only [versionL, List.length_append, List.length_cons, List.length_nil]; omega) (judge_status rfl rfl h1 h2)
  obtain ⟨pre, b, rl, w, k1, k2, k3, k4, k5, k6⟩ := rest_read (r1 := { begin' true with cnt := (begin' true).cnt + ((versionL ++ 32 :: (Lib.itoa (st : Int) ++ 32 :: reasonP st)) ++ [13]).length + 1, line := [], first := [Lib.itoa (st : Int)], ph := 1 }) rfl rfl rfl rfl rfl h
  refine ⟨_, b, rl, w, ?_, runP_trans e1 k2, k3, k4, k5, k6⟩
  unfold printA
  simp only
  rw [h, decide_eq_true (by omega), decide_eq_true (by omega)]
  simp only [Bool.and_self, if_true]
  rw [k1]
  simp
/-- A text that is read whole at its last byte, and more behind it. -/
theorem feed_whole {r rl w : R} {pre : List UInt8} {b : UInt8} (h1 : runP r pre = some rl) (h2 : takesP rl b = (w, true, 0)) (more : List UInt8) : feedP r (pre ++ [b] ++ more) = (w :: (feedP (begin' false) more).1, (feedP (begin' false) more).2) := by
  rw [List.append_assoc, feed_run pre _ h1]
  have e : feedP rl ([b] ++ more) = if (takesP rl b).2.2 ≠ 0 then ([], (takesP rl b).1, (takesP rl b).2.2) else if (takesP rl b).2.1 = true then ((takesP rl b).1 :: (feedP (begin' false) more).1, (feedP (begin' false) more).2) else feedP (takesP rl b).1 more := rfl
  rw [e, h2]
  simp
theorem ans_whole {r rl w : R} {pre : List UInt8} {b : UInt8} (h1 : runP r pre = some rl) (h2 : takesP rl b = (w, true, 0)) (more : List UInt8) : ansP r (pre ++ [b] ++ more) = .inl (w, more) := by
  rw [List.append_assoc, ans_run pre _ h1]
  rw [List.singleton_append, ansP_cons, h2]
  simp
/-- A beginning of what runs, runs; so many bytes wait. -/
theorem run_take : ∀ (pre : List UInt8) (r rl : R) (k : Nat), runP r pre = some rl → k ≤ pre.length → ∃ rk, runP r (pre.take k) = some rk ∧ rk.cnt = r.cnt + k
  | _, r, _, 0, _, _ => ⟨r, by simp [runP], rfl⟩
  | [], _, _, k + 1, _, hk => by simp at hk
  | c :: pre, r, rl, k + 1, h, hk => by
    unfold runP at h
    split at h
    · rename_i h1
      obtain ⟨rk, e1, e2⟩ := run_take pre _ rl k h (by simpa using hk)
      refine ⟨rk, ?_, ?_⟩
      · rw [List.take_succ_cons]
        unfold runP
        rw [if_pos h1]
        exact e1
      · rw [e2, takesP_cnt]; omega
    · cases h
theorem feed_run_nil {r rk : R} {a : List UInt8} (h : runP r a = some rk) : feedP r a = ([], rk, 0) := by
  have := feed_run a [] h
  rw [List.append_nil] at this
  rw [this]
  rfl
theorem ans_run_nil {r rk : R} {a : List UInt8} (h : runP r a = some rk) : ansP r a = .inr 56 := by
  have := ans_run a [] h
  rw [List.append_nil] at this
  rw [this]
  rfl
/-- Pieces: what is fed in two pieces is fed as a whole. -/
theorem feedP_append : ∀ (a : List UInt8) (r : R) (b : List UInt8), (feedP r a).2.2 = 0 → feedP r (a ++ b) = ((feedP r a).1 ++ (feedP (feedP r a).2.1 b).1, (feedP (feedP r a).2.1 b).2)
  | [], r, b, _ => by
    show feedP r b = ([] ++ (feedP r b).1, (feedP r b).2)
    simp
  | c :: a, r, b, h => by
    have e : ∀ t, feedP r (c :: t) = if (takesP r c).2.2 ≠ 0 then ([], (takesP r c).1, (takesP r c).2.2) else if (takesP r c).2.1 = true then ((takesP r c).1 :: (feedP (begin' false) t).1, (feedP (begin' false) t).2) else feedP (takesP r c).1 t := fun _ => rfl
    rw [List.cons_append, e (a ++ b), e a]
    rw [e a] at h
    by_cases h1 : (takesP r c).2.2 ≠ 0
    · rw [if_pos h1] at h
      exact absurd h h1
    · rw [if_neg h1] at h
      rw [if_neg h1, if_neg h1]
      by_cases h2 : (takesP r c).2.1 = true
      · rw [if_pos h2] at h
        rw [if_pos h2, if_pos h2, feedP_append a _ b h]
        simp
      · rw [if_neg h2] at h
        rw [if_neg h2, if_neg h2]
        exact feedP_append a _ b h
/-- .. and where the first piece fails, so does the whole. -/
theorem feedP_fail : ∀ (a : List UInt8) (r : R) (b : List UInt8), (feedP r a).2.2 ≠ 0 → (feedP r (a ++ b)).1 = (feedP r a).1 ∧ (feedP r (a ++ b)).2.2 = (feedP r a).2.2
  | [], r, b, h => absurd rfl h
  | c :: a, r, b, h => by
    have e : ∀ t, feedP r (c :: t) = if (takesP r c).2.2 ≠ 0 then ([], (takesP r c).1, (takesP r c).2.2) else if (takesP r c).2.1 = true then ((takesP r c).1 :: (feedP (begin' false) t).1, (feedP (begin' false) t).2) else feedP (takesP r c).1 t := fun _ => rfl
    rw [List.cons_append, e (a ++ b), e a]
    rw [e a] at h
    by_cases h1 : (takesP r c).2.2 ≠ 0
    · rw [if_pos h1, if_pos h1]
      exact ⟨rfl, rfl⟩
    · rw [if_neg h1] at h
      rw [if_neg h1, if_neg h1]
      by_cases h2 : (takesP r c).2.1 = true
      · rw [if_pos h2] at h
        rw [if_pos h2, if_pos h2]
        obtain ⟨k1, k2⟩ := feedP_fail a _ b h
        exact ⟨by simp only; rw [k1], k2⟩
      · rw [if_neg h2] at h
        rw [if_neg h2, if_neg h2]
        exact feedP_fail a _ b h
end Wi
end Go.Proofs.YtaomhkgdbobpkaaGreatDoor

namespace Go.Proofs.YtaomhkgdbobpkaaGreatDoor
open Wi
namespace Wi
/-- What stands at the beginning of a text: a line that is too long; none yet; a line, and what is behind its end. -/
inductive Ln where
  | long
  | none
  | line (l rest : List UInt8)
def lineP : Nat → List UInt8 → Ln
  | _, [] => .none
  | 0, _ :: _ => .long
  | n + 1, c :: t => if c = 10 then .line [] t else if n = 0 then .long else match lineP n t with | .line l rest => .line (c :: l) rest | x => x
theorem lineP_line : ∀ {n : Nat} {t l rest : List UInt8}, lineP n t = .line l rest → t = l ++ 10 :: rest ∧ 10 ∉ l ∧ l.length + 1 ≤ n
  | _, [], _, _, h => by simp [lineP] at h
  | 0, _ :: _, _, _, h => by simp [lineP] at h
  | n + 1, c :: t, l, rest, h => by
    unfold lineP at h
    split at h
    · rename_i hc
      injection h with h1 h2
      subst h1 h2 hc
      exact ⟨rfl, by simp, by simp⟩
    · rename_i hc
      split at h
      · cases h
      · cases hl : lineP n t with
        | line l' r' =>
          rw [hl] at h
          injection h with h1 h2
          subst h1 h2
          obtain ⟨k1, k2, k3⟩ := lineP_line hl
          refine ⟨by rw [k1]; rfl, fun hm => ?_, by simp only [List.length_cons]; omega⟩
          rcases List.mem_cons.1 hm with e | hm
          · exact hc e.symm
          · exact k2 hm
        | long => rw [hl] at h; cases h
        | none => rw [hl] at h; cases h
theorem lineP_none : ∀ {n : Nat} {t : List UInt8}, lineP n t = .none → 10 ∉ t ∧ t.length + 1 ≤ n + 1 ∧ (t ≠ [] → t.length + 1 ≤ n)
  | _, [], _ => ⟨by simp, by simp, by simp⟩
  | 0, _ :: _, h => by simp [lineP] at h
  | n + 1, c :: t, h => by
    unfold lineP at h
    split at h
    · cases h
    · rename_i hc
      split at h
      · cases h
      · rename_i hn
        cases hl : lineP n t with
        | line l' r' => rw [hl] at h; cases h
        | long => rw [hl] at h; cases h
        | none =>
          obtain ⟨k1, k2, k3⟩ := lineP_none hl
          have hlen : t.length + 1 ≤ n := by
            by_cases ht : t = []
            · subst ht; simp; omega
            · exact k3 ht
          refine ⟨fun hm => ?_, by simp only [List.length_cons]; omega, fun _ => by simp only [List.length_cons]; omega⟩
          rcases List.mem_cons.1 hm with e | hm
          · exact hc e.symm
          · exact k1 hm
theorem lineP_long : ∀ {n : Nat} {t : List UInt8}, lineP (n + 1) t = .long → ∃ a c b, t = a ++ c :: b ∧ a.length = n ∧ 10 ∉ a ∧ c ≠ 10
  | _, [], h => by simp [lineP] at h
  | n, c :: t, h => by
    unfold lineP at h
    split at h
    · cases h
    · rename_i hc
      split at h
      · rename_i hn
        exact ⟨[], c, t, rfl, by simp [hn], by simp, hc⟩
      · rename_i hn
        obtain ⟨k, rfl⟩ : ∃ k, n = k + 1 := ⟨n - 1, by omega⟩
        cases hl : lineP (k + 1) t with
        | line l' r' => rw [hl] at h; cases h
        | none => rw [hl] at h; cases h
        | long =>
          obtain ⟨a, d, b, k1, k2, k3, k4⟩ := lineP_long hl
          refine ⟨c :: a, d, b, by rw [k1]; rfl, by simp [k2], fun hm => ?_, k4⟩
          rcases List.mem_cons.1 hm with e | hm
          · exact hc e.symm
          · exact k3 hm
/-- What a reading makes of a line. -/
def stepL (r : R) (t : List UInt8) : (R × List UInt8) ⊕ Int :=
  match lineP 1002 t with
  | .long => .inr 53
  | .none => .inr 56
  | .line l rest => if (judgeP { r with cnt := r.cnt + l.length + 1, line := [] } l).2.2 ≠ 0 then .inr (judgeP { r with cnt := r.cnt + l.length + 1, line := [] } l).2.2 else if (judgeP { r with cnt := r.cnt + l.length + 1, line := [] } l).2.1 = true then .inl ((judgeP { r with cnt := r.cnt + l.length + 1, line := [] } l).1, rest) else ansP (judgeP { r with cnt := r.cnt + l.length + 1, line := [] } l).1 rest
/-- A reading of lines, line by line. -/
theorem ans_step {r : R} {t : List UInt8} (hp : r.ph < 2) (he : r.line = []) : ansP r t = stepL r t := by
  unfold stepL
  cases hl : lineP 1002 t with
  | long =>
    obtain ⟨a, c, b, ht, ha, hn, hc⟩ := lineP_long hl
    subst ht
    have h1 := run_chars a r hp hn (by rw [he, ha]; simp)
    rw [ans_run a _ h1, ansP_cons]
    have e : (takesP { r with cnt := r.cnt + a.length, line := r.line ++ a } c).2.2 = 53 := by
      unfold takesP nextP
      simp only
      rw [if_neg (by omega), if_neg hc, he]
      simp only [List.nil_append, ha]
      rfl
    rw [e]
    simp
  | none =>
    obtain ⟨hn, h2, h3⟩ := lineP_none hl
    have hlen : t.length ≤ 1001 := by
      by_cases ht : t = []
      · subst ht; simp
      · have := h3 ht; omega
    exact ans_run_nil (run_chars t r hp hn (by rw [he]; simpa using hlen))
  | line l rest =>
    obtain ⟨ht, hn, hlen⟩ := lineP_line hl
    subst ht
    have h1 := run_chars l r hp hn (by rw [he]; simp; omega)
    rw [ans_run l _ h1, ansP_cons]
    have e : takesP { r with cnt := r.cnt + l.length, line := r.line ++ l } 10 = judgeP { r with cnt := r.cnt + l.length + 1, line := [] } l := by
      unfold takesP nextP
      simp only
      rw [if_neg (by omega), he]
      simp
    rw [e]
/-- A reading of a body. -/
theorem ans_body : ∀ (t : List UInt8) (r : R) (k : Nat), r.ph = 2 → (r.body.length : Int) + (k + 1 : Nat) = r.len →
    ansP r t = if t.length < k + 1 then .inr 56 else .inl ({ r with cnt := r.cnt + (k + 1), body := r.body ++ t.take (k + 1) }, t.drop (k + 1))
  | [], r, k, _, _ => by simp [ansP]
  | c :: t, r, k, hp, hl => by
    rw [ansP_cons]
    have e : takesP r c = ({ r with cnt := r.cnt + 1, body := r.body ++ [c] }, decide (((r.body.length + 1 : Nat) : Int) = r.len), 0) := by
      unfold takesP nextP
      simp only
      rw [if_pos hp]
    rw [e]
    simp only [ne_eq, not_true_eq_false, if_false, decide_eq_true_eq]
    match k, hl with
    | 0, hl =>
      rw [if_pos (by omega), if_neg (by simp)]
      simp
    | k + 1, hl =>
      rw [if_neg (by omega), ans_body t { r with cnt := r.cnt + 1, body := r.body ++ [c] } k hp (by simp only [List.length_append, List.length_cons, List.length_nil]; omega)]
      by_cases h : t.length < k + 1
      · rw [if_pos h, if_pos (by simp only [List.length_cons]; omega)]
      · rw [if_neg h, if_neg (by simp only [List.length_cons]; omega)]
        simp only [List.take_succ_cons, List.drop_succ_cons, List.append_assoc, List.cons_append, List.nil_append]
        rw [show r.cnt + 1 + (k + 1) = r.cnt + (k + 1 + 1) by omega]
end Wi
end Go.Proofs.YtaomhkgdbobpkaaGreatDoor

namespace Go.Proofs.YtaomhkgdbobpkaaGreatDoor
open Wi
namespace Wi
theorem cutP_miss {s : List UInt8} {c : UInt8} (h : c ∉ s) : cutP c s = none := by
  unfold cutP Lib.cut
  rw [index_miss h]
  simp
theorem splitS_one {s : List UInt8} (h : 32 ∉ s) : splitS s = [s] := by
  have hc : Lib.countB ⟨s.toArray⟩ ⟨#[32]⟩ = 0 := by
    show Lib.count s [32] = 0
    exact Lib.count_miss (index_miss h)
  unfold splitS
  rw [hc]
  rfl
theorem splitS_cons {a b : List UInt8} (h : 32 ∉ a) : splitS (a ++ 32 :: b) = a :: splitS b := by
  have hc : Lib.countB ⟨(a ++ 32 :: b).toArray⟩ ⟨#[32]⟩ = Lib.countB ⟨b.toArray⟩ ⟨#[32]⟩ + 1 := by
    show Lib.count (a ++ 32 :: b) [32] = Lib.count b [32] + 1
    rw [Lib.count_hit (i := a.length) (by simp) (index_hit h)]
    have e1 : (a ++ 32 :: b).drop (a.length + [(32 : UInt8)].length) = b := by simp
    rw [e1]
    omega
  unfold splitS
  rw [hc, split_hit h]
theorem splitS_ne (s : List UInt8) : splitS s ≠ [] := by
  by_cases h : 32 ∈ s
  · obtain ⟨a, r, rfl, ha⟩ := List.eq_append_cons_of_mem h
    rw [splitS_cons ha]
    simp
  · rw [splitS_one h]; simp
/-- A first line, cut at its blanks. -/
theorem asked_eq (s : List UInt8) : askedP s = match cutP 32 s with
    | none => none
    | some (a, r) => match cutP 32 r with
      | none => none
      | some (b, c) => if isMethodP a = true ∧ isPathP b = true ∧ c = versionL then some (a, b) else none := by
  by_cases h : 32 ∈ s
  · obtain ⟨a, r, rfl, ha⟩ := List.eq_append_cons_of_mem h
    rw [cutP_hit ha]
    simp only
    by_cases h2 : 32 ∈ r
    · obtain ⟨b, c, rfl, hb⟩ := List.eq_append_cons_of_mem h2
      rw [cutP_hit hb]
      simp only
      unfold askedP
      rw [splitS_cons ha, splitS_cons hb]
      by_cases h3 : 32 ∈ c
      · obtain ⟨d, e, rfl, hd⟩ := List.eq_append_cons_of_mem h3
        rw [splitS_cons hd, if_neg (by
          rintro ⟨_, _, e'⟩
          have hm : (32 : UInt8) ∈ versionL := by rw [← e']; simp
          revert hm; decide)]
        cases hq : splitS e with
        | nil => exact absurd hq (splitS_ne e)
        | cons x l => rfl
      · rw [splitS_one h3]
    · rw [cutP_miss h2]
      unfold askedP
      rw [splitS_cons ha, splitS_one h2]
  · rw [cutP_miss h]
    unfold askedP
    rw [splitS_one h]
end Wi
end Go.Proofs.YtaomhkgdbobpkaaGreatDoor

namespace Go.Proofs.YtaomhkgdbobpkaaGreatDoor
open Wi
namespace Wi
theorem suffix_no {l : List UInt8} (h : l.getLast? ≠ some 13) : Lib.hasSuffix l [13] = false ∧ Lib.trimSuffix l [13] = l := by
  have h1 : Lib.hasSuffix l [13] = false := by
    rw [← Bool.not_eq_true]
    intro e
    unfold Lib.hasSuffix at e
    rw [List.isSuffixOf_iff_suffix] at e
    obtain ⟨t, rfl⟩ := e
    exact h (by simp)
  refine ⟨h1, ?_⟩
  unfold Lib.trimSuffix
  rw [h1]
  simp
theorem lineP_hit : ∀ {n : Nat} {l rest : List UInt8}, 10 ∉ l → l.length + 1 ≤ n → lineP n (l ++ 10 :: rest) = .line l rest
  | 0, _, _, _, h => by omega
  | n + 1, [], rest, _, _ => by simp [lineP]
  | n + 1, c :: l, rest, hn, hl => by
    simp only [List.length_cons] at hl
    rw [List.cons_append]
    unfold lineP
    rw [if_neg (fun e => hn (by rw [e]; simp)), if_neg (by omega), lineP_hit (fun h => hn (List.mem_cons_of_mem _ h)) (by omega)]
theorem lineP_end : ∀ {n : Nat} {t : List UInt8}, 10 ∉ t → t.length + 1 ≤ n → lineP n t = .none
  | 0, _, _, h => by omega
  | n + 1, [], _, _ => by simp [lineP]
  | n + 1, c :: l, hn, hl => by
    simp only [List.length_cons] at hl
    unfold lineP
    rw [if_neg (fun e => hn (by rw [e]; simp)), if_neg (by omega), lineP_end (fun h => hn (List.mem_cons_of_mem _ h)) (by omega)]
theorem lineP_over : ∀ {n : Nat} {t : List UInt8}, 10 ∉ t.take (n + 1) → n + 1 ≤ t.length → lineP (n + 1) t = .long
  | _, [], _, h => by simp at h
  | n, c :: t, hn, hl => by
    simp only [List.take_succ_cons] at hn
    simp only [List.length_cons] at hl
    unfold lineP
    rw [if_neg (fun e => hn (by rw [e]; simp))]
    by_cases h0 : n = 0
    · rw [if_pos h0]
    · obtain ⟨k, rfl⟩ : ∃ k, n = k + 1 := ⟨n - 1, by omega⟩
      rw [if_neg h0, lineP_over (fun h => hn (List.mem_cons_of_mem _ h)) (by omega)]
theorem trimP_left (r : List UInt8) : trimP (32 :: r) = trimP r := by
  unfold trimP Lib.trimB Lib.trimLeftB Lib.trimRightB
  rw [List.reverse_cons, List.dropWhile_append]
  by_cases h : (r.reverse.dropWhile (· == 32)).isEmpty = true
  · rw [if_pos h]
    rw [List.isEmpty_iff] at h
    rw [h]
    simp
  · rw [if_neg h]
    simp
theorem trimP_right (r : List UInt8) : trimP (r ++ [32]) = trimP r := by
  unfold trimP Lib.trimB Lib.trimLeftB Lib.trimRightB
  rw [List.reverse_append]
  simp
theorem trimP_bare {l : List UInt8} (h1 : l.head? ≠ some 32) (h2 : l.getLast? ≠ some 32) : trimP l = l := by
  rw [← trimP_left]
  refine trim_head ?_
  unfold bareP
  rw [bne_iff_ne.2 h1, bne_iff_ne.2 h2]
  simp
theorem dropW_le (p : UInt8 → Bool) (l : List UInt8) : (l.dropWhile p).length ≤ l.length := List.Sublist.length_le (List.dropWhile_sublist p)
theorem trimP_le (l : List UInt8) : (trimP l).length ≤ l.length := by
  unfold trimP Lib.trimB Lib.trimLeftB Lib.trimRightB
  have h1 := dropW_le (· == 32) ((l.reverse.dropWhile (· == 32)).reverse)
  have h2 := dropW_le (· == 32) l.reverse
  simp only [List.length_reverse] at h1 h2
  omega
/-- What a length's value says, or what is wrong. -/
def sizeP (v : List UInt8) : Int × Int :=
  if onlyP v 1 1000 digitP = false ∨ (v.head? = some 48 ∧ v ≠ [48]) then (0, 52) else if 4 < v.length ∨ 4000 < decP v then (0, 53) else ((decP v : Nat), 0)
theorem toldP_size (r : R) (v : List UInt8) : toldP r v = if 0 ≤ r.len then (r, 52) else if (sizeP v).2 ≠ 0 then (r, (sizeP v).2) else ({ r with len := (sizeP v).1 }, 0) := by
  unfold toldP sizeP
  by_cases h0 : 0 ≤ r.len
  · rw [if_pos (.inl h0), if_pos h0]
  · rw [if_neg h0]
    by_cases h1 : onlyP v 1 1000 digitP = false ∨ (v.head? = some 48 ∧ v ≠ [48])
    · rw [if_pos (.inr h1), if_pos h1]
      simp
    · rw [if_neg (by rintro (h | h); · exact h0 h
                     · exact h1 h), if_neg h1]
      by_cases h2 : 4 < v.length ∨ 4000 < decP v
      · rw [if_pos h2, if_pos h2]
        simp
      · rw [if_neg h2, if_neg h2]
        simp
theorem decFrom_ge : ∀ (l : List UInt8) (acc n : Nat), Lib.decFrom acc l = some n → acc * 10 ^ l.length ≤ n
  | [], acc, n, h => by simp only [Lib.decFrom, Option.some.injEq] at h; simp [h]
  | b :: l, acc, n, h => by
    simp only [Lib.decFrom] at h
    cases hb : Lib.digitVal b with
    | none => rw [hb] at h; cases h
    | some d =>
      rw [hb] at h
      have := decFrom_ge l _ _ h
      refine Nat.le_trans ?_ this
      rw [List.length_cons, Nat.pow_succ, Nat.add_mul, Nat.mul_assoc, Nat.mul_comm 10]
      exact Nat.le_add_right _ _
theorem decFrom_app (a : List UInt8) : ∀ (acc : Nat) (b : List UInt8), Lib.decFrom acc (a ++ b) = (Lib.decFrom acc a).bind fun n => Lib.decFrom n b := by
  induction a with
  | nil => intro acc b; rfl
  | cons c a ih =>
    intro acc b
    simp only [List.cons_append, Lib.decFrom]
    cases Lib.digitVal c with
    | none => rfl
    | some d => exact ih _ _
theorem digitV {b : UInt8} (h : digitP b = true) : Lib.digitVal b = some (b.toNat - 48) := by
  unfold digitP at h
  simp only [Bool.and_eq_true, decide_eq_true_eq] at h
  have h1 := UInt8.le_iff_toNat_le.1 h.1
  have h2 := UInt8.le_iff_toNat_le.1 h.2
  unfold Lib.digitVal
  rw [if_pos ⟨h1, h2⟩]
theorem dec_some : ∀ (l : List UInt8) (acc : Nat), l.all digitP = true → ∃ n, Lib.decFrom acc l = some n
  | [], acc, _ => ⟨acc, rfl⟩
  | b :: l, acc, h => by
    simp only [List.all_cons, Bool.and_eq_true] at h
    simp only [Lib.decFrom, digitV h.1]
    exact dec_some l _ h.2
/-- Behind a digit. -/
theorem decP_snoc {a : List UInt8} {c : UInt8} (ha : a.all digitP = true) (hc : digitP c = true) : decP (a ++ [c]) = 10 * decP a + (c.toNat - 48) := by
  obtain ⟨n, hn⟩ := dec_some a 0 ha
  unfold decP
  rw [decFrom_app, hn]
  simp only [Option.bind_some, Lib.decFrom, digitV hc, Option.getD_some]
  omega
theorem decP_prefix {a b : List UInt8} (h : (a ++ b).all digitP = true) : decP a ≤ decP (a ++ b) := by
  rw [List.all_append, Bool.and_eq_true] at h
  obtain ⟨n, hn⟩ := dec_some a 0 h.1
  obtain ⟨m, hm⟩ := dec_some b n h.2
  have := decFrom_ge b n m hm
  unfold decP
  rw [decFrom_app, hn]
  simp only [Option.bind_some, hm, Option.getD_some]
  exact Nat.le_trans (Nat.le_mul_of_pos_right n (Nat.pow_pos (by decide))) this
theorem decP_long {v : List UInt8} (h : v.all digitP = true) (h1 : v.head? ≠ some 48) (h2 : 4 < v.length) : 4000 < decP v := by
  cases v with
  | nil => simp at h2
  | cons b l =>
    simp only [List.all_cons, Bool.and_eq_true] at h
    simp only [List.length_cons] at h2
    have hd : 1 ≤ b.toNat - 48 := by
      have h3 := h.1
      unfold digitP at h3
      simp only [Bool.and_eq_true, decide_eq_true_eq] at h3
      have h4 := UInt8.le_iff_toNat_le.1 h3.1
      have h5 : b.toNat ≠ 48 := fun e => h1 (by rw [show b = 48 from UInt8.toNat_inj.1 e]; rfl)
      have h6 : (48 : UInt8).toNat = 48 := rfl
      omega
    obtain ⟨m, hm⟩ := dec_some l (0 * 10 + (b.toNat - 48)) h.2
    have h7 := decFrom_ge l _ m hm
    have h8 : 10 ^ 4 ≤ 10 ^ l.length := Nat.pow_le_pow_right (by decide) (by omega)
    have h9 : 1 * 10 ^ l.length ≤ (0 * 10 + (b.toNat - 48)) * 10 ^ l.length := Nat.mul_le_mul_right _ (by omega)
    unfold decP
    simp only [Lib.decFrom, digitV h.1, hm, Option.getD_some]
    omega
theorem onlyP_digits {v : List UInt8} (h : v.all digitP = true) (h1 : v ≠ []) (h2 : v.length ≤ 1000) : onlyP v 1 1000 digitP = true := by
  unfold onlyP
  have : 1 ≤ v.length := List.length_pos_iff.2 h1
  rw [h, decide_eq_true this, decide_eq_true h2]
  rfl
/-- Too much at a beginning: the whole is too much. -/
theorem sizeP_over {v a b : List UInt8} (hv : v = a ++ b) (h : v.all digitP = true) (h0 : v ≠ []) (h2 : v.length ≤ 1000) (h1 : ¬ (1 < v.length ∧ v.head? = some 48)) (h3 : 4000 < decP a) : sizeP v = (0, 53) := by
  have hn : ¬ (v.head? = some 48 ∧ v ≠ [48]) := by
    rintro ⟨k1, k2⟩
    refine h1 ⟨?_, k1⟩
    cases v with
    | nil => exact absurd rfl h0
    | cons c l =>
      cases l with
      | nil => simp only [List.head?_cons, Option.some.injEq] at k1; exact absurd (by rw [k1]) k2
      | cons d l => simp
  unfold sizeP
  rw [onlyP_digits h h0 h2, if_neg (by rintro (k | k); · cases k
                                       · exact hn k), if_pos]
  right
  subst hv
  have := decP_prefix h
  omega
theorem sizeP_ok {v : List UInt8} (h : v.all digitP = true) (h0 : v ≠ []) (h2 : v.length ≤ 1000) (h1 : ¬ (1 < v.length ∧ v.head? = some 48)) (h3 : decP v ≤ 4000) : sizeP v = (((decP v : Nat) : Int), 0) := by
  have hn : ¬ (v.head? = some 48 ∧ v ≠ [48]) := by
    rintro ⟨k1, k2⟩
    refine h1 ⟨?_, k1⟩
    cases v with
    | nil => exact absurd rfl h0
    | cons c l =>
      cases l with
      | nil => simp only [List.head?_cons, Option.some.injEq] at k1; exact absurd (by rw [k1]) k2
      | cons d l => simp
  unfold sizeP
  rw [onlyP_digits h h0 h2, if_neg (by rintro (k | k); · cases k
                                       · exact hn k), if_neg]
  rintro (k | k)
  · have := decP_long h (fun e => h1 ⟨by omega, e⟩) k
    omega
  · omega
theorem sizeP_bad1 {v : List UInt8} (h : v.all digitP = false ∨ v = []) : sizeP v = (0, 52) := by
  unfold sizeP
  rw [if_pos]
  left
  unfold onlyP
  rcases h with h | rfl
  · rw [h]; rfl
  · rfl
theorem sizeP_bad2 {v : List UInt8} (h1 : 1 < v.length) (h2 : v.head? = some 48) : sizeP v = (0, 52) := by
  unfold sizeP
  rw [if_pos]
  exact .inr ⟨h2, fun e => by rw [e] at h1; simp at h1⟩

/-- The reading r behind a line of k bytes. -/
def atL (r : R) (k : Nat) : R := { r with cnt := r.cnt + k + 1, line := [] }
section
variable {r : R} {t l rest : List UInt8}
theorem hd_long (hp : r.ph < 2) (he : r.line = []) (h : lineP 1002 t = .long) : ansP r t = .inr 53 := by rw [ans_step hp he]; unfold stepL; rw [h]
theorem hd_none (hp : r.ph < 2) (he : r.line = []) (h : lineP 1002 t = .none) : ansP r t = .inr 56 := by rw [ans_step hp he]; unfold stepL; rw [h]
theorem hd_bare (hp : r.ph = 1) (he : r.line = []) (h : lineP 1002 t = .line l rest) (hs : Lib.hasSuffix l [13] = false) : ansP r t = .inr 51 := by
  rw [ans_step (by omega) he]; unfold stepL; rw [h]
  simp only
  have e : judgeP { r with cnt := r.cnt + l.length + 1, line := [] } l = ({ r with cnt := r.cnt + l.length + 1, line := [] }, false, 51) := by
    unfold judgeP
    simp only
    rw [if_neg (by omega), if_pos hs]
  rw [e]
  simp
theorem hd_blank (hp : r.ph = 1) (he : r.line = []) (h : lineP 1002 t = .line l rest) (hs : Lib.hasSuffix l [13] = true) (hb : Lib.trimSuffix l [13] = []) :
    ansP r t = if r.len ≤ 0 then .inl ({ atL r l.length with ph := 2 }, rest) else ansP { atL r l.length with ph := 2 } rest := by
  rw [ans_step (by omega) he]; unfold stepL; rw [h]
  simp only
  have e : judgeP { r with cnt := r.cnt + l.length + 1, line := [] } l = ({ atL r l.length with ph := 2 }, decide (r.len ≤ 0), 0) := by
    unfold judgeP
    simp only
    rw [if_neg (by omega), if_neg (by rw [hs]; simp), if_pos hb]
    rfl
  rw [e]
  simp
theorem hd_head (hp : r.ph = 1) (he : r.line = []) (h : lineP 1002 t = .line l rest) (hs : Lib.hasSuffix l [13] = true) (hb : Lib.trimSuffix l [13] ≠ []) :
    ansP r t = if (headerP (atL r l.length) (Lib.trimSuffix l [13])).2 ≠ 0 then .inr (headerP (atL r l.length) (Lib.trimSuffix l [13])).2 else ansP (headerP (atL r l.length) (Lib.trimSuffix l [13])).1 rest := by
  rw [ans_step (by omega) he]; unfold stepL; rw [h]
  simp only
  have e : judgeP { r with cnt := r.cnt + l.length + 1, line := [] } l = ((headerP (atL r l.length) (Lib.trimSuffix l [13])).1, false, (headerP (atL r l.length) (Lib.trimSuffix l [13])).2) := by
    unfold judgeP
    simp only
    rw [if_neg (by omega), if_neg (by rw [hs]; simp), if_neg hb]
    rfl
  rw [e]
  simp
theorem hd_first (hp : r.ph = 0) (he : r.line = []) (h : lineP 1002 t = .line l rest) :
    ansP r t = match (if Lib.hasSuffix l [13] = true then beginsP (atL r l.length) (Lib.trimSuffix l [13]) else none) with
      | none => .inr 50
      | some r' => ansP { r' with ph := 1 } rest := by
  rw [ans_step (by omega) he]; unfold stepL; rw [h]
  simp only
  have e : judgeP { r with cnt := r.cnt + l.length + 1, line := [] } l = match (if Lib.hasSuffix l [13] = true then beginsP (atL r l.length) (Lib.trimSuffix l [13]) else none) with
      | none => (atL r l.length, false, 50)
      | some r' => ({ r' with ph := 1 }, false, 0) := by
    unfold judgeP
    simp only
    rw [if_pos hp]
    rfl
  rw [e]
  cases (if Lib.hasSuffix l [13] = true then beginsP (atL r l.length) (Lib.trimSuffix l [13]) else none) with
  | none => simp
  | some r' => simp
end
end Wi
end Go.Proofs.YtaomhkgdbobpkaaGreatDoor

namespace Go.Proofs.YtaomhkgdbobpkaaGreatDoor
namespace Wi

theorem toldP_err (r : R) (v : List UInt8) : (toldP r v).2 ≠ 56 := by
  unfold toldP
  split
  · simp
  · split <;> simp
theorem headerP_err (r : R) (s : List UInt8) : (headerP r s).2 ≠ 56 := by
  unfold headerP
  split
  · simp
  · split
    · simp
    · split
      · exact toldP_err _ _
      · split <;> simp
theorem judgeP_err (r : R) (l : List UInt8) : (judgeP r l).2.2 ≠ 56 := by
  unfold judgeP
  simp only
  split
  · split <;> simp
  · split
    · simp
    · split
      · simp
      · exact headerP_err _ _
theorem takesP_err (r : R) (c : UInt8) : (takesP r c).2.2 ≠ 56 := by
  unfold takesP nextP
  simp only
  split
  · simp
  · split
    · exact judgeP_err _ _
    · simp only
      split <;> simp
theorem feed_inl : ∀ (t : List UInt8) (r r' : R) (rest : List UInt8), ansP r t = .inl (r', rest) → rest.length < t.length ∧ feedP r t = (r' :: (feedP (begin' false) rest).1, (feedP (begin' false) rest).2)
  | [], _, _, _, h => by simp [ansP] at h
  | c :: s, r, r', rest, h => by
    rw [ansP_cons] at h
    have hf : feedP r (c :: s) = if (takesP r c).2.2 ≠ 0 then ([], (takesP r c).1, (takesP r c).2.2) else if (takesP r c).2.1 = true then ((takesP r c).1 :: (feedP (begin' false) s).1, (feedP (begin' false) s).2) else feedP (takesP r c).1 s := rfl
    rw [hf]
    by_cases h1 : (takesP r c).2.2 ≠ 0
    · rw [if_pos h1] at h; cases h
    · rw [if_neg h1] at h ⊢
      by_cases h2 : (takesP r c).2.1 = true
      · rw [if_pos h2] at h ⊢
        simp only [Sum.inl.injEq, Prod.mk.injEq] at h
        obtain ⟨rfl, rfl⟩ := h
        exact ⟨by simp, rfl⟩
      · rw [if_neg h2] at h ⊢
        obtain ⟨k1, k2⟩ := feed_inl s _ _ _ h
        exact ⟨by simp only [List.length_cons]; omega, k2⟩
theorem feed_inr : ∀ (t : List UInt8) (r : R) (z : Int), ansP r t = .inr z → z ≠ 0 ∧ (feedP r t).1 = [] ∧ (z = 56 → (feedP r t).2.2 = 0 ∧ (feedP r t).2.1.cnt = r.cnt + t.length) ∧ (z ≠ 56 → (feedP r t).2.2 = z)
  | [], r, z, h => by
    obtain rfl : 56 = z := by simpa [ansP] using h
    exact ⟨by decide, rfl, fun _ => ⟨rfl, rfl⟩, fun h => absurd rfl h⟩
  | c :: s, r, z, h => by
    rw [ansP_cons] at h
    have hf : feedP r (c :: s) = if (takesP r c).2.2 ≠ 0 then ([], (takesP r c).1, (takesP r c).2.2) else if (takesP r c).2.1 = true then ((takesP r c).1 :: (feedP (begin' false) s).1, (feedP (begin' false) s).2) else feedP (takesP r c).1 s := rfl
    rw [hf]
    by_cases h1 : (takesP r c).2.2 ≠ 0
    · rw [if_pos h1] at h ⊢
      obtain rfl : (takesP r c).2.2 = z := by simpa using h
      exact ⟨h1, rfl, fun e => absurd e (takesP_err r c), fun _ => rfl⟩
    · rw [if_neg h1] at h ⊢
      by_cases h2 : (takesP r c).2.1 = true
      · rw [if_pos h2] at h; cases h
      · rw [if_neg h2] at h ⊢
        obtain ⟨k1, k2, k3, k4⟩ := feed_inr s _ _ h
        refine ⟨k1, k2, fun e => ⟨(k3 e).1, ?_⟩, k4⟩
        rw [(k3 e).2, takesP_cnt, List.length_cons]
        omega
theorem ans_whole_inv : ∀ (t : List UInt8) (r r' : R) (rest : List UInt8), RI r → ansP r t = .inl (r', rest) → RW r' ∧ r'.ans = r.ans
  | [], _, _, _, _, h => by simp [ansP] at h
  | c :: s, r, r', rest, hi, h => by
    rw [ansP_cons] at h
    by_cases h1 : (takesP r c).2.2 = 0
    · rw [if_neg (by simpa using h1)] at h
      obtain ⟨i1, i2, i3⟩ := takesP_inv hi h1
      by_cases h2 : (takesP r c).2.1 = true
      · rw [if_pos h2] at h
        simp only [Sum.inl.injEq, Prod.mk.injEq] at h
        obtain ⟨rfl, rfl⟩ := h
        exact ⟨i2 h2, i3⟩
      · rw [if_neg h2] at h
        obtain ⟨k1, k2⟩ := ans_whole_inv s _ _ _ (i1 (Bool.not_eq_true _ ▸ h2)) h
        exact ⟨k1, k2.trans i3⟩
    · rw [if_pos h1] at h; cases h
end Wi
end Go.Proofs.YtaomhkgdbobpkaaGreatDoor
