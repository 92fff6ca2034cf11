/- Layer 5 in plain Lean: what stays true of a reading. No program in sight. -/
import Derived.Test.YtaomhkgdbobpkaaGreatDoorWiPlain
namespace Go.Proofs.YtaomhkgdbobpkaaGreatDoor
namespace Wi

/-- What holds of a reading that nothing is wrong with and that is not whole. -/
structure RI (r : R) : Prop where
  line : r.line.length ≤ 1001
  hs : r.hs.length ≤ 32
  len : r.len ≤ 4000
  ph : r.ph ≤ 2
  nobody : r.ph < 2 → r.body = []
  inbody : r.ph = 2 → (r.body.length : Int) < r.len
  first : r.ans = false → 1 ≤ r.ph → ∃ m p, r.first = [m, p]
  code : r.ans = true → 1 ≤ r.ph → ∃ d, r.first = [d] ∧ onlyP d 3 3 digitP = true
theorem RI.begin (ans : Bool) : RI (begin' ans) := ⟨by simp [begin'], by simp [begin'], by simp [begin'], by simp [begin'], fun _ => rfl, fun h => by simp [begin'] at h, fun _ h => by simp [begin'] at h, fun _ h => by simp [begin'] at h⟩
/-- .. that is whole. -/
structure RW (r : R) : Prop where
  hs : r.hs.length ≤ 32
  body : r.body.length ≤ 4000
  first : r.ans = false → ∃ m p, r.first = [m, p]
  code : r.ans = true → ∃ d, r.first = [d] ∧ onlyP d 3 3 digitP = true
theorem toldP_inv {r : R} {v : List UInt8} (h : RI r) (hp : r.ph < 2) (he : (toldP r v).2 = 0) : RI (toldP r v).1 ∧ (toldP r v).1.ans = r.ans ∧ (toldP r v).1.ph = r.ph := by
  unfold toldP at he ⊢
  split at he
  · simp at he
  · rename_i h1
    rw [if_neg h1]
    split at he
    · simp at he
    · rename_i h2
      rw [if_neg h2]
      refine ⟨⟨h.line, h.hs, ?_, h.ph, h.nobody, fun e => ?_, h.first, h.code⟩, rfl, rfl⟩
      · simp only; omega
      · simp only at e; omega
theorem headerP_inv {r : R} {s : List UInt8} (h : RI r) (hp : r.ph < 2) (he : (headerP r s).2 = 0) : RI (headerP r s).1 ∧ (headerP r s).1.ans = r.ans ∧ (headerP r s).1.ph = r.ph := by
  unfold headerP at he ⊢
  cases hc : cutP 58 s with
  | none => rw [hc] at he; simp at he
  | some x =>
    obtain ⟨n, v⟩ := x
    rw [hc] at he
    simp only at he ⊢
    split at he
    · simp at he
    · rename_i h1
      rw [if_neg h1]
      split at he
      · rename_i h2
        rw [if_pos h2]
        exact toldP_inv h hp he
      · rename_i h2
        rw [if_neg h2]
        split at he
        · simp at he
        · rename_i h3
          rw [if_neg h3]
          refine ⟨⟨h.line, ?_, h.len, h.ph, h.nobody, h.inbody, h.first, h.code⟩, rfl, rfl⟩
          have := h.hs
          simp only [List.length_append, List.length_cons, List.length_nil]
          omega
theorem beginsP_inv {r r' : R} {s : List UInt8} (h : beginsP r s = some r') : (∃ f, r' = { r with first := f } ∧ (r.ans = false → ∃ m p, f = [m, p]) ∧ (r.ans = true → ∃ d, f = [d] ∧ onlyP d 3 3 digitP = true)) := by
  unfold beginsP at h
  split at h
  · rename_i ha
    obtain ⟨d, hd, rfl⟩ := Option.map_eq_some_iff.1 h
    refine ⟨_, rfl, fun e => (by rw [ha] at e; cases e), fun _ => ⟨d, rfl, ?_⟩⟩
    unfold statusP at hd
    split at hd
    · rename_i hc
      obtain rfl := Option.some.inj hd
      have := hc.2.1
      unfold codeP at this
      simp only [Bool.and_eq_true] at this
      exact this.1.2
    · cases hd
  · rename_i ha
    obtain ⟨x, _, rfl⟩ := Option.map_eq_some_iff.1 h
    exact ⟨_, rfl, fun _ => ⟨_, _, rfl⟩, fun e => absurd e ha⟩
theorem judgeP_inv {r : R} {line : List UInt8} (h : RI r) (hp : r.ph < 2) (he : (judgeP r line).2.2 = 0) :
    ((judgeP r line).2.1 = false → RI (judgeP r line).1) ∧ ((judgeP r line).2.1 = true → RW (judgeP r line).1) ∧ (judgeP r line).1.ans = r.ans := by
  unfold judgeP at he ⊢
  simp only at he ⊢
  split at he
  · rename_i h0
    rw [if_pos h0]
    split at he
    · simp at he
    · rename_i r' hb
      have hb2 : beginsP r (Lib.trimSuffix line [13]) = some r' := by
        by_cases hed : Lib.hasSuffix line [13] = true
        · rw [if_pos hed] at hb; exact hb
        · rw [if_neg hed] at hb; cases hb
      obtain ⟨f, rfl, h1, h2⟩ := beginsP_inv hb2
      refine ⟨fun _ => ⟨h.line, h.hs, h.len, by simp, fun _ => h.nobody hp, fun e => by simp at e, fun e _ => h1 e, fun e _ => h2 e⟩, fun e => by simp at e, rfl⟩
  · rename_i h0
    have hp1 : r.ph = 1 := by omega
    rw [if_neg h0]
    split at he
    · simp at he
    · rename_i h1
      rw [if_neg h1]
      split at he
      · rename_i h2
        rw [if_pos h2]
        refine ⟨fun e => ⟨h.line, h.hs, h.len, by simp, fun e => by simp at e, fun _ => ?_, fun e _ => h.first e (by omega), fun e _ => h.code e (by omega)⟩, fun _ => ⟨h.hs, ?_, fun e => h.first e (by omega), fun e => h.code e (by omega)⟩, rfl⟩
        · simp only [decide_eq_false_iff_not] at e
          rw [h.nobody hp]
          simp only [List.length_nil]
          omega
        · simp only; rw [h.nobody hp]; simp
      · rename_i h2
        rw [if_neg h2]
        obtain ⟨k1, k2, k3⟩ := headerP_inv h hp he
        exact ⟨fun _ => k1, fun e => by simp at e, k2⟩
theorem takesP_inv {r : R} {c : UInt8} (h : RI r) (he : (takesP r c).2.2 = 0) :
    ((takesP r c).2.1 = false → RI (takesP r c).1) ∧ ((takesP r c).2.1 = true → RW (takesP r c).1) ∧ (takesP r c).1.ans = r.ans := by
  unfold takesP nextP at he ⊢
  simp only at he ⊢
  by_cases hp : r.ph = 2
  · rw [if_pos hp] at he ⊢
    have hb := h.inbody hp
    refine ⟨fun e => ⟨h.line, h.hs, h.len, h.ph, fun e => (by simp only at e; omega), fun _ => ?_, h.first, h.code⟩, fun e => ⟨h.hs, ?_, fun e => h.first e (by omega), fun e => h.code e (by omega)⟩, rfl⟩
    · simp only [decide_eq_false_iff_not] at e
      simp only [List.length_append, List.length_cons, List.length_nil]
      omega
    · have := h.len
      simp only [List.length_append, List.length_cons, List.length_nil]
      omega
  · rw [if_neg hp] at he ⊢
    have hp2 : r.ph < 2 := by have := h.ph; omega
    by_cases hc : c = 10
    · rw [if_pos hc] at he ⊢
      exact judgeP_inv ⟨by simp, h.hs, h.len, h.ph, h.nobody, h.inbody, h.first, h.code⟩ hp2 he
    · rw [if_neg hc] at he ⊢
      simp only at he ⊢
      refine ⟨fun _ => ⟨?_, h.hs, h.len, h.ph, h.nobody, h.inbody, h.first, h.code⟩, fun e => (by simp at e), (by simp)⟩
      by_cases hl : 1002 ≤ r.line.length + 1
      · rw [if_pos hl] at he; simp at he
      · simp only [List.length_append, List.length_cons, List.length_nil]; omega
theorem toldP_cnt (r : R) (v : List UInt8) : (toldP r v).1.cnt = r.cnt := by
  unfold toldP
  split
  · rfl
  · split <;> rfl
theorem headerP_cnt (r : R) (s : List UInt8) : (headerP r s).1.cnt = r.cnt := by
  unfold headerP
  split
  · rfl
  · split
    · rfl
    · split
      · exact toldP_cnt _ _
      · split <;> rfl
theorem takesP_cnt (r : R) (c : UInt8) : (takesP r c).1.cnt = r.cnt + 1 := by
  unfold takesP nextP judgeP
  simp only
  split
  · rfl
  · split
    · split
      · split
        · rfl
        · rename_i r' hb
          have hb2 : beginsP { r with cnt := r.cnt + 1, line := [] } (Lib.trimSuffix r.line [13]) = some r' := by
            by_cases hed : Lib.hasSuffix r.line [13] = true
            · rw [if_pos hed] at hb; exact hb
            · rw [if_neg hed] at hb; cases hb
          obtain ⟨f, rfl, _, _⟩ := beginsP_inv hb2
          rfl
      · split
        · rfl
        · split
          · rfl
          · exact headerP_cnt _ _
    · rfl
/-- An answer at a text's beginning: the reading that is whole, and what is behind; or what is wrong. -/
def ansP : R → List UInt8 → (R × List UInt8) ⊕ Int
  | _, [] => .inr 56
  | r, c :: s => if (takesP r c).2.2 ≠ 0 then .inr (takesP r c).2.2 else if (takesP r c).2.1 = true then .inl ((takesP r c).1, s) else ansP (takesP r c).1 s
theorem ansP_cons (r : R) (c : UInt8) (s : List UInt8) : ansP r (c :: s) = if (takesP r c).2.2 ≠ 0 then .inr (takesP r c).2.2 else if (takesP r c).2.1 = true then .inl ((takesP r c).1, s) else ansP (takesP r c).1 s := rfl
def ofAns : (R × List UInt8) ⊕ Int → Ans × List UInt8 × Int
  | .inr e => (⟨0, [], []⟩, [], e)
  | .inl (r, t) => (⟨(decP (r.first.getD 0 []) : Nat), r.hs, r.body⟩, t, 0)
def parseA (s : List UInt8) : Ans × List UInt8 × Int := ofAns (ansP (begin' true) s)
end Wi
end Go.Proofs.YtaomhkgdbobpkaaGreatDoor
