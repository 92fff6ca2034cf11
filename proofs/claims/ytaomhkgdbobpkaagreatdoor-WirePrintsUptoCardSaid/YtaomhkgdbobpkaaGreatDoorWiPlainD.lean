/- Layer 5 in plain Lean: a printed message, byte by byte. No program in sight. -/
import Derived.Test.YtaomhkgdbobpkaaGreatDoorWiPlainC
namespace Go.Proofs.YtaomhkgdbobpkaaGreatDoor
namespace Wi

/-- Bytes that are taken, and by which nothing is whole. -/
def runP : R → List UInt8 → Option R
  | r, [] => some r
  | r, c :: s => if (takesP r c).2.2 = 0 ∧ (takesP r c).2.1 = false then runP (takesP r c).1 s else none
theorem runP_app : ∀ (a : List UInt8) (r : R) (b : List UInt8), runP r (a ++ b) = (runP r a).bind fun r' => runP r' b
  | [], _, _ => rfl
  | c :: a, r, b => by
    simp only [List.cons_append, runP]
    by_cases h : (takesP r c).2.2 = 0 ∧ (takesP r c).2.1 = false
    · rw [if_pos h, if_pos h]; exact runP_app a _ b
    · rw [if_neg h, if_neg h]; rfl
theorem runP_trans {r r1 r2 : R} {a b : List UInt8} (h1 : runP r a = some r1) (h2 : runP r1 b = some r2) : runP r (a ++ b) = some r2 := by
  rw [runP_app, h1]; exact h2
theorem feed_run : ∀ (a : List UInt8) {r r' : R} (b : List UInt8), runP r a = some r' → feedP r (a ++ b) = feedP r' b
  | [], r, r', b, h => by
    obtain rfl := Option.some.inj h
    rfl
  | c :: a, r, r', b, h => by
    unfold runP at h
    split at h
    · rename_i h1
      rw [List.cons_append]
      have e : feedP r (c :: (a ++ b)) = if (takesP r c).2.2 ≠ 0 then ([], (takesP r c).1, (takesP r c).2.2) else if (takesP r c).2.1 = true then ((takesP r c).1 :: (feedP (begin' false) (a ++ b)).1, (feedP (begin' false) (a ++ b)).2) else feedP (takesP r c).1 (a ++ b) := rfl
      rw [e, if_neg (by rw [h1.1]; simp), if_neg (by rw [h1.2]; simp)]
      exact feed_run a b h
    · cases h
theorem ans_run : ∀ (a : List UInt8) {r r' : R} (b : List UInt8), runP r a = some r' → ansP r (a ++ b) = ansP r' b
  | [], r, r', b, h => by
    obtain rfl := Option.some.inj h
    rfl
  | c :: a, r, r', b, h => by
    unfold runP at h
    split at h
    · rename_i h1
      rw [List.cons_append, ansP_cons, if_neg (by rw [h1.1]; simp), if_neg (by rw [h1.2]; simp)]
      exact ans_run a b h
    · cases h
theorem takes_char {r : R} {c : UInt8} (hp : r.ph < 2) (hc : c ≠ 10) (hl : r.line.length + 1 ≤ 1001) : takesP r c = ({ r with cnt := r.cnt + 1, line := r.line ++ [c] }, false, 0) := by
  unfold takesP nextP
  simp only
  rw [if_neg (by omega), if_neg hc, if_neg (by omega)]
theorem run_chars : ∀ (l : List UInt8) (r : R), r.ph < 2 → 10 ∉ l → r.line.length + l.length ≤ 1001 → runP r l = some { r with cnt := r.cnt + l.length, line := r.line ++ l }
  | [], r, _, _, _ => by simp [runP]
  | c :: l, r, hp, hn, hl => by
    simp only [List.length_cons] at hl
    have h1 := takes_char (r := r) (c := c) hp (fun e => hn (by rw [e]; simp)) (by omega)
    unfold runP
    rw [h1]
    simp only [and_self, if_true]
    have ih := run_chars l { r with cnt := r.cnt + 1, line := r.line ++ [c] } hp (fun h => hn (List.mem_cons_of_mem _ h)) (by simp only [List.length_append, List.length_cons, List.length_nil]; omega)
    rw [ih]
    simp only [List.length_cons, Option.some.injEq, R.mk.injEq, true_and, and_true]
    exact ⟨by omega, by simp⟩
/-- A line. -/
theorem run_line {r r2 : R} {l : List UInt8} (hp : r.ph < 2) (he : r.line = []) (hn : 10 ∉ l) (hl : l.length ≤ 1001) (hj : judgeP { r with cnt := r.cnt + l.length + 1, line := [] } l = (r2, false, 0)) : runP r (l ++ [10]) = some r2 := by
  refine runP_trans (run_chars l r hp hn (by rw [he]; simpa using hl)) ?_
  have e : takesP { r with cnt := r.cnt + l.length, line := r.line ++ l } 10 = judgeP { r with cnt := r.cnt + l.length + 1, line := [] } l := by
    unfold takesP nextP
    simp only
    rw [if_neg (by omega), if_pos trivial, he]
    rfl
  unfold runP
  rw [e, hj]
  simp [runP]
theorem suffix13 (x : List UInt8) : Lib.hasSuffix (x ++ [13]) [13] = true ∧ Lib.trimSuffix (x ++ [13]) [13] = x := by
  have h : Lib.hasSuffix (x ++ [13]) [13] = true := by simp [Lib.hasSuffix, List.isSuffixOf]
  refine ⟨h, ?_⟩
  unfold Lib.trimSuffix
  rw [if_pos h]
  simp
theorem only_not {s : List UInt8} {a b : Nat} {p : UInt8 → Bool} (h : onlyP s a b p = true) {c : UInt8} (hc : p c = false) : c ∉ s := fun hm => by
  unfold onlyP at h
  simp only [Bool.and_eq_true, List.all_eq_true] at h
  have := h.1.1 c hm
  rw [hc] at this
  cases this
theorem judge_first {r : R} {m p : List UInt8} (h0 : r.ph = 0) (ha : r.ans = false) (hm : isMethodP m = true) (hp : isPathP p = true) :
    judgeP r ((m ++ 32 :: (p ++ 32 :: versionL)) ++ [13]) = ({ r with first := [m, p], ph := 1 }, false, 0) := by
  have hp2 : onlyP p 1 200 shownP = true := by
    unfold isPathP at hp
    simp only [Bool.and_eq_true] at hp
    exact hp.1
  have hs := splitS3 (m := m) (p := p) (v := versionL) (only_not (a := 1) (b := 16) hm (by decide)) (only_not hp2 (by decide)) (by decide)
  have hb : beginsP r (m ++ 32 :: (p ++ 32 :: versionL)) = some { r with first := [m, p] } := by
    unfold beginsP askedP
    rw [hs, ha]
    simp [hm, hp]
  unfold judgeP
  simp only
  rw [if_pos h0, (suffix13 _).1, (suffix13 _).2, if_pos rfl, hb]
theorem judge_header {r : R} {f : Fl} (h1 : r.ph = 1) (hf : isHeaderP f = true) (hl : r.hs.length < 32) :
    judgeP r ((f.1 ++ 58 :: 32 :: f.2) ++ [13]) = ({ r with hs := r.hs ++ [f] }, false, 0) := by
  unfold isHeaderP at hf
  simp only [Bool.and_eq_true, decide_eq_true_eq, bne_iff_ne] at hf
  obtain ⟨⟨⟨⟨⟨k1, k2⟩, k3⟩, k4⟩, k5⟩, k6⟩ := hf
  have hc := cutP_hit (a := f.1) (b := 32 :: f.2) (only_not (a := 1) (b := 40) k1 (by decide : ofNameP 58 = false))
  have hv : onlyP (32 :: f.2) 0 1000 printedP = true := by
    unfold onlyP at k2 ⊢
    simp only [Bool.and_eq_true, decide_eq_true_eq, List.all_cons, List.length_cons] at k2 ⊢
    exact ⟨⟨⟨by decide, k2.1.1⟩, by omega⟩, by omega⟩
  have hh : headerP r (f.1 ++ 58 :: 32 :: f.2) = ({ r with hs := r.hs ++ [f] }, 0) := by
    unfold headerP
    rw [hc]
    simp only
    rw [if_neg (by rintro (h | h | h); · rw [k1] at h; cases h
                   · rw [hv] at h; cases h
                   · exact k6 h), if_neg k5, if_neg (by omega), trim_head k3]
  unfold judgeP
  simp only
  rw [if_neg (by omega), (suffix13 _).1, (suffix13 _).2, if_neg (by simp), if_neg (by simp), hh]
theorem judge_blank {r : R} (h1 : r.ph = 1) : judgeP r [13] = ({ r with ph := 2 }, decide (r.len ≤ 0), 0) := by
  have h := suffix13 []
  simp only [List.nil_append] at h
  unfold judgeP
  simp only
  rw [if_neg (by omega), h.1, h.2, if_neg (by simp), if_pos rfl]
end Wi
end Go.Proofs.YtaomhkgdbobpkaaGreatDoor
