/- Layer 5 in plain Lean: a printed answer is read back; what follows of beginnings and of pieces. No program in sight. -/
import Derived.Test.YtaomhkgdbobpkaaGreatDoorWiPlainF
namespace Go.Proofs.YtaomhkgdbobpkaaGreatDoor
namespace Wi

theorem reason_printed (n : Int) : onlyP (reasonP n) 0 1000 printedP = true := by
  have hcs : n = 200 ∨ n = 201 ∨ n = 400 ∨ n = 401 ∨ n = 403 ∨ n = 404 ∨ n = 405 ∨ n = 415 ∨ n = 429 ∨ n = 500 ∨ n = 503 ∨ (n ≠ 200 ∧ n ≠ 201 ∧ n ≠ 400 ∧ n ≠ 401 ∧ n ≠ 403 ∧ n ≠ 404 ∧ n ≠ 405 ∧ n ≠ 415 ∧ n ≠ 429 ∧ n ≠ 500 ∧ n ≠ 503) := by omega
  rcases hcs with rfl | rfl | rfl | rfl | rfl | rfl | rfl | rfl | rfl | rfl | rfl | ⟨h1, h2, h3, h4, h5, h6, h7, h8, h9, h10, h11⟩
  case inr.inr.inr.inr.inr.inr.inr.inr.inr.inr.inr =>
    unfold reasonP
    rw [if_neg h1, if_neg h2, if_neg h3, if_neg h4, if_neg h5, if_neg h6, if_neg h7, if_neg h8, if_neg h9, if_neg h10, if_neg h11]
    decide
  all_goals decide
theorem status_len {n : Nat} (h1 : 100 ≤ n) (h2 : n ≤ 599) : (Lib.itoa (n : Int)).length = 3 := by
  rw [itoa_nat, Lib.decDigits_length, Lib.nDigits_big (by omega), Lib.nDigits_big (by omega), Lib.nDigits_small (by omega)]
theorem judge_status {r : R} {n : Nat} (h0 : r.ph = 0) (ha : r.ans = true) (h1 : 100 ≤ n) (h2 : n ≤ 599) :
    judgeP r ((versionL ++ 32 :: (Lib.itoa (n : Int) ++ 32 :: reasonP n)) ++ [13]) = ({ r with first := [Lib.itoa (n : Int)], ph := 1 }, false, 0) := by
  have hl := status_len h1 h2
  obtain ⟨-, d2, -, -⟩ := itoa_only (n := n) (by omega)
  have hr := reason_printed n
  obtain ⟨D, hD⟩ : ∃ D, Lib.itoa (n : Int) = D := ⟨_, rfl⟩
  obtain ⟨E, hE⟩ : ∃ E, reasonP n = E := ⟨_, rfl⟩
  have hdec : decP D = n := by rw [← hD]; exact decP_itoa n
  rw [hD] at hl d2 ⊢
  rw [hE] at hr ⊢
  have hpre : Lib.hasPrefix (versionL ++ 32 :: (D ++ 32 :: E)) (versionL ++ [32]) = true := by
    unfold Lib.hasPrefix
    rw [List.isPrefixOf_iff_prefix]
    exact ⟨D ++ 32 :: E, by simp⟩
  have hdrop : (versionL ++ 32 :: (D ++ 32 :: E)).drop 9 = D ++ 32 :: E := rfl
  have ht3 : (D ++ 32 :: E).take 3 = D := by rw [← hl, List.take_left]
  have hd3 : onlyP D 3 3 digitP = true := by
    unfold onlyP at d2 ⊢
    simp only [Bool.and_eq_true, decide_eq_true_eq] at d2 ⊢
    exact ⟨⟨d2.1.1, by omega⟩, by omega⟩
  have hcode : codeP (D ++ 32 :: E) = true := by
    unfold codeP
    have e1 : (D ++ 32 :: E)[3]? = some 32 := by rw [← hl]; simp
    have e2 : (D ++ 32 :: E).drop 4 = E := by
      have : (4 : Nat) = D.length + 1 := by omega
      rw [this]; simp
    rw [e1, e2, ht3, hd3, hr, decide_eq_true (by simp only [List.length_append, List.length_cons]; omega)]
    rfl
  have hs : statusP (versionL ++ 32 :: (D ++ 32 :: E)) = some D := by
    unfold statusP
    rw [hdrop, ht3, hdec, if_pos ⟨hpre, hcode, h1, h2⟩]
  have hb : beginsP r (versionL ++ 32 :: (D ++ 32 :: E)) = some { r with first := [D] } := by
    unfold beginsP
    rw [if_pos ha, hs]
    rfl
  unfold judgeP
  simp only
  rw [if_pos h0, (suffix13 _).1, (suffix13 _).2, if_pos rfl, hb]
theorem ans_read {st : Nat} {hs : List Fl} {body : List UInt8} (h : restOk hs body = true) (h1 : 100 ≤ st) (h2 : st ≤ 599) :
    ∃ pre b rl w, (printA ⟨st, hs, body⟩).1 = pre ++ [b] ∧ runP (begin' true) pre = some rl ∧ takesP rl b = (w, true, 0) ∧ w.first = [Lib.itoa (st : Int)] ∧ w.hs = hs ∧ w.body = body := by
  obtain ⟨-, d2, -, -⟩ := itoa_only (n := st) (by omega)
  have hl := status_len h1 h2
  have hrp := reason_printed st
  have n1 : 10 ∉ Lib.itoa (st : Int) := only_not d2 (by decide)
  have n2 : 10 ∉ reasonP st := only_not hrp (by decide)
  have hrl : (reasonP st).length ≤ 900 := by
    have hcs : ∀ n : Int, (reasonP n).length ≤ 900 := fun n => by
      have hcs : n = 200 ∨ n = 201 ∨ n = 400 ∨ n = 401 ∨ n = 403 ∨ n = 404 ∨ n = 405 ∨ n = 415 ∨ n = 429 ∨ n = 500 ∨ n = 503 ∨ (n ≠ 200 ∧ n ≠ 201 ∧ n ≠ 400 ∧ n ≠ 401 ∧ n ≠ 403 ∧ n ≠ 404 ∧ n ≠ 405 ∧ n ≠ 415 ∧ n ≠ 429 ∧ n ≠ 500 ∧ n ≠ 503) := by omega
      rcases hcs with rfl | rfl | rfl | rfl | rfl | rfl | rfl | rfl | rfl | rfl | rfl | ⟨h1, h2, h3, h4, h5, h6, h7, h8, h9, h10, h11⟩
      case inr.inr.inr.inr.inr.inr.inr.inr.inr.inr.inr =>
        unfold reasonP
        rw [if_neg h1, if_neg h2, if_neg h3, if_neg h4, if_neg h5, if_neg h6, if_neg h7, if_neg h8, if_neg h9, if_neg h10, if_neg h11]
        decide
      all_goals decide
    exact hcs _
  have hn : 10 ∉ (versionL ++ 32 :: (Lib.itoa (st : Int) ++ 32 :: reasonP st)) ++ [13] := by
    intro hc
    simp only [List.mem_append, List.mem_cons, List.not_mem_nil, or_false] at hc
    rcases hc with (hc | hc | hc | hc | hc) | hc
    · exact absurd hc (by decide)
    · exact absurd hc (by decide)
    · exact n1 hc
    · exact absurd hc (by decide)
    · exact n2 hc
    · exact absurd hc (by decide)
  have e1 : runP (begin' true) (((versionL ++ 32 :: (Lib.itoa (st : Int) ++ 32 :: reasonP st)) ++ [13]) ++ [10]) = some { begin' true with cnt := (begin' true).cnt + ((versionL ++ 32 :: (Lib.itoa (st : Int) ++ 32 :: reasonP st)) ++ [13]).length + 1, line := [], first := [Lib.itoa (st : Int)], ph := 1 } :=
    run_line (by simp [begin']) rfl hn (by simp only [versionL, List.length_append, List.length_cons, List.length_nil]; omega) (judge_status rfl rfl h1 h2)
  obtain ⟨pre, b, rl, w, k1, k2, k3, k4, k5, k6⟩ := rest_read (r1 := { begin' true with cnt := (begin' true).cnt + ((versionL ++ 32 :: (Lib.itoa (st : Int) ++ 32 :: reasonP st)) ++ [13]).length + 1, line := [], first := [Lib.itoa (st : Int)], ph := 1 }) rfl rfl rfl rfl rfl h
  refine ⟨_, b, rl, w, ?_, runP_trans e1 k2, k3, k4, k5, k6⟩
  unfold printA
  simp only
  rw [h, decide_eq_true (by omega), decide_eq_true (by omega)]
  simp only [Bool.and_self, if_true]
  rw [k1]
  simp
/-- A text that is read whole at its last byte, and more behind it. -/
theorem feed_whole {r rl w : R} {pre : List UInt8} {b : UInt8} (h1 : runP r pre = some rl) (h2 : takesP rl b = (w, true, 0)) (more : List UInt8) : feedP r (pre ++ [b] ++ more) = (w :: (feedP (begin' false) more).1, (feedP (begin' false) more).2) := by
  rw [List.append_assoc, feed_run pre _ h1]
  have e : feedP rl ([b] ++ more) = if (takesP rl b).2.2 ≠ 0 then ([], (takesP rl b).1, (takesP rl b).2.2) else if (takesP rl b).2.1 = true then ((takesP rl b).1 :: (feedP (begin' false) more).1, (feedP (begin' false) more).2) else feedP (takesP rl b).1 more := rfl
  rw [e, h2]
  simp
theorem ans_whole {r rl w : R} {pre : List UInt8} {b : UInt8} (h1 : runP r pre = some rl) (h2 : takesP rl b = (w, true, 0)) (more : List UInt8) : ansP r (pre ++ [b] ++ more) = .inl (w, more) := by
  rw [List.append_assoc, ans_run pre _ h1]
  rw [List.singleton_append, ansP_cons, h2]
  simp
/-- A beginning of what runs, runs; so many bytes wait. -/
theorem run_take : ∀ (pre : List UInt8) (r rl : R) (k : Nat), runP r pre = some rl → k ≤ pre.length → ∃ rk, runP r (pre.take k) = some rk ∧ rk.cnt = r.cnt + k
  | _, r, _, 0, _, _ => ⟨r, by simp [runP], rfl⟩
  | [], _, _, k + 1, _, hk => by simp at hk
  | c :: pre, r, rl, k + 1, h, hk => by
    unfold runP at h
    split at h
    · rename_i h1
      obtain ⟨rk, e1, e2⟩ := run_take pre _ rl k h (by simpa using hk)
      refine ⟨rk, ?_, ?_⟩
      · rw [List.take_succ_cons]
        unfold runP
        rw [if_pos h1]
        exact e1
      · rw [e2, takesP_cnt]; omega
    · cases h
theorem feed_run_nil {r rk : R} {a : List UInt8} (h : runP r a = some rk) : feedP r a = ([], rk, 0) := by
  have := feed_run a [] h
  rw [List.append_nil] at this
  rw [this]
  rfl
theorem ans_run_nil {r rk : R} {a : List UInt8} (h : runP r a = some rk) : ansP r a = .inr 56 := by
  have := ans_run a [] h
  rw [List.append_nil] at this
  rw [this]
  rfl
/-- Pieces: what is fed in two pieces is fed as a whole. -/
theorem feedP_append : ∀ (a : List UInt8) (r : R) (b : List UInt8), (feedP r a).2.2 = 0 → feedP r (a ++ b) = ((feedP r a).1 ++ (feedP (feedP r a).2.1 b).1, (feedP (feedP r a).2.1 b).2)
  | [], r, b, _ => by
    show feedP r b = ([] ++ (feedP r b).1, (feedP r b).2)
    simp
  | c :: a, r, b, h => by
    have e : ∀ t, feedP r (c :: t) = if (takesP r c).2.2 ≠ 0 then ([], (takesP r c).1, (takesP r c).2.2) else if (takesP r c).2.1 = true then ((takesP r c).1 :: (feedP (begin' false) t).1, (feedP (begin' false) t).2) else feedP (takesP r c).1 t := fun _ => rfl
    rw [List.cons_append, e (a ++ b), e a]
    rw [e a] at h
    by_cases h1 : (takesP r c).2.2 ≠ 0
    · rw [if_pos h1] at h
      exact absurd h h1
    · rw [if_neg h1] at h
      rw [if_neg h1, if_neg h1]
      by_cases h2 : (takesP r c).2.1 = true
      · rw [if_pos h2] at h
        rw [if_pos h2, if_pos h2, feedP_append a _ b h]
        simp
      · rw [if_neg h2] at h
        rw [if_neg h2, if_neg h2]
        exact feedP_append a _ b h
/-- .. and where the first piece fails, so does the whole. -/
theorem feedP_fail : ∀ (a : List UInt8) (r : R) (b : List UInt8), (feedP r a).2.2 ≠ 0 → (feedP r (a ++ b)).1 = (feedP r a).1 ∧ (feedP r (a ++ b)).2.2 = (feedP r a).2.2
  | [], r, b, h => absurd rfl h
  | c :: a, r, b, h => by
    have e : ∀ t, feedP r (c :: t) = if (takesP r c).2.2 ≠ 0 then ([], (takesP r c).1, (takesP r c).2.2) else if (takesP r c).2.1 = true then ((takesP r c).1 :: (feedP (begin' false) t).1, (feedP (begin' false) t).2) else feedP (takesP r c).1 t := fun _ => rfl
    rw [List.cons_append, e (a ++ b), e a]
    rw [e a] at h
    by_cases h1 : (takesP r c).2.2 ≠ 0
    · rw [if_pos h1, if_pos h1]
      exact ⟨rfl, rfl⟩
    · rw [if_neg h1] at h
      rw [if_neg h1, if_neg h1]
      by_cases h2 : (takesP r c).2.1 = true
      · rw [if_pos h2] at h
        rw [if_pos h2, if_pos h2]
        obtain ⟨k1, k2⟩ := feedP_fail a _ b h
        exact ⟨by simp only; rw [k1], k2⟩
      · rw [if_neg h2] at h
        rw [if_neg h2, if_neg h2]
        exact feedP_fail a _ b h
end Wi
end Go.Proofs.YtaomhkgdbobpkaaGreatDoor
