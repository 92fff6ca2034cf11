/- Layer 5 in plain Lean: a printed message and a printed answer are read back whole, at their last byte. No program in sight. -/
import Derived.Test.YtaomhkgdbobpkaaGreatDoorWiPlainE
namespace Go.Proofs.YtaomhkgdbobpkaaGreatDoor
namespace Wi

theorem run_body : ∀ (s : List UInt8) (r : R), r.ph = 2 → ((r.body.length + s.length : Nat) : Int) < r.len → runP r s = some { r with cnt := r.cnt + s.length, body := r.body ++ s }
  | [], r, _, _ => by simp [runP]
  | c :: s, r, hp, hl => by
    simp only [List.length_cons] at hl
    have h1 : takesP r c = ({ r with cnt := r.cnt + 1, body := r.body ++ [c] }, false, 0) := by
      unfold takesP nextP
      simp only
      rw [if_pos hp, decide_eq_false (by omega)]
    unfold runP
    rw [h1]
    simp only [and_self, if_true]
    have ih := run_body s { r with cnt := r.cnt + 1, body := r.body ++ [c] } hp (by simp only [List.length_append, List.length_cons, List.length_nil]; omega)
    rw [ih]
    simp only [List.length_cons, Option.some.injEq, R.mk.injEq, true_and]
    exact ⟨by omega, by simp⟩
/-- What is behind a first line is read, and whole at its last byte. -/
theorem rest_read {r1 : R} {hs : List Fl} {body : List UInt8} (h1 : r1.ph = 1) (he : r1.line = []) (hh : r1.hs = []) (hl : r1.len = -1) (hb : r1.body = []) (h : restOk hs body = true) :
    ∃ pre b rl w, restP hs body = pre ++ [b] ∧ runP r1 pre = some rl ∧ takesP rl b = (w, true, 0) ∧ w.first = r1.first ∧ w.hs = hs ∧ w.body = body := by
  unfold restOk at h
  simp only [Bool.and_eq_true, decide_eq_true_eq] at h
  obtain ⟨⟨k1, k2⟩, k3⟩ := h
  obtain ⟨c, e1⟩ := run_heads hs r1 k3 (by rw [hh]; simpa using k1) h1 he
  rw [hh, List.nil_append] at e1
  obtain ⟨d1, d2, d3, d4⟩ := itoa_only k2
  have hnd : 10 ∉ Lib.itoa (body.length : Int) := only_not d2 (by decide)
  have hn10 : 10 ∉ (clN ++ 58 :: 32 :: Lib.itoa (body.length : Int)) ++ [13] := by
    intro hm
    simp only [List.mem_append, List.mem_cons, List.not_mem_nil, or_false] at hm
    rcases hm with (hm | hm | hm | hm) | hm
    · exact absurd hm (by decide)
    · exact absurd hm (by decide)
    · exact absurd hm (by decide)
    · exact hnd hm
    · exact absurd hm (by decide)
  have e2 : runP { r1 with cnt := c, hs := hs } (((clN ++ 58 :: 32 :: Lib.itoa (body.length : Int)) ++ [13]) ++ [10]) = some { r1 with cnt := c + ((clN ++ 58 :: 32 :: Lib.itoa (body.length : Int)) ++ [13]).length + 1, line := [], hs := hs, len := (body.length : Nat) } :=
    run_line (by simp only; omega) he hn10 (by simp only [clN, List.length_append, List.length_cons, List.length_nil]; omega) (judge_told h1 hl k2)
  obtain ⟨c3, hc3⟩ : ∃ c3, c + ((clN ++ 58 :: 32 :: Lib.itoa (body.length : Int)) ++ [13]).length + 1 = c3 := ⟨_, rfl⟩
  rw [hc3] at e2
  have e3 : runP { r1 with cnt := c3, line := [], hs := hs, len := (body.length : Nat) } [13] = some { r1 with cnt := c3 + 1, line := [13], hs := hs, len := (body.length : Nat) } := by
    have := run_chars [13] { r1 with cnt := c3, line := [], hs := hs, len := (body.length : Nat) } (by simp only; omega) (by decide) (by simp)
    simpa using this
  have e4 : takesP { r1 with cnt := c3 + 1, line := [13], hs := hs, len := (body.length : Nat) } 10 = ({ r1 with ph := 2, cnt := c3 + 1 + 1, line := [], hs := hs, len := (body.length : Nat) }, decide (((body.length : Nat) : Int) ≤ 0), 0) := by
    have hj := judge_blank (r := { r1 with cnt := c3 + 1 + 1, line := [], hs := hs, len := (body.length : Nat) }) h1
    unfold takesP nextP
    simp only
    rw [if_neg (by omega), if_pos trivial]
    exact hj
  have E := runP_trans (runP_trans e1 e2) e3
  have hT : restP hs body = ((hs.map headP).flatten ++ (((clN ++ 58 :: 32 :: Lib.itoa (body.length : Int)) ++ [13]) ++ [10]) ++ [13]) ++ (10 :: body) := by
    unfold restP
    have : toldN = clN ++ [58, 32] := rfl
    rw [this]
    simp
  rcases List.eq_nil_or_concat body with hbe | ⟨bs, z, hbz⟩
  · refine ⟨_, 10, _, { r1 with ph := 2, cnt := c3 + 1 + 1, line := [], hs := hs, len := (body.length : Nat) }, ?_, E, e4.trans ?_, rfl, rfl, ?_⟩
    · rw [hT, hbe]
    · rw [decide_eq_true (by rw [hbe]; simp)]
    · simp only; rw [hb, hbe]
  · rw [List.concat_eq_append] at hbz
    have hlen : body.length = bs.length + 1 := by rw [hbz]; simp
    have e5 : runP { r1 with cnt := c3 + 1, line := [13], hs := hs, len := (body.length : Nat) } [10] = some { r1 with ph := 2, cnt := c3 + 1 + 1, line := [], hs := hs, len := (body.length : Nat) } := by
      unfold runP
      rw [e4, decide_eq_false (by omega)]
      simp [runP]
    have e6 := run_body bs { r1 with ph := 2, cnt := c3 + 1 + 1, line := [], hs := hs, len := (body.length : Nat) } rfl (by simp only; rw [hb]; simp only [List.length_nil]; omega)
    refine ⟨_, z, _, { r1 with ph := 2, cnt := c3 + 1 + 1 + bs.length + 1, line := [], hs := hs, len := (body.length : Nat), body := bs ++ [z] }, ?_, runP_trans (runP_trans E e5) e6, ?_, rfl, rfl, hbz.symm⟩
    · rw [hT]
      obtain ⟨P, hP⟩ : ∃ P, (hs.map headP).flatten ++ (((clN ++ 58 :: 32 :: Lib.itoa (body.length : Int)) ++ [13]) ++ [10]) ++ [13] = P := ⟨_, rfl⟩
      rw [hP]
      conv => lhs; rw [hbz]
      simp
    · unfold takesP nextP
      simp only
      rw [if_pos trivial, hb, List.nil_append, decide_eq_true (by omega)]
/-- A printed message is read back, whole at its last byte. -/
theorem msg_read {x : Msg} (h : restOk x.hs x.body = true) (hm : isMethodP x.m = true) (hp : isPathP x.p = true) :
    ∃ pre b rl w, (printM x).1 = pre ++ [b] ∧ runP (begin' false) pre = some rl ∧ takesP rl b = (w, true, 0) ∧ w.first = [x.m, x.p] ∧ w.hs = x.hs ∧ w.body = x.body := by
  have hp2 : onlyP x.p 1 200 shownP = true := by
    unfold isPathP at hp
    simp only [Bool.and_eq_true] at hp
    exact hp.1
  have hlm : x.m.length ≤ 16 := by
    unfold isMethodP onlyP at hm
    simp only [Bool.and_eq_true, decide_eq_true_eq] at hm
    exact hm.2
  have hlp : x.p.length ≤ 200 := by
    unfold onlyP at hp2
    simp only [Bool.and_eq_true, decide_eq_true_eq] at hp2
    exact hp2.2
  have n1 : 10 ∉ x.m := only_not (a := 1) (b := 16) hm (by decide)
  have n2 : 10 ∉ x.p := only_not hp2 (by decide)
  have hn : 10 ∉ (x.m ++ 32 :: (x.p ++ 32 :: versionL)) ++ [13] := by
    intro hc
    simp only [List.mem_append, List.mem_cons, List.not_mem_nil, or_false] at hc
    rcases hc with (hc | hc | hc | hc | hc) | hc
    · exact n1 hc
    · exact absurd hc (by decide)
    · exact n2 hc
    · exact absurd hc (by decide)
    · exact absurd hc (by decide)
    · exact absurd hc (by decide)
  have e1 : runP (begin' false) (((x.m ++ 32 :: (x.p ++ 32 :: versionL)) ++ [13]) ++ [10]) = some { begin' false with cnt := (begin' false).cnt + ((x.m ++ 32 :: (x.p ++ 32 :: versionL)) ++ [13]).length + 1, line := [], first := [x.m, x.p], ph := 1 } :=
    run_line (by simp [begin']) rfl hn (by simp only [versionL, List.length_append, List.length_cons, List.length_nil]; omega) (judge_first rfl rfl hm hp)
  obtain ⟨pre, b, rl, w, k1, k2, k3, k4, k5, k6⟩ := rest_read (r1 := { begin' false with cnt := (begin' false).cnt + ((x.m ++ 32 :: (x.p ++ 32 :: versionL)) ++ [13]).length + 1, line := [], first := [x.m, x.p], ph := 1 }) rfl rfl rfl rfl rfl h
  refine ⟨_, b, rl, w, ?_, runP_trans e1 k2, k3, k4, k5, k6⟩
  unfold printM
  rw [h, hm, hp]
  simp only [Bool.and_self, if_true]
  rw [k1]
  simp
end Wi
end Go.Proofs.YtaomhkgdbobpkaaGreatDoor
