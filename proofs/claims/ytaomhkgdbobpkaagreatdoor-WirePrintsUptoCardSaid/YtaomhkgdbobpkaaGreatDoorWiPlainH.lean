/- Plain law of layer 5: a message printed and fed in two pieces; an answer printed, with more behind it, and cut. -/
import Derived.Test.YtaomhkgdbobpkaaGreatDoorWiPlainG
import Derived.Test.YtaomhkgdbobpkaaGreatDoorWiW17
namespace Go.Proofs.YtaomhkgdbobpkaaGreatDoor
open Wi
theorem printM_ok {x : Msg} (h : restOk x.hs x.body = true) (hm : isMethodP x.m = true) (hp : isPathP x.p = true) : (printM x).2 = 0 ∧ (printM x).1.length ≤ 41000 := by
  have h1 := method_len hm
  have h2 := path_len hp
  have h3 := rest_len h
  unfold printM
  rw [h, hm, hp]
  simp only [Bool.and_self, if_true, List.length_append, List.length_cons, List.length_nil, versionL, true_and]
  omega
theorem msg_pieces {x : Msg} (h : restOk x.hs x.body = true) (hm : isMethodP x.m = true) (hp : isPathP x.p = true) :
    ∃ w : R, w.first = [x.m, x.p] ∧ w.hs = x.hs ∧ w.body = x.body ∧ 1 ≤ (printM x).1.length ∧ (∀ more, feedP (begin' false) ((printM x).1 ++ more) = (w :: (feedP (begin' false) more).1, (feedP (begin' false) more).2)) ∧
      ∀ k, k < (printM x).1.length → ∃ rk, feedP (begin' false) ((printM x).1.take k) = ([], rk, 0) ∧ rk.cnt = k ∧ feedP rk ((printM x).1.drop k) = ([w], begin' false, 0) := by
  obtain ⟨pre, b, rl, w, e, h1, h2, h3, h4, h5⟩ := msg_read h hm hp
  refine ⟨w, h3, h4, h5, by rw [e]; simp, fun more => by rw [e]; exact feed_whole h1 h2 more, fun k hk => ?_⟩
  rw [e] at hk ⊢
  have hk2 : k ≤ pre.length := by simp at hk; omega
  obtain ⟨rk, r1, r2⟩ := run_take pre _ rl k h1 hk2
  have ht : (pre ++ [b]).take k = pre.take k := List.take_append_of_le_length hk2
  have hf := feed_run_nil r1
  refine ⟨rk, by rw [ht]; exact hf, by rw [r2]; simp [begin'], ?_⟩
  have hw := feed_whole h1 h2 []
  rw [List.append_nil] at hw
  have ha := feedP_append ((pre ++ [b]).take k) (begin' false) ((pre ++ [b]).drop k) (by rw [ht, hf])
  rw [List.take_append_drop, hw, ht, hf] at ha
  simp only [List.nil_append] at ha
  exact ha.symm
theorem printA_ok {st : Nat} {hs : List Fl} {body : List UInt8} (h : restOk hs body = true) (h1 : 100 ≤ st) (h2 : st ≤ 599) : (printA ⟨st, hs, body⟩).2 = 0 ∧ (printA ⟨st, hs, body⟩).1.length ≤ 41000 := by
  have h3 := rest_len h
  have h4 := reason_len (st : Int)
  have h5 := itoa_len (st : Int) (by omega) (by omega)
  unfold printA
  rw [if_pos (by simp [h]; omega)]
  refine ⟨rfl, ?_⟩
  simp only [List.length_append, List.length_cons, List.length_nil, versionL]
  omega
theorem ans_pieces {st : Nat} {hs : List Fl} {body : List UInt8} (h : restOk hs body = true) (h1 : 100 ≤ st) (h2 : st ≤ 599) :
    1 ≤ (printA ⟨st, hs, body⟩).1.length ∧ (∀ more, parseA ((printA ⟨st, hs, body⟩).1 ++ more) = (⟨st, hs, body⟩, more, 0)) ∧ ∀ k, k < (printA ⟨st, hs, body⟩).1.length → parseA ((printA ⟨st, hs, body⟩).1.take k) = (⟨0, [], []⟩, [], 56) := by
  obtain ⟨pre, b, rl, w, e, k1, k2, k3, k4, k5⟩ := ans_read h h1 h2
  rw [e]
  refine ⟨by simp, fun more => ?_, fun k hk => ?_⟩
  · unfold parseA
    rw [ans_whole k1 k2 more]
    simp only [ofAns, k3, k4, k5, List.getD_cons_zero, decP_itoa]
  · have hk2 : k ≤ pre.length := by simp at hk; omega
    obtain ⟨rk, r1, r2⟩ := run_take pre _ rl k k1 hk2
    rw [List.take_append_of_le_length hk2]
    unfold parseA
    rw [ans_run_nil r1]
    rfl
/-- A reading of messages stays one. -/
theorem feedP_inv : ∀ (s : List UInt8) (r : R), RI r → r.ans = false → (feedP r s).2.2 = 0 → RI (feedP r s).2.1 ∧ (feedP r s).2.1.ans = false
  | [], r, h, ha, _ => ⟨h, ha⟩
  | c :: s, r, h, ha, he => by
    rw [feedP_cons] at he ⊢
    split
    · rename_i h1; rw [if_pos h1] at he; exact absurd he h1
    · rename_i h1
      rw [if_neg h1] at he
      obtain ⟨k1, k2, k3⟩ := takesP_inv h (by simpa using h1)
      split
      · rename_i h2
        rw [if_pos h2] at he
        exact feedP_inv s _ (RI.begin false) rfl he
      · rename_i h2
        rw [if_neg h2] at he
        exact feedP_inv s _ (k1 (by simpa using h2)) (by rw [k3]; exact ha) he
theorem feedP_cnt : ∀ (s : List UInt8) (r : R), (feedP r s).2.1.cnt ≤ r.cnt + s.length
  | [], r => by simp [feedP]
  | c :: s, r => by
    rw [feedP_cons]
    have h1 := takesP_cnt r c
    split
    · simp only [h1, List.length_cons]; omega
    · split
      · have := feedP_cnt s (begin' false)
        simp only [begin'] at this
        simp only [List.length_cons, begin']
        omega
      · have := feedP_cnt s (takesP r c).1
        simp only [List.length_cons]
        omega
end Go.Proofs.YtaomhkgdbobpkaaGreatDoor
