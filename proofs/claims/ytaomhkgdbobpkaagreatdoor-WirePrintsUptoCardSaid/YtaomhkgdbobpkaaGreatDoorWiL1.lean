/- Walks of the law of layer 5, first part: numbers, comparisons of fields, a text cut. -/
import Derived.Test.YtaomhkgdbobpkaaGreatDoorWiW18
namespace Go.Proofs.YtaomhkgdbobpkaaGreatDoor
open Go.RowKit Wi

theorem wret_i {a b : Int} (h : a = b) : Ending.returned (.int .i64 a) = .returned (.int .i64 b) := by rw [h]
def pickZ (c : Int) (n : Nat) : Nat := ((if c < 0 then -(c + 1) else c) % (n : Int)).toNat
theorem pickZ_lt (c : Int) (n : Nat) (hn : 1 ≤ n) : pickZ c n < n := by
  unfold pickZ
  have h1 := Int.emod_lt_of_pos (if c < 0 then -(c + 1) else c) (by omega : (0 : Int) < n)
  have h2 := Int.emod_nonneg (if c < 0 then -(c + 1) else c) (by omega : (n : Int) ≠ 0)
  omega
theorem pickZ_int (c : Int) (n : Nat) (hn : 1 ≤ n) : (pickZ c n : Int) = (if c < 0 then -(c + 1) else c) % (n : Int) := by
  unfold pickZ
  have h2 := Int.emod_nonneg (if c < 0 then -(c + 1) else c) (by omega : (n : Int) ≠ 0)
  omega
set_option maxHeartbeats 1000000 in
theorem pick_is (c : Int) (n : Nat) (w : World) (hc : -9223372036854775808 ≤ c ∧ c ≤ 9223372036854775807) (hn : 1 ≤ n ∧ n ≤ 1000000) :
    Calls Tryz.prog 12 #[.int .i64 c, .int .i64 n] w fun e w' => e = .returned (.int .i64 (pickZ c n)) ∧ w' = w := by
  obtain ⟨c1, c2⟩ := hc
  obtain ⟨n1, n2⟩ := hn
  have hp := Lib.hid (pickZ_int c n n1)
  obtain ⟨p, hpe⟩ : ∃ p, pickZ c n = p := ⟨_, rfl⟩
  rw [hpe] at hp ⊢
  clear hpe
  have hn0 : (1 : Int) ≤ (n : Int) := by omega
  have hnz : ((n : Int) == 0) = false := by rw [beq_eq_false_iff_ne]; omega
  by_cases h : c < 0
  · have ht : Hid ((c + 1).tmod (n : Int) = -((-(c + 1)) % (n : Int))) := Lib.hid (by
      have h3 := Int.neg_tmod (-(c + 1)) (n : Int)
      rw [Int.neg_neg] at h3
      rw [h3, Int.tmod_eq_emod_of_nonneg (by omega)])
    have hq : Hid ((p : Int) = (-(c + 1)) % (n : Int)) := Lib.hid (by rw [hp.out, if_pos h])
    clear hp
    go_enter Tryz.func12, Tryz.ntmps12
    go_wp2
    go_ret
    exact ⟨wret_i (by rw [ht.out, hq.out]; omega), rfl⟩
  · have h2 : 0 ≤ c := by omega
    have hq : Hid ((p : Int) = c % (n : Int)) := Lib.hid (by rw [hp.out, if_neg h])
    clear hp
    go_enter Tryz.func12, Tryz.ntmps12
    go_wp2
    go_ret
    exact ⟨wret_i (by rw [hq.out]), rfl⟩


set_option maxHeartbeats 1000000 in
theorem add_is (n m : Nat) (w : World) (h : n + m ≤ 2147483647) : Calls Tryz.prog 8 #[.int .i64 n, .int .i64 m] w fun e w' => e = .returned (.int .i64 ((n + m : Nat) : Int)) ∧ w' = w := by
  have h1 : ¬ (2147483647 : Int) - (n : Int) < (m : Int) := by omega
  have h2 : (n : Int) ≤ 2147483647 := by omega
  have h3 : (m : Int) ≤ 2147483647 := by omega
  go_enter Tryz.func8, Tryz.ntmps8
  go_wp2
  go_ret
  exact ⟨rfl, rfl⟩
set_option maxHeartbeats 1000000 in
theorem lcut_any (s : List UInt8) (m : Nat) (w : World) (_hs : s.length ≤ 4611686018427387904) (hm : m ≤ 1000000) : Calls Tryz.prog 48 #[S s, .int .i64 m] w fun e w' => e = .returned (S (s.take m)) ∧ w' = w := by
  have hsz : (⟨s.toArray⟩ : ByteArray).size = s.length := size_mk s
  by_cases h : m < s.length
  · have h1 : (m : Int) < (s.length : Int) := by omega
    have h0 : (0 : Int) ≤ (m : Int) := by omega
    have EX : (⟨s.toArray⟩ : ByteArray).extract 0 m = ⟨(s.take m).toArray⟩ := by rw [extract_ba]; simp
    clear h
    go_enter Tryz.func48, Tryz.ntmps48
    go_wp2
    go_ret
    exact ⟨rfl, rfl⟩
  · have h1 : ¬ (m : Int) < (s.length : Int) := by omega
    have HT : Hid (s.take m = s) := Lib.hid (List.take_of_length_le (by omega))
    clear h
    rw [HT.out]
    go_enter Tryz.func48, Tryz.ntmps48
    go_wp2
    go_ret
    exact ⟨rfl, rfl⟩
end Go.Proofs.YtaomhkgdbobpkaaGreatDoor
