/- Walks of jot's reader (layer 4), fifth part: hex. -/
import Derived.Test.YtmajpambfblhnaaGreatDoorJoPA
import Derived.Laws.BitsAllLaws
namespace Go.Proofs.YtmajpambfblhnaaGreatDoor
open Go.RowKit Jo

theorem hex_class (c : UInt8) (n : Int) (hn : n = c.toNat) : ∃ z : Int, Hid (hexZ c = z) ∧
    ((48 ≤ n ∧ n ≤ 57 ∧ z ≤ n - 48 ∧ n - 48 ≤ z) ∨ (97 ≤ n ∧ n ≤ 102 ∧ z ≤ n - 97 + 10 ∧ n - 97 + 10 ≤ z) ∨ (65 ≤ n ∧ n ≤ 70 ∧ z ≤ n - 65 + 10 ∧ n - 65 + 10 ≤ z) ∨
      (0 ≤ n ∧ n < 48 ∧ z ≤ -1 ∧ -1 ≤ z) ∨ (58 ≤ n ∧ n < 65 ∧ z ≤ -1 ∧ -1 ≤ z) ∨ (71 ≤ n ∧ n < 97 ∧ z ≤ -1 ∧ -1 ≤ z) ∨ (103 ≤ n ∧ n < 256 ∧ z ≤ -1 ∧ -1 ≤ z)) := by
  refine ⟨_, Lib.hid rfl, ?_⟩
  have hc := c.toNat_lt
  unfold hexZ
  simp only [UInt8.le_iff_toNat_le]
  rw [show (48 : UInt8).toNat = 48 from rfl, show (57 : UInt8).toNat = 57 from rfl, show (97 : UInt8).toNat = 97 from rfl, show (102 : UInt8).toNat = 102 from rfl, show (65 : UInt8).toNat = 65 from rfl, show (70 : UInt8).toNat = 70 from rfl]
  split
  · omega
  · split
    · omega
    · split <;> omega

set_option maxHeartbeats 4000000 in
set_option maxRecDepth 100000 in
theorem hex_any (g : Nat) (s : List UInt8) (i d : Nat) (lo hh : Int) (w : World) (hp : PA g s i d w) (hl : s.length ≤ 4000) (hi : i ≤ s.length) :
    Calls Tryz.prog 116 #[.pointer (some ⟨g, 0, none⟩), .int .i64 lo, .int .i64 hh] w (Reads g s d w (hexP s lo hh i) fun n e _ => e = .returned (.int .i64 n)) := by
  obtain ⟨R, hR⟩ : ∃ R, hexP s lo hh i = R := ⟨_, rfl⟩
  have HR := Lib.hid hR
  rw [hR]
  clear hR
  cases hc : s[i]? with
  | none =>
    have HN : Hid (R = .bad 40 i) := Lib.hid (by rw [← HR.out, hexP, hc])
    have C := Lib.hid (here_bad g s i d w hc hp hl hi)
    clear hc
    go_enter Tryz.func116, Tryz.ntmps116
    go_wp2_with fail
    refine C.out.mono ?_
    rintro x w' ⟨rfl, n, rfl⟩
    go_wp2
    rw [HN.out]
    exact ⟨rfl, rfl, hi, (Kept.refl _ w).drewN n⟩
  | some c =>
    have C := Lib.hid (here_ok g s i d w c hc hp hl)
    have hi1 : i + 1 ≤ s.length := (List.getElem?_eq_some_iff.1 hc).1
    have HP := Lib.hid hp
    obtain ⟨h0, h1, h2, h3, h4⟩ := hp.facts
    obtain ⟨z, HZ, hcls⟩ := hex_class c c.toNat rfl
    have HQ : Hid (R = if z < lo ∨ hh < z then .bad 40 i else .ok z (i + 1)) := Lib.hid (by rw [← HR.out, hexP, hc, ← HZ.out])
    clear hc hp HR HZ
    by_cases hbad : z < lo ∨ hh < z
    · have HN : Hid (R = .bad 40 i) := Lib.hid (by rw [HQ.out, if_pos hbad])
      clear HQ
      by_cases hlo : z < lo
      all_goals
        rcases hcls with ⟨a1, a2, a3, a4⟩ | ⟨a1, a2, a3, a4⟩ | ⟨a1, a2, a3, a4⟩ | ⟨a1, a2, a3, a4⟩ | ⟨a1, a2, a3, a4⟩ | ⟨a1, a2, a3, a4⟩ | ⟨a1, a2, a3, a4⟩
      all_goals
        have hx : hh < z ∨ z < lo := by omega
        try (have hhi : hh < z := by omega)
        clear hbad hx
        go_enter Tryz.func116, Tryz.ntmps116
        go_wp2_with fail
        refine C.out.mono ?_
        rintro x w' ⟨rfl, n, rfl⟩
        go_wp2_with fail
        refine (fail_any _ _ _ _ _ _ (HP.out.drewN _)).mono ?_
        rintro x w' ⟨rfl, rfl⟩
        go_wp2
        rw [HN.out]
        exact ⟨rfl, rfl, hi, (Kept.refl _ w).drewN n⟩
    · have HN : Hid (R = .ok z (i + 1)) := Lib.hid (by rw [HQ.out, if_neg hbad])
      clear HQ
      have hlo : ¬ z < lo := fun h => hbad (.inl h)
      have hhi : ¬ hh < z := fun h => hbad (.inr h)
      clear hbad
      rcases hcls with ⟨a1, a2, a3, a4⟩ | ⟨a1, a2, a3, a4⟩ | ⟨a1, a2, a3, a4⟩ | ⟨a1, a2, a3, a4⟩ | ⟨a1, a2, a3, a4⟩ | ⟨a1, a2, a3, a4⟩ | ⟨a1, a2, a3, a4⟩
      all_goals
        go_enter Tryz.func116, Tryz.ntmps116
        go_wp2_with fail
        refine C.out.mono ?_
        rintro x w' ⟨rfl, n, rfl⟩
        go_wp2
        go_ret
        rw [HN.out]
        exact ⟨ret_int (by omega), (HP.out.drewN _).setAt _ _ rfl, hi1, ((Kept.refl _ w).drewN _).setCell (.inr (by simp)) _⟩
end Go.Proofs.YtmajpambfblhnaaGreatDoor
