/- Walks of the reference's reader (layer 4), sixth part: a number. Printed by gen_refnumber.py. -/
import Derived.Test.YtmajpambfblhnaaGreatDoorJoR1
import Derived.Test.YtmajpambfblhnaaGreatDoorJoPlainC
namespace Go.Proofs.YtmajpambfblhnaaGreatDoor
open Go.RowKit Jo

theorem ret_numR {a b : Int} (h : a = b) : Ending.returned (.tuple #[.int .i64 a, .bool true]) = .returned (.tuple #[.int .i64 b, .bool true]) := by rw [h]
set_option maxHeartbeats 8000000 in
set_option maxRecDepth 100000 in
theorem refnumber_any (g : Nat) (s : List UInt8) (i d : Nat) (w : World) (hp : RA g s i 0 d w) (hl : s.length ≤ 1000000) (hi : i ≤ s.length) :
    Calls Tryz.prog 81 #[.pointer (some ⟨g, 0, none⟩)] w (RRd g s d w (numP s i) (fun n e _ => e = .returned (.tuple #[.int .i64 n, .bool true])) fun e => e = .returned (.tuple #[.int .i64 0, .bool false])) := by
  have hsz : (⟨s.toArray⟩ : ByteArray).size = s.length := size_mk s
  obtain ⟨R, hR⟩ : ∃ R, numP s i = R := ⟨_, rfl⟩
  have HR := Lib.hid hR
  rw [hR]
  clear hR
  have HP := Lib.hid hp
  have C := Lib.hid (refis_any g s i d 0 45 w hp hi hl)
  obtain ⟨h0, h1, h2, h3, h4, h5, h6⟩ := hp.facts
  clear hp
  by_cases hm : s[i]? = some 45
  · have HQ : Hid (numQ s (-1) (i + 1) = R) := Lib.hid (by rw [← HR.out, numP, if_pos hm])
    have hi1 : i + 1 ≤ s.length := (List.getElem?_eq_some_iff.1 hm).1
    rw [decide_eq_true hm] at C
    have HPn : Hid (∀ n, RA g s (i + 1) 0 d ((w.drewN n).setCell ⟨g, 1, none⟩ (.int .i64 ((i : Int) + 1)))) := Lib.hid fun n => (HP.out.drewN n).setAt (i + 1) _ rfl
    have HKn : Hid (∀ n, Kept (· ≠ g) w ((w.drewN n).setCell ⟨g, 1, none⟩ (.int .i64 ((i : Int) + 1)))) := Lib.hid fun n => ((Kept.refl _ w).drewN n).setCell (.inr (by simp)) _
    clear hm HR
    go_enter Tryz.func81, Tryz.ntmps81
    go_wp2_with fail
    refine C.out.mono ?_
    rintro x w' ⟨rfl, n, rfl⟩
    go_wp2_with fail
    have HP1 := Lib.hid (HPn.out n)
    have HK1 := Lib.hid (HKn.out n)
    clear HPn HKn
    generalize ((w.drewN n).setCell ⟨g, 1, none⟩ (.int .i64 ((i : Int) + 1))) = W1 at HP1 HK1 ⊢
    clear h0 h1 h2 h3 h4 h5 h6 HP C
    obtain ⟨i1, hi1e⟩ : ∃ i1, i + 1 = i1 := ⟨_, rfl⟩
    rw [hi1e] at HQ hi1 HP1
    clear hi1e
    have D := Lib.hid (refis_any g s i1 d 0 48 W1 HP1.out hi1 hl)
    have HQ2 : Hid ((if s[i1]? = some 48 then .ok 0 (i1 + 1) else (digP 0 (s.drop i1) i1).bind fun n j => if j = i1 then .bad 40 i1 else .ok ((-1) * n) j) = R) := Lib.hid (by rw [← HQ.out, numQ_ref])
    clear HQ
    obtain ⟨h0, h1, h2, h3, h4, h5, h6⟩ := HP1.out.facts
    by_cases hz : s[i1]? = some 48
    · have HN : Hid (R = .ok 0 (i1 + 1)) := Lib.hid (by rw [← HQ2.out, if_pos hz])
      have hi2 : i1 + 1 ≤ s.length := (List.getElem?_eq_some_iff.1 hz).1
      rw [decide_eq_true hz] at D
      clear HQ2 hz
      refine D.out.mono ?_
      rintro x w' ⟨rfl, n2, rfl⟩
      go_wp2
      go_ret2
      rw [HN.out]
      exact ⟨rfl, (HP1.out.drewN _).setAt _ _ rfl, hi2, (HK1.out.drewN _).setCell (.inr (by simp)) _⟩
    · rw [decide_eq_false hz] at D
      have HQ3 : Hid (((digP 0 (s.drop i1) i1).bind fun n j => if j = i1 then .bad 40 i1 else .ok ((-1) * n) j) = R) := Lib.hid (by rw [← HQ2.out, if_neg hz])
      clear HQ2 hz
      refine D.out.mono ?_
      rintro x w' ⟨rfl, n2, rfl⟩
      go_wp2
      go_loopg [6] (s.length - i1) (fun m a wr => ∃ (n : Int) (j : Nat), a = .int .i64 n ∧ m = s.length - j ∧ i1 ≤ j ∧ j ≤ s.length ∧ 0 ≤ n ∧ n ≤ 9007199254740991 ∧ RA g s j 0 d wr ∧ Kept (· ≠ g) w wr ∧ Hid (((digP n (s.drop j) j).bind fun n j => if j = i1 then .bad 40 i1 else .ok ((-1) * n) j) = R))
      case atStart => exact ⟨0, i1, rfl, rfl, Nat.le_refl _, hi1, by omega, by omega, HP1.out.drewN _, HK1.out.drewN _, HQ3⟩
      case round =>
        clear HQ3 h0 h1 h2 h3 h4 h5 h6 D
        obtain ⟨n, j, rfl, rfl, hij, hj, hn0, hn1, hpj, hkj, HRj⟩ := hrel
        obtain ⟨h0, h1, h2, h3, h4, h5, h6⟩ := hpj.facts
        have HPj := Lib.hid hpj
        have HJ := Lib.hid hj
        clear hpj
        cases hc : s[j]? with
        | none =>
          have hd := digP_none n s j (fun c h => by rw [hc] at h; cases h)
          have HQ4 : Hid (R = if j = i1 then .bad 40 i1 else .ok ((-1) * n) j) := Lib.hid (by rw [← HRj.out, hd]; rfl)
          obtain rfl : j = s.length := by rw [List.getElem?_eq_none_iff] at hc; omega
          have hdl : decide (s.length < s.length) = false := by simp
          clear hd hc HRj
          go_wp2
          go_quiet (fail)
          by_cases hji : s.length = i1
          · have HN : Hid (R = .bad 40 i1) := Lib.hid (by rw [HQ4.out, if_pos hji])
            have qji : ((s.length : Int) == (i1 : Int)) = true := by rw [beq_iff_eq]; omega
            clear HQ4 hij
            have HPn : Hid (∀ n, RA g s i1 0 d (wr.drewN n)) := Lib.hid fun n => by rw [← hji]; exact HPj.out.drewN n
            clear hji
            go_wp2_with fail
            refine (refwrong_any g s i1 d 0 40 _ (HPn.out _)).mono ?_
            rintro x w' ⟨rfl, hp', hk⟩
            go_wp2
            go_ret2
            rw [HN.out]
            exact ⟨rfl, ⟨d, hp'⟩, hi1, (hkj.drewN _).tr hk⟩
          · have HN : Hid (R = .ok ((-1) * n) s.length) := Lib.hid (by rw [HQ4.out, if_neg hji])
            have qji : ((s.length : Int) == (i1 : Int)) = false := by rw [beq_eq_false_iff_ne]; omega
            clear HQ4
            go_wp2
            go_ret2
            rw [HN.out]
            exact ⟨ret_numR (a := -n) (by omega), HPj.out.drewN _, HJ.out, hkj.drewN _⟩
        | some c =>
          obtain ⟨hci, hcc⟩ := List.getElem?_eq_some_iff.1 hc
          have hix := run_index_str (P := Tryz.prog) Tryz.underlying9 ⟨s.toArray⟩ (j : Int) j rfl (by rw [hsz]; exact hci) c hcc
          have hdl : decide (j < s.length) = true := by simp; omega
          have hj1 : j + 1 ≤ s.length := hci
          by_cases hdg : isDig c = true
          · have hv := dig_val hdg
            have hs := digP_some n s j c hc hdg
            have hv0 : 48 ≤ c.toNat := hv.1
            have hv1 : c.toNat ≤ 57 := hv.2
            have hv2 : (48 : Int) ≤ (c.toNat : Int) := by omega
            have hv3 : (c.toNat : Int) ≤ 57 := by omega
            by_cases hbig : 10 * n + ((c.toNat : Int) - 48) > 9007199254740991
            · have HN : Hid (R = .bad 43 j) := Lib.hid (by rw [← HRj.out, hs, if_pos hbig]; rfl)
              clear hs hdg hc hcc HRj hv
              go_wp2
              go_quiet (fail)
              go_wp2
              go_quiet (fail)
              go_wp2_with fail
              refine (refwrong_any g s j d 0 43 _ (HPj.out.drewN _)).mono ?_
              rintro x w' ⟨rfl, hp', hk⟩
              go_wp2
              go_ret2
              rw [HN.out]
              exact ⟨rfl, ⟨d, hp'⟩, HJ.out, (hkj.drewN _).tr hk⟩
            · have HN : Hid (((digP (10 * n + ((c.toNat : Int) - 48)) (s.drop (j + 1)) (j + 1)).bind fun n j => if j = i1 then .bad 40 i1 else .ok ((-1) * n) j) = R) := Lib.hid (by rw [← HRj.out, hs, if_neg hbig])
              clear hs hdg hc hcc HRj hv
              go_wp2
              go_quiet (fail)
              go_wp2
              go_quiet (fail)
              go_wp2
              go_roundg (s.length - (j + 1))
              case rel => exact ⟨10 * n + ((c.toNat : Int) - 48), j + 1, by congr 1; omega, rfl, by omega, hj1, by omega, by omega, (HPj.out.drewN _).setAt _ _ rfl, (hkj.drewN _).setCell (.inr (by simp)) _, HN⟩
              case measure => omega
          · have hd := digP_none n s j (fun c' h => by rw [hc] at h; cases h; simpa using hdg)
            have hnd : c.toNat < 48 ∨ 57 < c.toNat := by unfold isDig at hdg; simp [UInt8.le_iff_toNat_le] at hdg; omega
            have HQ4 : Hid (R = if j = i1 then .bad 40 i1 else .ok ((-1) * n) j) := Lib.hid (by rw [← HRj.out, hd]; rfl)
            clear hd hdg hc hcc HRj
            rcases hnd with hnd | hnd
            all_goals
              first
                | have hndI : decide ((48 : Int) ≤ (c.toNat : Int)) = false := decide_eq_false (by omega)
                | have hndI : decide ((c.toNat : Int) ≤ 57) = false := decide_eq_false (by omega)
              first
                | have hndJ : decide ((48 : Int) ≤ (c.toNat : Int)) = true := decide_eq_true (by omega)
                | skip
              go_wp2
              go_quiet (fail)
              by_cases hji : j = i1
              · have HN : Hid (R = .bad 40 i1) := Lib.hid (by rw [HQ4.out, if_pos hji])
                have qji : ((j : Int) == (i1 : Int)) = true := by rw [beq_iff_eq]; omega
                have HPn : Hid (∀ n, RA g s i1 0 d (wr.drewN n)) := Lib.hid fun n => by rw [← hji]; exact HPj.out.drewN n
                clear HQ4 hij hji
                go_wp2_with fail
                refine (refwrong_any g s i1 d 0 40 _ (HPn.out _)).mono ?_
                rintro x w' ⟨rfl, hp', hk⟩
                go_wp2
                go_ret2
                rw [HN.out]
                exact ⟨rfl, ⟨d, hp'⟩, hi1, (hkj.drewN _).tr hk⟩
              · have HN : Hid (R = .ok ((-1) * n) j) := Lib.hid (by rw [HQ4.out, if_neg hji])
                have qji : ((j : Int) == (i1 : Int)) = false := by rw [beq_eq_false_iff_ne]; omega
                clear HQ4
                go_wp2
                go_ret2
                rw [HN.out]
                exact ⟨ret_numR (a := -n) (by omega), HPj.out.drewN _, HJ.out, hkj.drewN _⟩
  · have HQ : Hid (numQ s 1 i = R) := Lib.hid (by rw [← HR.out, numP, if_neg hm])
    have hi1 : i ≤ s.length := hi
    rw [decide_eq_false hm] at C
    have HPn : Hid (∀ n, RA g s i 0 d (w.drewN n)) := Lib.hid fun n => HP.out.drewN n
    have HKn : Hid (∀ n, Kept (· ≠ g) w (w.drewN n)) := Lib.hid fun n => (Kept.refl _ w).drewN n
    clear hm HR
    go_enter Tryz.func81, Tryz.ntmps81
    go_wp2_with fail
    refine C.out.mono ?_
    rintro x w' ⟨rfl, n, rfl⟩
    go_wp2_with fail
    have HP1 := Lib.hid (HPn.out n)
    have HK1 := Lib.hid (HKn.out n)
    clear HPn HKn
    generalize w.drewN n = W1 at HP1 HK1 ⊢
    clear h0 h1 h2 h3 h4 h5 h6 HP C
    obtain ⟨i1, hi1e⟩ : ∃ i1, i = i1 := ⟨_, rfl⟩
    rw [hi1e] at HQ hi1 HP1
    clear hi1e
    have D := Lib.hid (refis_any g s i1 d 0 48 W1 HP1.out hi1 hl)
    have HQ2 : Hid ((if s[i1]? = some 48 then .ok 0 (i1 + 1) else (digP 0 (s.drop i1) i1).bind fun n j => if j = i1 then .bad 40 i1 else .ok (1 * n) j) = R) := Lib.hid (by rw [← HQ.out, numQ_ref])
    clear HQ
    obtain ⟨h0, h1, h2, h3, h4, h5, h6⟩ := HP1.out.facts
    by_cases hz : s[i1]? = some 48
    · have HN : Hid (R = .ok 0 (i1 + 1)) := Lib.hid (by rw [← HQ2.out, if_pos hz])
      have hi2 : i1 + 1 ≤ s.length := (List.getElem?_eq_some_iff.1 hz).1
      rw [decide_eq_true hz] at D
      clear HQ2 hz
      refine D.out.mono ?_
      rintro x w' ⟨rfl, n2, rfl⟩
      go_wp2
      go_ret2
      rw [HN.out]
      exact ⟨rfl, (HP1.out.drewN _).setAt _ _ rfl, hi2, (HK1.out.drewN _).setCell (.inr (by simp)) _⟩
    · rw [decide_eq_false hz] at D
      have HQ3 : Hid (((digP 0 (s.drop i1) i1).bind fun n j => if j = i1 then .bad 40 i1 else .ok (1 * n) j) = R) := Lib.hid (by rw [← HQ2.out, if_neg hz])
      clear HQ2 hz
      refine D.out.mono ?_
      rintro x w' ⟨rfl, n2, rfl⟩
      go_wp2
      go_loopg [6] (s.length - i1) (fun m a wr => ∃ (n : Int) (j : Nat), a = .int .i64 n ∧ m = s.length - j ∧ i1 ≤ j ∧ j ≤ s.length ∧ 0 ≤ n ∧ n ≤ 9007199254740991 ∧ RA g s j 0 d wr ∧ Kept (· ≠ g) w wr ∧ Hid (((digP n (s.drop j) j).bind fun n j => if j = i1 then .bad 40 i1 else .ok (1 * n) j) = R))
      case atStart => exact ⟨0, i1, rfl, rfl, Nat.le_refl _, hi1, by omega, by omega, HP1.out.drewN _, HK1.out.drewN _, HQ3⟩
      case round =>
        clear HQ3 h0 h1 h2 h3 h4 h5 h6 D
        obtain ⟨n, j, rfl, rfl, hij, hj, hn0, hn1, hpj, hkj, HRj⟩ := hrel
        obtain ⟨h0, h1, h2, h3, h4, h5, h6⟩ := hpj.facts
        have HPj := Lib.hid hpj
        have HJ := Lib.hid hj
        clear hpj
        cases hc : s[j]? with
        | none =>
          have hd := digP_none n s j (fun c h => by rw [hc] at h; cases h)
          have HQ4 : Hid (R = if j = i1 then .bad 40 i1 else .ok (1 * n) j) := Lib.hid (by rw [← HRj.out, hd]; rfl)
          obtain rfl : j = s.length := by rw [List.getElem?_eq_none_iff] at hc; omega
          have hdl : decide (s.length < s.length) = false := by simp
          clear hd hc HRj
          go_wp2
          go_quiet (fail)
          by_cases hji : s.length = i1
          · have HN : Hid (R = .bad 40 i1) := Lib.hid (by rw [HQ4.out, if_pos hji])
            have qji : ((s.length : Int) == (i1 : Int)) = true := by rw [beq_iff_eq]; omega
            clear HQ4 hij
            have HPn : Hid (∀ n, RA g s i1 0 d (wr.drewN n)) := Lib.hid fun n => by rw [← hji]; exact HPj.out.drewN n
            clear hji
            go_wp2_with fail
            refine (refwrong_any g s i1 d 0 40 _ (HPn.out _)).mono ?_
            rintro x w' ⟨rfl, hp', hk⟩
            go_wp2
            go_ret2
            rw [HN.out]
            exact ⟨rfl, ⟨d, hp'⟩, hi1, (hkj.drewN _).tr hk⟩
          · have HN : Hid (R = .ok (1 * n) s.length) := Lib.hid (by rw [HQ4.out, if_neg hji])
            have qji : ((s.length : Int) == (i1 : Int)) = false := by rw [beq_eq_false_iff_ne]; omega
            clear HQ4
            go_wp2
            go_ret2
            rw [HN.out]
            exact ⟨ret_numR (a := n) (by omega), HPj.out.drewN _, HJ.out, hkj.drewN _⟩
        | some c =>
          obtain ⟨hci, hcc⟩ := List.getElem?_eq_some_iff.1 hc
          have hix := run_index_str (P := Tryz.prog) Tryz.underlying9 ⟨s.toArray⟩ (j : Int) j rfl (by rw [hsz]; exact hci) c hcc
          have hdl : decide (j < s.length) = true := by simp; omega
          have hj1 : j + 1 ≤ s.length := hci
          by_cases hdg : isDig c = true
          · have hv := dig_val hdg
            have hs := digP_some n s j c hc hdg
            have hv0 : 48 ≤ c.toNat := hv.1
            have hv1 : c.toNat ≤ 57 := hv.2
            have hv2 : (48 : Int) ≤ (c.toNat : Int) := by omega
            have hv3 : (c.toNat : Int) ≤ 57 := by omega
            by_cases hbig : 10 * n + ((c.toNat : Int) - 48) > 9007199254740991
            · have HN : Hid (R = .bad 43 j) := Lib.hid (by rw [← HRj.out, hs, if_pos hbig]; rfl)
              clear hs hdg hc hcc HRj hv
              go_wp2
              go_quiet (fail)
              go_wp2
              go_quiet (fail)
              go_wp2_with fail
              refine (refwrong_any g s j d 0 43 _ (HPj.out.drewN _)).mono ?_
              rintro x w' ⟨rfl, hp', hk⟩
              go_wp2
              go_ret2
              rw [HN.out]
              exact ⟨rfl, ⟨d, hp'⟩, HJ.out, (hkj.drewN _).tr hk⟩
            · have HN : Hid (((digP (10 * n + ((c.toNat : Int) - 48)) (s.drop (j + 1)) (j + 1)).bind fun n j => if j = i1 then .bad 40 i1 else .ok (1 * n) j) = R) := Lib.hid (by rw [← HRj.out, hs, if_neg hbig])
              clear hs hdg hc hcc HRj hv
              go_wp2
              go_quiet (fail)
              go_wp2
              go_quiet (fail)
              go_wp2
              go_roundg (s.length - (j + 1))
              case rel => exact ⟨10 * n + ((c.toNat : Int) - 48), j + 1, by congr 1; omega, rfl, by omega, hj1, by omega, by omega, (HPj.out.drewN _).setAt _ _ rfl, (hkj.drewN _).setCell (.inr (by simp)) _, HN⟩
              case measure => omega
          · have hd := digP_none n s j (fun c' h => by rw [hc] at h; cases h; simpa using hdg)
            have hnd : c.toNat < 48 ∨ 57 < c.toNat := by unfold isDig at hdg; simp [UInt8.le_iff_toNat_le] at hdg; omega
            have HQ4 : Hid (R = if j = i1 then .bad 40 i1 else .ok (1 * n) j) := Lib.hid (by rw [← HRj.out, hd]; rfl)
            clear hd hdg hc hcc HRj
            rcases hnd with hnd | hnd
            all_goals
              first
                | have hndI : decide ((48 : Int) ≤ (c.toNat : Int)) = false := decide_eq_false (by omega)
                | have hndI : decide ((c.toNat : Int) ≤ 57) = false := decide_eq_false (by omega)
              first
                | have hndJ : decide ((48 : Int) ≤ (c.toNat : Int)) = true := decide_eq_true (by omega)
                | skip
              go_wp2
              go_quiet (fail)
              by_cases hji : j = i1
              · have HN : Hid (R = .bad 40 i1) := Lib.hid (by rw [HQ4.out, if_pos hji])
                have qji : ((j : Int) == (i1 : Int)) = true := by rw [beq_iff_eq]; omega
                have HPn : Hid (∀ n, RA g s i1 0 d (wr.drewN n)) := Lib.hid fun n => by rw [← hji]; exact HPj.out.drewN n
                clear HQ4 hij hji
                go_wp2_with fail
                refine (refwrong_any g s i1 d 0 40 _ (HPn.out _)).mono ?_
                rintro x w' ⟨rfl, hp', hk⟩
                go_wp2
                go_ret2
                rw [HN.out]
                exact ⟨rfl, ⟨d, hp'⟩, hi1, (hkj.drewN _).tr hk⟩
              · have HN : Hid (R = .ok (1 * n) j) := Lib.hid (by rw [HQ4.out, if_neg hji])
                have qji : ((j : Int) == (i1 : Int)) = false := by rw [beq_eq_false_iff_ne]; omega
                clear HQ4
                go_wp2
                go_ret2
                rw [HN.out]
                exact ⟨ret_numR (a := n) (by omega), HPj.out.drewN _, HJ.out, hkj.drewN _⟩

end Go.Proofs.YtmajpambfblhnaaGreatDoor
