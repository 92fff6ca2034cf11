/- Walks of jot's parser (layer 4), first part. -/
import Derived.Test.YtmajpambfblhnaaGreatDoorJoKit
import Derived.Test.YtmajpambfblhnaaGreatDoorShelf
namespace Go.Proofs.YtmajpambfblhnaaGreatDoor
open Go.RowKit Jo

set_option maxHeartbeats 400000 in
theorem fail_any (g : Nat) (s : List UInt8) (i d : Nat) (e : Int) (w : World) (hp : PA g s i d w) :
    Calls Tryz.prog 39 #[.pointer (some ⟨g, 0, none⟩), .int .i64 e] w fun x w' => x = gaveUp e i ∧ w' = w := by
  obtain ⟨h0, h1, h2, h3, h4⟩ := hp.facts
  go_enter Tryz.func39, Tryz.ntmps39
  go_wp2
  exact ⟨rfl, rfl, rfl⟩

set_option maxHeartbeats 400000 in
theorem here_ok (g : Nat) (s : List UInt8) (i d : Nat) (w : World) (c : UInt8) (hc : s[i]? = some c) (hp : PA g s i d w) (_hl : s.length ≤ 4000) :
    Calls Tryz.prog 60 #[.pointer (some ⟨g, 0, none⟩)] w fun x w' => x = .returned (.int .u8 c.toNat) ∧ ∃ n, w' = w.drewN n := by
  obtain ⟨h0, h1, h2, h3, h4⟩ := hp.facts
  obtain ⟨hi, hci⟩ := List.getElem?_eq_some_iff.1 hc
  have hsz := size_mk s
  have hix := run_index_str (P := Tryz.prog) Tryz.underlying9 ⟨s.toArray⟩ i i rfl (by rw [hsz]; exact hi) c hci
  have q : ((i : Int) == (s.length : Int)) = false := by simp; omega
  clear hc hci hsz
  go_enter Tryz.func60, Tryz.ntmps60
  go_wp2
  go_quiet (fail)
  go_wp2
  go_quiet (fail)
  go_wp2
  go_ret
  exact ⟨rfl, _, World.drewN_drewN _ _ _⟩

set_option maxHeartbeats 400000 in
theorem here_bad (g : Nat) (s : List UInt8) (i d : Nat) (w : World) (hc : s[i]? = none) (hp : PA g s i d w) (_hl : s.length ≤ 4000) (hi : i ≤ s.length) :
    Calls Tryz.prog 60 #[.pointer (some ⟨g, 0, none⟩)] w fun x w' => x = gaveUp 40 i ∧ ∃ n, w' = w.drewN n := by
  obtain ⟨h0, h1, h2, h3, h4⟩ := hp.facts
  obtain rfl : i = s.length := by rw [List.getElem?_eq_none_iff] at hc; omega
  have q : ((s.length : Int) == (s.length : Int)) = true := by simp
  have HP := Lib.hid hp
  clear hc hp
  go_enter Tryz.func60, Tryz.ntmps60
  go_wp2
  go_quiet (fail)
  go_wp2_with fail
  refine (fail_any _ _ _ _ _ _ (HP.out.drewN _)).mono ?_
  rintro x w' ⟨rfl, rfl⟩
  go_wp2
  exact ⟨rfl, rfl, _, rfl⟩

/-- want, where the byte stands there. -/
theorem want_ok (g : Nat) (s : List UInt8) (i d : Nat) (c : UInt8) (w : World) (hc : s[i]? = some c) (hp : PA g s i d w) (hl : s.length ≤ 4000) :
    Calls Tryz.prog 83 #[.pointer (some ⟨g, 0, none⟩), .int .u8 c.toNat] w fun x w' => x = .returned (.tuple #[]) ∧ PA g s (i + 1) d w' ∧ i + 1 ≤ s.length ∧ Kept (· ≠ g) w w' := by
  obtain ⟨h0, h1, h2, h3, h4⟩ := hp.facts
  obtain ⟨hi, -⟩ := List.getElem?_eq_some_iff.1 hc
  have C := Lib.hid (here_ok g s i d w c hc hp hl)
  have q : ((c.toNat : Int) != (c.toNat : Int)) = false := by simp
  have HP := Lib.hid hp
  clear hc hp
  go_enter Tryz.func83, Tryz.ntmps83
  go_wp2_with fail
  refine C.out.mono ?_
  rintro x w' ⟨rfl, n, rfl⟩
  go_wp2
  go_end0
  exact ⟨rfl, (HP.out.drewN n).setAt _ _ rfl, hi, ((Kept.refl _ w).drewN n).setCell (.inr (by simp)) _⟩

theorem want_bad (g : Nat) (s : List UInt8) (i d : Nat) (c : UInt8) (w : World) (hc : s[i]? ≠ some c) (hp : PA g s i d w) (hl : s.length ≤ 4000) (hi : i ≤ s.length) :
    Calls Tryz.prog 83 #[.pointer (some ⟨g, 0, none⟩), .int .u8 c.toNat] w fun x w' => x = gaveUp 40 i ∧ Kept (· ≠ g) w w' := by
  cases hs : s[i]? with
  | none =>
    have C := Lib.hid (here_bad g s i d w hs hp hl hi)
    clear hc hp hs
    go_enter Tryz.func83, Tryz.ntmps83
    go_wp2_with fail
    refine C.out.mono ?_
    rintro x w' ⟨rfl, n, rfl⟩
    go_wp2
    exact ⟨rfl, rfl, (Kept.refl _ w).drewN n⟩
  | some b =>
    have C := Lib.hid (here_ok g s i d w b hs hp hl)
    have q : ((b.toNat : Int) != (c.toNat : Int)) = true := by
      simp only [bne_iff_ne, ne_eq]
      intro e
      apply hc
      rw [hs, show b = c from UInt8.toNat_inj.1 (by omega)]
    have HP := Lib.hid hp
    clear hc hp hs
    go_enter Tryz.func83, Tryz.ntmps83
    go_wp2_with fail
    refine C.out.mono ?_
    rintro x w' ⟨rfl, n, rfl⟩
    go_wp2_with fail
    refine (fail_any _ _ _ _ _ _ (HP.out.drewN _)).mono ?_
    rintro x w' ⟨rfl, rfl⟩
    go_wp2
    exact ⟨rfl, rfl, (Kept.refl _ w).drewN n⟩
/-- want computes wantP. -/
theorem want_any (g : Nat) (s : List UInt8) (i d : Nat) (c : UInt8) (w : World) (hp : PA g s i d w) (hl : s.length ≤ 4000) (hi : i ≤ s.length) :
    Calls Tryz.prog 83 #[.pointer (some ⟨g, 0, none⟩), .int .u8 c.toNat] w (Reads g s d w (wantP s c i) fun _ e _ => e = .returned (.tuple #[])) := by
  unfold wantP
  by_cases h : s[i]? = some c
  · rw [if_pos h]
    exact (want_ok g s i d c w h hp hl).mono fun e w' ⟨h1, h2, h3, h4⟩ => ⟨h1, h2, h3, h4⟩
  · rw [if_neg h]
    exact (want_bad g s i d c w h hp hl hi).mono fun e w' ⟨h1, h2⟩ => ⟨h1, hi, h2⟩
end Go.Proofs.YtmajpambfblhnaaGreatDoor

namespace Go.Proofs.YtmajpambfblhnaaGreatDoor
open Go.RowKit Jo

theorem drop_cons {α : Type} {l : List α} {j : Nat} {c : α} (h : l[j]? = some c) : l.drop j = c :: l.drop (j + 1) := by
  obtain ⟨hj, rfl⟩ := List.getElem?_eq_some_iff.1 h
  exact List.drop_eq_getElem_cons hj

set_option maxHeartbeats 1000000 in
theorem word_any (g : Nat) (s t : List UInt8) (i d : Nat) (w : World) (hp : PA g s i d w) (hl : s.length ≤ 4000) (ht : t.length ≤ 4000) (hi : i ≤ s.length) :
    Calls Tryz.prog 61 #[.pointer (some ⟨g, 0, none⟩), S t] w (Reads g s d w (wordP s t i) fun _ e _ => e = .returned (.tuple #[])) := by
  have hsz : (⟨t.toArray⟩ : ByteArray).size = t.length := size_mk t
  obtain ⟨R, hR⟩ : ∃ R, wordP s t i = R := ⟨_, rfl⟩
  have HR := Lib.hid hR
  rw [hR]
  clear hR
  go_enter Tryz.func61, Tryz.ntmps61
  go_wp2
  go_loopw [7] (fun k wr => ∃ j : Nat, k = .int .i64 j ∧ j ≤ t.length ∧ PA g s (i + j) d wr ∧ i + j ≤ s.length ∧ Kept (· ≠ g) w wr ∧ Hid (wordP s (t.drop j) (i + j) = R)) (fun k _ => t.length - (intOf k).toNat)
  case atStart => exact ⟨0, rfl, Nat.zero_le _, hp, hi, Kept.refl _ _, HR⟩
  case round =>
    obtain ⟨j, rfl, hj, hpj, hij, hkj, hRj⟩ := hrel
    have HP := Lib.hid hpj
    clear hpj
    by_cases hlt : j < t.length
    · obtain ⟨c, hc⟩ : ∃ c, t[j]? = some c := ⟨t[j]'hlt, List.getElem?_eq_getElem hlt⟩
      have hd := drop_cons hc
      have hix := run_index_str (P := Tryz.prog) Tryz.underlying9 ⟨t.toArray⟩ j j rfl (by rw [hsz]; exact hlt) c (List.getElem?_eq_some_iff.1 hc).2
      rw [hd] at hRj
      have C1 := Lib.hid (fun h => want_ok g s (i + j) d c wr h HP.out hl)
      have C2 := Lib.hid (fun h => want_bad g s (i + j) d c wr h HP.out hl hij)
      clear hc hd
      by_cases h : s[i + j]? = some c
      · have HN : Hid (wordP s (t.drop (j + 1)) (i + j + 1) = R) := Lib.hid (by rw [← hRj.out, wordP, if_pos h])
        have C := Lib.hid (C1.out h)
        clear C1 C2 h hRj
        go_wp2_with fail
        refine C.out.mono ?_
        rintro x w' ⟨rfl, hp', hi', hk'⟩
        have HP' := Lib.hid hp'
        clear hp'
        go_wp2
        go_roundw
        case rel => exact ⟨j + 1, by go_num, by omega, HP'.out, hi', hkj.tr hk', HN⟩
        case measure => simp [intOf]; omega
      · have HN : Hid (R = .bad 40 (i + j)) := Lib.hid (by rw [← hRj.out, wordP, if_neg h])
        have C := Lib.hid (C2.out h)
        clear C1 C2 h hRj
        go_wp2_with fail
        refine C.out.mono ?_
        rintro x w' ⟨rfl, hk'⟩
        go_wp2
        rw [HN.out]
        exact ⟨rfl, ⟨rfl, hij, hkj.tr hk'⟩⟩
    · have HN : Hid (R = .ok () (i + j)) := Lib.hid (by rw [← hRj.out, List.drop_of_length_le (by omega)]; rfl)
      go_wp2
      go_end0
      rw [HN.out]
      exact ⟨rfl, HP.out, hij, hkj⟩

theorem blank_find : ∀ x : Fin 256, decide (0 ≤ Lib.indexByte [32, 9, 10, 13] (x.val.toUInt8)) = isBl (x.val.toUInt8) := by decide +kernel
theorem blank_at (c : UInt8) : (decide (Lib.indexByte [32, 9, 10, 13] c ≥ 0)) = isBl c := by
  have h := blank_find ⟨c.toNat, c.toNat_lt⟩
  simpa using h

set_option maxHeartbeats 1000000 in
/-- blanks takes those that there are. -/
theorem blanks_any (g : Nat) (s : List UInt8) (i d : Nat) (w : World) (hp : PA g s i d w) (hl : s.length ≤ 4000) (hi : i ≤ s.length) :
    Calls Tryz.prog 38 #[.pointer (some ⟨g, 0, none⟩)] w fun e w' => e = .returned (.tuple #[]) ∧ PA g s (bl s i) d w' ∧ bl s i ≤ s.length ∧ Kept (· ≠ g) w w' := by
  have hsz : (⟨s.toArray⟩ : ByteArray).size = s.length := size_mk s
  obtain ⟨R, hR⟩ : ∃ R, bl s i = R := ⟨_, rfl⟩
  have HR := Lib.hid hR
  have HM : Hid (R ≤ s.length) := Lib.hid (by rw [← hR]; exact bl_max s i hi)
  rw [hR]
  clear hR
  go_enter Tryz.func38, Tryz.ntmps38
  go_wp2
  go_loopg [24] (s.length - i) (fun m _ wr => ∃ j : Nat, m = s.length - j ∧ j ≤ s.length ∧ PA g s j d wr ∧ Kept (· ≠ g) w wr ∧ Hid (bl s j = R))
  case atStart => exact ⟨i, rfl, hi, hp, Kept.refl _ _, HR⟩
  case round =>
    obtain ⟨j, rfl, hj, hpj, hkj, hRj⟩ := hrel
    obtain ⟨h0, h1, h2, h3, h4⟩ := hpj.facts
    have HP := Lib.hid hpj
    clear hpj
    by_cases hlt : j < s.length
    · obtain ⟨c, hc⟩ : ∃ c, s[j]? = some c := ⟨s[j]'hlt, List.getElem?_eq_getElem hlt⟩
      have hix := run_index_str (P := Tryz.prog) Tryz.underlying9 ⟨s.toArray⟩ j j rfl (by rw [hsz]; exact hlt) c (List.getElem?_eq_some_iff.1 hc).2
      have HC : Hid (s[j]? = some c) := Lib.hid hc
      have hb := blank_at c
      have CI := fun w => Tryz.strings_IndexByte ⟨#[32, 9, 10, 13]⟩ (c.toNat : Int) w
      clear hc
      cases hbl : isBl c with
      | true =>
        have HN : Hid (bl s (j + 1) = R) := Lib.hid ((bl_yes s j c HC.out hbl).symm.trans hRj.out)
        rw [hbl] at hb
        go_wp2
        go_quiet ((go_at_call 66; exact Calls.quiet_of_same (CI _)))
        go_wp2
        go_roundg (s.length - (j + 1))
        case rel => exact ⟨j + 1, rfl, by omega, (HP.out.drewN _).setAt _ _ rfl, (hkj.drewN _).setCell (.inr (by simp)) _, HN⟩
        case measure => omega
      | false =>
        have HN : Hid (R = j) := Lib.hid (hRj.out.symm.trans (bl_no s j c HC.out hbl))
        rw [hbl] at hb
        go_wp2
        go_quiet ((go_at_call 66; exact Calls.quiet_of_same (CI _)))
        go_wp2
        go_end0
        rw [HN.out]
        exact ⟨rfl, HP.out.drewN _, hj, hkj.drewN _⟩
    · have HN : Hid (R = j) := Lib.hid (hRj.out.symm.trans (bl_end s j (by omega)))
      have hd : decide (j < s.length) = false := by simpa using hlt
      go_wp2
      go_quiet (fail)
      go_wp2
      go_end0
      rw [HN.out]
      exact ⟨rfl, HP.out.drewN _, hj, hkj.drewN _⟩

set_option maxHeartbeats 1000000 in
/-- digit tells whether a digit stands here. -/
theorem digit_some (g : Nat) (s : List UInt8) (i d : Nat) (c : UInt8) (hc : s[i]? = some c) (w : World) (hp : PA g s i d w) (_hl : s.length ≤ 4000) :
    Calls Tryz.prog 92 #[.pointer (some ⟨g, 0, none⟩)] w fun e w' => e = .returned (.bool (isDig c)) ∧ ∃ n, w' = w.drewN n := by
  have hsz : (⟨s.toArray⟩ : ByteArray).size = s.length := size_mk s
  obtain ⟨h0, h1, h2, h3, h4⟩ := hp.facts
  obtain ⟨hi, hci⟩ := List.getElem?_eq_some_iff.1 hc
  have hix := run_index_str (P := Tryz.prog) Tryz.underlying9 ⟨s.toArray⟩ i i rfl (by rw [hsz]; exact hi) c hci
  have e : isDig c = (decide (c.toNat ≥ 48) && decide (c.toNat ≤ 57)) := by simp [isDig, UInt8.le_iff_toNat_le]
  clear hp hc hci
  by_cases hge : 48 ≤ c.toNat
  · have q1 : decide (48 ≤ (c.toNat : Int)) = true := by simp; omega
    have HE : Hid (isDig c = decide ((c.toNat : Int) ≤ 57)) := Lib.hid (by rw [e, decide_eq_true hge, Bool.true_and]; congr 1; simp; omega)
    clear e
    go_enter Tryz.func92, Tryz.ntmps92
    go_wp2
    go_quiet (fail)
    go_wp2
    go_ret
    rw [HE.out]
    exact ⟨rfl, _, rfl⟩
  · have q1 : decide (48 ≤ (c.toNat : Int)) = false := by simp; omega
    have HE : Hid (isDig c = false) := Lib.hid (by rw [e, decide_eq_false hge, Bool.false_and])
    clear e
    go_enter Tryz.func92, Tryz.ntmps92
    go_wp2
    go_quiet (fail)
    go_wp2
    go_ret
    rw [HE.out]
    exact ⟨rfl, _, rfl⟩

set_option maxHeartbeats 1000000 in
theorem digit_none (g : Nat) (s : List UInt8) (i d : Nat) (hc : s[i]? = none) (w : World) (hp : PA g s i d w) (_hl : s.length ≤ 4000) (hi : i ≤ s.length) :
    Calls Tryz.prog 92 #[.pointer (some ⟨g, 0, none⟩)] w fun e w' => e = .returned (.bool false) ∧ ∃ n, w' = w.drewN n := by
  obtain ⟨h0, h1, h2, h3, h4⟩ := hp.facts
  obtain rfl : i = s.length := by rw [List.getElem?_eq_none_iff] at hc; omega
  have hd : decide (s.length < s.length) = false := by simp
  clear hp hc
  go_enter Tryz.func92, Tryz.ntmps92
  go_wp2
  go_quiet (fail)
  go_wp2
  go_ret
  exact ⟨rfl, _, rfl⟩
end Go.Proofs.YtmajpambfblhnaaGreatDoor

namespace Go.Proofs.YtmajpambfblhnaaGreatDoor
open Go.RowKit Jo

theorem digP_rng : ∀ (l : List UInt8) (n : Int) (i : Nat) (m : Int) (j : Nat), 0 ≤ n → n ≤ 9007199254740991 → digP n l i = .ok m j → 0 ≤ m ∧ m ≤ 9007199254740991 := by
  intro l
  induction l with
  | nil => intro n i m j h0 h1 h; simp only [digP] at h; cases h; exact ⟨h0, h1⟩
  | cons c r ih =>
    intro n i m j h0 h1 h
    unfold digP at h
    split at h
    · rename_i hd
      split at h
      · cases h
      · refine ih _ _ _ _ ?_ (by omega) h
        simp [isDig, UInt8.le_iff_toNat_le] at hd
        omega
    · cases h; exact ⟨h0, h1⟩

theorem ret_num {a b : Int} (h : a = b) : Ending.returned (.iface 84 (.int .i64 a)) = .returned (.iface 84 (.int .i64 b)) := by rw [h]

set_option maxHeartbeats 4000000 in
theorem number_any (g : Nat) (s : List UInt8) (i d : Nat) (w : World) (hp : PA g s i d w) (hl : s.length ≤ 4000) (hi : i ≤ s.length) :
    Calls Tryz.prog 65 #[.pointer (some ⟨g, 0, none⟩)] w (Reads g s d w (numP s i) fun n e _ => e = .returned (.iface 84 (.int .i64 n))) := by
  obtain ⟨R, hR⟩ : ∃ R, numP s i = R := ⟨_, rfl⟩
  have HR := Lib.hid hR
  rw [hR]
  clear hR
  have hsz : (⟨s.toArray⟩ : ByteArray).size = s.length := size_mk s
  cases hc : s[i]? with
  | none =>
    have HN : Hid (R = .bad 40 i) := Lib.hid (by rw [← HR.out, numP, hc, if_neg (by simp), numQ, hc])
    have C := Lib.hid (here_bad g s i d w hc hp hl hi)
    clear hc
    go_enter Tryz.func65, Tryz.ntmps65
    go_wp2_with fail
    refine C.out.mono ?_
    rintro x w' ⟨rfl, n, rfl⟩
    go_wp2
    rw [HN.out]
    exact ⟨rfl, rfl, hi, (Kept.refl _ w).drewN n⟩
  | some c =>
    have C := Lib.hid (here_ok g s i d w c hc hp hl)
    have hi1 : i + 1 ≤ s.length := (List.getElem?_eq_some_iff.1 hc).1
    have HC : Hid (s[i]? = some c) := Lib.hid hc
    have HP := Lib.hid hp
    clear hc hp
    go_enter Tryz.func65, Tryz.ntmps65
    go_wp2_with fail
    refine C.out.mono ?_
    rintro x w' ⟨rfl, n, rfl⟩
    go_upto_if 7 with fail
    go_cut [3] (fun sg wx => ∃ (z : Int) (j : Nat), sg = .int .i64 z ∧ PA g s j d wx ∧ j ≤ s.length ∧ Kept (· ≠ g) w wx ∧ Hid (numQ s z j = R) ∧ -1 ≤ z ∧ z ≤ 1)
    case first =>
      obtain ⟨h0, h1, h2, h3, h4⟩ := HP.out.facts
      by_cases hm : c = 45
      · have q : ((c.toNat : Int) == 45) = true := by rw [hm]; rfl
        have HN : Hid (numQ s (-1) (i + 1) = R) := Lib.hid (by rw [← HR.out, numP, HC.out, if_pos (by rw [hm])])
        clear hm
        go_wp2
        go_meet
        exact ⟨-1, i + 1, rfl, (HP.out.drewN n).setAt _ _ rfl, hi1, ((Kept.refl _ w).drewN n).setCell (.inr (by simp)) _, HN, by omega, by omega⟩
      · have q : ((c.toNat : Int) == 45) = false := by
          simp only [beq_eq_false_iff_ne, ne_eq]
          intro e
          exact hm (UInt8.toNat_inj.1 (by simpa using (by omega : c.toNat = 45)))
        have HN : Hid (numQ s 1 i = R) := Lib.hid (by rw [← HR.out, numP, HC.out, if_neg (by simpa using hm)])
        clear hm
        go_wp2
        go_meet
        exact ⟨1, i, rfl, HP.out.drewN n, hi, (Kept.refl _ w).drewN n, HN, by omega, by omega⟩
    case rest =>
      obtain ⟨z, j, rfl, hp, hj, hk, HQ, hz0, hz1⟩ := hcut
      clear HR HP C hi1 HC
      cases hc : s[j]? with
      | none =>
        have HN : Hid (R = .bad 40 j) := Lib.hid (by rw [← HQ.out, numQ, hc])
        have C := Lib.hid (here_bad g s j d wc hc hp hl hj)
        clear hc HQ
        go_wp2_with fail
        refine C.out.mono ?_
        rintro x w' ⟨rfl, n, rfl⟩
        go_wp2
        rw [HN.out]
        exact ⟨rfl, rfl, hj, hk.drewN n⟩
      | some b =>
        have C := Lib.hid (here_ok g s j d wc b hc hp hl)
        have D := Lib.hid (fun w hp => digit_some g s j d b hc w hp hl)
        have HP := Lib.hid hp
        have hj1 : j + 1 ≤ s.length := (List.getElem?_eq_some_iff.1 hc).1
        have HQ2 : Hid (R = if isDig b = false then .bad 40 j else if b = 48 then .ok 0 (j + 1) else (digP 0 (s.drop j) j).bind fun n j => .ok (z * n) j) := Lib.hid (by rw [← HQ.out, numQ, hc])
        have HC : Hid (s[j]? = some b) := Lib.hid hc
        clear hc hp HQ
        go_wp2_with fail
        refine C.out.mono ?_
        rintro x w' ⟨rfl, n, rfl⟩
        go_wp2_with fail
        refine (D.out _ (HP.out.drewN n)).mono ?_
        rintro x w' ⟨rfl, n2, rfl⟩
        cases hdig : isDig b with
        | false =>
          have HN : Hid (R = .bad 40 j) := Lib.hid (by rw [HQ2.out, if_pos hdig])
          clear HQ2
          go_wp2_with fail
          refine (fail_any _ _ _ _ _ _ (HP.out.drewN _)).mono ?_
          rintro x w' ⟨rfl, rfl⟩
          go_wp2
          rw [HN.out]
          exact ⟨rfl, rfl, hj, hk.drewN _⟩
        | true =>
          obtain ⟨h0, h1, h2, h3, h4⟩ := HP.out.facts
          have hix := run_index_str (P := Tryz.prog) Tryz.underlying9 ⟨s.toArray⟩ j j rfl (by rw [hsz]; exact hj1) b (List.getElem?_eq_some_iff.1 HC.out).2
          by_cases hb : b = 48
          · have q : ((b.toNat : Int) == 48) = true := by rw [hb]; rfl
            have HN : Hid (R = .ok 0 (j + 1)) := Lib.hid (by rw [HQ2.out, if_neg (by simp [hdig]), if_pos hb])
            clear HQ2 hb
            go_wp2
            go_quiet (fail)
            go_wp2
            go_ret
            rw [HN.out]
            exact ⟨rfl, (HP.out.drewN _).setAt _ _ rfl, hj1, (hk.drewN _).setCell (.inr (by simp)) _⟩
          · have q : ((b.toNat : Int) == 48) = false := by
              simp only [beq_eq_false_iff_ne, ne_eq]
              intro e
              exact hb (UInt8.toNat_inj.1 (by simpa using (by omega : b.toNat = 48)))
            have HN : Hid ((digP 0 (s.drop j) j).bind (fun n j => .ok (z * n) j) = R) := Lib.hid (by rw [HQ2.out, if_neg (by simp [hdig]), if_neg hb])
            clear HQ2 hb
            go_wp2
            go_quiet (fail)
            go_wp2
            go_loopg [4] (s.length - j) (fun q v wr => ∃ (m : Int) (k : Nat), q = s.length - k ∧ v = .int .i64 m ∧ 0 ≤ m ∧ m ≤ 9007199254740991 ∧ k ≤ s.length ∧ PA g s k d wr ∧ Kept (· ≠ g) w wr ∧ Hid ((digP m (s.drop k) k).bind (fun n j => .ok (z * n) j) = R))
            case atStart => exact ⟨0, j, rfl, rfl, by omega, by omega, hj, (HP.out.drewN _).drewN _, (hk.drewN _).drewN _, HN⟩
            case round =>
              clear HN hix h0 h1 h2 h3 h4 q C D HC HP hj1 hk hdig
              obtain ⟨m, k, rfl, rfl, hm0, hm1, hkl, hpk, hkk, HRk⟩ := hrel
              cases hc : s[k]? with
              | none =>
                have HN : Hid (R = .ok (z * m) k) := Lib.hid (by
                  rw [← HRk.out, List.drop_of_length_le (by rw [List.getElem?_eq_none_iff] at hc; exact hc)]
                  rfl)
                have D := Lib.hid (digit_none g s k d hc wr hpk hl hkl)
                clear hc
                go_wp2_with fail
                refine D.out.mono ?_
                rintro x w' ⟨rfl, n3, rfl⟩
                have b0 : -9007199254740991 ≤ z * m := by rcases (by omega : z = -1 ∨ z = 0 ∨ z = 1) with rfl | rfl | rfl <;> omega
                have b1 : z * m ≤ 9007199254740991 := by rcases (by omega : z = -1 ∨ z = 0 ∨ z = 1) with rfl | rfl | rfl <;> omega
                go_wp2
                go_ret
                rw [HN.out]
                exact ⟨rfl, hpk.drewN _, hkl, hkk.drewN _⟩
              | some c =>
                have hk1 : k + 1 ≤ s.length := (List.getElem?_eq_some_iff.1 hc).1
                have hd := drop_cons hc
                have hix := run_index_str (P := Tryz.prog) Tryz.underlying9 ⟨s.toArray⟩ k k rfl (by rw [hsz]; exact hk1) c (List.getElem?_eq_some_iff.1 hc).2
                have D := Lib.hid (digit_some g s k d c hc wr hpk hl)
                have HP := Lib.hid hpk
                obtain ⟨h0, h1, h2, h3, h4⟩ := hpk.facts
                rw [hd] at HRk
                clear hc hd hpk
                cases hdig : isDig c with
                | false =>
                  have HN : Hid (R = .ok (z * m) k) := Lib.hid (by rw [← HRk.out, digP, if_neg (by simp [hdig])]; rfl)
                  rw [hdig] at D
                  go_wp2_with fail
                  refine D.out.mono ?_
                  rintro x w' ⟨rfl, n3, rfl⟩
                  have b0 : -9007199254740991 ≤ z * m := by rcases (by omega : z = -1 ∨ z = 0 ∨ z = 1) with rfl | rfl | rfl <;> omega
                  have b1 : z * m ≤ 9007199254740991 := by rcases (by omega : z = -1 ∨ z = 0 ∨ z = 1) with rfl | rfl | rfl <;> omega
                  go_wp2
                  go_ret
                  rw [HN.out]
                  exact ⟨rfl, HP.out.drewN _, hkl, hkk.drewN _⟩
                | true =>
                  have hdc : 48 ≤ c.toNat ∧ c.toNat ≤ 57 := by simpa [isDig, UInt8.le_iff_toNat_le] using hdig
                  obtain ⟨hc0, hc1⟩ := hdc
                  have HRk2 : Hid ((if 10 * m + ((c.toNat : Int) - 48) > 9007199254740991 then PR.bad 43 k else digP (10 * m + ((c.toNat : Int) - 48)) (s.drop (k + 1)) (k + 1)).bind (fun n j => .ok (z * n) j) = R) := Lib.hid (by rw [← HRk.out, digP, if_pos hdig])
                  rw [hdig] at D
                  clear hdig HRk
                  by_cases hbig : 10 * m + ((c.toNat : Int) - 48) > 9007199254740991
                  · have HN : Hid (R = .bad 43 k) := Lib.hid (by rw [← HRk2.out, if_pos hbig]; rfl)
                    clear HRk2
                    go_wp2_with fail
                    refine D.out.mono ?_
                    rintro x w' ⟨rfl, n3, rfl⟩
                    go_wp2_with fail
                    go_quiet (fail)
                    go_wp2_with fail
                    refine (fail_any _ _ _ _ _ _ (HP.out.drewN _)).mono ?_
                    rintro x w' ⟨rfl, rfl⟩
                    go_wp2
                    rw [HN.out]
                    exact ⟨rfl, rfl, hkl, hkk.drewN _⟩
                  · have HN : Hid ((digP (10 * m + ((c.toNat : Int) - 48)) (s.drop (k + 1)) (k + 1)).bind (fun n j => .ok (z * n) j) = R) := Lib.hid (by rw [← HRk2.out, if_neg hbig])
                    clear HRk2
                    go_wp2_with fail
                    refine D.out.mono ?_
                    rintro x w' ⟨rfl, n3, rfl⟩
                    go_wp2_with fail
                    go_quiet (fail)
                    go_wp2
                    go_roundg (s.length - (k + 1))
                    case rel => exact ⟨10 * m + ((c.toNat : Int) - 48), k + 1, rfl, rfl, by omega, by omega, hk1, (HP.out.drewN _).setAt _ _ rfl, (hkk.drewN _).setCell (.inr (by simp)) _, HN⟩
                    case measure => omega
end Go.Proofs.YtmajpambfblhnaaGreatDoor

namespace Go.Proofs.YtmajpambfblhnaaGreatDoor
open Go.RowKit Jo

def behindZ (c : Int) : Int × Int × Int :=
  (if c = 224 then 160 else if c = 240 then 144 else 128, if c = 237 then 159 else if c = 244 then 143 else 191,
    if 194 ≤ c ∧ c ≤ 223 then 1 else if 224 ≤ c ∧ c ≤ 239 then 2 else if 240 ≤ c ∧ c ≤ 244 then 3 else 0)
theorem ret_behind {R : Int × Int × Int} {a b m : Int} (h : R = (a, b, m)) : Ending.returned (.tuple #[.int .u8 a, .int .u8 b, .int .i64 m]) = Ending.returned (.tuple #[.int .u8 R.1, .int .u8 R.2.1, .int .i64 R.2.2]) := by rw [h]

set_option maxHeartbeats 4000000 in
theorem behind_any (c : Int) (h0 : 0 ≤ c) (h1 : c ≤ 255) (w : World) :
    Calls Tryz.prog 105 #[.int .u8 c] w fun e w' => e = .returned (.tuple #[.int .u8 (behindZ c).1, .int .u8 (behindZ c).2.1, .int .i64 (behindZ c).2.2]) ∧ w' = w := by
  by_cases hq : c = 224 ∨ c = 237 ∨ c = 240 ∨ c = 244
  · rcases hq with rfl | rfl | rfl | rfl
    all_goals
      go_enter Tryz.func105, Tryz.ntmps105
      go_wp2
      go_ret3
      exact ⟨rfl, rfl⟩
  · have e1 : (c == 224) = false := by simp; omega
    have e2 : (c == 237) = false := by simp; omega
    have e3 : (c == 240) = false := by simp; omega
    have e4 : (c == 244) = false := by simp; omega
    rcases (by omega : c < 194 ∨ (194 ≤ c ∧ c ≤ 223) ∨ (224 ≤ c ∧ c ≤ 239) ∨ (240 ≤ c ∧ c ≤ 244) ∨ 245 ≤ c) with h | ⟨h, h'⟩ | ⟨h, h'⟩ | ⟨h, h'⟩ | h
    all_goals
      clear hq
      go_enter Tryz.func105, Tryz.ntmps105
      go_wp2
      go_ret3
      exact ⟨ret_behind (by unfold behindZ; simp at e1 e2 e3 e4; repeat (first | rw [if_neg (by omega)] | rw [if_pos (by omega)])), rfl⟩

theorem behind_eq (c : UInt8) : behindZ c.toNat = (((behindP c).1.toNat : Int), ((behindP c).2.1.toNat : Int), ((behindP c).2.2 : Int)) := by
  have h : ∀ x : Fin 256, behindZ (x.val : Int) = (((behindP x.val.toUInt8).1.toNat : Int), ((behindP x.val.toUInt8).2.1.toNat : Int), ((behindP x.val.toUInt8).2.2 : Int)) := by decide +kernel
  have := h ⟨c.toNat, c.toNat_lt⟩
  simpa using this
theorem behindP_max (c : UInt8) : (behindP c).2.2 ≤ 3 := by
  unfold behindP; simp only; split
  · omega
  · split
    · omega
    · split <;> omega

set_option maxHeartbeats 4000000 in
theorem letter_any (g : Nat) (s : List UInt8) (i d : Nat) (w : World) (hp : PA g s i d w) (hl : s.length ≤ 4000) (hi : i ≤ s.length) :
    Calls Tryz.prog 85 #[.pointer (some ⟨g, 0, none⟩)] w (Reads g s d w (letterP s i) fun _ e _ => e = .returned (.tuple #[])) := by
  obtain ⟨R, hR⟩ : ∃ R, letterP s i = R := ⟨_, rfl⟩
  have HR := Lib.hid hR
  rw [hR]
  clear hR
  cases hc : s[i]? with
  | none =>
    have HN : Hid (R = .bad 40 i) := Lib.hid (by rw [← HR.out, letterP, hc])
    have C := Lib.hid (here_bad g s i d w hc hp hl hi)
    clear hc
    go_enter Tryz.func85, Tryz.ntmps85
    go_wp2_with fail
    refine C.out.mono ?_
    rintro x w' ⟨rfl, n, rfl⟩
    go_wp2
    rw [HN.out]
    exact ⟨rfl, rfl, hi, (Kept.refl _ w).drewN n⟩
  | some c =>
    have C := Lib.hid (here_ok g s i d w c hc hp hl)
    have hi1 : i + 1 ≤ s.length := (List.getElem?_eq_some_iff.1 hc).1
    have HQ : Hid (R = if c < 128 then .ok () (i + 1) else if (behindP c).2.2 = 0 then .bad 40 i else followP s (behindP c).2.2 (behindP c).1 (behindP c).2.1 (i + 1)) := Lib.hid (by rw [← HR.out, letterP, hc])
    have HP := Lib.hid hp
    obtain ⟨h0, h1, h2, h3, h4⟩ := hp.facts
    have hcl := c.toNat_lt
    clear hc hp HR
    by_cases hlt : c.toNat < 128
    · have HN : Hid (R = .ok () (i + 1)) := Lib.hid (by rw [HQ.out, if_pos (by rw [UInt8.lt_iff_toNat_lt]; exact hlt)])
      have q : decide ((c.toNat : Int) < 128) = true := by simp; omega
      go_enter Tryz.func85, Tryz.ntmps85
      go_wp2_with fail
      refine C.out.mono ?_
      rintro x w' ⟨rfl, n, rfl⟩
      go_wp2
      refine bodyPost_ret (v := .tuple #[]) (results_none rfl _ _ _) rfl ?_
      rw [HN.out]
      exact ⟨rfl, (HP.out.drewN _).setAt _ _ rfl, hi1, ((Kept.refl _ w).drewN _).setCell (.inr (by simp)) _⟩
    · have q : decide ((c.toNat : Int) < 128) = false := by simp; omega
      have B := Lib.hid (fun w => behind_any (c.toNat : Int) (by omega) (by omega) w)
      rw [behind_eq c] at B
      have hm := behindP_max c
      have HQ2 : Hid (R = if (behindP c).2.2 = 0 then .bad 40 i else followP s (behindP c).2.2 (behindP c).1 (behindP c).2.1 (i + 1)) := Lib.hid (by rw [HQ.out, if_neg (by rw [UInt8.lt_iff_toNat_lt]; exact hlt)])
      clear HQ
      obtain ⟨⟨lo, hi', m⟩, hbp⟩ : ∃ t, behindP c = t := ⟨_, rfl⟩
      rw [hbp] at B hm HQ2
      simp only at B hm HQ2
      clear hbp
      by_cases hm0 : m = 0
      · subst hm0
        have HN : Hid (R = .bad 40 i) := Lib.hid (by rw [HQ2.out, if_pos rfl])
        go_enter Tryz.func85, Tryz.ntmps85
        go_wp2_with fail
        refine C.out.mono ?_
        rintro x w' ⟨rfl, n, rfl⟩
        go_wp2_with fail
        refine (B.out _).mono ?_
        rintro x w' ⟨rfl, rfl⟩
        go_wp2_with fail
        refine (fail_any _ _ _ _ _ _ (HP.out.drewN _)).mono ?_
        rintro x w' ⟨rfl, rfl⟩
        go_wp2
        rw [HN.out]
        exact ⟨rfl, rfl, hi, (Kept.refl _ w).drewN n⟩
      · have HN : Hid (followP s m lo hi' (i + 1) = R) := Lib.hid (by rw [HQ2.out, if_neg hm0])
        have q2 : ((m : Int) == 0) = false := by simp; omega
        go_enter Tryz.func85, Tryz.ntmps85
        go_wp2_with fail
        refine C.out.mono ?_
        rintro x w' ⟨rfl, n, rfl⟩
        go_wp2_with fail
        refine (B.out _).mono ?_
        rintro x w' ⟨rfl, rfl⟩
        go_wp2_with fail
        clear HQ2 C B
        go_loopg [3, 4, 36] m (fun q x y z wr => ∃ (lo hi : UInt8) (k j : Nat), x = .int .u8 lo.toNat ∧ y = .int .u8 hi.toNat ∧ z = .int .i64 j ∧ j ≤ m ∧ q = m - j ∧ k ≤ s.length ∧ PA g s k d wr ∧ Kept (· ≠ g) w wr ∧ Hid (followP s (m - j) lo hi k = R))
        case atStart => exact ⟨lo, hi', i + 1, 0, rfl, rfl, rfl, Nat.zero_le _, rfl, hi1, (HP.out.drewN _).setAt _ _ rfl, ((Kept.refl _ w).drewN _).setCell (.inr (by simp)) _, HN⟩
        case round =>
          clear h0 h1 h2 h3 h4 HN q HP hcl hlt
          obtain ⟨lo, hh, k, j, rfl, rfl, rfl, hj, rfl, hk, hpk, hkk, HRk⟩ := hrel
          by_cases hjm : j < m
          · have hmj : m - j = (m - j - 1) + 1 := by omega
            cases hc : s[k]? with
            | none =>
              have HN : Hid (R = .bad 40 k) := Lib.hid (by rw [← HRk.out, hmj, followP, hc])
              have C := Lib.hid (here_bad g s k d wr hc hpk hl hk)
              clear hc hpk hmj HRk
              go_wp2_with fail
              refine C.out.mono ?_
              rintro x w' ⟨rfl, n3, rfl⟩
              go_wp2
              rw [HN.out]
              exact ⟨rfl, rfl, hk, hkk.drewN _⟩
            | some b =>
              have hk1 : k + 1 ≤ s.length := (List.getElem?_eq_some_iff.1 hc).1
              have C := Lib.hid (here_ok g s k d wr b hc hpk hl)
              have HQ : Hid (R = if b < lo ∨ hh < b then .bad 40 k else followP s (m - (j + 1)) 128 191 (k + 1)) := Lib.hid (by
                rw [← HRk.out, hmj, followP, hc, show m - (j + 1) = m - j - 1 from by omega])
              have HP := Lib.hid hpk
              obtain ⟨h0, h1, h2, h3, h4⟩ := hpk.facts
              clear hc hpk hmj HRk
              by_cases hlo : b.toNat < lo.toNat
              · have q1 : decide (b.toNat < lo.toNat) = true := by simpa using hlo
                have HN : Hid (R = .bad 40 k) := Lib.hid (by rw [HQ.out, if_pos (.inl (by rw [UInt8.lt_iff_toNat_lt]; exact hlo))])
                clear HQ
                go_wp2_with fail
                refine C.out.mono ?_
                rintro x w' ⟨rfl, n3, rfl⟩
                go_wp2_with fail
                refine (fail_any _ _ _ _ _ _ (HP.out.drewN _)).mono ?_
                rintro x w' ⟨rfl, rfl⟩
                go_wp2
                rw [HN.out]
                exact ⟨rfl, rfl, hk, hkk.drewN _⟩
              · have q1 : decide (b.toNat < lo.toNat) = false := by simpa using hlo
                by_cases hhi : hh.toNat < b.toNat
                · have q2 : decide (hh.toNat < b.toNat) = true := by simpa using hhi
                  have HN : Hid (R = .bad 40 k) := Lib.hid (by rw [HQ.out, if_pos (.inr (by rw [UInt8.lt_iff_toNat_lt]; exact hhi))])
                  clear HQ
                  go_wp2_with fail
                  refine C.out.mono ?_
                  rintro x w' ⟨rfl, n3, rfl⟩
                  go_wp2_with fail
                  refine (fail_any _ _ _ _ _ _ (HP.out.drewN _)).mono ?_
                  rintro x w' ⟨rfl, rfl⟩
                  go_wp2
                  rw [HN.out]
                  exact ⟨rfl, rfl, hk, hkk.drewN _⟩
                · have q2 : decide (hh.toNat < b.toNat) = false := by simpa using hhi
                  have HN : Hid (followP s (m - (j + 1)) 128 191 (k + 1) = R) := Lib.hid (by
                    rw [HQ.out, if_neg]
                    rw [UInt8.lt_iff_toNat_lt, UInt8.lt_iff_toNat_lt]
                    omega)
                  clear HQ
                  go_wp2_with fail
                  refine C.out.mono ?_
                  rintro x w' ⟨rfl, n3, rfl⟩
                  go_wp2
                  go_roundg (m - (j + 1))
                  case rel => exact ⟨128, 191, k + 1, j + 1, rfl, rfl, by go_num, by omega, rfl, hk1, (HP.out.drewN _).setAt _ _ rfl, (hkk.drewN _).setCell (.inr (by simp)) _, HN⟩
                  case measure => omega
          · have HN : Hid (R = .ok () k) := Lib.hid (by rw [← HRk.out, show m - j = 0 from by omega]; rfl)
            go_wp2
            go_end0
            rw [HN.out]
            exact ⟨rfl, hpk, hk, hkk⟩
end Go.Proofs.YtmajpambfblhnaaGreatDoor
