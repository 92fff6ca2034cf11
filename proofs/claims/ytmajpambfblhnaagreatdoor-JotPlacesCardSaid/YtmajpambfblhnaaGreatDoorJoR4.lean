/- Walks of the reference's reader (layer 4): what stands behind a backslash, a text. -/
import Derived.Test.YtmajpambfblhnaaGreatDoorJoR3
import Derived.Test.YtmajpambfblhnaaGreatDoorJoKit
import Derived.Test.YtmajpambfblhnaaGreatDoorJoPlainC
import Derived.Test.YtmajpambfblhnaaGreatDoorJoPC
namespace Go.Proofs.YtmajpambfblhnaaGreatDoor
open Go.RowKit Jo

abbrev okS (x : List UInt8) (e : Ending) (_ : World) : Prop := e = .returned (.tuple #[S x, .bool true])
abbrev noS (e : Ending) : Prop := e = .returned (.tuple #[S [], .bool false])

set_option maxHeartbeats 4000000 in
set_option maxRecDepth 100000 in
theorem coded_any (g : Nat) (s : List UInt8) (i d : Nat) (w : World) (hp : RA g s i 0 d w) (hl : s.length ≤ 1000000) (hi : i ≤ s.length) :
    Calls Tryz.prog 114 #[.pointer (some ⟨g, 0, none⟩)] w (RRd g s d w ((pointP s i).bind fun n j => .ok (Lib.encodeRune n) j) okS noS) := by
  have hT := pointP_take s i
  obtain ⟨R, hR⟩ : ∃ R, pointP s i = R := ⟨_, rfl⟩
  have HR : Hid (R = (fourL s false 4 0 i).bind fun n j => if n < 55296 ∨ 56319 < n then .ok n j else (wantP s 92 j).bind fun _ j => (wantP s 117 j).bind fun _ j => (fourL s true 4 0 j).bind fun m j => .ok (65536 + 1024 * (n - 55296) + m - 56320) j) := Lib.hid (by rw [← hR, point_four])
  rw [hR] at hT ⊢
  have HT := Lib.hid hT
  clear hR hT
  have C := Lib.hid (four_any g s false i d w hp hl hi)
  clear hp hi
  cases h4 : fourL s false 4 0 i with
  | bad x j =>
    have HN : Hid (R = .bad x j) := Lib.hid (by rw [HR.out, h4]; rfl)
    rw [h4] at C
    clear h4 HR HT
    rw [HN.out, PR.bind_bad]
    go_enter Tryz.func114, Tryz.ntmps114
    go_wp2_with fail
    refine C.out.mono ?_
    rintro e w' ⟨⟨n, rfl⟩, hr, hj, hk⟩
    go_wp2
    go_ret2
    exact ⟨rfl, hr, hj, hk⟩
  | ok n j =>
    have hn := fourL_rng h4 (by omega)
    have hn0 : 0 ≤ n := hn.1
    have hn1 : n < 65536 := by have := hn.2; omega
    clear hn
    rw [h4, PR.bind_ok] at HR
    rw [h4] at C
    clear h4
    by_cases hs : n < 55296 ∨ 56319 < n
    · have HN : Hid (R = .ok n j) := Lib.hid (by rw [HR.out, if_pos hs])
      have hT : (j = i + 4 ∧ 0 ≤ n ∧ n ≤ 65535 ∧ (n < 55296 ∨ 57343 < n)) ∨ (j = i + 10 ∧ 65536 ≤ n ∧ n ≤ 1114111) := by have := HT.out; rw [HN.out] at this; exact this.2
      have hn2 : n < 55296 ∨ (57343 < n ∧ n ≤ 1114111) := by omega
      clear hT HR HT
      rw [HN.out, PR.bind_ok]
      rcases hs with hs | hs
      all_goals
        go_enter Tryz.func114, Tryz.ntmps114
        go_wp2_with fail
        refine C.out.mono ?_
        rintro e w1 ⟨rfl, hp1, hj, hk⟩
        have HP1 := Lib.hid hp1
        clear hp1
        go_wp2_with fail
        refine (refbytes_any n w1 hn0 hn2).mono ?_
        rintro e w2 ⟨rfl, hk2⟩
        have HK2 := Lib.hid (hk.trans hk2 fun _ _ _ => trivial)
        have HP2 := Lib.hid (HP1.out.kept hk2 trivial)
        clear hk2
        go_wp2
        go_ret2
        exact ⟨rfl, HP2.out, hj, HK2.out⟩
    · have HQ : Hid (R = (wantP s 92 j).bind fun _ j => (wantP s 117 j).bind fun _ j => (fourL s true 4 0 j).bind fun m j => .ok (65536 + 1024 * (n - 55296) + m - 56320) j) := Lib.hid (by rw [HR.out, if_neg hs])
      have hlo : 55296 ≤ n := by omega
      have hhi : n ≤ 56319 := by omega
      clear hs HR
      go_enter Tryz.func114, Tryz.ntmps114
      go_wp2_with fail
      refine C.out.mono ?_
      rintro e w1 ⟨rfl, hp1, hj, hk⟩
      have D := Lib.hid (reftakes_any g s j d 92 w1 hp1 hj hl)
      clear hp1
      go_wp2_with fail
      refine D.out.mono ?_
      cases h92 : wantP s 92 j with
      | bad x j' =>
        have HN : Hid (R = .bad x j') := Lib.hid (by rw [HQ.out, h92]; rfl)
        rintro e w' ⟨rfl, hr, hj', hk'⟩
        clear h92 HQ HT D
        go_wp2
        go_ret2
        rw [HN.out, PR.bind_bad]
        exact ⟨rfl, hr, hj', hk.tr hk'⟩
      | ok u j1 =>
        rw [h92, PR.bind_ok] at HQ
        rintro e w2 ⟨rfl, hp2, hj1, hk2⟩
        have D2 := Lib.hid (reftakes_any g s j1 d 117 w2 hp2 hj1 hl)
        clear h92 D hp2
        go_wp2_with fail
        refine D2.out.mono ?_
        cases h117 : wantP s 117 j1 with
        | bad x j' =>
          have HN : Hid (R = .bad x j') := Lib.hid (by rw [HQ.out, h117]; rfl)
          rintro e w' ⟨rfl, hr, hj', hk'⟩
          clear h117 HQ HT D2
          go_wp2
          go_ret2
          rw [HN.out, PR.bind_bad]
          exact ⟨rfl, hr, hj', (hk.tr hk2).tr hk'⟩
        | ok u j2 =>
          rw [h117, PR.bind_ok] at HQ
          rintro e w3 ⟨rfl, hp3, hj2, hk3⟩
          have D3 := Lib.hid (four_any g s true j2 d w3 hp3 hl hj2)
          clear h117 D2 hp3
          go_wp2_with fail
          refine D3.out.mono ?_
          cases hf : fourL s true 4 0 j2 with
          | bad x j' =>
            have HN : Hid (R = .bad x j') := Lib.hid (by rw [HQ.out, hf]; rfl)
            rintro e w' ⟨⟨n', rfl⟩, hr, hj', hk'⟩
            clear hf HQ HT D3
            go_wp2
            go_ret2
            rw [HN.out, PR.bind_bad]
            exact ⟨rfl, hr, hj', ((hk.tr hk2).tr hk3).tr hk'⟩
          | ok m j3 =>
            rw [hf, PR.bind_ok] at HQ
            have hT : (j3 = i + 4 ∧ 0 ≤ 65536 + 1024 * (n - 55296) + m - 56320 ∧ 65536 + 1024 * (n - 55296) + m - 56320 ≤ 65535 ∧ (65536 + 1024 * (n - 55296) + m - 56320 < 55296 ∨ 57343 < 65536 + 1024 * (n - 55296) + m - 56320)) ∨ (j3 = i + 10 ∧ 65536 ≤ 65536 + 1024 * (n - 55296) + m - 56320 ∧ 65536 + 1024 * (n - 55296) + m - 56320 ≤ 1114111) := by have := HT.out; rw [HQ.out] at this; exact this.2
            have hm := fourL_rng hf (by omega)
            have hm0 : 0 ≤ m := hm.1
            have hm1 : m < 65536 := by have := hm.2; omega
            rintro e w4 ⟨rfl, hp4, hj3, hk4⟩
            have HP4 := Lib.hid hp4
            have hz0 : 0 ≤ 65536 + 1024 * (n - 55296) + m - 56320 := by omega
            have hz1 : 65536 + 1024 * (n - 55296) + m - 56320 < 55296 ∨ (57343 < 65536 + 1024 * (n - 55296) + m - 56320 ∧ 65536 + 1024 * (n - 55296) + m - 56320 ≤ 1114111) := by omega
            clear hf HT D3 hp4 hm hT
            have HZ := Lib.hid (And.intro hz0 hz1)
            clear hz0 hz1
            go_wp2_with fail
            refine (refbytes_any _ w4 HZ.out.1 HZ.out.2).mono ?_
            rintro e w5 ⟨rfl, hk5⟩
            have HP5 := Lib.hid (HP4.out.kept hk5 trivial)
            have HK5 := Lib.hid ((((hk.tr hk2).tr hk3).tr hk4).trans hk5 fun _ _ _ => trivial)
            clear hk5
            go_wp2
            go_ret2
            rw [HQ.out, PR.bind_ok]
            exact ⟨rfl, HP5.out, hj3, HK5.out⟩

theorem str_one (w : World) (c : UInt8) : (convert 55 9 (.slice (some ⟨w.heap.size, 0, none⟩) 1 1)).run Tryz.prog (w.alloc (.cells #[.int .u8 c.toNat] 5)) = .ok (S [c]) (w.alloc (.cells #[.int .u8 c.toNat] 5)) :=
  run_row_string (P := Tryz.prog) (src := 55) (dst := 9) (e := 5) Tryz.underlying55 Tryz.underlying5 Tryz.underlying9 w [c] #[.int .u8 c.toNat] rfl w.heap.size 1 1 rfl rfl

set_option maxHeartbeats 8000000 in
set_option maxRecDepth 100000 in
theorem escape_any (g : Nat) (s : List UInt8) (i d : Nat) (w : World) (hp : RA g s i 0 d w) (hl : s.length ≤ 1000000) (hi : i ≤ s.length) :
    Calls Tryz.prog 100 #[.pointer (some ⟨g, 0, none⟩)] w (RRd g s d w (escP s i) okS noS) := by
  have hsz : (⟨s.toArray⟩ : ByteArray).size = s.length := size_mk s
  obtain ⟨R, hR⟩ : ∃ R, escP s i = R := ⟨_, rfl⟩
  have HR := Lib.hid hR
  rw [hR]
  clear hR
  obtain ⟨h0, h1, h2, h3, h4, h5, h6⟩ := hp.facts
  have HP := Lib.hid hp
  have hgl := hp.lt
  have HI := Lib.hid hi
  clear hp
  cases hc : s[i]? with
  | none =>
    have HN : Hid (R = .bad 40 i) := Lib.hid (by rw [← HR.out, escP, hc])
    obtain rfl : i = s.length := by rw [List.getElem?_eq_none_iff] at hc; omega
    have q0 : ((s.length : Int) == (s.length : Int)) = true := by simp
    clear hc HR
    go_enter Tryz.func100, Tryz.ntmps100
    go_wp2
    go_quiet (fail)
    go_wp2_with fail
    refine (refwrong_any g s s.length d 0 40 _ (HP.out.drewN _)).mono ?_
    rintro x w' ⟨rfl, hp', hk⟩
    go_wp2
    go_ret2
    rw [HN.out]
    exact ⟨rfl, ⟨d, hp'⟩, HI.out, ((Kept.refl _ w).drewN _).tr hk⟩
  | some c =>
    obtain ⟨hci, hcc⟩ := List.getElem?_eq_some_iff.1 hc
    have hix := run_index_str (P := Tryz.prog) Tryz.underlying9 ⟨s.toArray⟩ (i : Int) i rfl (by rw [hsz]; exact hci) c hcc
    have hi1 : i + 1 ≤ s.length := hci
    have q0 : ((i : Int) == (s.length : Int)) = false := by simp; omega
    have HQ : Hid (R = if c = 34 ∨ c = 92 ∨ c = 47 then .ok [c] (i + 1)
      else if c = 98 then .ok [8] (i + 1)
      else if c = 102 then .ok [12] (i + 1)
      else if c = 110 then .ok [10] (i + 1)
      else if c = 114 then .ok [13] (i + 1)
      else if c = 116 then .ok [9] (i + 1)
      else if c = 117 then (pointP s (i + 1)).bind fun n i => .ok (Lib.encodeRune n) i
      else .bad 40 i) := Lib.hid (by rw [← HR.out, escP, hc])
    clear hc hcc HR
    go_enter Tryz.func100, Tryz.ntmps100
    go_wp2
    go_quiet (fail)
    go_wp2
    go_quiet (fail)
    by_cases hin : c = 34 ∨ c = 92 ∨ c = 47 ∨ c = 98 ∨ c = 102 ∨ c = 110 ∨ c = 114 ∨ c = 116 ∨ c = 117
    · rcases hin with hck | hck | hck | hck | hck | hck | hck | hck | hck
      · have HN : Hid (R = .ok [c] (i + 1)) := Lib.hid (by rw [HQ.out, hck]; rfl)
        have q34 : ((c.toNat : Int) == 34) = true := by rw [hck]; rfl
        have q92 : ((c.toNat : Int) == 92) = false := by rw [hck]; rfl
        have q47 : ((c.toNat : Int) == 47) = false := by rw [hck]; rfl
        have q98 : ((c.toNat : Int) == 98) = false := by rw [hck]; rfl
        have q102 : ((c.toNat : Int) == 102) = false := by rw [hck]; rfl
        have q110 : ((c.toNat : Int) == 110) = false := by rw [hck]; rfl
        have q114 : ((c.toNat : Int) == 114) = false := by rw [hck]; rfl
        have q116 : ((c.toNat : Int) == 116) = false := by rw [hck]; rfl
        have q117 : ((c.toNat : Int) == 117) = false := by rw [hck]; rfl
        have hst : ∀ n, (convert 55 9 (.slice (some ⟨w.heap.size, 0, none⟩) 1 1)).run Tryz.prog ((w.drewN n).alloc (.cells #[.int .u8 c.toNat] 5)) = .ok (S [c]) ((w.drewN n).alloc (.cells #[.int .u8 c.toNat] 5)) := fun n => str_one (w.drewN n) c
        have HR2 : ∀ n, RA g s i 0 d ((w.drewN n).alloc (.cells #[.int .u8 c.toNat] 5)) := fun n => HP.out.kept (ok := fun _ => True) (((Kept.refl _ w).drewN n).alloc _) trivial
        have z1 := fun n => (HR2 n).facts.2.1
        have z4 := fun n => (HR2 n).facts.2.2.2.2.1
        clear HR2
        clear HQ hck
        go_wp2
        go_ret2
        rw [HN.out]
        exact ⟨rfl, (HP.out.kept (ok := fun _ => True) (((Kept.refl _ w).drewN _).alloc _) trivial).setAt _ _ rfl, hi1, (((Kept.refl _ w).drewN _).alloc _).setCell (.inr (by simp)) _⟩
      · have HN : Hid (R = .ok [c] (i + 1)) := Lib.hid (by rw [HQ.out, hck]; rfl)
        have q34 : ((c.toNat : Int) == 34) = false := by rw [hck]; rfl
        have q92 : ((c.toNat : Int) == 92) = true := by rw [hck]; rfl
        have q47 : ((c.toNat : Int) == 47) = false := by rw [hck]; rfl
        have q98 : ((c.toNat : Int) == 98) = false := by rw [hck]; rfl
        have q102 : ((c.toNat : Int) == 102) = false := by rw [hck]; rfl
        have q110 : ((c.toNat : Int) == 110) = false := by rw [hck]; rfl
        have q114 : ((c.toNat : Int) == 114) = false := by rw [hck]; rfl
        have q116 : ((c.toNat : Int) == 116) = false := by rw [hck]; rfl
        have q117 : ((c.toNat : Int) == 117) = false := by rw [hck]; rfl
        have hst : ∀ n, (convert 55 9 (.slice (some ⟨w.heap.size, 0, none⟩) 1 1)).run Tryz.prog ((w.drewN n).alloc (.cells #[.int .u8 c.toNat] 5)) = .ok (S [c]) ((w.drewN n).alloc (.cells #[.int .u8 c.toNat] 5)) := fun n => str_one (w.drewN n) c
        have HR2 : ∀ n, RA g s i 0 d ((w.drewN n).alloc (.cells #[.int .u8 c.toNat] 5)) := fun n => HP.out.kept (ok := fun _ => True) (((Kept.refl _ w).drewN n).alloc _) trivial
        have z1 := fun n => (HR2 n).facts.2.1
        have z4 := fun n => (HR2 n).facts.2.2.2.2.1
        clear HR2
        clear HQ hck
        go_wp2
        go_ret2
        rw [HN.out]
        exact ⟨rfl, (HP.out.kept (ok := fun _ => True) (((Kept.refl _ w).drewN _).alloc _) trivial).setAt _ _ rfl, hi1, (((Kept.refl _ w).drewN _).alloc _).setCell (.inr (by simp)) _⟩
      · have HN : Hid (R = .ok [c] (i + 1)) := Lib.hid (by rw [HQ.out, hck]; rfl)
        have q34 : ((c.toNat : Int) == 34) = false := by rw [hck]; rfl
        have q92 : ((c.toNat : Int) == 92) = false := by rw [hck]; rfl
        have q47 : ((c.toNat : Int) == 47) = true := by rw [hck]; rfl
        have q98 : ((c.toNat : Int) == 98) = false := by rw [hck]; rfl
        have q102 : ((c.toNat : Int) == 102) = false := by rw [hck]; rfl
        have q110 : ((c.toNat : Int) == 110) = false := by rw [hck]; rfl
        have q114 : ((c.toNat : Int) == 114) = false := by rw [hck]; rfl
        have q116 : ((c.toNat : Int) == 116) = false := by rw [hck]; rfl
        have q117 : ((c.toNat : Int) == 117) = false := by rw [hck]; rfl
        have hst : ∀ n, (convert 55 9 (.slice (some ⟨w.heap.size, 0, none⟩) 1 1)).run Tryz.prog ((w.drewN n).alloc (.cells #[.int .u8 c.toNat] 5)) = .ok (S [c]) ((w.drewN n).alloc (.cells #[.int .u8 c.toNat] 5)) := fun n => str_one (w.drewN n) c
        have HR2 : ∀ n, RA g s i 0 d ((w.drewN n).alloc (.cells #[.int .u8 c.toNat] 5)) := fun n => HP.out.kept (ok := fun _ => True) (((Kept.refl _ w).drewN n).alloc _) trivial
        have z1 := fun n => (HR2 n).facts.2.1
        have z4 := fun n => (HR2 n).facts.2.2.2.2.1
        clear HR2
        clear HQ hck
        go_wp2
        go_ret2
        rw [HN.out]
        exact ⟨rfl, (HP.out.kept (ok := fun _ => True) (((Kept.refl _ w).drewN _).alloc _) trivial).setAt _ _ rfl, hi1, (((Kept.refl _ w).drewN _).alloc _).setCell (.inr (by simp)) _⟩
      · have HN : Hid (R = .ok [8] (i + 1)) := Lib.hid (by rw [HQ.out, hck]; rfl)
        have q34 : ((c.toNat : Int) == 34) = false := by rw [hck]; rfl
        have q92 : ((c.toNat : Int) == 92) = false := by rw [hck]; rfl
        have q47 : ((c.toNat : Int) == 47) = false := by rw [hck]; rfl
        have q98 : ((c.toNat : Int) == 98) = true := by rw [hck]; rfl
        have q102 : ((c.toNat : Int) == 102) = false := by rw [hck]; rfl
        have q110 : ((c.toNat : Int) == 110) = false := by rw [hck]; rfl
        have q114 : ((c.toNat : Int) == 114) = false := by rw [hck]; rfl
        have q116 : ((c.toNat : Int) == 116) = false := by rw [hck]; rfl
        have q117 : ((c.toNat : Int) == 117) = false := by rw [hck]; rfl
        clear HQ hck
        go_wp2
        go_ret2
        rw [HN.out]
        exact ⟨rfl, (HP.out.drewN _).setAt _ _ rfl, hi1, ((Kept.refl _ w).drewN _).setCell (.inr (by simp)) _⟩
      · have HN : Hid (R = .ok [12] (i + 1)) := Lib.hid (by rw [HQ.out, hck]; rfl)
        have q34 : ((c.toNat : Int) == 34) = false := by rw [hck]; rfl
        have q92 : ((c.toNat : Int) == 92) = false := by rw [hck]; rfl
        have q47 : ((c.toNat : Int) == 47) = false := by rw [hck]; rfl
        have q98 : ((c.toNat : Int) == 98) = false := by rw [hck]; rfl
        have q102 : ((c.toNat : Int) == 102) = true := by rw [hck]; rfl
        have q110 : ((c.toNat : Int) == 110) = false := by rw [hck]; rfl
        have q114 : ((c.toNat : Int) == 114) = false := by rw [hck]; rfl
        have q116 : ((c.toNat : Int) == 116) = false := by rw [hck]; rfl
        have q117 : ((c.toNat : Int) == 117) = false := by rw [hck]; rfl
        clear HQ hck
        go_wp2
        go_ret2
        rw [HN.out]
        exact ⟨rfl, (HP.out.drewN _).setAt _ _ rfl, hi1, ((Kept.refl _ w).drewN _).setCell (.inr (by simp)) _⟩
      · have HN : Hid (R = .ok [10] (i + 1)) := Lib.hid (by rw [HQ.out, hck]; rfl)
        have q34 : ((c.toNat : Int) == 34) = false := by rw [hck]; rfl
        have q92 : ((c.toNat : Int) == 92) = false := by rw [hck]; rfl
        have q47 : ((c.toNat : Int) == 47) = false := by rw [hck]; rfl
        have q98 : ((c.toNat : Int) == 98) = false := by rw [hck]; rfl
        have q102 : ((c.toNat : Int) == 102) = false := by rw [hck]; rfl
        have q110 : ((c.toNat : Int) == 110) = true := by rw [hck]; rfl
        have q114 : ((c.toNat : Int) == 114) = false := by rw [hck]; rfl
        have q116 : ((c.toNat : Int) == 116) = false := by rw [hck]; rfl
        have q117 : ((c.toNat : Int) == 117) = false := by rw [hck]; rfl
        clear HQ hck
        go_wp2
        go_ret2
        rw [HN.out]
        exact ⟨rfl, (HP.out.drewN _).setAt _ _ rfl, hi1, ((Kept.refl _ w).drewN _).setCell (.inr (by simp)) _⟩
      · have HN : Hid (R = .ok [13] (i + 1)) := Lib.hid (by rw [HQ.out, hck]; rfl)
        have q34 : ((c.toNat : Int) == 34) = false := by rw [hck]; rfl
        have q92 : ((c.toNat : Int) == 92) = false := by rw [hck]; rfl
        have q47 : ((c.toNat : Int) == 47) = false := by rw [hck]; rfl
        have q98 : ((c.toNat : Int) == 98) = false := by rw [hck]; rfl
        have q102 : ((c.toNat : Int) == 102) = false := by rw [hck]; rfl
        have q110 : ((c.toNat : Int) == 110) = false := by rw [hck]; rfl
        have q114 : ((c.toNat : Int) == 114) = true := by rw [hck]; rfl
        have q116 : ((c.toNat : Int) == 116) = false := by rw [hck]; rfl
        have q117 : ((c.toNat : Int) == 117) = false := by rw [hck]; rfl
        clear HQ hck
        go_wp2
        go_ret2
        rw [HN.out]
        exact ⟨rfl, (HP.out.drewN _).setAt _ _ rfl, hi1, ((Kept.refl _ w).drewN _).setCell (.inr (by simp)) _⟩
      · have HN : Hid (R = .ok [9] (i + 1)) := Lib.hid (by rw [HQ.out, hck]; rfl)
        have q34 : ((c.toNat : Int) == 34) = false := by rw [hck]; rfl
        have q92 : ((c.toNat : Int) == 92) = false := by rw [hck]; rfl
        have q47 : ((c.toNat : Int) == 47) = false := by rw [hck]; rfl
        have q98 : ((c.toNat : Int) == 98) = false := by rw [hck]; rfl
        have q102 : ((c.toNat : Int) == 102) = false := by rw [hck]; rfl
        have q110 : ((c.toNat : Int) == 110) = false := by rw [hck]; rfl
        have q114 : ((c.toNat : Int) == 114) = false := by rw [hck]; rfl
        have q116 : ((c.toNat : Int) == 116) = true := by rw [hck]; rfl
        have q117 : ((c.toNat : Int) == 117) = false := by rw [hck]; rfl
        clear HQ hck
        go_wp2
        go_ret2
        rw [HN.out]
        exact ⟨rfl, (HP.out.drewN _).setAt _ _ rfl, hi1, ((Kept.refl _ w).drewN _).setCell (.inr (by simp)) _⟩
      · have HN : Hid (R = (pointP s (i + 1)).bind fun n i => .ok (Lib.encodeRune n) i) := Lib.hid (by rw [HQ.out, hck]; rfl)
        have q34 : ((c.toNat : Int) == 34) = false := by rw [hck]; rfl
        have q92 : ((c.toNat : Int) == 92) = false := by rw [hck]; rfl
        have q47 : ((c.toNat : Int) == 47) = false := by rw [hck]; rfl
        have q98 : ((c.toNat : Int) == 98) = false := by rw [hck]; rfl
        have q102 : ((c.toNat : Int) == 102) = false := by rw [hck]; rfl
        have q110 : ((c.toNat : Int) == 110) = false := by rw [hck]; rfl
        have q114 : ((c.toNat : Int) == 114) = false := by rw [hck]; rfl
        have q116 : ((c.toNat : Int) == 116) = false := by rw [hck]; rfl
        have q117 : ((c.toNat : Int) == 117) = true := by rw [hck]; rfl
        clear HQ hck
        have HP1 : Hid (∀ n, RA g s (i + 1) 0 d ((w.drewN n).setCell ⟨g, 1, none⟩ (.int .i64 ((i + 1 : Nat) : Int)))) := Lib.hid fun n => (HP.out.drewN n).setAt (i + 1) _ rfl
        have HK1 : Hid (∀ n, Kept (· ≠ g) w ((w.drewN n).setCell ⟨g, 1, none⟩ (.int .i64 ((i + 1 : Nat) : Int)))) := Lib.hid fun n => ((Kept.refl (· ≠ g) w).drewN n).setCell (.inr (by simp)) _
        go_wp2_with fail
        refine (coded_any g s (i + 1) d _ (HP1.out _) hl hi1).mono ?_
        intro e w' he
        rw [← HN.out] at he
        revert he
        cases R with
        | ok x j =>
          rintro ⟨rfl, hp', hj, hk⟩
          go_wp2
          go_ret2
          exact ⟨rfl, hp', hj, (HK1.out _).tr hk⟩
        | bad x j =>
          rintro ⟨rfl, hr, hj, hk⟩
          go_wp2
          go_ret2
          exact ⟨rfl, hr, hj, (HK1.out _).tr hk⟩
    · have HN : Hid (R = .bad 40 i) := Lib.hid (by rw [HQ.out]; simp only [not_or] at hin; obtain ⟨a1, a2, a3, a4, a5, a6, a7, a8, a9⟩ := hin; rw [if_neg (by simp [a1, a2, a3]), if_neg a4, if_neg a5, if_neg a6, if_neg a7, if_neg a8, if_neg a9])
      simp only [not_or] at hin
      obtain ⟨a1, a2, a3, a4, a5, a6, a7, a8, a9⟩ := hin
      have q34 : ((c.toNat : Int) == 34) = false := by rw [byte_is c 34 34 rfl]; exact decide_eq_false a1
      have q92 : ((c.toNat : Int) == 92) = false := by rw [byte_is c 92 92 rfl]; exact decide_eq_false a2
      have q47 : ((c.toNat : Int) == 47) = false := by rw [byte_is c 47 47 rfl]; exact decide_eq_false a3
      have q98 : ((c.toNat : Int) == 98) = false := by rw [byte_is c 98 98 rfl]; exact decide_eq_false a4
      have q102 : ((c.toNat : Int) == 102) = false := by rw [byte_is c 102 102 rfl]; exact decide_eq_false a5
      have q110 : ((c.toNat : Int) == 110) = false := by rw [byte_is c 110 110 rfl]; exact decide_eq_false a6
      have q114 : ((c.toNat : Int) == 114) = false := by rw [byte_is c 114 114 rfl]; exact decide_eq_false a7
      have q116 : ((c.toNat : Int) == 116) = false := by rw [byte_is c 116 116 rfl]; exact decide_eq_false a8
      have q117 : ((c.toNat : Int) == 117) = false := by rw [byte_is c 117 117 rfl]; exact decide_eq_false a9
      clear HQ a1 a2 a3 a4 a5 a6 a7 a8 a9
      go_wp2_with fail
      refine (refwrong_any g s i d 0 40 _ (HP.out.drewN _)).mono ?_
      rintro x w' ⟨rfl, hp', hk⟩
      go_wp2
      go_ret2
      rw [HN.out]
      exact ⟨rfl, ⟨d, hp'⟩, HI.out, ((Kept.refl _ w).drewN _).tr hk⟩
end Go.Proofs.YtmajpambfblhnaaGreatDoor

namespace Go.Proofs.YtmajpambfblhnaaGreatDoor
open Go.RowKit Jo

set_option maxHeartbeats 8000000 in
set_option maxRecDepth 100000 in
theorem reftext_any (g : Nat) (s : List UInt8) (i d : Nat) (w : World) (hp : RA g s i 0 d w) (hl : s.length ≤ 1000000) (hi : i ≤ s.length) :
    Calls Tryz.prog 78 #[.pointer (some ⟨g, 0, none⟩)] w (RRd g s d w (textP s [] i) okS noS) := by
  have hsz : (⟨s.toArray⟩ : ByteArray).size = s.length := size_mk s
  obtain ⟨R, hR⟩ : ∃ R, textP s [] i = R := ⟨_, rfl⟩
  have HR := Lib.hid hR
  rw [hR]
  clear hR
  have hgl := hp.lt
  have C := Lib.hid (reftakes_any g s i d 34 w hp hi hl)
  clear hp
  go_enter Tryz.func78, Tryz.ntmps78
  go_wp2_with fail
  refine C.out.mono ?_
  cases hq : wantP s 34 i with
  | bad e j =>
    have HN : Hid (R = .bad e j) := Lib.hid (by rw [← HR.out, textP, hq]; rfl)
    rintro x w' ⟨rfl, hb, hj, hk⟩
    clear hq C HR
    go_wp2
    go_ret2
    rw [HN.out]
    exact ⟨rfl, hb, hj, hk⟩
  | ok u i1 =>
    have HN : Hid (textL s [] (s.length + 1) [] i1 = R) := Lib.hid (by rw [← HR.out, textP, hq]; rfl)
    rintro x w1 ⟨rfl, hp1, hi1, hk1⟩
    clear hq C HR
    have hB := hk1.size
    go_wp2_with fail
    go_loopg [5] (s.length + 1) (fun q v wr => ∃ (acc : List UInt8) (j : Nat), OwnB 5 w.heap.size v acc wr ∧ RA g s j 0 d wr ∧ j ≤ s.length ∧ s.length + 1 ≤ j + q ∧ acc.length ≤ 4 * j ∧ Kept (· ≠ g) w wr ∧ Hid (textL s [] q acc j = R))
    case atStart => exact ⟨[], i1, OwnB.nil _ _ _, hp1, hi1, by omega, by simp, hk1, HN⟩
    case round =>
      clear HN hp1 hi1 hk1
      obtain ⟨acc, j, ho, hpj, hj, hfu, hal, hkj, HRj⟩ := hrel
      have hwr := hkj.size
      obtain ⟨q, rfl⟩ : ∃ q, gk = q + 1 := ⟨gk - 1, by omega⟩
      have HP := Lib.hid hpj
      have HO := Lib.hid ho
      have HJ := Lib.hid hj
      have C := Lib.hid (refis_any g s j d 0 34 wr hpj hj hl)
      have C2 := Lib.hid (fun n => refis_any g s j d 0 92 (wr.drewN n) (hpj.drewN n) hj hl)
      obtain ⟨h0, h1, h2, h3, h4, h5, h6⟩ := hpj.facts
      clear hpj ho
      cases hc : s[j]? with
      | none =>
        have HN : Hid (R = .bad 40 j) := Lib.hid (by rw [← HRj.out, textL, hc])
        rw [hc] at C C2
        obtain rfl : j = s.length := by rw [List.getElem?_eq_none_iff] at hc; omega
        have e1 : decide ((none : Option UInt8) = some 34) = false := by simp
        have e2 : decide ((none : Option UInt8) = some 92) = false := by simp
        have q0 : ((s.length : Int) == (s.length : Int)) = true := by simp
        rw [e1] at C
        rw [e2] at C2
        clear hc HRj e1 e2
        go_wp2_with fail
        refine C.out.mono ?_
        rintro x w' ⟨rfl, n, rfl⟩
        go_wp2_with fail
        refine (C2.out n).mono ?_
        rintro x w' ⟨rfl, n2, rfl⟩
        go_wp2
        go_quiet (fail)
        go_wp2_with fail
        refine (refwrong_any g s s.length d 0 40 _ (HP.out.drewN _)).mono ?_
        rintro x w' ⟨rfl, hp', hk⟩
        go_wp2
        go_ret2
        rw [HN.out]
        exact ⟨rfl, ⟨d, hp'⟩, HJ.out, (hkj.drewN _).tr hk⟩
      | some c =>
        have hj1 : j + 1 ≤ s.length := (List.getElem?_eq_some_iff.1 hc).1
        have HQ : Hid (R = if c = 34 then .ok acc (j + 1) else if c = 92 then (escP s (j + 1)).bind fun x j => textL s [] q (acc ++ x) j else if c < 32 then .bad 40 j else (letterP s j).bind fun _ k => textL s [] q (acc ++ (s.drop j).take (k - j)) k) := Lib.hid (by rw [← HRj.out, textL, hc]; simp)
        rw [hc] at C C2
        have e1 : decide (some c = some (34 : UInt8)) = decide (c = 34) := by simp
        have e2 : decide (some c = some (92 : UInt8)) = decide (c = 92) := by simp
        rw [e1] at C
        rw [e2] at C2
        obtain ⟨hci, hcc⟩ := List.getElem?_eq_some_iff.1 hc
        have hix := run_index_str (P := Tryz.prog) Tryz.underlying9 ⟨s.toArray⟩ (j : Int) j rfl (by rw [hsz]; exact hci) c hcc
        have q0 : ((j : Int) == (s.length : Int)) = false := by simp; omega
        clear hc hcc HRj e1 e2
        by_cases e34 : c = 34
        · rw [decide_eq_true e34] at C
          have HN : Hid (R = .ok acc (j + 1)) := Lib.hid (by rw [HQ.out, if_pos e34])
          have hcv := fun n => ((HO.out.drewN n).setCell (p := ⟨g, 1, none⟩) (by simpa using hgl) (.int .i64 ((j : Int) + 1))).string (P := Tryz.prog) (src := 55) (dst := 9) (e := 5) Tryz.underlying55 Tryz.underlying5 Tryz.underlying9
          clear HQ e34 C2
          go_wp2_with fail
          refine C.out.mono ?_
          rintro x w' ⟨rfl, n, rfl⟩
          go_wp2
          go_ret2
          rw [HN.out]
          exact ⟨rfl, (HP.out.drewN _).setAt _ _ rfl, hj1, (hkj.drewN n).setCell (.inr (by simp)) _⟩
        · rw [decide_eq_false e34] at C
          by_cases e92 : c = 92
          · rw [decide_eq_true e92] at C2
            have HN : Hid (R = (escP s (j + 1)).bind fun x j => textL s [] q (acc ++ x) j) := Lib.hid (by rw [HQ.out, if_neg e34, if_pos e92])
            have HP1 : Hid (∀ n, RA g s (j + 1) 0 d ((wr.drewN n).setCell ⟨g, 1, none⟩ (.int .i64 ((j : Int) + 1)))) := Lib.hid fun n => (HP.out.drewN n).setAt (j + 1) _ rfl
            have HK1 : Hid (∀ n, Kept (· ≠ g) w ((wr.drewN n).setCell ⟨g, 1, none⟩ (.int .i64 ((j : Int) + 1)))) := Lib.hid fun n => (hkj.drewN n).setCell (.inr (by simp)) _
            have HO1 : Hid (∀ n, OwnB 5 w.heap.size _ acc ((wr.drewN n).setCell ⟨g, 1, none⟩ (.int .i64 ((j : Int) + 1)))) := Lib.hid fun n => ((HO.out.drewN n).setCell (p := ⟨g, 1, none⟩) (by simpa using hgl) _)
            clear HQ e34 e92
            go_wp2_with fail
            refine C.out.mono ?_
            rintro x w' ⟨rfl, n, rfl⟩
            go_wp2_with fail
            refine (C2.out n).mono ?_
            rintro x w' ⟨rfl, n2, rfl⟩
            go_wp2_with fail
            refine (escape_any g s (j + 1) d _ (HP1.out _) hl hj1).mono ?_
            cases hq : escP s (j + 1) with
            | bad e k =>
              rintro x w2 ⟨rfl, hr, hb, hk'⟩
              have HN2 : Hid (R = .bad e k) := Lib.hid (by rw [HN.out, hq]; rfl)
              clear hq HN
              go_wp2
              go_ret2
              rw [HN2.out]
              exact ⟨rfl, hr, hb, (HK1.out _).tr hk'⟩
            | ok x k =>
              rintro _ w2 ⟨rfl, hp2, hk, hk'⟩
              have HN2 : Hid (textL s [] q (acc ++ x) k = R) := Lib.hid (by rw [HN.out, hq]; rfl)
              obtain ⟨hx1, hx2⟩ := escP_ok hq
              have hkw : Kept (· ≠ g) w w2 := (HK1.out _).tr hk'
              have HO2 := Lib.hid ((HO1.out (n + n2)).kept hk' ((HO1.out (n + n2)).ne hgl))
              have HP2 := Lib.hid hp2
              have hw2 := hkw.size
              clear hq HN hp2 hk' h0 h1 h2 h3 h4 h5 h6
              go_wp2_with (at_builtin; refine wpList_pushS 55 9 5 Tryz.underlying55 Tryz.underlying9 infoByte rfl _ _ rfl w.heap.size acc _ x rfl rfl HO2.out (by omega) hw2 ?_)
              intro v' w3 k1 k2
              have hkk : Kept (· ≠ g) w w3 := hkw.trans (Below.kept (g := g) k2) fun i hi ho => ⟨hi, ho⟩
              have HP3 := Lib.hid (HP2.out.kept (ok := fun k => k < w.heap.size) ⟨k2.os, k2.tape, k2.output, k2.size, fun i _ ho => k2.block i ho⟩ hgl)
              have HO3 := Lib.hid k1
              clear k1 k2
              go_wp2
              go_roundg q
              case rel => exact ⟨acc ++ x, k, HO3.out, HP3.out, hk, by omega, by rw [List.length_append]; omega, hkk, HN2⟩
              case measure => omega
          · rw [decide_eq_false e92] at C2
            by_cases h32 : c.toNat < 32
            · have HN : Hid (R = .bad 40 j) := Lib.hid (by rw [HQ.out, if_neg e34, if_neg e92, if_pos (by rw [UInt8.lt_iff_toNat_lt]; exact h32)])
              have q32 : decide ((c.toNat : Int) < 32) = true := by simp; omega
              clear HQ e34 e92
              go_wp2_with fail
              refine C.out.mono ?_
              rintro x w' ⟨rfl, n, rfl⟩
              go_wp2_with fail
              refine (C2.out n).mono ?_
              rintro x w' ⟨rfl, n2, rfl⟩
              go_wp2
              go_quiet (fail)
              go_wp2_with fail
              refine (refwrong_any g s j d 0 40 _ (HP.out.drewN _)).mono ?_
              rintro x w' ⟨rfl, hp', hk⟩
              go_wp2
              go_ret2
              rw [HN.out]
              exact ⟨rfl, ⟨d, hp'⟩, hj, (hkj.drewN _).tr hk⟩
            · have HN : Hid (R = (letterP s j).bind fun _ k => textL s [] q (acc ++ (s.drop j).take (k - j)) k) := Lib.hid (by rw [HQ.out, if_neg e34, if_neg e92, if_neg (by rw [UInt8.lt_iff_toNat_lt]; exact h32)])
              have q32 : decide ((c.toNat : Int) < 32) = false := by simp; omega
              have D := Lib.hid (fun wx => refletter_any s j wx (by omega) hci)
              clear HQ e34 e92
              go_wp2_with fail
              refine C.out.mono ?_
              rintro x w' ⟨rfl, n, rfl⟩
              go_wp2_with fail
              refine (C2.out n).mono ?_
              rintro x w' ⟨rfl, n2, rfl⟩
              go_wp2
              go_quiet (fail)
              cases hq : letterP s j with
              | bad e k =>
                have HN2 : Hid (R = .bad e k) := Lib.hid (by rw [HN.out, hq]; rfl)
                rw [hq] at D
                clear HN
                go_wp2
                go_quiet (go_loud (go_at_call 67; exact (D.out _).mono (by rintro e w'' ⟨rfl, rfl⟩; exact ⟨rfl, _, rfl⟩)))
                obtain ⟨rfl, hk⟩ := letterP_bad hq hj
                have HP1 : Hid (∀ n, RA g s k 0 d ((wr.drewN n).setCell ⟨g, 1, none⟩ (.int .i64 (k : Int)))) := Lib.hid fun n => (HP.out.drewN n).setAt k _ rfl
                have HK1 : Hid (∀ n, Kept (· ≠ g) w ((wr.drewN n).setCell ⟨g, 1, none⟩ (.int .i64 (k : Int)))) := Lib.hid fun n => (hkj.drewN n).setCell (.inr (by simp)) _
                clear hq
                go_wp2_with fail
                refine (refwrong_any g s k d 0 40 _ (HP1.out _)).mono ?_
                rintro x w' ⟨rfl, hp', hk'⟩
                go_wp2
                go_ret2
                rw [HN2.out]
                exact ⟨rfl, ⟨d, hp'⟩, hk, (HK1.out _).tr hk'⟩
              | ok u k =>
                have HN2 : Hid (textL s [] q (acc ++ (s.drop j).take (k - j)) k = R) := Lib.hid (by rw [HN.out, hq]; rfl)
                obtain ⟨hx1, hx2, hx3⟩ := letterP_ok hq
                rw [hq] at D
                clear hq HN
                go_wp2
                go_quiet (go_loud (go_at_call 67; exact (D.out _).mono (by rintro e w'' ⟨rfl, rfl⟩; exact ⟨rfl, _, rfl⟩)))
                have hjk : j ≤ k := by omega
                go_wp2
                generalize hW2 : World.drewN wr _ = W2
                have HP2 := Lib.hid (show RA g s j 0 d W2 by rw [← hW2]; exact HP.out.drewN _)
                have HO2 := Lib.hid (show OwnB 5 w.heap.size _ acc W2 by rw [← hW2]; exact HO.out.drewN _)
                have hkw : Kept (· ≠ g) w W2 := by rw [← hW2]; exact hkj.drewN _
                have hw2 := hkw.size
                clear hW2 h0 h1 h2 h3 h4 h5 h6 hkj hwr C C2 HP HO
                obtain ⟨g0, g1, g2, g3, g4, g5, g6⟩ := HP2.out.facts
                go_region_law (refine step_pushS 55 9 5 Tryz.underlying55 Tryz.underlying9 infoByte rfl _ _ rfl w.heap.size acc _ ((s.drop j).take (k - j)) rfl (extract_mk s j k) HO2.out (by rw [List.length_take, List.length_drop]; omega) hw2 ?_; intro v' w' k1 k2)
                all_goals
                  replace k2 : Below w.heap.size W2 w' := ((Below.refl _ W2).drew).trans k2
                  have hkk : Kept (· ≠ g) w w' := hkw.trans (Below.kept (g := g) k2) fun i hi ho => ⟨hi, ho⟩
                  have HP3 := Lib.hid (HP2.out.kept (ok := fun k => k < w.heap.size) ⟨k2.os, k2.tape, k2.output, k2.size, fun i _ ho => k2.block i ho⟩ hgl)
                  have HO3 := Lib.hid k1
                  obtain ⟨f0, f1, f2, f3, f4, f5, f6⟩ := HP3.out.facts
                  clear k1 k2 g0 g1 g2 g3 g4 g5 g6
                  go_wp2
                  go_roundg q
                  case rel => exact ⟨_, k, HO3.out.setCell (p := ⟨g, 1, none⟩) (by simpa using hgl) _, HP3.out.setAt k _ rfl, hx3, by omega, by rw [List.length_append, List.length_take, List.length_drop]; omega, hkk.setCell (.inr (by simp)) _, HN2⟩
                  case measure => omega
end Go.Proofs.YtmajpambfblhnaaGreatDoor
