/- Walk of the law QueryBack (layer 3). -/
import Derived.Test.YtldhfbdljogieaaDoorQuBackW
namespace Go.Proofs.YtldhfbdljogieaaDoor
open Go.RowKit Qu

theorem FldIn.take {w : World} {b o cap : Nat} {l : List Fld} (h : FldIn w (.slice (some ⟨b, o, none⟩) l.length cap) l) (k : Nat) (hk : k ≤ l.length) : FldIn w (.slice (some ⟨b, o, none⟩) k cap) (l.take k) := by
  rcases h with ⟨a, h, h0⟩ | ⟨b', o', cap', h0, h1, h2, h3⟩
  · subst h0
    cases h
    have hk0 : k = 0 := by simpa using hk
    subst hk0
    exact .inl ⟨_, rfl, rfl⟩
  · cases h0
    have hkl : (l.take k).length = k := by rw [List.length_take]; omega
    refine .inr ⟨b, o, cap, by rw [hkl], by omega, h2, fun j f hf => h3 j f ?_⟩
    rw [List.getElem?_take] at hf
    split at hf
    · exact hf
    · cases hf
theorem Print_F (v : Value) (l : List Fld) (w : World) (hE : Env w) (hv : FldIn w v l) (hl : wt l ≤ 68719476736) :
    Calls Tryd.prog 20 #[v] w fun e w' => e = .returned (S (printP l)) ∧ Below w.heap.size w w' := Print_any v l w hE hv hl

set_option maxHeartbeats 16000000 in
set_option maxRecDepth 100000 in
theorem backLawNil (v : Value) (l : List Fld) (s : List UInt8) (w : World) (hE : Env w) (hv : FldIn w v l) (hm : l.length ≤ 9223372036854775807) (hlen : ∀ f ∈ l, f.1.length ≤ 9223372036854775807 ∧ f.2.length ≤ 9223372036854775807) (hs : s.length ≤ 9223372036854775807) (a0 : Option Addr) (h0 : v = .slice a0 0 0) (h1 : l = []) :
    Calls Tryd.prog 6 #[v, S s] w fun e w' => e = .returned (.bool true) ∧ Below w.heap.size w w' := by
  have CW := weighs_any v l w hv hm hlen
  have hss := size_mk s
  have HE := Lib.hid hE
  have HCW := Lib.hid CW
  clear hE CW
  subst h0 h1
  obtain ⟨few, hfew⟩ : ∃ few : List Fld, few = [] := ⟨_, rfl⟩
  have HFew : Hid (FldIn w (.slice a0 0 0) few) := Lib.hid (.inl ⟨a0, rfl, hfew⟩)
  have HWF : Hid (wt few ≤ wt ([] : List Fld)) := Lib.hid (by rw [hfew]; exact Nat.le_refl _)
  have HF32 : Hid (few.length ≤ 32) := Lib.hid (by rw [hfew]; decide)
  clear hfew
  go_enter Tryd.func6, Tryd.ntmps6
  go_wp2_with fail
  refine HCW.out.mono ?_
  rintro e w1 ⟨n, rfl, hn0, hn1, hnw, hb1⟩
  have HNW := Lib.hid hnw
  clear hnw
  go_wp2_with fail
  refine (addsUp_any _ _ _ hn0 (by omega)).mono ?_
  rintro e w1' ⟨rfl, rfl⟩
  have hr := addI_rng n s.length hn0 (by omega)
  by_cases hbig : addI n s.length > 2147483647
  · clear hr
    go_wp2
    go_ret
    exact ⟨rfl, hb1⟩
  · obtain ⟨hn2, hs2, _⟩ := hr.2.2 (by omega)
    have hwt : wt ([] : List Fld) ≤ 2147483647 := by have := HNW.out hn2; omega
    have hll := wt_len ([] : List Fld)
    have hbig' : addI n s.length ≤ 2147483647 := by omega
    clear hr hbig
    have hwf : wt few ≤ 2147483647 := Nat.le_trans HWF.out hwt
    have hpf := printP_le few
    have hlf := wt_len few
    have hes := esc_le s
    have CP1 := fun w => Parse_any (printP few) w (by omega)
    rw [parse_print few HF32.out] at CP1
    have C3 := Lib.hid (fun w hE => Escape_S s w hE (by omega))
    have C4 := fun w => Unescape_S (esc s) w (by omega)
    rw [rd_esc] at C4
    have C5 := Lib.hid (fun w => Parse_any s w (by omega))
    have P1 := parse_cut s
    have P2 := parse_ok_at s
    have P3 := parse_le s
    have P4 := parse_wt s
    have C7 := fun w => Parse_any (printP (parse s).1) w (by have := printP_le (parse s).1; omega)
    rw [parse_print _ P3] at C7
    obtain ⟨R, hR⟩ : ∃ R, parse s = R := ⟨_, rfl⟩
    rw [hR] at C5 P1 P2 P3 P4 C7
    obtain ⟨es, hes0⟩ : ∃ es, esc s = es := ⟨_, rfl⟩
    rw [hes0] at C3 C4
    have CP := Lib.hid CP1
    have C4' := Lib.hid C4
    have C7' := Lib.hid C7
    have HP1 := Lib.hid P1
    have HP4 := Lib.hid P4
    clear CP1 C4 C7 P1 P2 P3 P4 hR hes0 hes hpf
    have E1 := Lib.hid (HE.out.on HE.out.size hb1)
    go_wp2_with fail
    refine (awake_any _ E1.out).mono ?_
    rintro e w2 ⟨rfl, hb2⟩
    have hb02 := hb1.trans (hb2.mono hb1.size)
    have z2 := hb02.size
    have E2 := Lib.hid (HE.out.on HE.out.size hb02)
    go_wp2_with fail
    refine (Print_F _ few _ E2.out (HFew.out.below hb02) (by omega)).mono ?_
    rintro e w3 ⟨rfl, hb3⟩
    have hb03 := hb02.trans (hb3.mono z2)
    have z3 := hb03.size
    go_wp2_with fail
    refine (CP.out _).mono ?_
    rintro e w4 ⟨⟨v4, rfl, hown4⟩, hb4⟩
    have hb04 := hb03.trans (hb4.mono z3)
    have z4 := hb04.size
    go_wp2_with fail
    refine (same_yes _ _ few _ hown4.fldIn (HFew.out.below hb04) (by omega)).mono ?_
    rintro e w5 ⟨rfl, hb5⟩
    have hb05 := hb04.trans (hb5.mono z4)
    have z5 := hb05.size
    have E5 := Lib.hid (HE.out.on HE.out.size hb05)
    clear hown4
    go_wp2_with fail
    refine (C3.out _ E5.out).mono ?_
    rintro e w6 ⟨rfl, hb6⟩
    have hb06 := hb05.trans (hb6.mono z5)
    have z6 := hb06.size
    go_wp2_with fail
    refine (C4'.out _).mono ?_
    rintro e w7 ⟨rfl, hb7⟩
    have hb07 := hb06.trans (hb7.mono z6)
    have z7 := hb07.size
    clear hb1 hb2 hb3 hb4 hb5 hb6 hb7 hb02 hb03 hb04 hb05 hb06 z2 z3 z4 z5 z6
    go_wp2_with fail
    refine (C5.out _).mono ?_
    rintro e w8 ⟨⟨v8, rfl, hown8⟩, hb8⟩
    have hb08 := hb07.trans (hb8.mono z7)
    have z8 := hb08.size
    clear hb07 hb8 z7
    by_cases he : R.2.1 = 0
    · have qe : (R.2.1 != 0) = false := by rw [he]; rfl
      have E8 := Lib.hid (HE.out.on HE.out.size hb08)
      have F8 := hown8.fldIn
      have HW8 := Lib.hid (hown8)
      clear he hown8
      go_wp2_with fail
      refine (Print_F _ R.1 _ E8.out F8 (by have := HP4.out; omega)).mono ?_
      rintro e w9 ⟨rfl, hb9⟩
      have hb09 := hb08.trans (hb9.mono z8)
      have z9 := hb09.size
      have F9 := F8.below hb9
      clear F8
      go_wp2_with fail
      refine (C7'.out _).mono ?_
      rintro e w10 ⟨⟨v10, rfl, hown10⟩, hb10⟩
      have hb010 := hb09.trans (hb10.mono z9)
      have z10 := hb010.size
      have F10 := F9.below hb10
      have G10 := hown10.fldIn
      clear F9 hown10
      go_wp2_with fail
      refine (same_yes _ _ R.1 _ G10 F10 (by have := HP4.out; have := wt_len R.1; omega)).mono ?_
      rintro e w11 ⟨rfl, hb11⟩
      have hb011 := hb010.trans (hb11.mono z10)
      have z11 := hb011.size
      have E11 := Lib.hid (HE.out.on HE.out.size hb011)
      have G11 := G10.below hb11
      clear F10 G10
      go_wp2_with fail
      refine (Print_F _ R.1 _ E11.out G11 (by have := HP4.out; omega)).mono ?_
      rintro e w12 ⟨rfl, hb12⟩
      clear G11
      go_wp2
      go_ret
      exact ⟨rfl, hb011.trans (hb12.mono z11)⟩
    · have qe : (R.2.1 != 0) = true := by simpa using he
      obtain ⟨a8, cap8, rfl⟩ := fldIn_len hown8.fldIn
      have hR1 : R.1 = [] := (HP1.out he).2.1
      rw [hR1]
      clear hown8 hR1 he
      go_wp2
      go_ret
      exact ⟨rfl, hb08⟩

set_option maxHeartbeats 16000000 in
set_option maxRecDepth 100000 in
theorem backLawSome (v : Value) (l : List Fld) (s : List UInt8) (w : World) (hE : Env w) (hv : FldIn w v l) (hm : l.length ≤ 9223372036854775807) (hlen : ∀ f ∈ l, f.1.length ≤ 9223372036854775807 ∧ f.2.length ≤ 9223372036854775807) (hs : s.length ≤ 9223372036854775807) (b o cap : Nat) (h0 : v = .slice (some ⟨b, o, none⟩) l.length cap) (h1 : l.length ≤ cap) :
    Calls Tryd.prog 6 #[v, S s] w fun e w' => e = .returned (.bool true) ∧ Below w.heap.size w w' := by
  have CW := weighs_any v l w hv hm hlen
  have hss := size_mk s
  have HE := Lib.hid hE
  have HCW := Lib.hid CW
  clear hE CW
  subst h0
  obtain ⟨kk, hkk⟩ : ∃ kk, min l.length 32 = kk := ⟨_, rfl⟩
  have hmin : min (l.length : Int) 32 = (kk : Int) := by omega
  have hk1 : (kk : Int) ≤ (l.length : Int) := by omega
  have hk2 : (kk : Int) ≤ (cap : Int) := by omega
  have hk0 : (0 : Int) ≤ (kk : Int) := by omega
  obtain ⟨few, hfew⟩ : ∃ few, l.take kk = few := ⟨_, rfl⟩
  have HFew : Hid (FldIn w (.slice (some ⟨b, o, none⟩) kk cap) few) := Lib.hid (by rw [← hfew]; exact hv.take kk (by omega))
  have HWF : Hid (wt few ≤ wt l) := Lib.hid (by rw [← hfew]; exact wt_take_le l kk)
  have HF32 : Hid (few.length ≤ 32) := Lib.hid (by rw [← hfew, List.length_take]; omega)
  clear hfew hkk hv
  go_enter Tryd.func6, Tryd.ntmps6
  go_wp2_with fail
  refine HCW.out.mono ?_
  rintro e w1 ⟨n, rfl, hn0, hn1, hnw, hb1⟩
  have HNW := Lib.hid hnw
  clear hnw
  go_wp2_with fail
  refine (addsUp_any _ _ _ hn0 (by omega)).mono ?_
  rintro e w1' ⟨rfl, rfl⟩
  have hr := addI_rng n s.length hn0 (by omega)
  by_cases hbig : addI n s.length > 2147483647
  · clear hr
    go_wp2
    go_ret
    exact ⟨rfl, hb1⟩
  · obtain ⟨hn2, hs2, _⟩ := hr.2.2 (by omega)
    have hwt : wt l ≤ 2147483647 := by have := HNW.out hn2; omega
    have hll := wt_len l
    have hbig' : addI n s.length ≤ 2147483647 := by omega
    clear hr hbig
    have hwf : wt few ≤ 2147483647 := Nat.le_trans HWF.out hwt
    have hpf := printP_le few
    have hlf := wt_len few
    have hes := esc_le s
    have CP1 := fun w => Parse_any (printP few) w (by omega)
    rw [parse_print few HF32.out] at CP1
    have C3 := Lib.hid (fun w hE => Escape_S s w hE (by omega))
    have C4 := fun w => Unescape_S (esc s) w (by omega)
    rw [rd_esc] at C4
    have C5 := Lib.hid (fun w => Parse_any s w (by omega))
    have P1 := parse_cut s
    have P2 := parse_ok_at s
    have P3 := parse_le s
    have P4 := parse_wt s
    have C7 := fun w => Parse_any (printP (parse s).1) w (by have := printP_le (parse s).1; omega)
    rw [parse_print _ P3] at C7
    obtain ⟨R, hR⟩ : ∃ R, parse s = R := ⟨_, rfl⟩
    rw [hR] at C5 P1 P2 P3 P4 C7
    obtain ⟨es, hes0⟩ : ∃ es, esc s = es := ⟨_, rfl⟩
    rw [hes0] at C3 C4
    have CP := Lib.hid CP1
    have C4' := Lib.hid C4
    have C7' := Lib.hid C7
    have HP1 := Lib.hid P1
    have HP4 := Lib.hid P4
    clear CP1 C4 C7 P1 P2 P3 P4 hR hes0 hes hpf
    have E1 := Lib.hid (HE.out.on HE.out.size hb1)
    go_wp2_with fail
    refine (awake_any _ E1.out).mono ?_
    rintro e w2 ⟨rfl, hb2⟩
    have hb02 := hb1.trans (hb2.mono hb1.size)
    have z2 := hb02.size
    have E2 := Lib.hid (HE.out.on HE.out.size hb02)
    go_wp2_with fail
    refine (Print_F _ few _ E2.out (HFew.out.below hb02) (by omega)).mono ?_
    rintro e w3 ⟨rfl, hb3⟩
    have hb03 := hb02.trans (hb3.mono z2)
    have z3 := hb03.size
    go_wp2_with fail
    refine (CP.out _).mono ?_
    rintro e w4 ⟨⟨v4, rfl, hown4⟩, hb4⟩
    have hb04 := hb03.trans (hb4.mono z3)
    have z4 := hb04.size
    go_wp2_with fail
    refine (same_yes _ _ few _ hown4.fldIn (HFew.out.below hb04) (by omega)).mono ?_
    rintro e w5 ⟨rfl, hb5⟩
    have hb05 := hb04.trans (hb5.mono z4)
    have z5 := hb05.size
    have E5 := Lib.hid (HE.out.on HE.out.size hb05)
    clear hown4
    go_wp2_with fail
    refine (C3.out _ E5.out).mono ?_
    rintro e w6 ⟨rfl, hb6⟩
    have hb06 := hb05.trans (hb6.mono z5)
    have z6 := hb06.size
    go_wp2_with fail
    refine (C4'.out _).mono ?_
    rintro e w7 ⟨rfl, hb7⟩
    have hb07 := hb06.trans (hb7.mono z6)
    have z7 := hb07.size
    clear hb1 hb2 hb3 hb4 hb5 hb6 hb7 hb02 hb03 hb04 hb05 hb06 z2 z3 z4 z5 z6
    go_wp2_with fail
    refine (C5.out _).mono ?_
    rintro e w8 ⟨⟨v8, rfl, hown8⟩, hb8⟩
    have hb08 := hb07.trans (hb8.mono z7)
    have z8 := hb08.size
    clear hb07 hb8 z7
    by_cases he : R.2.1 = 0
    · have qe : (R.2.1 != 0) = false := by rw [he]; rfl
      have E8 := Lib.hid (HE.out.on HE.out.size hb08)
      have F8 := hown8.fldIn
      have HW8 := Lib.hid (hown8)
      clear he hown8
      go_wp2_with fail
      refine (Print_F _ R.1 _ E8.out F8 (by have := HP4.out; omega)).mono ?_
      rintro e w9 ⟨rfl, hb9⟩
      have hb09 := hb08.trans (hb9.mono z8)
      have z9 := hb09.size
      have F9 := F8.below hb9
      clear F8
      go_wp2_with fail
      refine (C7'.out _).mono ?_
      rintro e w10 ⟨⟨v10, rfl, hown10⟩, hb10⟩
      have hb010 := hb09.trans (hb10.mono z9)
      have z10 := hb010.size
      have F10 := F9.below hb10
      have G10 := hown10.fldIn
      clear F9 hown10
      go_wp2_with fail
      refine (same_yes _ _ R.1 _ G10 F10 (by have := HP4.out; have := wt_len R.1; omega)).mono ?_
      rintro e w11 ⟨rfl, hb11⟩
      have hb011 := hb010.trans (hb11.mono z10)
      have z11 := hb011.size
      have E11 := Lib.hid (HE.out.on HE.out.size hb011)
      have G11 := G10.below hb11
      clear F10 G10
      go_wp2_with fail
      refine (Print_F _ R.1 _ E11.out G11 (by have := HP4.out; omega)).mono ?_
      rintro e w12 ⟨rfl, hb12⟩
      clear G11
      go_wp2
      go_ret
      exact ⟨rfl, hb011.trans (hb12.mono z11)⟩
    · have qe : (R.2.1 != 0) = true := by simpa using he
      obtain ⟨a8, cap8, rfl⟩ := fldIn_len hown8.fldIn
      have hR1 : R.1 = [] := (HP1.out he).2.1
      rw [hR1]
      clear hown8 hR1 he
      go_wp2
      go_ret
      exact ⟨rfl, hb08⟩

theorem backLaw (v : Value) (l : List Fld) (s : List UInt8) (w : World) (hE : Env w) (hv : FldIn w v l) (hm : l.length ≤ 9223372036854775807) (hlen : ∀ f ∈ l, f.1.length ≤ 9223372036854775807 ∧ f.2.length ≤ 9223372036854775807) (hs : s.length ≤ 9223372036854775807) :
    Calls Tryd.prog 6 #[v, S s] w fun e w' => e = .returned (.bool true) ∧ Below w.heap.size w w' := by
  have h := hv
  rcases h with ⟨a0, h0, h1⟩ | ⟨b, o, cap, h0, h1, _⟩
  · exact backLawNil v l s w hE hv hm hlen hs a0 h0 h1
  · exact backLawSome v l s w hE hv hm hlen hs b o cap h0 h1
end Go.Proofs.YtldhfbdljogieaaDoor
