/- Walks of the reference of layer 5, its reader, third part: the first line of an answer. -/
import Derived.Test.YtaomhkgdbobpkaaGreatDoorWiS2
import Derived.BigRegion
namespace Go.Proofs.YtaomhkgdbobpkaaGreatDoor
open Go.RowKit Wi

/-- What told leaves. -/
def TellQ (g : Nat) (m p : List UInt8) (s : List UInt8) (hv : Value) (w : World) (e : Ending) (w' : World) : Prop := ∃ st : Int, e = .returned (.bool (statusP s).isSome) ∧ (∀ x, statusP s = some x → st = (decP x : Nat)) ∧ GotAt g m p st hv w' ∧ Kept (· ≠ g) w w'
theorem TellQ.none {g : Nat} {m p s : List UInt8} {st : Int} {hv : Value} {w w' : World} (h : statusP s = none) (hg : GotAt g m p st hv w') (hk : Kept (· ≠ g) w w') : TellQ g m p s hv w (.returned (.bool false)) w' := by
  refine ⟨st, by rw [h]; rfl, fun x hx => ?_, hg, hk⟩
  rw [h] at hx
  cases hx
set_option maxHeartbeats 8000000 in
set_option maxRecDepth 100000 in
theorem gotTold_any (g : Nat) (m p : List UInt8) (st : Int) (hv : Value) (s : List UInt8) (w : World) (h : GotAt g m p st hv w) (hs : s.length ≤ 1001) :
    Calls Tryz.prog 67 #[.pointer (some ⟨g, 0, none⟩), S s] w (TellQ g m p s hv w) := by
  have hsz : (⟨s.toArray⟩ : ByteArray).size = s.length := size_mk s
  by_cases h13 : s.length < 13
  · have HZ := Lib.hid (TellQ.none (status_short h13) h (Kept.refl _ w))
    have h13' : (s.length : Int) < 13 := by omega
    clear h
    go_enter Tryz.func67, Tryz.ntmps67
    go_wp2
    go_ret
    exact HZ.out
  · obtain ⟨a, b, d1, d2, d3, e, rest, hse, ha⟩ := apart13 (s := s) (by omega)
    have hlr : s.length = rest.length + 13 := by rw [hse]; simp only [List.length_append, List.length_cons, ha]; omega
    have hl1 : rest.length ≤ 1000 := by omega
    have h13' : ¬ ((s.length : Int) < 13) := by omega
    have HR : Hid (statusP s = _) := Lib.hid ((congrArg statusP hse).trans (status_is a b d1 d2 d3 e rest ha hl1))
    have g8 : s[8]? = some b := by rw [hse, List.getElem?_append_right (by omega), ha]; rfl
    have g9 : s[9]? = some d1 := by rw [hse, List.getElem?_append_right (by omega), ha]; rfl
    have g10 : s[10]? = some d2 := by rw [hse, List.getElem?_append_right (by omega), ha]; rfl
    have g11 : s[11]? = some d3 := by rw [hse, List.getElem?_append_right (by omega), ha]; rfl
    have g12 : s[12]? = some e := by rw [hse, List.getElem?_append_right (by omega), ha]; rfl
    have I8 := run_at2 s 8 8 rfl b g8
    have I9 := run_at2 s 9 9 rfl d1 g9
    have I10 := run_at2 s 10 10 rfl d2 g10
    have I11 := run_at2 s 11 11 rfl d3 g11
    have I12 := run_at2 s 12 12 rfl e g12
    have X8 : (⟨s.toArray⟩ : ByteArray).extract 0 8 = ⟨a.toArray⟩ := by rw [extract_ba, hse, List.drop_zero, List.take_left' ha]
    have X9 : (⟨s.toArray⟩ : ByteArray).extract 9 12 = ⟨[d1, d2, d3].toArray⟩ := by
      rw [extract_ba, hse, show a ++ b :: d1 :: d2 :: d3 :: e :: rest = (a ++ [b]) ++ d1 :: d2 :: d3 :: e :: rest by simp, List.drop_left' (by simp [ha])]
      rfl
    have X13 : (⟨s.toArray⟩ : ByteArray).extract 13 s.length = ⟨rest.toArray⟩ := by
      rw [extract_ba, List.take_of_length_le (by rw [List.length_drop]; omega), hse, show a ++ b :: d1 :: d2 :: d3 :: e :: rest = (a ++ [b, d1, d2, d3, e]) ++ rest by simp, List.drop_left' (by simp [ha])]
    have E8 : ∀ h8 : 8 < (⟨s.toArray⟩ : ByteArray).size, (⟨s.toArray⟩ : ByteArray)[8]'h8 = b := fun h8 => (List.getElem?_eq_some_iff.1 g8).2
    have E9 : ∀ h8 : 9 < (⟨s.toArray⟩ : ByteArray).size, (⟨s.toArray⟩ : ByteArray)[9]'h8 = d1 := fun h8 => (List.getElem?_eq_some_iff.1 g9).2
    have E10 : ∀ h8 : 10 < (⟨s.toArray⟩ : ByteArray).size, (⟨s.toArray⟩ : ByteArray)[10]'h8 = d2 := fun h8 => (List.getElem?_eq_some_iff.1 g10).2
    have E11 : ∀ h8 : 11 < (⟨s.toArray⟩ : ByteArray).size, (⟨s.toArray⟩ : ByteArray)[11]'h8 = d3 := fun h8 => (List.getElem?_eq_some_iff.1 g11).2
    have E12 : ∀ h8 : 12 < (⟨s.toArray⟩ : ByteArray).size, (⟨s.toArray⟩ : ByteArray)[12]'h8 = e := fun h8 => (List.getElem?_eq_some_iff.1 g12).2
    have qb := byte_is b 32 32 rfl
    have qe := byte_is e 32 32 rfl
    obtain ⟨x1, hw1, hx1⟩ := wrap_u8_ex d1
    obtain ⟨x2, hw2, hx2⟩ := wrap_u8_ex d2
    obtain ⟨x3, hw3, hx3⟩ := wrap_u8_ex d3
    have HD : Hid ([d1, d2, d3].all digitP = true → decP [d1, d2, d3] = 100 * x1 + 10 * x2 + x3) := Lib.hid fun h => decP3 h hw1 hw2 hw3
    have WD := Lib.hid (fun W => within_any [d1, d2, d3] 48 57 digitP (fun c => by unfold digitP; rw [u8le, u8le]; rfl) W (by simp))
    have WR := Lib.hid (fun W => within_any rest 32 126 printedP (fun c => by unfold printedP; rw [u8le, u8le]; rfl) W (by omega))
    obtain ⟨q1, hq1⟩ : ∃ q, (a == versionL) = q := ⟨_, rfl⟩
    obtain ⟨q2, hq2⟩ : ∃ q, decide (b = 32) = q := ⟨_, rfl⟩
    obtain ⟨q3, hq3⟩ : ∃ q, decide (e = 32) = q := ⟨_, rfl⟩
    obtain ⟨q4, hq4⟩ : ∃ q, [d1, d2, d3].all digitP = q := ⟨_, rfl⟩
    obtain ⟨q5, hq5⟩ : ∃ q, rest.all printedP = q := ⟨_, rfl⟩
    have HDP : Hid (∃ D, decP [d1, d2, d3] = D ∧ (q4 = true → 100 * x1 + 10 * x2 + x3 = D)) := Lib.hid ⟨_, rfl, fun h => (HD.out (hq4.trans h)).symm⟩
    rw [hq1, hq2, hq3, hq4, hq5] at HR
    rw [hq4] at WD
    rw [hq5] at WR
    rw [hq2] at qb
    rw [hq3] at qe
    have hq1' : (a == [72, 84, 84, 80, 47, 49, 46, 49]) = q1 := hq1
    have HG := Lib.hid h
    have HN := Lib.hid (fun (h2 : statusP s = none) => TellQ.none h2 h (Kept.refl _ w))
    have ra : (a != [72, 84, 84, 80, 47, 49, 46, 49]) = !q1 := by rw [bne, hq1']
    have rb : ((b.toNat : Int) != 32) = !q2 := by rw [bne, qb]
    have re : ((e.toNat : Int) != 32) = !q3 := by rw [bne, qe]
    have hs13 : 13 ≤ s.length := by omega
    clear hlr
    clear h hq1 hq2 hq3 hq4 hq5 g8 g9 g10 g11 g12 h13 hse ha HD
    cases q1 with
    | false =>
      replace ra : (a != [72, 84, 84, 80, 47, 49, 46, 49]) = true := ra
      have HZ := Lib.hid (HN.out (by rw [HR.out, if_neg (by simp)]))
      go_enter Tryz.func67, Tryz.ntmps67
      go_wp2
      go_ret
      exact HZ.out
    | true =>
    replace ra : (a != [72, 84, 84, 80, 47, 49, 46, 49]) = false := ra
    cases q2 with
    | false =>
      replace rb : ((b.toNat : Int) != 32) = true := rb
      have HZ := Lib.hid (HN.out (by rw [HR.out, if_neg (by simp)]))
      go_enter Tryz.func67, Tryz.ntmps67
      go_wp2
      go_ret
      exact HZ.out
    | true =>
    replace rb : ((b.toNat : Int) != 32) = false := rb
    cases q3 with
    | false =>
      replace re : ((e.toNat : Int) != 32) = true := re
      have HZ := Lib.hid (HN.out (by rw [HR.out, if_neg (by simp)]))
      go_enter Tryz.func67, Tryz.ntmps67
      go_wp2
      go_ret
      exact HZ.out
    | true =>
    replace re : ((e.toNat : Int) != 32) = false := re
    clear HN
    go_enter Tryz.func67, Tryz.ntmps67
    go_wp2_with fail
    refine (WD.out _).mono ?_
    rintro e w1 ⟨rfl, hk1⟩
    have HK1 := Lib.hid hk1
    clear hk1 WD
    go_wp2_with fail
    refine (WR.out _).mono ?_
    rintro e w2 ⟨rfl, hk2⟩
    have hk := HK1.out.tr hk2
    have hg2 := HG.out.kept hk trivial
    obtain ⟨-, -, o2, -, -, -, -, -, o9⟩ := hg2.facts
    have f2 := o9 2
    obtain ⟨W, hW, hgW, hkW⟩ := hg2.setSt (100 * (x1 : Int) + 10 * (x2 : Int) + (x3 : Int))
    obtain ⟨-, -, p2, -⟩ := hgW.facts
    have HGW := Lib.hid (hgW.kept (@Kept.refl (fun _ => True) W).drew trivial)
    have HKW : Hid (Kept (· ≠ g) w W.drew) := Lib.hid ((hk.mono fun _ _ _ => trivial).tr hkW).drew
    have HNW := Lib.hid (fun (h2 : statusP s = none) => TellQ.none h2 HGW.out HKW.out)
    obtain ⟨D, hD, hDx⟩ := HDP.out
    rw [hD] at HR
    have HDD := Lib.hid hD
    clear hk2 WR hg2 hgW hkW hk o9 HK1 HDP hD
    cases q4 with
    | false =>
      have HZ := Lib.hid (HNW.out (by rw [HR.out, if_neg (by simp)]))
      clear hDx
      go_wp2
      go_region
      go_wp2
      go_ret
      exact HZ.out
    | true =>
    replace hDx := hDx rfl
    subst hDx
    cases q5 with
    | false =>
      have HZ := Lib.hid (HNW.out (by rw [HR.out, if_neg (by simp)]))
      go_wp2
      go_region
      go_wp2
      go_ret
      exact HZ.out
    | true =>
    by_cases h1 : 100 ≤ 100 * x1 + 10 * x2 + x3
    · by_cases h2 : 100 * x1 + 10 * x2 + x3 ≤ 599
      · have HRR : Hid (statusP s = some [d1, d2, d3] ∧ ((decP [d1, d2, d3] : Nat) : Int) = 100 * (x1 : Int) + 10 * (x2 : Int) + (x3 : Int)) := Lib.hid ⟨by rw [HR.out, if_pos (by rw [decide_eq_true h1, decide_eq_true h2]; rfl)], by rw [HDD.out]; omega⟩
        have k1 : (100 : Int) ≤ 100 * (x1 : Int) + 10 * (x2 : Int) + (x3 : Int) := by omega
        have k2 : 100 * (x1 : Int) + 10 * (x2 : Int) + (x3 : Int) ≤ 599 := by omega
        go_wp2
        go_region
        go_wp2
        go_ret
        refine ⟨_, by rw [HRR.out.1]; rfl, fun x hx => ?_, HGW.out, HKW.out⟩
        rw [HRR.out.1] at hx
        injection hx with hx
        rw [← hx]
        exact HRR.out.2.symm
      · have HZ := Lib.hid (HNW.out (by rw [HR.out, if_neg (by rw [decide_eq_false h2]; simp)]))
        have k1 : (100 : Int) ≤ 100 * (x1 : Int) + 10 * (x2 : Int) + (x3 : Int) := by omega
        have k2 : ¬ (100 * (x1 : Int) + 10 * (x2 : Int) + (x3 : Int) ≤ 599) := by omega
        go_wp2
        go_region
        go_wp2
        go_ret
        show TellQ g m p s hv w (.returned (.bool (decide (100 * (x1 : Int) + 10 * (x2 : Int) + (x3 : Int) ≤ 599)))) W.drew
        rw [decide_eq_false (by omega)]
        exact HZ.out
    · have HZ := Lib.hid (HNW.out (by rw [HR.out, if_neg (by rw [decide_eq_false h1]; simp)]))
      have k1 : ¬ ((100 : Int) ≤ 100 * (x1 : Int) + 10 * (x2 : Int) + (x3 : Int)) := by omega
      go_wp2
      go_region
      go_wp2
      go_ret
      exact HZ.out
end Go.Proofs.YtaomhkgdbobpkaaGreatDoor
