/- Walks of jot's parser (layer 4), lists and objects. -/
import Derived.Test.YtmajpambfblhnaaGreatDoorJoPB
import Derived.Test.YtmajpambfblhnaaGreatDoorJoKit
import Derived.Test.YtmajpambfblhnaaGreatDoorJoPlainA
import Derived.Test.YtmajpambfblhnaaGreatDoorJoVA
namespace Go.Proofs.YtmajpambfblhnaaGreatDoor
open Go.RowKit Jo

theorem OwnB.ne {g : Nat} {e : TypeId} {B : Nat} {v : Value} {l : List UInt8} {w : World} (h : OwnB e B v l w) (hg : g < B) : ∀ b, v.ownBlock = some b → b ≠ g := fun b hb => by
  have := (h.lt b hb).1; omega

set_option maxHeartbeats 8000000 in
set_option maxRecDepth 100000 in
theorem text_any (g : Nat) (s : List UInt8) (i d : Nat) (m : Option Nat) (ns : List (List UInt8)) (w : World) (hp : PA g s i d w) (hs : SeenAt m ns w) (hl : s.length ≤ 4000) (hi : i ≤ s.length) :
    Calls Tryz.prog 62 #[.pointer (some ⟨g, 0, none⟩), .map m] w (Reads g s d w (textP s ns i) fun l e _ => e = .returned (S l)) := by
  obtain ⟨R, hR⟩ : ∃ R, textP s ns i = R := ⟨_, rfl⟩
  have HR := Lib.hid hR
  rw [hR]
  clear hR
  have hgl := hp.lt
  have C := Lib.hid (want_any g s i d 34 w hp hl hi)
  have hne := hs.ne hp
  have HLT := Lib.hid hs.lt
  have HS := Lib.hid hs
  clear hp hs
  have HNE := Lib.hid hne
  clear hne
  go_enter Tryz.func62, Tryz.ntmps62
  go_wp2_with fail
  refine C.out.mono ?_
  cases hq : wantP s 34 i with
  | bad e j =>
    have HN : Hid (R = .bad e j) := Lib.hid (by rw [← HR.out, textP, hq]; rfl)
    rintro x w' ⟨rfl, hb, hk⟩
    clear hq C
    go_wp2
    rw [HN.out]
    exact ⟨rfl, rfl, hb, hk⟩
  | ok u i1 =>
    have HN : Hid (textL s ns (s.length + 1) [] i1 = R) := Lib.hid (by rw [← HR.out, textP, hq]; rfl)
    rintro x w1 ⟨rfl, hp1, hi1, hk1⟩
    have HS1 := Lib.hid (HS.out.kept hk1 HNE.out)
    clear hq C HR
    have hB := hk1.size
    go_wp2_with fail
    go_loopg [5] (s.length + 1) (fun q v wr => ∃ (acc : List UInt8) (j : Nat), OwnB 5 w.heap.size v acc wr ∧ PA g s j d wr ∧ j ≤ s.length ∧ s.length + 1 ≤ j + q ∧ acc.length ≤ 4 * j ∧ Kept (· ≠ g) w wr ∧ SeenAt m ns wr ∧ Hid (textL s ns q acc j = R))
    case atStart => exact ⟨[], i1, OwnB.nil _ _ _, hp1, hi1, by omega, by simp, hk1, HS1.out, HN⟩
    case round =>
      clear HN hp1 hi1 hk1 HS1 HS
      obtain ⟨acc, j, ho, hpj, hj, hfu, hal, hkj, hsj, HRj⟩ := hrel
      have hwr := hkj.size
      cases hc : s[j]? with
      | none =>
        obtain ⟨q, rfl⟩ : ∃ q, gk = q + 1 := ⟨gk - 1, by omega⟩
        have HN : Hid (R = .bad 40 j) := Lib.hid (by rw [← HRj.out, textL, hc])
        have C := Lib.hid (here_bad g s j d wr hc hpj hl hj)
        clear hc hpj HRj
        go_wp2_with fail
        refine C.out.mono ?_
        rintro x w' ⟨rfl, n, rfl⟩
        go_wp2
        rw [HN.out]
        exact ⟨rfl, rfl, hj, hkj.drewN _⟩
      | some c =>
        have hj1 : j + 1 ≤ s.length := (List.getElem?_eq_some_iff.1 hc).1
        obtain ⟨q, rfl⟩ : ∃ q, gk = q + 1 := ⟨gk - 1, by omega⟩
        have HQ : Hid (R = if c = 34 then (if acc ∈ ns then .bad 42 j else .ok acc (j + 1)) else if c = 92 then (escP s (j + 1)).bind fun x j => textL s ns q (acc ++ x) j else if c < 32 then .bad 40 j else (letterP s j).bind fun _ k => textL s ns q (acc ++ (s.drop j).take (k - j)) k) := Lib.hid (by rw [← HRj.out, textL, hc])
        have C := Lib.hid (here_ok g s j d wr c hc hpj hl)
        have HP := Lib.hid hpj
        have HO := Lib.hid ho
        have HSj := Lib.hid hsj
        have q34 := byte_is c 34 34 rfl
        have q92 := byte_is c 92 92 rfl
        obtain ⟨h0, h1, h2, h3, h4⟩ := hpj.facts
        clear hc HRj hpj ho hsj
        go_wp2_with fail
        refine C.out.mono ?_
        rintro x w' ⟨rfl, n, rfl⟩
        by_cases e34 : c = 34
        · rw [e34] at q34
          have hcv := (HO.out.drewN n).string (P := Tryz.prog) (src := 55) (dst := 9) (e := 5) Tryz.underlying55 Tryz.underlying5 Tryz.underlying9
          obtain ⟨z, hlk⟩ := (HSj.out.kept ((Kept.refl (· ≠ g) wr).drewN n) HNE.out).look acc (by unfold maxLen; omega)
          by_cases hmem : acc ∈ ns
          · have HN : Hid (R = .bad 42 j) := Lib.hid (by rw [HQ.out, if_pos e34, if_pos hmem])
            rw [decide_eq_true hmem] at hlk
            rw [e34]
            have q34' : (((34 : UInt8).toNat : Int) == 34) = true := rfl
            clear HQ hmem q92 C e34
            go_wp2_with fail
            refine (fail_any _ _ _ _ _ _ (HP.out.drewN _)).mono ?_
            rintro x w' ⟨rfl, rfl⟩
            go_wp2
            rw [HN.out]
            exact ⟨rfl, rfl, hj, hkj.drewN n⟩
          · have HN : Hid (R = .ok acc (j + 1)) := Lib.hid (by rw [HQ.out, if_pos e34, if_neg hmem])
            rw [decide_eq_false hmem] at hlk
            rw [e34]
            have q34' : (((34 : UInt8).toNat : Int) == 34) = true := rfl
            have hcv2 := ((HO.out.drewN n).setCell (p := ⟨g, 1, none⟩) (by simpa using hgl) (.int .i64 ((j : Int) + 1))).string (P := Tryz.prog) (src := 55) (dst := 9) (e := 5) Tryz.underlying55 Tryz.underlying5 Tryz.underlying9
            clear HQ hmem q92 C e34
            go_wp2
            go_ret
            rw [HN.out]
            exact ⟨rfl, (HP.out.drewN _).setAt _ _ rfl, hj1, (hkj.drewN n).setCell (.inr (by simp)) _⟩
        · rw [decide_eq_false e34] at q34
          by_cases e92 : c = 92
          · rw [e92] at q92
            have D := Lib.hid (escaped_any g s j d w.heap.size _ acc _ (HP.out.drewN n) (HO.out.drewN n) hgl (by show w.heap.size ≤ wr.heap.size; omega) hl hj1 (by omega))
            have HN : Hid (R = (escP s (j + 1)).bind fun x j => textL s ns q (acc ++ x) j) := Lib.hid (by rw [HQ.out, if_neg e34, if_pos e92])
            rw [e92]
            have q92' : (((92 : UInt8).toNat : Int) == 92) = true := rfl
            have q34' : (((92 : UInt8).toNat : Int) == 34) = false := rfl
            clear HQ q34 q92 C e34 e92 h0 h1 h2 h3 h4
            go_wp2_with fail
            refine D.out.mono ?_
            cases hq : escP s (j + 1) with
            | bad e k =>
              rintro x w2 ⟨rfl, hb, hk'⟩
              have HN2 : Hid (R = .bad e k) := Lib.hid (by rw [HN.out, hq]; rfl)
              clear hq D HN
              go_wp2
              rw [HN2.out]
              exact ⟨rfl, rfl, hb, (hkj.drewN n).trans hk' fun i hi ho => ⟨hi, ho⟩⟩
            | ok x k =>
              rintro _ w2 ⟨⟨v', rfl, ho2⟩, hp2, hk, hk'⟩
              have HN2 : Hid (textL s ns q (acc ++ x) k = R) := Lib.hid (by rw [HN.out, hq]; rfl)
              obtain ⟨hx1, hx2⟩ := escP_ok hq
              have HO2 := Lib.hid ho2
              have hkw : Kept (· ≠ g) w w2 := (hkj.drewN n).trans hk' fun i hi ho => ⟨hi, ho⟩
              have HS2 := Lib.hid (HSj.out.kept (((Kept.refl (fun k => k < w.heap.size ∧ k ≠ g) wr).drewN n).tr hk') fun b hb => ⟨HLT.out b hb, HNE.out b hb⟩)
              clear hq D HN ho2
              go_wp2
              go_roundg q
              case rel => exact ⟨acc ++ x, k, HO2.out, hp2, hk, by omega, by rw [List.length_append]; omega, hkw, HS2.out, HN2⟩
              case measure => omega
          · rw [decide_eq_false e92] at q92
            by_cases h32 : c.toNat < 32
            · have HN : Hid (R = .bad 40 j) := Lib.hid (by rw [HQ.out, if_neg e34, if_neg e92, if_pos (by rw [UInt8.lt_iff_toNat_lt]; exact h32)])
              have q32 : decide ((c.toNat : Int) < 32) = true := by simp; omega
              clear HQ C e34 e92
              go_wp2_with fail
              refine (fail_any _ _ _ _ _ _ (HP.out.drewN _)).mono ?_
              rintro x w' ⟨rfl, rfl⟩
              go_wp2
              rw [HN.out]
              exact ⟨rfl, rfl, hj, hkj.drewN n⟩
            · have HN : Hid (R = (letterP s j).bind fun _ k => textL s ns q (acc ++ (s.drop j).take (k - j)) k) := Lib.hid (by rw [HQ.out, if_neg e34, if_neg e92, if_neg (by rw [UInt8.lt_iff_toNat_lt]; exact h32)])
              have q32 : decide ((c.toNat : Int) < 32) = false := by simp; omega
              have D := Lib.hid (letter_any g s j d _ (HP.out.drewN n) hl hj)
              clear HQ C e34 e92
              go_wp2_with fail
              refine D.out.mono ?_
              cases hq : letterP s j with
              | bad e k =>
                rintro x w2 ⟨rfl, hb, hk'⟩
                have HN2 : Hid (R = .bad e k) := Lib.hid (by rw [HN.out, hq]; rfl)
                clear hq D HN
                go_wp2
                rw [HN2.out]
                exact ⟨rfl, rfl, hb, (hkj.drewN n).tr hk'⟩
              | ok u k =>
                rintro _ w2 ⟨rfl, hp2, hk, hk'⟩
                have HN2 : Hid (textL s ns q (acc ++ (s.drop j).take (k - j)) k = R) := Lib.hid (by rw [HN.out, hq]; rfl)
                obtain ⟨hx1, hx2, hx3⟩ := letterP_ok hq
                have HO2 := Lib.hid ((HO.out.drewN n).kept hk' (HO.out.ne hgl))
                have hkw : Kept (· ≠ g) w w2 := (hkj.drewN n).tr hk'
                have HS2 := Lib.hid (HSj.out.kept (((Kept.refl (· ≠ g) wr).drewN n).tr hk') HNE.out)
                have HP2 := Lib.hid hp2
                obtain ⟨g0, g1, g2, g3, g4⟩ := hp2.facts
                have hw2 := hkw.size
                clear hq D HN hp2 h0 h1 h2 h3 h4
                go_wp2_with fail
                have hjk : j ≤ k := by omega
                go_region_law (refine step_pushS 55 9 5 Tryz.underlying55 Tryz.underlying9 infoByte rfl (.tmp 20) (.tmp 30) rfl w.heap.size acc _ ((s.drop j).take (k - j)) rfl (extract_mk s j k) HO2.out (by rw [List.length_take, List.length_drop]; omega) hw2 ?_; intro v' w' k1 k2)
                all_goals
                  replace k2 : Below w.heap.size w2 w' := ((Below.refl _ w2).drew).trans k2
                  have hkk : Kept (· ≠ g) w w' := hkw.trans (Below.kept (g := g) k2) fun i hi ho => ⟨hi, ho⟩
                  have HS3 := Lib.hid (HS2.out.kept (Below.kept (g := g) k2) fun b hb => ⟨HLT.out b hb, HNE.out b hb⟩)
                  have HP3 := Lib.hid (HP2.out.kept (ok := fun k => k < w.heap.size) ⟨k2.os, k2.tape, k2.output, k2.size, fun i _ ho => k2.block i ho⟩ hgl)
                  have HO3 := Lib.hid k1
                  clear k1 k2
                  go_wp2
                  go_roundg q
                  case rel => exact ⟨_, k, HO3.out, HP3.out, hk, by omega, by rw [List.length_append, List.length_take, List.length_drop]; omega, hkk, HS3.out, HN2⟩
                  case measure => omega
end Go.Proofs.YtmajpambfblhnaaGreatDoor

namespace Go.Proofs.YtmajpambfblhnaaGreatDoor
open Go.RowKit Jo

set_option maxHeartbeats 1000000 in
theorem open_deep (g : Nat) (s : List UInt8) (i : Nat) (w : World) (hp : PA g s i 16 w) :
    Calls Tryz.prog 86 #[.pointer (some ⟨g, 0, none⟩)] w fun e w' => e = gaveUp 41 i ∧ w' = w := by
  obtain ⟨h0, h1, h2, h3, h4⟩ := hp.facts
  have HP := Lib.hid hp
  clear hp
  go_enter Tryz.func86, Tryz.ntmps86
  go_wp2_with fail
  refine (fail_any _ _ _ _ _ _ HP.out).mono ?_
  rintro x w' ⟨rfl, rfl⟩
  go_wp2
  exact ⟨rfl, rfl, rfl⟩

set_option maxHeartbeats 1000000 in
theorem open_any (g : Nat) (s : List UInt8) (i d : Nat) (w : World) (hp : PA g s i d w) (hd : d < 16) (hi : i < s.length) (hl : s.length ≤ 4000) :
    Calls Tryz.prog 86 #[.pointer (some ⟨g, 0, none⟩)] w fun e w' => e = .returned (.tuple #[]) ∧ PA g s (bl s (i + 1)) (d + 1) w' ∧ bl s (i + 1) ≤ s.length ∧ Kept (· ≠ g) w w' := by
  obtain ⟨h0, h1, h2, h3, h4⟩ := hp.facts
  have q : ((d : Int) == 16) = false := by simp; omega
  have HP := Lib.hid ((hp.setDeep (d + 1) (.int .i64 ((d : Int) + 1)) (by congr 1)).setAt (i + 1) (.int .i64 ((i : Int) + 1)) (by congr 1))
  have HK := Lib.hid (((Kept.refl (· ≠ g) w).setCell (p := ⟨g, 2, none⟩) (.inr (by simp)) (.int .i64 ((d : Int) + 1))).setCell (p := ⟨g, 1, none⟩) (.inr (by simp)) (.int .i64 ((i : Int) + 1)))
  clear hp
  go_enter Tryz.func86, Tryz.ntmps86
  go_wp2_with fail
  refine (blanks_any _ _ _ _ _ HP.out hl (by omega)).mono ?_
  rintro x w' ⟨rfl, hp', hb, hk⟩
  go_wp2
  go_end0
  exact ⟨rfl, hp', hb, HK.out.tr hk⟩

/-- Where no byte stands there. -/
theorem empty_none (g : Nat) (s : List UInt8) (i d : Nat) (c : UInt8) (w : World) (hp : PA g s i d w) (hl : s.length ≤ 4000) (hi : i ≤ s.length) (hc : s[i]? = none) :
    Calls Tryz.prog 87 #[.pointer (some ⟨g, 0, none⟩), .int .u8 c.toNat] w fun e w' => e = gaveUp 40 i ∧ Kept (· ≠ g) w w' := by
  have C := Lib.hid (here_bad g s i d w hc hp hl hi)
  clear hc hp
  go_enter Tryz.func87, Tryz.ntmps87
  go_wp2_with fail
  refine C.out.mono ?_
  rintro x w' ⟨rfl, n, rfl⟩
  go_wp2
  exact ⟨rfl, rfl, (Kept.refl _ w).drewN n⟩
theorem empty_no (g : Nat) (s : List UInt8) (i d : Nat) (c b : UInt8) (w : World) (hp : PA g s i d w) (hl : s.length ≤ 4000) (hc : s[i]? = some b) (hbc : b ≠ c) :
    Calls Tryz.prog 87 #[.pointer (some ⟨g, 0, none⟩), .int .u8 c.toNat] w fun e w' => e = .returned (.bool false) ∧ ∃ n, w' = w.drewN n := by
  have C := Lib.hid (here_ok g s i d w b hc hp hl)
  have q : ((b.toNat : Int) != (c.toNat : Int)) = true := by
    simp only [bne_iff_ne, ne_eq]
    intro e
    exact hbc (UInt8.toNat_inj.1 (by omega))
  clear hc hp hbc
  go_enter Tryz.func87, Tryz.ntmps87
  go_wp2_with fail
  refine C.out.mono ?_
  rintro x w' ⟨rfl, n, rfl⟩
  go_wp2
  go_ret
  exact ⟨rfl, n, rfl⟩
set_option maxHeartbeats 1000000 in
theorem empty_yes (g : Nat) (s : List UInt8) (i d : Nat) (c : UInt8) (w : World) (hp : PA g s i (d + 1) w) (hl : s.length ≤ 4000) (hd : d < 16) (hc : s[i]? = some c) :
    Calls Tryz.prog 87 #[.pointer (some ⟨g, 0, none⟩), .int .u8 c.toNat] w fun e w' => e = .returned (.bool true) ∧ PA g s (i + 1) d w' ∧ i + 1 ≤ s.length ∧ Kept (· ≠ g) w w' := by
  have C := Lib.hid (here_ok g s i (d + 1) w c hc hp hl)
  have hi1 : i + 1 ≤ s.length := (List.getElem?_eq_some_iff.1 hc).1
  have q : ((c.toNat : Int) != (c.toNat : Int)) = false := by simp
  obtain ⟨h0, h1, h2, h3, h4⟩ := hp.facts
  have e2 : ((d + 1 : Nat) : Int) = (d : Int) + 1 := by omega
  rw [e2] at h2
  have HP := Lib.hid hp
  clear hc hp e2
  go_enter Tryz.func87, Tryz.ntmps87
  go_wp2_with fail
  refine C.out.mono ?_
  rintro x w' ⟨rfl, n, rfl⟩
  go_wp2
  go_ret
  exact ⟨rfl, ((HP.out.drewN n).setAt (i + 1) _ (by congr 1)).setDeep d _ (by congr 1), hi1, (((Kept.refl _ w).drewN n).setCell (.inr (by simp)) _).setCell (.inr (by simp)) _⟩

/-- What 'more' finds: at the place behind the blanks. -/
theorem more_bad (g : Nat) (s : List UInt8) (i d : Nat) (c : UInt8) (w : World) (hp : PA g s i d w) (hl : s.length ≤ 4000) (hi : i ≤ s.length) (h44 : s[bl s i]? ≠ some 44) (hc : s[bl s i]? ≠ some c) :
    Calls Tryz.prog 88 #[.pointer (some ⟨g, 0, none⟩), .int .u8 c.toNat] w fun e w' => e = gaveUp 40 (bl s i) ∧ Kept (· ≠ g) w w' := by
  have B := Lib.hid (blanks_any g s i d w hp hl hi)
  clear hp
  cases hs : s[bl s i]? with
  | none =>
    have C := Lib.hid (fun w h1 h2 => here_bad g s (bl s i) d w hs h1 hl h2)
    clear hs h44 hc
    go_enter Tryz.func88, Tryz.ntmps88
    go_wp2_with fail
    refine B.out.mono ?_
    rintro x w1 ⟨rfl, hp1, hb1, hk1⟩
    go_wp2_with fail
    refine (C.out _ hp1 hb1).mono ?_
    rintro x w' ⟨rfl, n, rfl⟩
    go_wp2
    exact ⟨rfl, rfl, hk1.drewN n⟩
  | some b =>
    have C := Lib.hid (fun w h1 => here_ok g s (bl s i) d w b hs h1 hl)
    have q44 := byte_is b 44 44 rfl
    rw [decide_eq_false (fun e => h44 (by rw [hs, e]))] at q44
    have q : ((b.toNat : Int) == (c.toNat : Int)) = false := by
      rw [byte_is b c.toNat c rfl, decide_eq_false (fun e => hc (by rw [hs, e]))]
    clear hs h44 hc
    go_enter Tryz.func88, Tryz.ntmps88
    go_wp2_with fail
    refine B.out.mono ?_
    rintro x w1 ⟨rfl, hp1, hb1, hk1⟩
    go_wp2_with fail
    refine (C.out _ hp1).mono ?_
    rintro x w' ⟨rfl, n, rfl⟩
    go_wp2_with fail
    refine (fail_any _ _ _ _ _ _ (hp1.drewN _)).mono ?_
    rintro x w' ⟨rfl, rfl⟩
    go_wp2
    exact ⟨rfl, rfl, hk1.drewN n⟩
set_option maxHeartbeats 1000000 in
theorem more_comma (g : Nat) (s : List UInt8) (i d : Nat) (c : UInt8) (w : World) (hp : PA g s i d w) (hl : s.length ≤ 4000) (hi : i ≤ s.length) (h44 : s[bl s i]? = some 44) :
    Calls Tryz.prog 88 #[.pointer (some ⟨g, 0, none⟩), .int .u8 c.toNat] w fun e w' => e = .returned (.bool true) ∧ PA g s (bl s i + 1) d w' ∧ bl s i + 1 ≤ s.length ∧ Kept (· ≠ g) w w' := by
  have B := Lib.hid (blanks_any g s i d w hp hl hi)
  have C := Lib.hid (fun w h1 => here_ok g s (bl s i) d w 44 h44 h1 hl)
  have hi1 : bl s i + 1 ≤ s.length := (List.getElem?_eq_some_iff.1 h44).1
  obtain ⟨k, hk⟩ : ∃ k, bl s i = k := ⟨_, rfl⟩
  rw [hk] at B C hi1 ⊢
  clear hp h44 hk
  go_enter Tryz.func88, Tryz.ntmps88
  go_wp2_with fail
  refine B.out.mono ?_
  rintro x w1 ⟨rfl, hp1, hb1, hk1⟩
  have HP := Lib.hid hp1
  obtain ⟨h0, h1, h2, h3, h4⟩ := hp1.facts
  go_wp2_with fail
  refine (C.out _ hp1).mono ?_
  rintro x w' ⟨rfl, n, rfl⟩
  clear hp1
  go_wp2
  go_ret
  exact ⟨rfl, (HP.out.drewN n).setAt _ _ rfl, hi1, (hk1.drewN n).setCell (.inr (by simp)) _⟩
set_option maxHeartbeats 1000000 in
theorem more_end (g : Nat) (s : List UInt8) (i d : Nat) (c : UInt8) (w : World) (hp : PA g s i (d + 1) w) (hl : s.length ≤ 4000) (hi : i ≤ s.length) (hd : d < 16) (hc : s[bl s i]? = some c) (h44 : c ≠ 44) :
    Calls Tryz.prog 88 #[.pointer (some ⟨g, 0, none⟩), .int .u8 c.toNat] w fun e w' => e = .returned (.bool false) ∧ PA g s (bl s i + 1) d w' ∧ bl s i + 1 ≤ s.length ∧ Kept (· ≠ g) w w' := by
  have B := Lib.hid (blanks_any g s i (d + 1) w hp hl hi)
  have C := Lib.hid (fun w h1 => here_ok g s (bl s i) (d + 1) w c hc h1 hl)
  have hi1 : bl s i + 1 ≤ s.length := (List.getElem?_eq_some_iff.1 hc).1
  obtain ⟨k, hk⟩ : ∃ k, bl s i = k := ⟨_, rfl⟩
  rw [hk] at B C hi1 ⊢
  have q44 := byte_is c 44 44 rfl
  rw [decide_eq_false h44] at q44
  have q : ((c.toNat : Int) == (c.toNat : Int)) = true := by simp
  clear hp hc hk h44
  go_enter Tryz.func88, Tryz.ntmps88
  go_wp2_with fail
  refine B.out.mono ?_
  rintro x w1 ⟨rfl, hp1, hb1, hk1⟩
  have HP := Lib.hid hp1
  obtain ⟨h0, h1, h2, h3, h4⟩ := hp1.facts
  have e2 : ((d + 1 : Nat) : Int) = (d : Int) + 1 := by omega
  rw [e2] at h2
  clear e2
  go_wp2_with fail
  refine (C.out _ hp1).mono ?_
  rintro x w' ⟨rfl, n, rfl⟩
  clear hp1
  go_wp2
  go_ret
  exact ⟨rfl, ((HP.out.drewN n).setAt (k + 1) _ (by congr 1)).setDeep d _ (by congr 1), hi1, ((hk1.drewN n).setCell (.inr (by simp)) _).setCell (.inr (by simp)) _⟩
end Go.Proofs.YtmajpambfblhnaaGreatDoor

namespace Go.Proofs.YtmajpambfblhnaaGreatDoor
open Go.RowKit Jo

/-- A value of the call's own: what it reaches lies in blocks that the call has made. -/
def ValQ (w : World) (x : J) (e : Ending) (w' : World) : Prop := ∃ u, e = .returned u ∧ VIn (fun b => w.heap.size ≤ b) w' x u
/-- The contract of 'value', where k lists and objects more may be opened. -/
def ValC (g : Nat) (s : List UInt8) (d k : Nat) : Prop := ∀ (i : Nat) (w : World), PA g s i d w → i ≤ s.length →
  Calls Tryz.prog 37 #[.pointer (some ⟨g, 0, none⟩)] w (Reads g s d w (valP s k i) (ValQ w))

set_option maxHeartbeats 8000000 in
set_option maxRecDepth 100000 in
theorem list_any (g : Nat) (s : List UInt8) (i d k : Nat) (hv : ValC g s (d + 1) k) (w : World) (hp : PA g s i d w) (hd : d < 16) (hi : i < s.length) (hl : s.length ≤ 4000) :
    Calls Tryz.prog 63 #[.pointer (some ⟨g, 0, none⟩)] w (Reads g s d w (listP s (valP s k) i) fun xs e w' => ValQ w (J.list xs) e w') := by
  obtain ⟨R, hR⟩ : ∃ R, listP s (valP s k) i = R := ⟨_, rfl⟩
  have HR := Lib.hid hR
  rw [hR]
  clear hR
  have HV := Lib.hid hv
  clear hv
  have hgl := hp.lt
  have O := Lib.hid (open_any g s i d w hp hd hi hl)
  clear hp
  go_enter Tryz.func63, Tryz.ntmps63
  go_wp2_with fail
  refine O.out.mono ?_
  rintro x w1 ⟨rfl, hp1, hb1, hk1⟩
  cases hc : s[bl s (i + 1)]? with
  | none =>
    have HN : Hid (R = .bad 40 (bl s (i + 1))) := Lib.hid (by rw [← HR.out, listP, hc])
    have E := Lib.hid (empty_none g s (bl s (i + 1)) (d + 1) 93 w1 hp1 hl hb1 hc)
    clear hc hp1
    go_wp2_with fail
    refine E.out.mono ?_
    rintro x w' ⟨rfl, hk⟩
    go_wp2
    rw [HN.out]
    exact ⟨rfl, rfl, hb1, hk1.tr hk⟩
  | some c =>
    by_cases h93 : c = 93
    · subst h93
      have HN : Hid (R = .ok [] (bl s (i + 1) + 1)) := Lib.hid (by rw [← HR.out, listP, hc]; rfl)
      have E := Lib.hid (empty_yes g s (bl s (i + 1)) d 93 w1 hp1 hl hd hc)
      clear hc hp1
      go_wp2_with fail
      refine E.out.mono ?_
      rintro x w' ⟨rfl, hp', hb, hk⟩
      go_wp2
      go_ret
      rw [HN.out]
      exact ⟨⟨_, rfl, .list [] _ (fun _ => .nilIface) (by simp) (.inl ⟨rfl, rfl⟩) (fun j x h => by simp at h)⟩, hp', hb, hk1.tr hk⟩
    · have HN : Hid (listL s (valP s k) (s.length + 1) [] (bl s (i + 1)) = R) := Lib.hid (by rw [← HR.out, listP, hc]; simp only [if_neg h93])
      have E := Lib.hid (empty_no g s (bl s (i + 1)) (d + 1) 93 c w1 hp1 hl hc h93)
      obtain ⟨i1, hi1⟩ : ∃ i1, bl s (i + 1) = i1 := ⟨_, rfl⟩
      rw [hi1] at HN hb1 hp1
      have hil : 1 ≤ i1 := by have := bl_le s (i + 1); omega
      clear hc h93 hi1 HR O
      go_wp2_with fail
      refine E.out.mono ?_
      rintro x w' ⟨rfl, n, rfl⟩
      have hB := hk1.size
      go_wp2_with fail
      go_loopg [3, 4] (s.length + 2) (fun q v mo wr => ∃ (acc : List J) (j : Nat) (t : Bool), mo = .bool t ∧ OwnV w.heap.size v acc wr ∧ Kept (· ≠ g) w wr ∧ j ≤ s.length ∧ acc.length ≤ j ∧
        Hid ((t = true ∧ PA g s j (d + 1) wr ∧ ∃ f, q = f + 1 ∧ s.length + 1 ≤ j + f ∧ listL s (valP s k) f acc j = R) ∨ (t = false ∧ PA g s j d wr ∧ R = .ok acc j)))
      case atStart => exact ⟨[], i1, true, rfl, OwnV.nil _ _, hk1.drewN n, hb1, by simp, Lib.hid (.inl ⟨rfl, hp1.drewN n, _, rfl, by omega, HN.out⟩)⟩
      case round =>
        clear HN E hp1 hk1
        obtain ⟨acc, j, t, rfl, ho, hk, hj, hal, H⟩ := hrel
        have HO := Lib.hid ho
        clear ho
        cases t with
        | false =>
          obtain ⟨hp', hR⟩ : PA g s j d wr ∧ R = .ok acc j := by
            rcases H.out with h | h
            · cases h.1
            · exact h.2
          have HN := Lib.hid hR
          have HP := Lib.hid hp'
          clear hR hp' H
          go_wp2
          go_ret
          rw [HN.out]
          refine ⟨⟨_, rfl, ?_⟩, HP.out, hj, hk⟩
          obtain ⟨us, e1, e2, e3⟩ := HO.out
          refine .list acc _ (fun j => us.getD j .nilIface) (by omega) ?_ (fun j x hx => (e3 j x hx).mono fun b _ hb => hb.1)
          rcases e2.2 with ⟨e4, e5⟩ | ⟨b, cap, cur, e4, e5, e6, e7, e8, e9, e10⟩
          · exact .inl ⟨e4, e5⟩
          · refine .inr ⟨b, cap, e4, e7, e5, (Array.getElem?_eq_some_iff.1 e6).1, fun j hj => ?_⟩
            have := e2.cells (g := b) (by rw [e4]; rfl) j (us.getD j .nilIface) (by rw [List.getD_eq_getElem?_getD, List.getElem?_eq_getElem (by omega)]; rfl)
            rwa [show (⟨b, 0, none⟩ : Addr).add j = ⟨b, j, none⟩ from by unfold Addr.add; split <;> simp_all] at this
        | true =>
          obtain ⟨hp', f, rfl, hfu, hR⟩ : PA g s j (d + 1) wr ∧ ∃ f, gk = f + 1 ∧ s.length + 1 ≤ j + f ∧ listL s (valP s k) f acc j = R := by
            rcases H.out with h | h
            · exact h.2
            · cases h.1
          clear H
          obtain ⟨q, rfl⟩ : ∃ q, f = q + 1 := ⟨f - 1, by omega⟩
          have V := Lib.hid (HV.out j wr hp' hj)
          have hwr := hk.size
          cases hx : valP s k j with
          | bad e j' =>
            have HN : Hid (R = .bad e j') := Lib.hid (by rw [← hR, listL, hx]; rfl)
            rw [hx] at V
            clear hx hR hp'
            go_wp2_with fail
            refine V.out.mono ?_
            rintro x w' ⟨rfl, hb, hk'⟩
            go_wp2
            rw [HN.out]
            exact ⟨rfl, rfl, hb, hk.tr hk'⟩
          | ok x j1 =>
            have hjj := valP_le hx
            have HQ : Hid (R = match s[bl s j1]? with
              | none => .bad 40 (bl s j1)
              | some c => if c = 44 then listL s (valP s k) q (acc ++ [x]) (bl s j1 + 1) else if c = 93 then .ok (acc ++ [x]) (bl s j1 + 1) else .bad 40 (bl s j1)) := Lib.hid (by rw [← hR, listL, hx]; rfl)
            rw [hx] at V
            clear hx hR hp'
            go_wp2_with fail
            refine V.out.mono ?_
            rintro _ w2 ⟨⟨u, rfl, hu⟩, hp2, hj1, hk2⟩
            obtain ⟨ut, uv, rfl⟩ := hu.face
            have hwk : Kept (· ≠ g) w w2 := hk.tr hk2
            have HO2 := Lib.hid (HO.out.kept hk2 hgl)
            have HU : Hid (VIn (fun b => w.heap.size ≤ b ∧ some b ≠ _) w2 x (.iface ut uv)) := Lib.hid (hu.mono fun b hb hw => ⟨by omega, fun e => by
              obtain ⟨us, _, e2, _⟩ := HO.out
              have := (e2.lt b e.symm).2
              omega⟩)
            have hz2 := hk2.size
            have hz3 := hwk.size
            clear hu V HO
            obtain ⟨us, e1, e2, e3⟩ := HO2.out
            have HE2 := Lib.hid e2
            have HE3 := Lib.hid e3
            have HP2 := Lib.hid hp2
            clear e2 e3 hp2
            go_wp2_with (at_builtin; refine wpList_pushOne 89 57 Tryz.underlying89 infoValue rfl (by decide) rfl _ _ rfl w.heap.size _ acc.length us [.iface ut uv] w2 _ rfl rfl rfl (by intro y hy; simp at hy; subst hy; rfl) 1 _ rfl rfl rfl HE2.out (by omega) (by decide) (by omega) ?_)
            intro v' w3 k1 k2 k3
            have HO3 := Lib.hid (ownV_push e1 HE3.out HU.out k1 k3)
            have hwk3 : Kept (· ≠ g) w w3 := hwk.trans (Below.kept (g := g) k2) fun i hi ho => ⟨hi, ho⟩
            have HP3 := Lib.hid (HP2.out.kept (Below.kept (g := w.heap.size) k2) ⟨hgl, by omega⟩)
            have hz4 := k2.size
            clear k1 k2 k3 HE2 HE3 HO2 HU
            by_cases h44 : s[bl s j1]? = some 44
            · have HN : Hid (listL s (valP s k) q (acc ++ [x]) (bl s j1 + 1) = R) := Lib.hid (by rw [HQ.out, h44]; rfl)
              have M := Lib.hid (more_comma g s j1 (d + 1) 93 w3 HP3.out hl hj1 h44)
              clear h44 HQ HP3
              have hbj := bl_le s j1
              go_wp2_with fail
              refine M.out.mono ?_
              rintro _ w4 ⟨rfl, hp4, hb4, hk4⟩
              have HO4 := Lib.hid (HO3.out.kept hk4 hgl)
              clear HO3
              go_wp2
              go_roundg (q + 1)
              case rel => exact ⟨acc ++ [x], bl s j1 + 1, true, rfl, HO4.out, hwk3.tr hk4, hb4, by rw [List.length_append, List.length_singleton]; omega, Lib.hid (.inl ⟨rfl, hp4, q, rfl, by omega, HN.out⟩)⟩
              case measure => omega
            · by_cases h93 : s[bl s j1]? = some 93
              · have HN : Hid (R = .ok (acc ++ [x]) (bl s j1 + 1)) := Lib.hid (by rw [HQ.out, h93]; rfl)
                have M := Lib.hid (more_end g s j1 d 93 w3 HP3.out hl hj1 hd h93 (by decide))
                clear h44 h93 HQ HP3
                have hbj := bl_le s j1
                go_wp2_with fail
                refine M.out.mono ?_
                rintro _ w4 ⟨rfl, hp4, hb4, hk4⟩
                have HO4 := Lib.hid (HO3.out.kept hk4 hgl)
                clear HO3
                go_wp2
                go_roundg q
                case rel => exact ⟨acc ++ [x], bl s j1 + 1, false, rfl, HO4.out, hwk3.tr hk4, hb4, by rw [List.length_append, List.length_singleton]; omega, Lib.hid (.inr ⟨rfl, hp4, HN.out⟩)⟩
                case measure => omega
              · have HN : Hid (R = .bad 40 (bl s j1)) := Lib.hid (by
                  rw [HQ.out]
                  cases h : s[bl s j1]? with
                  | none => rfl
                  | some c =>
                    simp only
                    rw [if_neg (fun e => h44 (by rw [h, e])), if_neg (fun e => h93 (by rw [h, e]))])
                have M := Lib.hid (more_bad g s j1 (d + 1) 93 w3 HP3.out hl hj1 h44 h93)
                clear h44 h93 HQ HP3
                have hbm := bl_max s j1 hj1
                go_wp2_with fail
                refine M.out.mono ?_
                rintro _ w4 ⟨rfl, hk4⟩
                go_wp2
                rw [HN.out]
                exact ⟨rfl, rfl, hbm, hwk3.tr hk4⟩
end Go.Proofs.YtmajpambfblhnaaGreatDoor

namespace Go.Proofs.YtmajpambfblhnaaGreatDoor
open Go.RowKit Jo

theorem list_deep (g : Nat) (s : List UInt8) (i : Nat) (w : World) (hp : PA g s i 16 w) (hi : i < s.length) (Q : List J → Ending → World → Prop) :
    Calls Tryz.prog 63 #[.pointer (some ⟨g, 0, none⟩)] w (Reads g s 16 w (.bad 41 i) Q) := by
  have O := Lib.hid (open_deep g s i w hp)
  clear hp
  go_enter Tryz.func63, Tryz.ntmps63
  go_wp2_with fail
  refine O.out.mono ?_
  rintro x w1 ⟨rfl, rfl⟩
  go_wp2
  exact ⟨rfl, rfl, by omega, Kept.refl _ _⟩
theorem object_deep (g : Nat) (s : List UInt8) (i : Nat) (w : World) (hp : PA g s i 16 w) (hi : i < s.length) (Q : List (List UInt8 × J) → Ending → World → Prop) :
    Calls Tryz.prog 64 #[.pointer (some ⟨g, 0, none⟩)] w (Reads g s 16 w (.bad 41 i) Q) := by
  have O := Lib.hid (open_deep g s i w hp)
  clear hp
  go_enter Tryz.func64, Tryz.ntmps64
  go_wp2_with fail
  refine O.out.mono ?_
  rintro x w1 ⟨rfl, rfl⟩
  go_wp2
  exact ⟨rfl, rfl, by omega, Kept.refl _ _⟩

/-- The contract of 'list' and of 'object' that 'value' leans on. -/
def ListC (g : Nat) (s : List UInt8) (d : Nat) (L : Nat → PR (List J)) : Prop := ∀ (i : Nat) (w : World), PA g s i d w → i < s.length →
  Calls Tryz.prog 63 #[.pointer (some ⟨g, 0, none⟩)] w (Reads g s d w (L i) fun xs e w' => ValQ w (J.list xs) e w')
def ObjC (g : Nat) (s : List UInt8) (d : Nat) (O : Nat → PR (List (List UInt8 × J))) : Prop := ∀ (i : Nat) (w : World), PA g s i d w → i < s.length →
  Calls Tryz.prog 64 #[.pointer (some ⟨g, 0, none⟩)] w (Reads g s d w (O i) fun ms e w' => ValQ w (J.obj (sortM ms)) e w')

set_option maxHeartbeats 8000000 in
set_option maxRecDepth 100000 in
theorem value_step (g : Nat) (s : List UInt8) (d : Nat) (L : Nat → PR (List J)) (O : Nat → PR (List (List UInt8 × J))) (hL : ListC g s d L) (hO : ObjC g s d O) (i : Nat) (w : World) (hp : PA g s i d w) (hi : i ≤ s.length) (hl : s.length ≤ 4000) :
    Calls Tryz.prog 37 #[.pointer (some ⟨g, 0, none⟩)] w (Reads g s d w (valQ s L O (bl s i)) (ValQ w)) := by
  obtain ⟨R, hR⟩ : ∃ R, valQ s L O (bl s i) = R := ⟨_, rfl⟩
  have HR := Lib.hid hR
  rw [hR]
  clear hR
  have HL := Lib.hid hL
  have HO := Lib.hid hO
  have hgl := hp.lt
  have B := Lib.hid (blanks_any g s i d w hp hl hi)
  clear hL hO hp
  obtain ⟨j, hj⟩ : ∃ j, bl s i = j := ⟨_, rfl⟩
  rw [hj] at B HR
  clear hj
  cases hc : s[j]? with
  | none =>
    have HN : Hid (R = .bad 40 j) := Lib.hid (by rw [← HR.out, valQ, hc])
    have C := Lib.hid (fun w h1 h2 => here_bad g s j d w hc h1 hl h2)
    clear hc
    go_enter Tryz.func37, Tryz.ntmps37
    go_wp2_with fail
    refine B.out.mono ?_
    rintro x w1 ⟨rfl, hp1, hb1, hk1⟩
    go_wp2_with fail
    refine (C.out _ hp1 hb1).mono ?_
    rintro x w' ⟨rfl, n, rfl⟩
    go_wp2
    rw [HN.out]
    exact ⟨rfl, rfl, hb1, hk1.drewN _⟩
  | some c =>
    have hjl : j < s.length := (List.getElem?_eq_some_iff.1 hc).1
    have C := Lib.hid (fun w h1 => here_ok g s j d w c hc h1 hl)
    have HQ : Hid (R = if c = 110 then (wordP s [110, 117, 108, 108] j).bind fun _ i => .ok J.null i
      else if c = 102 then (wordP s [102, 97, 108, 115, 101] j).bind fun _ i => .ok J.fls i
      else if c = 116 then (wordP s [116, 114, 117, 101] j).bind fun _ i => .ok J.tru i
      else if c = 34 then (textP s [] j).bind fun t i => .ok (J.tx t) i
      else if c = 91 then (L j).bind fun xs i => .ok (J.list xs) i
      else if c = 123 then (O j).bind fun ms i => .ok (J.obj (sortM ms)) i
      else (numP s j).bind fun n i => .ok (J.nr n) i) := Lib.hid (by rw [← HR.out, valQ, hc])
    have q110 := byte_is c 110 110 rfl
    have q102 := byte_is c 102 102 rfl
    have q116 := byte_is c 116 116 rfl
    have q34 := byte_is c 34 34 rfl
    have q91 := byte_is c 91 91 rfl
    have q123 := byte_is c 123 123 rfl
    clear hc HR
    by_cases e110 : c = 110
    · have HN : Hid (R = (wordP s [110, 117, 108, 108] j).bind fun _ i => .ok J.null i) := Lib.hid (by rw [HQ.out]; simp [e110])
      rw [decide_eq_true (by exact e110)] at q110
      rw [decide_eq_false (by rw [e110]; decide)] at q102
      rw [decide_eq_false (by rw [e110]; decide)] at q116
      rw [decide_eq_false (by rw [e110]; decide)] at q34
      rw [decide_eq_false (by rw [e110]; decide)] at q91
      rw [decide_eq_false (by rw [e110]; decide)] at q123
      clear HQ e110
      go_enter Tryz.func37, Tryz.ntmps37
      go_wp2_with fail
      refine B.out.mono ?_
      rintro x w1 ⟨rfl, hp1, hb1, hk1⟩
      go_wp2_with fail
      refine (C.out _ hp1).mono ?_
      rintro x w' ⟨rfl, n, rfl⟩
      have D := Lib.hid (word_any g s [110, 117, 108, 108] j d _ (hp1.drewN n) hl (by simp) hb1)
      go_wp2_with fail
      refine D.out.mono ?_
      clear D
      cases hq : (wordP s [110, 117, 108, 108] j) with
      | bad e k =>
        have HN2 : Hid (R = .bad e k) := Lib.hid (by rw [HN.out, hq]; rfl)
        rintro x w2 ⟨rfl, hb, hk⟩
        clear hq HN
        go_wp2
        rw [HN2.out]
        exact ⟨rfl, rfl, hb, (hk1.drewN n).tr hk⟩
      | ok u k =>
        have HN2 : Hid (R = .ok (J.null) k) := Lib.hid (by rw [HN.out, hq]; rfl)
        rintro x w2 ⟨rfl, hp2, hb, hk⟩
        clear hq HN
        go_wp2
        go_ret
        rw [HN2.out]
        exact ⟨⟨_, rfl, .null⟩, hp2, hb, (hk1.drewN n).tr hk⟩
    by_cases e102 : c = 102
    · have HN : Hid (R = (wordP s [102, 97, 108, 115, 101] j).bind fun _ i => .ok J.fls i) := Lib.hid (by rw [HQ.out]; simp [e102])
      rw [decide_eq_false (by rw [e102]; decide)] at q110
      rw [decide_eq_true (by exact e102)] at q102
      rw [decide_eq_false (by rw [e102]; decide)] at q116
      rw [decide_eq_false (by rw [e102]; decide)] at q34
      rw [decide_eq_false (by rw [e102]; decide)] at q91
      rw [decide_eq_false (by rw [e102]; decide)] at q123
      clear HQ e102
      go_enter Tryz.func37, Tryz.ntmps37
      go_wp2_with fail
      refine B.out.mono ?_
      rintro x w1 ⟨rfl, hp1, hb1, hk1⟩
      go_wp2_with fail
      refine (C.out _ hp1).mono ?_
      rintro x w' ⟨rfl, n, rfl⟩
      have D := Lib.hid (word_any g s [102, 97, 108, 115, 101] j d _ (hp1.drewN n) hl (by simp) hb1)
      go_wp2_with fail
      refine D.out.mono ?_
      clear D
      cases hq : (wordP s [102, 97, 108, 115, 101] j) with
      | bad e k =>
        have HN2 : Hid (R = .bad e k) := Lib.hid (by rw [HN.out, hq]; rfl)
        rintro x w2 ⟨rfl, hb, hk⟩
        clear hq HN
        go_wp2
        rw [HN2.out]
        exact ⟨rfl, rfl, hb, (hk1.drewN n).tr hk⟩
      | ok u k =>
        have HN2 : Hid (R = .ok (J.fls) k) := Lib.hid (by rw [HN.out, hq]; rfl)
        rintro x w2 ⟨rfl, hp2, hb, hk⟩
        clear hq HN
        go_wp2
        go_ret
        rw [HN2.out]
        exact ⟨⟨_, rfl, .fls⟩, hp2, hb, (hk1.drewN n).tr hk⟩
    by_cases e116 : c = 116
    · have HN : Hid (R = (wordP s [116, 114, 117, 101] j).bind fun _ i => .ok J.tru i) := Lib.hid (by rw [HQ.out]; simp [e116])
      rw [decide_eq_false (by rw [e116]; decide)] at q110
      rw [decide_eq_false (by rw [e116]; decide)] at q102
      rw [decide_eq_true (by exact e116)] at q116
      rw [decide_eq_false (by rw [e116]; decide)] at q34
      rw [decide_eq_false (by rw [e116]; decide)] at q91
      rw [decide_eq_false (by rw [e116]; decide)] at q123
      clear HQ e116
      go_enter Tryz.func37, Tryz.ntmps37
      go_wp2_with fail
      refine B.out.mono ?_
      rintro x w1 ⟨rfl, hp1, hb1, hk1⟩
      go_wp2_with fail
      refine (C.out _ hp1).mono ?_
      rintro x w' ⟨rfl, n, rfl⟩
      have D := Lib.hid (word_any g s [116, 114, 117, 101] j d _ (hp1.drewN n) hl (by simp) hb1)
      go_wp2_with fail
      refine D.out.mono ?_
      clear D
      cases hq : (wordP s [116, 114, 117, 101] j) with
      | bad e k =>
        have HN2 : Hid (R = .bad e k) := Lib.hid (by rw [HN.out, hq]; rfl)
        rintro x w2 ⟨rfl, hb, hk⟩
        clear hq HN
        go_wp2
        rw [HN2.out]
        exact ⟨rfl, rfl, hb, (hk1.drewN n).tr hk⟩
      | ok u k =>
        have HN2 : Hid (R = .ok (J.tru) k) := Lib.hid (by rw [HN.out, hq]; rfl)
        rintro x w2 ⟨rfl, hp2, hb, hk⟩
        clear hq HN
        go_wp2
        go_ret
        rw [HN2.out]
        exact ⟨⟨_, rfl, .tru⟩, hp2, hb, (hk1.drewN n).tr hk⟩
    by_cases e34 : c = 34
    · have HN : Hid (R = (textP s [] j).bind fun t i => .ok (J.tx t) i) := Lib.hid (by rw [HQ.out]; simp [e34])
      rw [decide_eq_false (by rw [e34]; decide)] at q110
      rw [decide_eq_false (by rw [e34]; decide)] at q102
      rw [decide_eq_false (by rw [e34]; decide)] at q116
      rw [decide_eq_true (by exact e34)] at q34
      rw [decide_eq_false (by rw [e34]; decide)] at q91
      rw [decide_eq_false (by rw [e34]; decide)] at q123
      clear HQ e34
      go_enter Tryz.func37, Tryz.ntmps37
      go_wp2_with fail
      refine B.out.mono ?_
      rintro x w1 ⟨rfl, hp1, hb1, hk1⟩
      go_wp2_with fail
      refine (C.out _ hp1).mono ?_
      rintro x w' ⟨rfl, n, rfl⟩
      have D := Lib.hid (text_any g s j d none [] _ (hp1.drewN n) (.inl ⟨rfl, rfl⟩) hl hb1)
      go_wp2_with fail
      refine D.out.mono ?_
      clear D
      cases hq : (textP s [] j) with
      | bad e k =>
        have HN2 : Hid (R = .bad e k) := Lib.hid (by rw [HN.out, hq]; rfl)
        rintro x w2 ⟨rfl, hb, hk⟩
        clear hq HN
        go_wp2
        rw [HN2.out]
        exact ⟨rfl, rfl, hb, (hk1.drewN n).tr hk⟩
      | ok t k =>
        have HN2 : Hid (R = .ok (J.tx t) k) := Lib.hid (by rw [HN.out, hq]; rfl)
        rintro x w2 ⟨rfl, hp2, hb, hk⟩
        clear hq HN
        go_wp2
        go_ret
        rw [HN2.out]
        exact ⟨⟨_, rfl, .tx _⟩, hp2, hb, (hk1.drewN n).tr hk⟩
    by_cases e91 : c = 91
    · have HN : Hid (R = (L j).bind fun xs i => .ok (J.list xs) i) := Lib.hid (by rw [HQ.out]; simp [e91])
      rw [decide_eq_false (by rw [e91]; decide)] at q110
      rw [decide_eq_false (by rw [e91]; decide)] at q102
      rw [decide_eq_false (by rw [e91]; decide)] at q116
      rw [decide_eq_false (by rw [e91]; decide)] at q34
      rw [decide_eq_true (by exact e91)] at q91
      rw [decide_eq_false (by rw [e91]; decide)] at q123
      clear HQ e91
      go_enter Tryz.func37, Tryz.ntmps37
      go_wp2_with fail
      refine B.out.mono ?_
      rintro x w1 ⟨rfl, hp1, hb1, hk1⟩
      go_wp2_with fail
      refine (C.out _ hp1).mono ?_
      rintro x w' ⟨rfl, n, rfl⟩
      have D := Lib.hid (HL.out j _ (hp1.drewN n) hjl)
      go_wp2_with fail
      refine D.out.mono ?_
      clear D
      cases hq : (L j) with
      | bad e k =>
        have HN2 : Hid (R = .bad e k) := Lib.hid (by rw [HN.out, hq]; rfl)
        rintro x w2 ⟨rfl, hb, hk⟩
        clear hq HN
        go_wp2
        rw [HN2.out]
        exact ⟨rfl, rfl, hb, (hk1.drewN n).tr hk⟩
      | ok xs k =>
        have HN2 : Hid (R = .ok (J.list xs) k) := Lib.hid (by rw [HN.out, hq]; rfl)
        rintro x w2 ⟨⟨u, rfl, hu⟩, hp2, hb, hk⟩
        have HU : Hid (VIn (fun b => w.heap.size ≤ b) w2 _ u) := Lib.hid (hu.mono fun b _ hb => Nat.le_trans hk1.size hb)
        clear hq HN hu
        go_wp2
        go_ret
        rw [HN2.out]
        exact ⟨⟨_, rfl, HU.out⟩, hp2, hb, (hk1.drewN n).tr hk⟩
    by_cases e123 : c = 123
    · have HN : Hid (R = (O j).bind fun ms i => .ok (J.obj (sortM ms)) i) := Lib.hid (by rw [HQ.out]; simp [e123])
      rw [decide_eq_false (by rw [e123]; decide)] at q110
      rw [decide_eq_false (by rw [e123]; decide)] at q102
      rw [decide_eq_false (by rw [e123]; decide)] at q116
      rw [decide_eq_false (by rw [e123]; decide)] at q34
      rw [decide_eq_false (by rw [e123]; decide)] at q91
      rw [decide_eq_true (by exact e123)] at q123
      clear HQ e123
      go_enter Tryz.func37, Tryz.ntmps37
      go_wp2_with fail
      refine B.out.mono ?_
      rintro x w1 ⟨rfl, hp1, hb1, hk1⟩
      go_wp2_with fail
      refine (C.out _ hp1).mono ?_
      rintro x w' ⟨rfl, n, rfl⟩
      have D := Lib.hid (HO.out j _ (hp1.drewN n) hjl)
      go_wp2_with fail
      refine D.out.mono ?_
      clear D
      cases hq : (O j) with
      | bad e k =>
        have HN2 : Hid (R = .bad e k) := Lib.hid (by rw [HN.out, hq]; rfl)
        rintro x w2 ⟨rfl, hb, hk⟩
        clear hq HN
        go_wp2
        rw [HN2.out]
        exact ⟨rfl, rfl, hb, (hk1.drewN n).tr hk⟩
      | ok ms k =>
        have HN2 : Hid (R = .ok (J.obj (sortM ms)) k) := Lib.hid (by rw [HN.out, hq]; rfl)
        rintro x w2 ⟨⟨u, rfl, hu⟩, hp2, hb, hk⟩
        have HU : Hid (VIn (fun b => w.heap.size ≤ b) w2 _ u) := Lib.hid (hu.mono fun b _ hb => Nat.le_trans hk1.size hb)
        clear hq HN hu
        go_wp2
        go_ret
        rw [HN2.out]
        exact ⟨⟨_, rfl, HU.out⟩, hp2, hb, (hk1.drewN n).tr hk⟩
    have HN : Hid (R = (numP s j).bind fun n i => .ok (J.nr n) i) := Lib.hid (by rw [HQ.out]; simp [e110, e102, e116, e34, e91, e123])
    rw [decide_eq_false (by exact e110)] at q110
    rw [decide_eq_false (by exact e102)] at q102
    rw [decide_eq_false (by exact e116)] at q116
    rw [decide_eq_false (by exact e34)] at q34
    rw [decide_eq_false (by exact e91)] at q91
    rw [decide_eq_false (by exact e123)] at q123
    clear HQ e110 e102 e116 e34 e91 e123
    go_enter Tryz.func37, Tryz.ntmps37
    go_wp2_with fail
    refine B.out.mono ?_
    rintro x w1 ⟨rfl, hp1, hb1, hk1⟩
    go_wp2_with fail
    refine (C.out _ hp1).mono ?_
    rintro x w' ⟨rfl, n, rfl⟩
    have D := Lib.hid (number_any g s j d _ (hp1.drewN n) hl hb1)
    go_wp2_with fail
    refine D.out.mono ?_
    clear D
    cases hq : numP s j with
    | bad e k =>
      have HN2 : Hid (R = .bad e k) := Lib.hid (by rw [HN.out, hq]; rfl)
      rintro x w2 ⟨rfl, hb, hk⟩
      clear hq HN
      go_wp2
      rw [HN2.out]
      exact ⟨rfl, rfl, hb, (hk1.drewN n).tr hk⟩
    | ok z k =>
      have HN2 : Hid (R = .ok (J.nr z) k) := Lib.hid (by rw [HN.out, hq]; rfl)
      rintro x w2 ⟨rfl, hp2, hb, hk⟩
      clear hq HN
      go_wp2
      go_ret
      rw [HN2.out]
      exact ⟨⟨_, rfl, .nr _⟩, hp2, hb, (hk1.drewN n).tr hk⟩
end Go.Proofs.YtmajpambfblhnaaGreatDoor

namespace Go.Proofs.YtmajpambfblhnaaGreatDoor
open Go.RowKit Jo

/-- What 'object' asks of the sort: the members come into their order. -/
def SortC : Prop := ∀ (B : Nat) (v : Value) (ms : List (List UInt8 × J)) (w : World), OwnM B v ms w → ms ≠ [] → (ms.map (·.1)).Nodup → ms.length ≤ 100000 →
  Calls Tryz.prog 89 #[v, .func (.func 90) #[] #[]] w fun e w' => e = .returned (.tuple #[]) ∧ OwnM B v (sortM ms) w' ∧ Kept (fun b => some b ≠ v.ownBlock) w w'

theorem OwnM.ne {B g : Nat} {v : Value} {ms : List (List UInt8 × J)} {w : World} (h : OwnM B v ms w) (hg : g < B) : some g ≠ v.ownBlock := fun e => by
  obtain ⟨es, _, h2, _⟩ := h
  have := (h2.lt g e.symm).1
  omega

set_option maxHeartbeats 16000000 in
set_option maxRecDepth 100000 in
theorem object_any (g : Nat) (s : List UInt8) (i d k : Nat) (hsort : SortC) (hv : ValC g s (d + 1) k) (w : World) (hp : PA g s i d w) (hd : d < 16) (hi : i < s.length) (hl : s.length ≤ 4000) :
    Calls Tryz.prog 64 #[.pointer (some ⟨g, 0, none⟩)] w (Reads g s d w (objP s (valP s k) i) fun ms e w' => ValQ w (J.obj (sortM ms)) e w') := by
  obtain ⟨R, hR⟩ : ∃ R, objP s (valP s k) i = R := ⟨_, rfl⟩
  have HR := Lib.hid hR
  rw [hR]
  clear hR
  have HV := Lib.hid hv
  have HS := Lib.hid hsort
  clear hv hsort
  have hgl := hp.lt
  have hmm := @run_makeMap Tryz.prog
  have O := Lib.hid (open_any g s i d w hp hd hi hl)
  clear hp
  go_enter Tryz.func64, Tryz.ntmps64
  go_wp2_with fail
  refine O.out.mono ?_
  rintro x w1 ⟨rfl, hp1, hb1, hk1⟩
  cases hc : s[bl s (i + 1)]? with
  | none =>
    have HN : Hid (R = .bad 40 (bl s (i + 1))) := Lib.hid (by rw [← HR.out, objP, hc])
    have E := Lib.hid (empty_none g s (bl s (i + 1)) (d + 1) 125 w1 hp1 hl hb1 hc)
    clear hc hp1
    go_wp2_with fail
    refine E.out.mono ?_
    rintro x w' ⟨rfl, hk⟩
    go_wp2
    rw [HN.out]
    exact ⟨rfl, rfl, hb1, hk1.tr hk⟩
  | some c =>
    by_cases h93 : c = 125
    · subst h93
      have HN : Hid (R = .ok [] (bl s (i + 1) + 1)) := Lib.hid (by rw [← HR.out, objP, hc]; rfl)
      have E := Lib.hid (empty_yes g s (bl s (i + 1)) d 125 w1 hp1 hl hd hc)
      clear hc hp1
      go_wp2_with fail
      refine E.out.mono ?_
      rintro x w' ⟨rfl, hp', hb, hk⟩
      go_wp2
      go_ret
      rw [HN.out]
      exact ⟨⟨_, rfl, .obj [] _ (fun _ => .nilIface) (by simp) (.inl ⟨rfl, rfl⟩) (fun j x h => by simp at h)⟩, hp', hb, hk1.tr hk⟩
    · have HN : Hid (objL s (valP s k) (s.length + 1) [] (bl s (i + 1)) = R) := Lib.hid (by rw [← HR.out, objP, hc]; simp only [if_neg h93])
      have E := Lib.hid (empty_no g s (bl s (i + 1)) (d + 1) 125 c w1 hp1 hl hc h93)
      obtain ⟨i1, hi1⟩ : ∃ i1, bl s (i + 1) = i1 := ⟨_, rfl⟩
      rw [hi1] at HN hb1 hp1
      have hil : 1 ≤ i1 := by have := bl_le s (i + 1); omega
      clear hc h93 hi1 HR O
      go_wp2_with fail
      refine E.out.mono ?_
      rintro x w' ⟨rfl, n, rfl⟩
      have hB := hk1.size
      go_wp2_with fail
      have hk0 : Kept (· ≠ g) w ((w1.drewN n).alloc (.map #[] 0)) := (hk1.drewN n).alloc _
      have hs0 : SeenAt (some w1.heap.size) [] ((w1.drewN n).alloc (.map #[] 0)) := SeenAt.made (w1.drewN n)
      have hp0 : PA g s i1 (d + 1) ((w1.drewN n).alloc (.map #[] 0)) := (hp1.drewN n).kept (ok := fun _ => True) ((Kept.refl _ _).alloc _) trivial
      have hgb : g < w1.heap.size := by omega
      obtain ⟨b0, hb0⟩ : ∃ b0, w1.heap.size = b0 := ⟨_, rfl⟩
      have hz0 : b0 + 1 ≤ ((w1.drewN n).alloc (.map #[] 0)).heap.size := by rw [← hb0]; simp
      rw [hb0] at hs0 hgb hB ⊢
      clear hb0 hmm
      go_loopg [3, 5] (s.length + 2) (fun q v mo wr => ∃ (acc : List (List UInt8 × J)) (j : Nat) (t : Bool), mo = .bool t ∧ OwnM (b0 + 1) v acc wr ∧ SeenAt (some b0) (acc.map (·.1)) wr ∧ (acc.map (·.1)).Nodup ∧ Kept (· ≠ g) w wr ∧ b0 + 1 ≤ wr.heap.size ∧ j ≤ s.length ∧ acc.length ≤ j ∧
        Hid ((t = true ∧ PA g s j (d + 1) wr ∧ ∃ f, q = f + 1 ∧ s.length + 1 ≤ j + f ∧ objL s (valP s k) f acc j = R) ∨ (t = false ∧ PA g s j d wr ∧ acc ≠ [] ∧ R = .ok acc j)))
      case atStart => exact ⟨[], i1, true, rfl, OwnM.nil _ _, hs0, List.nodup_nil, hk0, hz0, hb1, by simp, Lib.hid (.inl ⟨rfl, hp0, _, rfl, by omega, HN.out⟩)⟩
      case round =>
        clear HN E hp1 hk1 hk0 hs0 hp0 hz0
        obtain ⟨acc, j, t, rfl, ho, hs, hnd, hk, hzr, hj, hal, H⟩ := hrel
        have HO := Lib.hid ho
        have HS1 := Lib.hid hs
        have HND := Lib.hid hnd
        clear ho hs hnd
        cases t with
        | false =>
          obtain ⟨hp', hne, hR⟩ : PA g s j d wr ∧ acc ≠ [] ∧ R = .ok acc j := by
            rcases H.out with h | h
            · cases h.1
            · exact h.2
          have HN := Lib.hid hR
          have HP := Lib.hid hp'
          have D := Lib.hid (HS.out (b0 + 1) _ acc wr HO.out hne HND.out (by omega))
          clear hR hp' H hne
          go_wp2_with fail
          refine D.out.mono ?_
          rintro x w2 ⟨rfl, ho2, hk2⟩
          have hgv := HO.out.ne (g := g) (by omega)
          have hwr := hk.size
          have HV2 : Hid (VIn (fun b => w.heap.size ≤ b) w2 (J.obj (sortM acc)) _) := Lib.hid ((ho2.value (by rw [(sortM_perm acc).length_eq]; omega)).mono fun b _ hb => by omega)
          have hk3 : Kept (· ≠ g) w w2 := hk.trans hk2 fun b hb hne e => by
            obtain ⟨es, _, h2, _⟩ := HO.out
            have := (h2.lt b e.symm).1
            omega
          have HP2 := Lib.hid (HP.out.kept hk2 hgv)
          clear ho2
          go_wp2
          go_ret
          rw [HN.out]
          exact ⟨⟨_, rfl, HV2.out⟩, HP2.out, hj, hk3⟩
        | true =>
          obtain ⟨hp', f, rfl, hfu, hR⟩ : PA g s j (d + 1) wr ∧ ∃ f, gk = f + 1 ∧ s.length + 1 ≤ j + f ∧ objL s (valP s k) f acc j = R := by
            rcases H.out with h | h
            · exact h.2
            · cases h.1
          clear H
          obtain ⟨q, rfl⟩ : ∃ q, f = q + 1 := ⟨f - 1, by omega⟩
          have HQ0 : Hid (R = (textP s (acc.map (·.1)) (bl s j)).bind fun n i => (wantP s 58 (bl s i)).bind fun _ i => (valP s k i).bind fun x i => match s[bl s i]? with
            | none => .bad 40 (bl s i)
            | some c => if c = 44 then objL s (valP s k) q (acc ++ [(n, x)]) (bl s i + 1) else if c = 125 then .ok (acc ++ [(n, x)]) (bl s i + 1) else .bad 40 (bl s i)) := Lib.hid (by rw [← hR]; rfl)
          have hwr := hk.size
          have B1 := Lib.hid (blanks_any g s j (d + 1) wr hp' hl hj)
          have hbj := bl_le s j
          clear hR hp'
          obtain ⟨j2, hj2⟩ : ∃ j2, bl s j = j2 := ⟨_, rfl⟩
          rw [hj2] at HQ0 B1 hbj
          clear hj2
          go_wp2_with fail
          refine B1.out.mono ?_
          rintro x w2 ⟨rfl, hp2, hj2l, hk2⟩
          cases hc : s[j2]? with
          | none =>
            have HN : Hid (R = .bad 40 j2) := Lib.hid (by rw [HQ0.out, textP, wantP, hc]; rfl)
            have C := Lib.hid (here_bad g s j2 (d + 1) w2 hc hp2 hl hj2l)
            clear hc hp2 HQ0
            go_wp2_with fail
            refine C.out.mono ?_
            rintro x w' ⟨rfl, n, rfl⟩
            go_wp2
            rw [HN.out]
            exact ⟨rfl, rfl, hj2l, (hk.tr hk2).drewN _⟩
          | some c =>
            have C := Lib.hid (here_ok g s j2 (d + 1) w2 c hc hp2 hl)
            have qc : ((c.toNat : Int) != 34) = !decide (c = 34) := by rw [bne, byte_is c 34 34 rfl]
            by_cases h34 : ¬ c = 34
            · have HN : Hid (R = .bad 40 j2) := Lib.hid (by
                rw [HQ0.out, textP, wantP, hc, if_neg (by simpa using h34)]; rfl)
              rw [decide_eq_false h34] at qc
              have HP := Lib.hid hp2
              clear hc hp2 HQ0 h34
              go_wp2_with fail
              refine C.out.mono ?_
              rintro x w' ⟨rfl, n, rfl⟩
              go_wp2_with fail
              refine (fail_any _ _ _ _ _ _ (HP.out.drewN _)).mono ?_
              rintro x w' ⟨rfl, rfl⟩
              go_wp2
              rw [HN.out]
              exact ⟨rfl, rfl, hj2l, (hk.tr hk2).drewN _⟩
            · replace h34 : c = 34 := Decidable.not_not.1 h34
              rw [decide_eq_true h34] at qc
              have hwk2 : Kept (· ≠ g) w w2 := hk.tr hk2
              have HS2 := Lib.hid (HS1.out.keptS hk2 (by omega))
              have HO2 := Lib.hid (HO.out.kept hk2 (fun b hb => by omega))
              have HP := Lib.hid hp2
              have hz2 := hk2.size
              clear hc hp2 h34 HS1 HO
              go_wp2_with fail
              refine C.out.mono ?_
              rintro x w' ⟨rfl, n, rfl⟩
              have hkn : Kept (· ≠ g) w2 (w2.drewN n) := (Kept.refl _ w2).drewN n
              have T := Lib.hid (text_any g s j2 (d + 1) (some b0) (acc.map (·.1)) _ (HP.out.drewN n) (HS2.out.keptS hkn (by omega)) hl hj2l)
              go_wp2_with fail
              refine T.out.mono ?_
              cases hq : textP s (acc.map (·.1)) j2 with
              | bad e j' =>
                have HN : Hid (R = .bad e j') := Lib.hid (by rw [HQ0.out, hq]; rfl)
                rintro x w3 ⟨rfl, hb, hk3⟩
                clear hq HQ0 T
                go_wp2
                rw [HN.out]
                exact ⟨rfl, rfl, hb, (hwk2.tr hkn).tr hk3⟩
              | ok l j3 =>
                have HQ1 : Hid (R = (wantP s 58 (bl s j3)).bind fun _ i => (valP s k i).bind fun x i => match s[bl s i]? with
                  | none => .bad 40 (bl s i)
                  | some c => if c = 44 then objL s (valP s k) q (acc ++ [(l, x)]) (bl s i + 1) else if c = 125 then .ok (acc ++ [(l, x)]) (bl s i + 1) else .bad 40 (bl s i)) := Lib.hid (by rw [HQ0.out, hq]; rfl)
                rintro x w3 ⟨rfl, hp3, hj3, hk3'⟩
                obtain ⟨ht1, ht2, ht3⟩ := textP_le hq
                have hk3 := hkn.tr hk3'
                have hwk3 : Kept (· ≠ g) w w3 := hwk2.tr hk3
                have HS3 := Lib.hid (HS2.out.keptS hk3 (by omega))
                have HO3 := Lib.hid (HO2.out.kept hk3 (fun b hb => by omega))
                have hz3 := hk3.size
                have HT2 := Lib.hid ht2
                obtain ⟨kl, hkl, hlen⟩ := HS3.out.len 3
                rw [List.length_map] at hkl
                obtain ⟨w4, hupd, hs4, hk4⟩ := HS3.out.store l (by unfold maxLen; omega) (by rw [List.length_map]; unfold maxLen; omega) HT2.out (kl : Int) (WalkArith.wf_i64 (by omega))
                have HP4 := Lib.hid (hp3.kept hk4 (by omega))
                have hwk4 : Kept (· ≠ g) w w4 := hwk3.trans hk4 fun b hb _ => by omega
                have HS4 := Lib.hid hs4
                have HO4 := Lib.hid (HO3.out.kept hk4 (fun b hb => by omega))
                have hz4 := hk4.size
                clear hq HQ0 T hp3 hk3 hs4 HS3 HO3 HS2 HO2 HP hkn ht2 hk3'
                have B4 := Lib.hid (blanks_any g s j3 (d + 1) w4 HP4.out hl hj3)
                have hbj3 := bl_le s j3
                obtain ⟨j4, hj4⟩ : ∃ j4, bl s j3 = j4 := ⟨_, rfl⟩
                rw [hj4] at HQ1 B4 hbj3
                clear hj4
                go_wp2_with fail
                refine B4.out.mono ?_
                rintro x w5 ⟨rfl, hp5, hj4l, hk5⟩
                have W5 := Lib.hid (want_any g s j4 (d + 1) 58 w5 hp5 hl hj4l)
                clear hlen hupd hp5
                go_wp2_with fail
                refine W5.out.mono ?_
                cases hq : wantP s 58 j4 with
                | bad e j' =>
                  have HN : Hid (R = .bad e j') := Lib.hid (by rw [HQ1.out, hq]; rfl)
                  rintro x w6 ⟨rfl, hb, hk6⟩
                  clear hq HQ1 W5
                  go_wp2
                  rw [HN.out]
                  exact ⟨rfl, rfl, hb, (hwk4.tr hk5).tr hk6⟩
                | ok u j5 =>
                  have hj45 := (wantP_ok hq).2
                  have HQ2 : Hid (R = (valP s k j5).bind fun x i => match s[bl s i]? with
                    | none => .bad 40 (bl s i)
                    | some c => if c = 44 then objL s (valP s k) q (acc ++ [(l, x)]) (bl s i + 1) else if c = 125 then .ok (acc ++ [(l, x)]) (bl s i + 1) else .bad 40 (bl s i)) := Lib.hid (by rw [HQ1.out, hq]; rfl)
                  rintro x w6 ⟨rfl, hp6, hj5, hk6'⟩
                  have hk6 := hk5.tr hk6'
                  have hwk6 : Kept (· ≠ g) w w6 := hwk4.tr hk6
                  have HS6 := Lib.hid (HS4.out.keptS hk6 (by omega))
                  have HO6 := Lib.hid (HO4.out.kept hk6 (fun b hb => by omega))
                  have hz6 := hk6.size
                  have V := Lib.hid (HV.out j5 w6 hp6 hj5)
                  have hj5' : j4 + 1 ≤ j5 := by omega
                  clear hq HQ1 W5 hp6 hk6 hk6' HS4 HO4 hj45
                  go_wp2_with fail
                  refine V.out.mono ?_
                  cases hx : valP s k j5 with
                  | bad e j' =>
                    have HN : Hid (R = .bad e j') := Lib.hid (by rw [HQ2.out, hx]; rfl)
                    rintro x w7 ⟨rfl, hb, hk7⟩
                    clear hx HQ2 V
                    go_wp2
                    rw [HN.out]
                    exact ⟨rfl, rfl, hb, hwk6.tr hk7⟩
                  | ok x j7 =>
                    have hjj := valP_le hx
                    have HQ3 : Hid (R = match s[bl s j7]? with
                      | none => .bad 40 (bl s j7)
                      | some c => if c = 44 then objL s (valP s k) q (acc ++ [(l, x)]) (bl s j7 + 1) else if c = 125 then .ok (acc ++ [(l, x)]) (bl s j7 + 1) else .bad 40 (bl s j7)) := Lib.hid (by rw [HQ2.out, hx]; rfl)
                    rintro _ w7 ⟨⟨u, rfl, hu⟩, hp7, hj7, hk7⟩
                    obtain ⟨ut, uv, rfl⟩ := hu.face
                    have hwk7 : Kept (· ≠ g) w w7 := hwk6.tr hk7
                    have HO7 := Lib.hid (HO6.out.kept hk7 (fun b hb => by omega))
                    have HS7 := Lib.hid (HS6.out.keptS hk7 (by omega))
                    have HU : Hid (VIn (fun b => b0 + 1 ≤ b ∧ some b ≠ _) w7 x (.iface ut uv)) := Lib.hid (hu.mono fun b hb hw => ⟨by omega, fun e => by
                      obtain ⟨us, _, e2, _⟩ := HO6.out
                      have := (e2.lt b e.symm).2
                      omega⟩)
                    have hz7 := hk7.size
                    have HP7 := Lib.hid hp7
                    clear hu V HO6 HS6 hx HQ2 hp7
                    obtain ⟨es, e1, e2, e3⟩ := HO7.out
                    have HE2 := Lib.hid e2
                    have HE3 := Lib.hid e3
                    clear e2 e3
                    go_wp2_with (at_builtin; refine wpList_pushOne 91 93 Tryz.underlying91 infoMember rfl (by decide) rfl _ _ rfl (b0 + 1) _ acc.length (memCells es) (memEnc (l, ut, uv)) w7 _ rfl rfl rfl (by intro y hy; simp [memEnc] at hy; rcases hy with rfl | rfl <;> rfl) 1 _ rfl rfl rfl HE2.out (by omega) (by decide) (by omega) ?_)
                    intro v' w8 k1 k2 k3
                    have HO8 := Lib.hid (ownM_push (m := (l, x)) e1 HE3.out rfl HU.out k1 k3)
                    have hwk8 : Kept (· ≠ g) w w8 := hwk7.trans (Below.kept (g := g) k2) fun i hi ho => ⟨by omega, ho⟩
                    have HP8 := Lib.hid (HP7.out.kept (Below.kept (g := b0 + 1) k2) ⟨by omega, by omega⟩)
                    have HS8 := Lib.hid (HS7.out.keptS (Below.kept (g := g) k2) (by omega))
                    have HND8 : Hid (((acc ++ [(l, x)]).map (·.1)).Nodup) := Lib.hid (by
                      rw [List.map_append]
                      refine List.nodup_append.2 ⟨HND.out, by simp, ?_⟩
                      intro a ha b hb e
                      simp at hb
                      subst e hb
                      exact HT2.out ha)
                    have hz8 := k2.size
                    clear k1 k2 k3 HE2 HE3 HO7 HS7 HU HP7
                    by_cases h44 : s[bl s j7]? = some 44
                    · have HN : Hid (objL s (valP s k) q (acc ++ [(l, x)]) (bl s j7 + 1) = R) := Lib.hid (by rw [HQ3.out, h44]; rfl)
                      have M := Lib.hid (more_comma g s j7 (d + 1) 125 w8 HP8.out hl hj7 h44)
                      clear h44 HQ3 HP8
                      have hbj7 := bl_le s j7
                      go_wp2_with fail
                      refine M.out.mono ?_
                      rintro _ w9 ⟨rfl, hp9, hb9, hk9⟩
                      have HO9 := Lib.hid (HO8.out.kept hk9 (fun b hb => by omega))
                      have HS9 := Lib.hid (HS8.out.keptS hk9 (by omega))
                      have hz9 := hk9.size
                      clear HO8 HS8
                      go_wp2
                      go_roundg (q + 1)
                      case rel => exact ⟨acc ++ [(l, x)], bl s j7 + 1, true, rfl, HO9.out, by rw [List.map_append]; exact HS9.out, HND8.out, hwk8.tr hk9, by omega, hb9, by rw [List.length_append, List.length_singleton]; omega, Lib.hid (.inl ⟨rfl, hp9, q, rfl, by omega, HN.out⟩)⟩
                      case measure => omega
                    · by_cases h125 : s[bl s j7]? = some 125
                      · have HN : Hid (R = .ok (acc ++ [(l, x)]) (bl s j7 + 1)) := Lib.hid (by rw [HQ3.out, h125]; rfl)
                        have M := Lib.hid (more_end g s j7 d 125 w8 HP8.out hl hj7 hd h125 (by decide))
                        clear h44 h125 HQ3 HP8
                        have hbj7 := bl_le s j7
                        go_wp2_with fail
                        refine M.out.mono ?_
                        rintro _ w9 ⟨rfl, hp9, hb9, hk9⟩
                        have HO9 := Lib.hid (HO8.out.kept hk9 (fun b hb => by omega))
                        have HS9 := Lib.hid (HS8.out.keptS hk9 (by omega))
                        have hz9 := hk9.size
                        clear HO8 HS8
                        go_wp2
                        go_roundg q
                        case rel => exact ⟨acc ++ [(l, x)], bl s j7 + 1, false, rfl, HO9.out, by rw [List.map_append]; exact HS9.out, HND8.out, hwk8.tr hk9, by omega, hb9, by rw [List.length_append, List.length_singleton]; omega, Lib.hid (.inr ⟨rfl, hp9, by simp, HN.out⟩)⟩
                        case measure => omega
                      · have HN : Hid (R = .bad 40 (bl s j7)) := Lib.hid (by
                          rw [HQ3.out]
                          cases h : s[bl s j7]? with
                          | none => rfl
                          | some c =>
                            simp only
                            rw [if_neg (fun e => h44 (by rw [h, e])), if_neg (fun e => h125 (by rw [h, e]))])
                        have M := Lib.hid (more_bad g s j7 (d + 1) 125 w8 HP8.out hl hj7 h44 h125)
                        clear h44 h125 HQ3 HP8
                        have hbm := bl_max s j7 hj7
                        go_wp2_with fail
                        refine M.out.mono ?_
                        rintro _ w9 ⟨rfl, hk9⟩
                        go_wp2
                        rw [HN.out]
                        exact ⟨rfl, rfl, hbm, hwk8.tr hk9⟩
end Go.Proofs.YtmajpambfblhnaaGreatDoor
