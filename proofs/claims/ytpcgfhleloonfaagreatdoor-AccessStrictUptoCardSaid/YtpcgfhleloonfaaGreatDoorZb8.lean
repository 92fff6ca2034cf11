/- What the proof of this law needs, part 8: walks of the program's functions and plain laws (texts JoPC, Shelf2, JoSort, JoParse). -/
import Derived.Test.YtpcgfhleloonfaaGreatDoorZb7
import Derived.Shelf.SlGeneric
import Derived.Ground.SlsfProg
import Derived.Shelf.SlSortCmp.WholeK
import Derived.Defers
import Derived.Recover
namespace Go.Proofs.YtpcgfhleloonfaaGreatDoor
open Go.RowKit Jo
theorem OwnB.ne {g : Nat} {e : TypeId} {B : Nat} {v : Value} {l : List UInt8} {w : World} (h : OwnB e B v l w) (hg : g < B) : ∀ b, v.ownBlock = some b → b ≠ g := fun b hb => by
  have := (h.lt b hb).1; omega
set_option maxHeartbeats 8000000 in
set_option maxRecDepth 100000 in
theorem text_any (g : Nat) (s : List UInt8) (i d : Nat) (m : Option Nat) (ns : List (List UInt8)) (w : World) (hp : PA g s i d w) (hs : SeenAt m ns w) (hl : s.length ≤ 4000) (hi : i ≤ s.length) :
    Calls Tryz.prog 152 #[.pointer (some ⟨g, 0, none⟩), .map m] w (Reads g s d w (textP s ns i) fun l e _ => e = .returned (S l)) := by
  obtain ⟨R, hR⟩ : ∃ R, textP s ns i = R := ⟨_, rfl⟩
  have HR := Lib.hid hR
  rw [hR]
  clear hR
  have hgl := hp.lt
  have C := Lib.hid (want_any g s i d 34 w hp hl hi)
  have hne := hs.ne hp
  have HLT := Lib.hid hs.lt
  have HS := Lib.hid hs
  clear hp hs
  have HNE := Lib.hid hne
  clear hne
  go_enter Tryz.func152, Tryz.ntmps152
  go_wp2_with fail
  refine C.out.mono ?_
  cases hq : wantP s 34 i with
  | bad e j =>
    have HN : Hid (R = .bad e j) := Lib.hid (by rw [← HR.out, textP, hq]; rfl)
    rintro x w' ⟨rfl, hb, hk⟩
    clear hq C
    go_wp2
    rw [HN.out]
    exact ⟨rfl, rfl, hb, hk⟩
  | ok u i1 =>
    have HN : Hid (textL s ns (s.length + 1) [] i1 = R) := Lib.hid (by rw [← HR.out, textP, hq]; rfl)
    rintro x w1 ⟨rfl, hp1, hi1, hk1⟩
    have HS1 := Lib.hid (HS.out.kept hk1 HNE.out)
    clear hq C HR
    have hB := hk1.size
    go_wp2_with fail
    go_loopg [5] (s.length + 1) (fun q v wr => ∃ (acc : List UInt8) (j : Nat), OwnB 5 w.heap.size v acc wr ∧ PA g s j d wr ∧ j ≤ s.length ∧ s.length + 1 ≤ j + q ∧ acc.length ≤ 4 * j ∧ Kept (· ≠ g) w wr ∧ SeenAt m ns wr ∧ Hid (textL s ns q acc j = R))
    case atStart => exact ⟨[], i1, OwnB.nil _ _ _, hp1, hi1, by omega, by simp, hk1, HS1.out, HN⟩
    case round =>
      clear HN hp1 hi1 hk1 HS1 HS
      obtain ⟨acc, j, ho, hpj, hj, hfu, hal, hkj, hsj, HRj⟩ := hrel
      have hwr := hkj.size
      cases hc : s[j]? with
      | none =>
        obtain ⟨q, rfl⟩ : ∃ q, gk = q + 1 := ⟨gk - 1, by omega⟩
        have HN : Hid (R = .bad 40 j) := Lib.hid (by rw [← HRj.out, textL, hc])
        have C := Lib.hid (here_bad g s j d wr hc hpj hl hj)
        clear hc hpj HRj
        go_wp2_with fail
        refine C.out.mono ?_
        rintro x w' ⟨rfl, n, rfl⟩
        go_wp2
        rw [HN.out]
        exact ⟨rfl, rfl, hj, hkj.drewN _⟩
      | some c =>
        have hj1 : j + 1 ≤ s.length := (List.getElem?_eq_some_iff.1 hc).1
        obtain ⟨q, rfl⟩ : ∃ q, gk = q + 1 := ⟨gk - 1, by omega⟩
        have HQ : Hid (R = if c = 34 then (if acc ∈ ns then .bad 42 j else .ok acc (j + 1)) else if c = 92 then (escP s (j + 1)).bind fun x j => textL s ns q (acc ++ x) j else if c < 32 then .bad 40 j else (letterP s j).bind fun _ k => textL s ns q (acc ++ (s.drop j).take (k - j)) k) := Lib.hid (by rw [← HRj.out, textL, hc])
        have C := Lib.hid (here_ok g s j d wr c hc hpj hl)
        have HP := Lib.hid hpj
        have HO := Lib.hid ho
        have HSj := Lib.hid hsj
        have q34 := byte_is c 34 34 rfl
        have q92 := byte_is c 92 92 rfl
        obtain ⟨h0, h1, h2, h3, h4⟩ := hpj.facts
        clear hc HRj hpj ho hsj
        go_wp2_with fail
        refine C.out.mono ?_
        rintro x w' ⟨rfl, n, rfl⟩
        by_cases e34 : c = 34
        · rw [e34] at q34
          have hcv := (HO.out.drewN n).string (P := Tryz.prog) (src := 84) (dst := 9) (e := 5) Tryz.underlying84 Tryz.underlying5 Tryz.underlying9
          obtain ⟨z, hlk⟩ := (HSj.out.kept ((Kept.refl (· ≠ g) wr).drewN n) HNE.out).look acc (by unfold maxLen; omega)
          by_cases hmem : acc ∈ ns
          · have HN : Hid (R = .bad 42 j) := Lib.hid (by rw [HQ.out, if_pos e34, if_pos hmem])
            rw [decide_eq_true hmem] at hlk
            rw [e34]
            have q34' : (((34 : UInt8).toNat : Int) == 34) = true := rfl
            clear HQ hmem q92 C e34
            go_wp2_with fail
            refine (fail_any _ _ _ _ _ _ (HP.out.drewN _)).mono ?_
            rintro x w' ⟨rfl, rfl⟩
            go_wp2
            rw [HN.out]
            exact ⟨rfl, rfl, hj, hkj.drewN n⟩
          · have HN : Hid (R = .ok acc (j + 1)) := Lib.hid (by rw [HQ.out, if_pos e34, if_neg hmem])
            rw [decide_eq_false hmem] at hlk
            rw [e34]
            have q34' : (((34 : UInt8).toNat : Int) == 34) = true := rfl
            have hcv2 := ((HO.out.drewN n).setCell (p := ⟨g, 1, none⟩) (by simpa using hgl) (.int .i64 ((j : Int) + 1))).string (P := Tryz.prog) (src := 84) (dst := 9) (e := 5) Tryz.underlying84 Tryz.underlying5 Tryz.underlying9
            clear HQ hmem q92 C e34
            go_wp2
            go_ret
            rw [HN.out]
            exact ⟨rfl, (HP.out.drewN _).setAt _ _ rfl, hj1, (hkj.drewN n).setCell (.inr (by simp)) _⟩
        · rw [decide_eq_false e34] at q34
          by_cases e92 : c = 92
          · rw [e92] at q92
            have D := Lib.hid (escaped_any g s j d w.heap.size _ acc _ (HP.out.drewN n) (HO.out.drewN n) hgl (by show w.heap.size ≤ wr.heap.size; omega) hl hj1 (by omega))
            have HN : Hid (R = (escP s (j + 1)).bind fun x j => textL s ns q (acc ++ x) j) := Lib.hid (by rw [HQ.out, if_neg e34, if_pos e92])
            rw [e92]
            have q92' : (((92 : UInt8).toNat : Int) == 92) = true := rfl
            have q34' : (((92 : UInt8).toNat : Int) == 34) = false := rfl
            clear HQ q34 q92 C e34 e92 h0 h1 h2 h3 h4
            go_wp2_with fail
            refine D.out.mono ?_
            cases hq : escP s (j + 1) with
            | bad e k =>
              rintro x w2 ⟨rfl, hb, hk'⟩
              have HN2 : Hid (R = .bad e k) := Lib.hid (by rw [HN.out, hq]; rfl)
              clear hq D HN
              go_wp2
              rw [HN2.out]
              exact ⟨rfl, rfl, hb, (hkj.drewN n).trans hk' fun i hi ho => ⟨hi, ho⟩⟩
            | ok x k =>
              rintro _ w2 ⟨⟨v', rfl, ho2⟩, hp2, hk, hk'⟩
              have HN2 : Hid (textL s ns q (acc ++ x) k = R) := Lib.hid (by rw [HN.out, hq]; rfl)
              obtain ⟨hx1, hx2⟩ := escP_ok hq
              have HO2 := Lib.hid ho2
              have hkw : Kept (· ≠ g) w w2 := (hkj.drewN n).trans hk' fun i hi ho => ⟨hi, ho⟩
              have HS2 := Lib.hid (HSj.out.kept (((Kept.refl (fun k => k < w.heap.size ∧ k ≠ g) wr).drewN n).tr hk') fun b hb => ⟨HLT.out b hb, HNE.out b hb⟩)
              clear hq D HN ho2
              go_wp2
              go_roundg q
              case rel => exact ⟨acc ++ x, k, HO2.out, hp2, hk, by omega, by rw [List.length_append]; omega, hkw, HS2.out, HN2⟩
              case measure => omega
          · rw [decide_eq_false e92] at q92
            by_cases h32 : c.toNat < 32
            · have HN : Hid (R = .bad 40 j) := Lib.hid (by rw [HQ.out, if_neg e34, if_neg e92, if_pos (by rw [UInt8.lt_iff_toNat_lt]; exact h32)])
              have q32 : decide ((c.toNat : Int) < 32) = true := by simp; omega
              clear HQ C e34 e92
              go_wp2_with fail
              refine (fail_any _ _ _ _ _ _ (HP.out.drewN _)).mono ?_
              rintro x w' ⟨rfl, rfl⟩
              go_wp2
              rw [HN.out]
              exact ⟨rfl, rfl, hj, hkj.drewN n⟩
            · have HN : Hid (R = (letterP s j).bind fun _ k => textL s ns q (acc ++ (s.drop j).take (k - j)) k) := Lib.hid (by rw [HQ.out, if_neg e34, if_neg e92, if_neg (by rw [UInt8.lt_iff_toNat_lt]; exact h32)])
              have q32 : decide ((c.toNat : Int) < 32) = false := by simp; omega
              have D := Lib.hid (letter_any g s j d _ (HP.out.drewN n) hl hj)
              clear HQ C e34 e92
              go_wp2_with fail
              refine D.out.mono ?_
              cases hq : letterP s j with
              | bad e k =>
                rintro x w2 ⟨rfl, hb, hk'⟩
                have HN2 : Hid (R = .bad e k) := Lib.hid (by rw [HN.out, hq]; rfl)
                clear hq D HN
                go_wp2
                rw [HN2.out]
                exact ⟨rfl, rfl, hb, (hkj.drewN n).tr hk'⟩
              | ok u k =>
                rintro _ w2 ⟨rfl, hp2, hk, hk'⟩
                have HN2 : Hid (textL s ns q (acc ++ (s.drop j).take (k - j)) k = R) := Lib.hid (by rw [HN.out, hq]; rfl)
                obtain ⟨hx1, hx2, hx3⟩ := letterP_ok hq
                have HO2 := Lib.hid ((HO.out.drewN n).kept hk' (HO.out.ne hgl))
                have hkw : Kept (· ≠ g) w w2 := (hkj.drewN n).tr hk'
                have HS2 := Lib.hid (HSj.out.kept (((Kept.refl (· ≠ g) wr).drewN n).tr hk') HNE.out)
                have HP2 := Lib.hid hp2
                obtain ⟨g0, g1, g2, g3, g4⟩ := hp2.facts
                have hw2 := hkw.size
                clear hq D HN hp2 h0 h1 h2 h3 h4
                go_wp2_with fail
                have hjk : j ≤ k := by omega
                go_region_law (refine step_pushS 84 9 5 Tryz.underlying84 Tryz.underlying9 infoByte rfl (.tmp 20) (.tmp 30) rfl w.heap.size acc _ ((s.drop j).take (k - j)) rfl (extract_mk s j k) HO2.out (by rw [List.length_take, List.length_drop]; omega) hw2 ?_; intro v' w' k1 k2)
                all_goals
                  replace k2 : Below w.heap.size w2 w' := ((Below.refl _ w2).drew).trans k2
                  have hkk : Kept (· ≠ g) w w' := hkw.trans (Below.kept (g := g) k2) fun i hi ho => ⟨hi, ho⟩
                  have HS3 := Lib.hid (HS2.out.kept (Below.kept (g := g) k2) fun b hb => ⟨HLT.out b hb, HNE.out b hb⟩)
                  have HP3 := Lib.hid (HP2.out.kept (ok := fun k => k < w.heap.size) ⟨k2.os, k2.tape, k2.output, k2.size, fun i _ ho => k2.block i ho⟩ hgl)
                  have HO3 := Lib.hid k1
                  clear k1 k2
                  go_wp2
                  go_roundg q
                  case rel => exact ⟨_, k, HO3.out, HP3.out, hk, by omega, by rw [List.length_append, List.length_take, List.length_drop]; omega, hkk, HS3.out, HN2⟩
                  case measure => omega
end Go.Proofs.YtpcgfhleloonfaaGreatDoor
namespace Go.Proofs.YtpcgfhleloonfaaGreatDoor
open Go.RowKit Jo
set_option maxHeartbeats 1000000 in
theorem open_deep (g : Nat) (s : List UInt8) (i : Nat) (w : World) (hp : PA g s i 16 w) :
    Calls Tryz.prog 178 #[.pointer (some ⟨g, 0, none⟩)] w fun e w' => e = gaveUp 41 i ∧ w' = w := by
  obtain ⟨h0, h1, h2, h3, h4⟩ := hp.facts
  have HP := Lib.hid hp
  clear hp
  go_enter Tryz.func178, Tryz.ntmps178
  go_wp2_with fail
  refine (fail_any _ _ _ _ _ _ HP.out).mono ?_
  rintro x w' ⟨rfl, rfl⟩
  go_wp2
  exact ⟨rfl, rfl, rfl⟩
set_option maxHeartbeats 1000000 in
theorem open_any (g : Nat) (s : List UInt8) (i d : Nat) (w : World) (hp : PA g s i d w) (hd : d < 16) (hi : i < s.length) (hl : s.length ≤ 4000) :
    Calls Tryz.prog 178 #[.pointer (some ⟨g, 0, none⟩)] w fun e w' => e = .returned (.tuple #[]) ∧ PA g s (bl s (i + 1)) (d + 1) w' ∧ bl s (i + 1) ≤ s.length ∧ Kept (· ≠ g) w w' := by
  obtain ⟨h0, h1, h2, h3, h4⟩ := hp.facts
  have q : ((d : Int) == 16) = false := by simp; omega
  have HP := Lib.hid ((hp.setDeep (d + 1) (.int .i64 ((d : Int) + 1)) (by congr 1)).setAt (i + 1) (.int .i64 ((i : Int) + 1)) (by congr 1))
  have HK := Lib.hid (((Kept.refl (· ≠ g) w).setCell (p := ⟨g, 2, none⟩) (.inr (by simp)) (.int .i64 ((d : Int) + 1))).setCell (p := ⟨g, 1, none⟩) (.inr (by simp)) (.int .i64 ((i : Int) + 1)))
  clear hp
  go_enter Tryz.func178, Tryz.ntmps178
  go_wp2_with fail
  refine (blanks_any _ _ _ _ _ HP.out hl (by omega)).mono ?_
  rintro x w' ⟨rfl, hp', hb, hk⟩
  go_wp2
  go_end0
  exact ⟨rfl, hp', hb, HK.out.tr hk⟩
/-- Where no byte stands there. -/
theorem empty_none (g : Nat) (s : List UInt8) (i d : Nat) (c : UInt8) (w : World) (hp : PA g s i d w) (hl : s.length ≤ 4000) (hi : i ≤ s.length) (hc : s[i]? = none) :
    Calls Tryz.prog 179 #[.pointer (some ⟨g, 0, none⟩), .int .u8 c.toNat] w fun e w' => e = gaveUp 40 i ∧ Kept (· ≠ g) w w' := by
  have C := Lib.hid (here_bad g s i d w hc hp hl hi)
  clear hc hp
  go_enter Tryz.func179, Tryz.ntmps179
  go_wp2_with fail
  refine C.out.mono ?_
  rintro x w' ⟨rfl, n, rfl⟩
  go_wp2
  exact ⟨rfl, rfl, (Kept.refl _ w).drewN n⟩
theorem empty_no (g : Nat) (s : List UInt8) (i d : Nat) (c b : UInt8) (w : World) (hp : PA g s i d w) (hl : s.length ≤ 4000) (hc : s[i]? = some b) (hbc : b ≠ c) :
    Calls Tryz.prog 179 #[.pointer (some ⟨g, 0, none⟩), .int .u8 c.toNat] w fun e w' => e = .returned (.bool false) ∧ ∃ n, w' = w.drewN n := by
  have C := Lib.hid (here_ok g s i d w b hc hp hl)
  have q : ((b.toNat : Int) != (c.toNat : Int)) = true := by
    simp only [bne_iff_ne, ne_eq]
    intro e
    exact hbc (UInt8.toNat_inj.1 (by omega))
  clear hc hp hbc
  go_enter Tryz.func179, Tryz.ntmps179
  go_wp2_with fail
  refine C.out.mono ?_
  rintro x w' ⟨rfl, n, rfl⟩
  go_wp2
  go_ret
  exact ⟨rfl, n, rfl⟩
set_option maxHeartbeats 1000000 in
theorem empty_yes (g : Nat) (s : List UInt8) (i d : Nat) (c : UInt8) (w : World) (hp : PA g s i (d + 1) w) (hl : s.length ≤ 4000) (hd : d < 16) (hc : s[i]? = some c) :
    Calls Tryz.prog 179 #[.pointer (some ⟨g, 0, none⟩), .int .u8 c.toNat] w fun e w' => e = .returned (.bool true) ∧ PA g s (i + 1) d w' ∧ i + 1 ≤ s.length ∧ Kept (· ≠ g) w w' := by
  have C := Lib.hid (here_ok g s i (d + 1) w c hc hp hl)
  have hi1 : i + 1 ≤ s.length := (List.getElem?_eq_some_iff.1 hc).1
  have q : ((c.toNat : Int) != (c.toNat : Int)) = false := by simp
  obtain ⟨h0, h1, h2, h3, h4⟩ := hp.facts
  have e2 : ((d + 1 : Nat) : Int) = (d : Int) + 1 := by omega
  rw [e2] at h2
  have HP := Lib.hid hp
  clear hc hp e2
  go_enter Tryz.func179, Tryz.ntmps179
  go_wp2_with fail
  refine C.out.mono ?_
  rintro x w' ⟨rfl, n, rfl⟩
  go_wp2
  go_ret
  exact ⟨rfl, ((HP.out.drewN n).setAt (i + 1) _ (by congr 1)).setDeep d _ (by congr 1), hi1, (((Kept.refl _ w).drewN n).setCell (.inr (by simp)) _).setCell (.inr (by simp)) _⟩
/-- What 'more' finds: at the place behind the blanks. -/
theorem more_bad (g : Nat) (s : List UInt8) (i d : Nat) (c : UInt8) (w : World) (hp : PA g s i d w) (hl : s.length ≤ 4000) (hi : i ≤ s.length) (h44 : s[bl s i]? ≠ some 44) (hc : s[bl s i]? ≠ some c) :
    Calls Tryz.prog 180 #[.pointer (some ⟨g, 0, none⟩), .int .u8 c.toNat] w fun e w' => e = gaveUp 40 (bl s i) ∧ Kept (· ≠ g) w w' := by
  have B := Lib.hid (blanks_any g s i d w hp hl hi)
  clear hp
  cases hs : s[bl s i]? with
  | none =>
    have C := Lib.hid (fun w h1 h2 => here_bad g s (bl s i) d w hs h1 hl h2)
    clear hs h44 hc
    go_enter Tryz.func180, Tryz.ntmps180
    go_wp2_with fail
    refine B.out.mono ?_
    rintro x w1 ⟨rfl, hp1, hb1, hk1⟩
    go_wp2_with fail
    refine (C.out _ hp1 hb1).mono ?_
    rintro x w' ⟨rfl, n, rfl⟩
    go_wp2
    exact ⟨rfl, rfl, hk1.drewN n⟩
  | some b =>
    have C := Lib.hid (fun w h1 => here_ok g s (bl s i) d w b hs h1 hl)
    have q44 := byte_is b 44 44 rfl
    rw [decide_eq_false (fun e => h44 (by rw [hs, e]))] at q44
    have q : ((b.toNat : Int) == (c.toNat : Int)) = false := by
      rw [byte_is b c.toNat c rfl, decide_eq_false (fun e => hc (by rw [hs, e]))]
    clear hs h44 hc
    go_enter Tryz.func180, Tryz.ntmps180
    go_wp2_with fail
    refine B.out.mono ?_
    rintro x w1 ⟨rfl, hp1, hb1, hk1⟩
    go_wp2_with fail
    refine (C.out _ hp1).mono ?_
    rintro x w' ⟨rfl, n, rfl⟩
    go_wp2_with fail
    refine (fail_any _ _ _ _ _ _ (hp1.drewN _)).mono ?_
    rintro x w' ⟨rfl, rfl⟩
    go_wp2
    exact ⟨rfl, rfl, hk1.drewN n⟩
set_option maxHeartbeats 1000000 in
theorem more_comma (g : Nat) (s : List UInt8) (i d : Nat) (c : UInt8) (w : World) (hp : PA g s i d w) (hl : s.length ≤ 4000) (hi : i ≤ s.length) (h44 : s[bl s i]? = some 44) :
    Calls Tryz.prog 180 #[.pointer (some ⟨g, 0, none⟩), .int .u8 c.toNat] w fun e w' => e = .returned (.bool true) ∧ PA g s (bl s i + 1) d w' ∧ bl s i + 1 ≤ s.length ∧ Kept (· ≠ g) w w' := by
  have B := Lib.hid (blanks_any g s i d w hp hl hi)
  have C := Lib.hid (fun w h1 => here_ok g s (bl s i) d w 44 h44 h1 hl)
  have hi1 : bl s i + 1 ≤ s.length := (List.getElem?_eq_some_iff.1 h44).1
  obtain ⟨k, hk⟩ : ∃ k, bl s i = k := ⟨_, rfl⟩
  rw [hk] at B C hi1 ⊢
  clear hp h44 hk
  go_enter Tryz.func180, Tryz.ntmps180
  go_wp2_with fail
  refine B.out.mono ?_
  rintro x w1 ⟨rfl, hp1, hb1, hk1⟩
  have HP := Lib.hid hp1
  obtain ⟨h0, h1, h2, h3, h4⟩ := hp1.facts
  go_wp2_with fail
  refine (C.out _ hp1).mono ?_
  rintro x w' ⟨rfl, n, rfl⟩
  clear hp1
  go_wp2
  go_ret
  exact ⟨rfl, (HP.out.drewN n).setAt _ _ rfl, hi1, (hk1.drewN n).setCell (.inr (by simp)) _⟩
set_option maxHeartbeats 1000000 in
theorem more_end (g : Nat) (s : List UInt8) (i d : Nat) (c : UInt8) (w : World) (hp : PA g s i (d + 1) w) (hl : s.length ≤ 4000) (hi : i ≤ s.length) (hd : d < 16) (hc : s[bl s i]? = some c) (h44 : c ≠ 44) :
    Calls Tryz.prog 180 #[.pointer (some ⟨g, 0, none⟩), .int .u8 c.toNat] w fun e w' => e = .returned (.bool false) ∧ PA g s (bl s i + 1) d w' ∧ bl s i + 1 ≤ s.length ∧ Kept (· ≠ g) w w' := by
  have B := Lib.hid (blanks_any g s i (d + 1) w hp hl hi)
  have C := Lib.hid (fun w h1 => here_ok g s (bl s i) (d + 1) w c hc h1 hl)
  have hi1 : bl s i + 1 ≤ s.length := (List.getElem?_eq_some_iff.1 hc).1
  obtain ⟨k, hk⟩ : ∃ k, bl s i = k := ⟨_, rfl⟩
  rw [hk] at B C hi1 ⊢
  have q44 := byte_is c 44 44 rfl
  rw [decide_eq_false h44] at q44
  have q : ((c.toNat : Int) == (c.toNat : Int)) = true := by simp
  clear hp hc hk h44
  go_enter Tryz.func180, Tryz.ntmps180
  go_wp2_with fail
  refine B.out.mono ?_
  rintro x w1 ⟨rfl, hp1, hb1, hk1⟩
  have HP := Lib.hid hp1
  obtain ⟨h0, h1, h2, h3, h4⟩ := hp1.facts
  have e2 : ((d + 1 : Nat) : Int) = (d : Int) + 1 := by omega
  rw [e2] at h2
  clear e2
  go_wp2_with fail
  refine (C.out _ hp1).mono ?_
  rintro x w' ⟨rfl, n, rfl⟩
  clear hp1
  go_wp2
  go_ret
  exact ⟨rfl, ((HP.out.drewN n).setAt (k + 1) _ (by congr 1)).setDeep d _ (by congr 1), hi1, ((hk1.drewN n).setCell (.inr (by simp)) _).setCell (.inr (by simp)) _⟩
end Go.Proofs.YtpcgfhleloonfaaGreatDoor
namespace Go.Proofs.YtpcgfhleloonfaaGreatDoor
open Go.RowKit Jo
/-- A value of the call's own: what it reaches lies in blocks that the call has made. -/
def ValQ (w : World) (x : J) (e : Ending) (w' : World) : Prop := ∃ u, e = .returned u ∧ VIn (fun b => w.heap.size ≤ b) w' x u
/-- The contract of 'value', where k lists and objects more may be opened. -/
def ValC (g : Nat) (s : List UInt8) (d k : Nat) : Prop := ∀ (i : Nat) (w : World), PA g s i d w → i ≤ s.length →
  Calls Tryz.prog 126 #[.pointer (some ⟨g, 0, none⟩)] w (Reads g s d w (valP s k i) (ValQ w))
set_option maxHeartbeats 8000000 in
set_option maxRecDepth 100000 in
theorem list_any (g : Nat) (s : List UInt8) (i d k : Nat) (hv : ValC g s (d + 1) k) (w : World) (hp : PA g s i d w) (hd : d < 16) (hi : i < s.length) (hl : s.length ≤ 4000) :
    Calls Tryz.prog 153 #[.pointer (some ⟨g, 0, none⟩)] w (Reads g s d w (listP s (valP s k) i) fun xs e w' => ValQ w (J.list xs) e w') := by
  obtain ⟨R, hR⟩ : ∃ R, listP s (valP s k) i = R := ⟨_, rfl⟩
  have HR := Lib.hid hR
  rw [hR]
  clear hR
  have HV := Lib.hid hv
  clear hv
  have hgl := hp.lt
  have O := Lib.hid (open_any g s i d w hp hd hi hl)
  clear hp
  go_enter Tryz.func153, Tryz.ntmps153
  go_wp2_with fail
  refine O.out.mono ?_
  rintro x w1 ⟨rfl, hp1, hb1, hk1⟩
  cases hc : s[bl s (i + 1)]? with
  | none =>
    have HN : Hid (R = .bad 40 (bl s (i + 1))) := Lib.hid (by rw [← HR.out, listP, hc])
    have E := Lib.hid (empty_none g s (bl s (i + 1)) (d + 1) 93 w1 hp1 hl hb1 hc)
    clear hc hp1
    go_wp2_with fail
    refine E.out.mono ?_
    rintro x w' ⟨rfl, hk⟩
    go_wp2
    rw [HN.out]
    exact ⟨rfl, rfl, hb1, hk1.tr hk⟩
  | some c =>
    by_cases h93 : c = 93
    · subst h93
      have HN : Hid (R = .ok [] (bl s (i + 1) + 1)) := Lib.hid (by rw [← HR.out, listP, hc]; rfl)
      have E := Lib.hid (empty_yes g s (bl s (i + 1)) d 93 w1 hp1 hl hd hc)
      clear hc hp1
      go_wp2_with fail
      refine E.out.mono ?_
      rintro x w' ⟨rfl, hp', hb, hk⟩
      go_wp2
      go_ret
      rw [HN.out]
      exact ⟨⟨_, rfl, .list [] _ (fun _ => .nilIface) (by simp) (.inl ⟨rfl, rfl⟩) (fun j x h => by simp at h)⟩, hp', hb, hk1.tr hk⟩
    · have HN : Hid (listL s (valP s k) (s.length + 1) [] (bl s (i + 1)) = R) := Lib.hid (by rw [← HR.out, listP, hc]; simp only [if_neg h93])
      have E := Lib.hid (empty_no g s (bl s (i + 1)) (d + 1) 93 c w1 hp1 hl hc h93)
      obtain ⟨i1, hi1⟩ : ∃ i1, bl s (i + 1) = i1 := ⟨_, rfl⟩
      rw [hi1] at HN hb1 hp1
      have hil : 1 ≤ i1 := by have := bl_le s (i + 1); omega
      clear hc h93 hi1 HR O
      go_wp2_with fail
      refine E.out.mono ?_
      rintro x w' ⟨rfl, n, rfl⟩
      have hB := hk1.size
      go_wp2_with fail
      go_loopg [3, 4] (s.length + 2) (fun q v mo wr => ∃ (acc : List J) (j : Nat) (t : Bool), mo = .bool t ∧ OwnV w.heap.size v acc wr ∧ Kept (· ≠ g) w wr ∧ j ≤ s.length ∧ acc.length ≤ j ∧
        Hid ((t = true ∧ PA g s j (d + 1) wr ∧ ∃ f, q = f + 1 ∧ s.length + 1 ≤ j + f ∧ listL s (valP s k) f acc j = R) ∨ (t = false ∧ PA g s j d wr ∧ R = .ok acc j)))
      case atStart => exact ⟨[], i1, true, rfl, OwnV.nil _ _, hk1.drewN n, hb1, by simp, Lib.hid (.inl ⟨rfl, hp1.drewN n, _, rfl, by omega, HN.out⟩)⟩
      case round =>
        clear HN E hp1 hk1
        obtain ⟨acc, j, t, rfl, ho, hk, hj, hal, H⟩ := hrel
        have HO := Lib.hid ho
        clear ho
        cases t with
        | false =>
          obtain ⟨hp', hR⟩ : PA g s j d wr ∧ R = .ok acc j := by
            rcases H.out with h | h
            · cases h.1
            · exact h.2
          have HN := Lib.hid hR
          have HP := Lib.hid hp'
          clear hR hp' H
          go_wp2
          go_ret
          rw [HN.out]
          refine ⟨⟨_, rfl, ?_⟩, HP.out, hj, hk⟩
          obtain ⟨us, e1, e2, e3⟩ := HO.out
          refine .list acc _ (fun j => us.getD j .nilIface) (by omega) ?_ (fun j x hx => (e3 j x hx).mono fun b _ hb => hb.1)
          rcases e2.2 with ⟨e4, e5⟩ | ⟨b, cap, cur, e4, e5, e6, e7, e8, e9, e10⟩
          · exact .inl ⟨e4, e5⟩
          · refine .inr ⟨b, cap, e4, e7, e5, (Array.getElem?_eq_some_iff.1 e6).1, fun j hj => ?_⟩
            have := e2.cells (g := b) (by rw [e4]; rfl) j (us.getD j .nilIface) (by rw [List.getD_eq_getElem?_getD, List.getElem?_eq_getElem (by omega)]; rfl)
            rwa [show (⟨b, 0, none⟩ : Addr).add j = ⟨b, j, none⟩ from by unfold Addr.add; split <;> simp_all] at this
        | true =>
          obtain ⟨hp', f, rfl, hfu, hR⟩ : PA g s j (d + 1) wr ∧ ∃ f, gk = f + 1 ∧ s.length + 1 ≤ j + f ∧ listL s (valP s k) f acc j = R := by
            rcases H.out with h | h
            · exact h.2
            · cases h.1
          clear H
          obtain ⟨q, rfl⟩ : ∃ q, f = q + 1 := ⟨f - 1, by omega⟩
          have V := Lib.hid (HV.out j wr hp' hj)
          have hwr := hk.size
          cases hx : valP s k j with
          | bad e j' =>
            have HN : Hid (R = .bad e j') := Lib.hid (by rw [← hR, listL, hx]; rfl)
            rw [hx] at V
            clear hx hR hp'
            go_wp2_with fail
            refine V.out.mono ?_
            rintro x w' ⟨rfl, hb, hk'⟩
            go_wp2
            rw [HN.out]
            exact ⟨rfl, rfl, hb, hk.tr hk'⟩
          | ok x j1 =>
            have hjj := valP_le hx
            have HQ : Hid (R = match s[bl s j1]? with
              | none => .bad 40 (bl s j1)
              | some c => if c = 44 then listL s (valP s k) q (acc ++ [x]) (bl s j1 + 1) else if c = 93 then .ok (acc ++ [x]) (bl s j1 + 1) else .bad 40 (bl s j1)) := Lib.hid (by rw [← hR, listL, hx]; rfl)
            rw [hx] at V
            clear hx hR hp'
            go_wp2_with fail
            refine V.out.mono ?_
            rintro _ w2 ⟨⟨u, rfl, hu⟩, hp2, hj1, hk2⟩
            obtain ⟨ut, uv, rfl⟩ := hu.face
            have hwk : Kept (· ≠ g) w w2 := hk.tr hk2
            have HO2 := Lib.hid (HO.out.kept hk2 hgl)
            have HU : Hid (VIn (fun b => w.heap.size ≤ b ∧ some b ≠ _) w2 x (.iface ut uv)) := Lib.hid (hu.mono fun b hb hw => ⟨by omega, fun e => by
              obtain ⟨us, _, e2, _⟩ := HO.out
              have := (e2.lt b e.symm).2
              omega⟩)
            have hz2 := hk2.size
            have hz3 := hwk.size
            clear hu V HO
            obtain ⟨us, e1, e2, e3⟩ := HO2.out
            have HE2 := Lib.hid e2
            have HE3 := Lib.hid e3
            have HP2 := Lib.hid hp2
            clear e2 e3 hp2
            go_wp2_with (at_builtin; refine wpList_pushOne 211 168 Tryz.underlying211 infoValue rfl (by decide) rfl _ _ rfl w.heap.size _ acc.length us [.iface ut uv] w2 _ rfl rfl rfl (by intro y hy; simp at hy; subst hy; rfl) 1 _ rfl rfl rfl HE2.out (by omega) (by decide) (by omega) ?_)
            intro v' w3 k1 k2 k3
            have HO3 := Lib.hid (ownV_push e1 HE3.out HU.out k1 k3)
            have hwk3 : Kept (· ≠ g) w w3 := hwk.trans (Below.kept (g := g) k2) fun i hi ho => ⟨hi, ho⟩
            have HP3 := Lib.hid (HP2.out.kept (Below.kept (g := w.heap.size) k2) ⟨hgl, by omega⟩)
            have hz4 := k2.size
            clear k1 k2 k3 HE2 HE3 HO2 HU
            by_cases h44 : s[bl s j1]? = some 44
            · have HN : Hid (listL s (valP s k) q (acc ++ [x]) (bl s j1 + 1) = R) := Lib.hid (by rw [HQ.out, h44]; rfl)
              have M := Lib.hid (more_comma g s j1 (d + 1) 93 w3 HP3.out hl hj1 h44)
              clear h44 HQ HP3
              have hbj := bl_le s j1
              go_wp2_with fail
              refine M.out.mono ?_
              rintro _ w4 ⟨rfl, hp4, hb4, hk4⟩
              have HO4 := Lib.hid (HO3.out.kept hk4 hgl)
              clear HO3
              go_wp2
              go_roundg (q + 1)
              case rel => exact ⟨acc ++ [x], bl s j1 + 1, true, rfl, HO4.out, hwk3.tr hk4, hb4, by rw [List.length_append, List.length_singleton]; omega, Lib.hid (.inl ⟨rfl, hp4, q, rfl, by omega, HN.out⟩)⟩
              case measure => omega
            · by_cases h93 : s[bl s j1]? = some 93
              · have HN : Hid (R = .ok (acc ++ [x]) (bl s j1 + 1)) := Lib.hid (by rw [HQ.out, h93]; rfl)
                have M := Lib.hid (more_end g s j1 d 93 w3 HP3.out hl hj1 hd h93 (by decide))
                clear h44 h93 HQ HP3
                have hbj := bl_le s j1
                go_wp2_with fail
                refine M.out.mono ?_
                rintro _ w4 ⟨rfl, hp4, hb4, hk4⟩
                have HO4 := Lib.hid (HO3.out.kept hk4 hgl)
                clear HO3
                go_wp2
                go_roundg q
                case rel => exact ⟨acc ++ [x], bl s j1 + 1, false, rfl, HO4.out, hwk3.tr hk4, hb4, by rw [List.length_append, List.length_singleton]; omega, Lib.hid (.inr ⟨rfl, hp4, HN.out⟩)⟩
                case measure => omega
              · have HN : Hid (R = .bad 40 (bl s j1)) := Lib.hid (by
                  rw [HQ.out]
                  cases h : s[bl s j1]? with
                  | none => rfl
                  | some c =>
                    simp only
                    rw [if_neg (fun e => h44 (by rw [h, e])), if_neg (fun e => h93 (by rw [h, e]))])
                have M := Lib.hid (more_bad g s j1 (d + 1) 93 w3 HP3.out hl hj1 h44 h93)
                clear h44 h93 HQ HP3
                have hbm := bl_max s j1 hj1
                go_wp2_with fail
                refine M.out.mono ?_
                rintro _ w4 ⟨rfl, hk4⟩
                go_wp2
                rw [HN.out]
                exact ⟨rfl, rfl, hbm, hwk3.tr hk4⟩
end Go.Proofs.YtpcgfhleloonfaaGreatDoor
namespace Go.Proofs.YtpcgfhleloonfaaGreatDoor
open Go.RowKit Jo
theorem list_deep (g : Nat) (s : List UInt8) (i : Nat) (w : World) (hp : PA g s i 16 w) (hi : i < s.length) (Q : List J → Ending → World → Prop) :
    Calls Tryz.prog 153 #[.pointer (some ⟨g, 0, none⟩)] w (Reads g s 16 w (.bad 41 i) Q) := by
  have O := Lib.hid (open_deep g s i w hp)
  clear hp
  go_enter Tryz.func153, Tryz.ntmps153
  go_wp2_with fail
  refine O.out.mono ?_
  rintro x w1 ⟨rfl, rfl⟩
  go_wp2
  exact ⟨rfl, rfl, by omega, Kept.refl _ _⟩
theorem object_deep (g : Nat) (s : List UInt8) (i : Nat) (w : World) (hp : PA g s i 16 w) (hi : i < s.length) (Q : List (List UInt8 × J) → Ending → World → Prop) :
    Calls Tryz.prog 154 #[.pointer (some ⟨g, 0, none⟩)] w (Reads g s 16 w (.bad 41 i) Q) := by
  have O := Lib.hid (open_deep g s i w hp)
  clear hp
  go_enter Tryz.func154, Tryz.ntmps154
  go_wp2_with fail
  refine O.out.mono ?_
  rintro x w1 ⟨rfl, rfl⟩
  go_wp2
  exact ⟨rfl, rfl, by omega, Kept.refl _ _⟩
/-- The contract of 'list' and of 'object' that 'value' leans on. -/
def ListC (g : Nat) (s : List UInt8) (d : Nat) (L : Nat → PR (List J)) : Prop := ∀ (i : Nat) (w : World), PA g s i d w → i < s.length →
  Calls Tryz.prog 153 #[.pointer (some ⟨g, 0, none⟩)] w (Reads g s d w (L i) fun xs e w' => ValQ w (J.list xs) e w')
def ObjC (g : Nat) (s : List UInt8) (d : Nat) (O : Nat → PR (List (List UInt8 × J))) : Prop := ∀ (i : Nat) (w : World), PA g s i d w → i < s.length →
  Calls Tryz.prog 154 #[.pointer (some ⟨g, 0, none⟩)] w (Reads g s d w (O i) fun ms e w' => ValQ w (J.obj (sortM ms)) e w')
set_option maxHeartbeats 8000000 in
set_option maxRecDepth 100000 in
theorem value_step (g : Nat) (s : List UInt8) (d : Nat) (L : Nat → PR (List J)) (O : Nat → PR (List (List UInt8 × J))) (hL : ListC g s d L) (hO : ObjC g s d O) (i : Nat) (w : World) (hp : PA g s i d w) (hi : i ≤ s.length) (hl : s.length ≤ 4000) :
    Calls Tryz.prog 126 #[.pointer (some ⟨g, 0, none⟩)] w (Reads g s d w (valQ s L O (bl s i)) (ValQ w)) := by
  obtain ⟨R, hR⟩ : ∃ R, valQ s L O (bl s i) = R := ⟨_, rfl⟩
  have HR := Lib.hid hR
  rw [hR]
  clear hR
  have HL := Lib.hid hL
  have HO := Lib.hid hO
  have hgl := hp.lt
  have B := Lib.hid (blanks_any g s i d w hp hl hi)
  clear hL hO hp
  obtain ⟨j, hj⟩ : ∃ j, bl s i = j := ⟨_, rfl⟩
  rw [hj] at B HR
  clear hj
  cases hc : s[j]? with
  | none =>
    have HN : Hid (R = .bad 40 j) := Lib.hid (by rw [← HR.out, valQ, hc])
    have C := Lib.hid (fun w h1 h2 => here_bad g s j d w hc h1 hl h2)
    clear hc
    go_enter Tryz.func126, Tryz.ntmps126
    go_wp2_with fail
    refine B.out.mono ?_
    rintro x w1 ⟨rfl, hp1, hb1, hk1⟩
    go_wp2_with fail
    refine (C.out _ hp1 hb1).mono ?_
    rintro x w' ⟨rfl, n, rfl⟩
    go_wp2
    rw [HN.out]
    exact ⟨rfl, rfl, hb1, hk1.drewN _⟩
  | some c =>
    have hjl : j < s.length := (List.getElem?_eq_some_iff.1 hc).1
    have C := Lib.hid (fun w h1 => here_ok g s j d w c hc h1 hl)
    have HQ : Hid (R = if c = 110 then (wordP s [110, 117, 108, 108] j).bind fun _ i => .ok J.null i
      else if c = 102 then (wordP s [102, 97, 108, 115, 101] j).bind fun _ i => .ok J.fls i
      else if c = 116 then (wordP s [116, 114, 117, 101] j).bind fun _ i => .ok J.tru i
      else if c = 34 then (textP s [] j).bind fun t i => .ok (J.tx t) i
      else if c = 91 then (L j).bind fun xs i => .ok (J.list xs) i
      else if c = 123 then (O j).bind fun ms i => .ok (J.obj (sortM ms)) i
      else (numP s j).bind fun n i => .ok (J.nr n) i) := Lib.hid (by rw [← HR.out, valQ, hc])
    have q110 := byte_is c 110 110 rfl
    have q102 := byte_is c 102 102 rfl
    have q116 := byte_is c 116 116 rfl
    have q34 := byte_is c 34 34 rfl
    have q91 := byte_is c 91 91 rfl
    have q123 := byte_is c 123 123 rfl
    clear hc HR
    by_cases e110 : c = 110
    · have HN : Hid (R = (wordP s [110, 117, 108, 108] j).bind fun _ i => .ok J.null i) := Lib.hid (by rw [HQ.out]; simp [e110])
      rw [decide_eq_true (by exact e110)] at q110
      rw [decide_eq_false (by rw [e110]; decide)] at q102
      rw [decide_eq_false (by rw [e110]; decide)] at q116
      rw [decide_eq_false (by rw [e110]; decide)] at q34
      rw [decide_eq_false (by rw [e110]; decide)] at q91
      rw [decide_eq_false (by rw [e110]; decide)] at q123
      clear HQ e110
      go_enter Tryz.func126, Tryz.ntmps126
      go_wp2_with fail
      refine B.out.mono ?_
      rintro x w1 ⟨rfl, hp1, hb1, hk1⟩
      go_wp2_with fail
      refine (C.out _ hp1).mono ?_
      rintro x w' ⟨rfl, n, rfl⟩
      have D := Lib.hid (word_any g s [110, 117, 108, 108] j d _ (hp1.drewN n) hl (by simp) hb1)
      go_wp2_with fail
      refine D.out.mono ?_
      clear D
      cases hq : (wordP s [110, 117, 108, 108] j) with
      | bad e k =>
        have HN2 : Hid (R = .bad e k) := Lib.hid (by rw [HN.out, hq]; rfl)
        rintro x w2 ⟨rfl, hb, hk⟩
        clear hq HN
        go_wp2
        rw [HN2.out]
        exact ⟨rfl, rfl, hb, (hk1.drewN n).tr hk⟩
      | ok u k =>
        have HN2 : Hid (R = .ok (J.null) k) := Lib.hid (by rw [HN.out, hq]; rfl)
        rintro x w2 ⟨rfl, hp2, hb, hk⟩
        clear hq HN
        go_wp2
        go_ret
        rw [HN2.out]
        exact ⟨⟨_, rfl, .null⟩, hp2, hb, (hk1.drewN n).tr hk⟩
    by_cases e102 : c = 102
    · have HN : Hid (R = (wordP s [102, 97, 108, 115, 101] j).bind fun _ i => .ok J.fls i) := Lib.hid (by rw [HQ.out]; simp [e102])
      rw [decide_eq_false (by rw [e102]; decide)] at q110
      rw [decide_eq_true (by exact e102)] at q102
      rw [decide_eq_false (by rw [e102]; decide)] at q116
      rw [decide_eq_false (by rw [e102]; decide)] at q34
      rw [decide_eq_false (by rw [e102]; decide)] at q91
      rw [decide_eq_false (by rw [e102]; decide)] at q123
      clear HQ e102
      go_enter Tryz.func126, Tryz.ntmps126
      go_wp2_with fail
      refine B.out.mono ?_
      rintro x w1 ⟨rfl, hp1, hb1, hk1⟩
      go_wp2_with fail
      refine (C.out _ hp1).mono ?_
      rintro x w' ⟨rfl, n, rfl⟩
      have D := Lib.hid (word_any g s [102, 97, 108, 115, 101] j d _ (hp1.drewN n) hl (by simp) hb1)
      go_wp2_with fail
      refine D.out.mono ?_
      clear D
      cases hq : (wordP s [102, 97, 108, 115, 101] j) with
      | bad e k =>
        have HN2 : Hid (R = .bad e k) := Lib.hid (by rw [HN.out, hq]; rfl)
        rintro x w2 ⟨rfl, hb, hk⟩
        clear hq HN
        go_wp2
        rw [HN2.out]
        exact ⟨rfl, rfl, hb, (hk1.drewN n).tr hk⟩
      | ok u k =>
        have HN2 : Hid (R = .ok (J.fls) k) := Lib.hid (by rw [HN.out, hq]; rfl)
        rintro x w2 ⟨rfl, hp2, hb, hk⟩
        clear hq HN
        go_wp2
        go_ret
        rw [HN2.out]
        exact ⟨⟨_, rfl, .fls⟩, hp2, hb, (hk1.drewN n).tr hk⟩
    by_cases e116 : c = 116
    · have HN : Hid (R = (wordP s [116, 114, 117, 101] j).bind fun _ i => .ok J.tru i) := Lib.hid (by rw [HQ.out]; simp [e116])
      rw [decide_eq_false (by rw [e116]; decide)] at q110
      rw [decide_eq_false (by rw [e116]; decide)] at q102
      rw [decide_eq_true (by exact e116)] at q116
      rw [decide_eq_false (by rw [e116]; decide)] at q34
      rw [decide_eq_false (by rw [e116]; decide)] at q91
      rw [decide_eq_false (by rw [e116]; decide)] at q123
      clear HQ e116
      go_enter Tryz.func126, Tryz.ntmps126
      go_wp2_with fail
      refine B.out.mono ?_
      rintro x w1 ⟨rfl, hp1, hb1, hk1⟩
      go_wp2_with fail
      refine (C.out _ hp1).mono ?_
      rintro x w' ⟨rfl, n, rfl⟩
      have D := Lib.hid (word_any g s [116, 114, 117, 101] j d _ (hp1.drewN n) hl (by simp) hb1)
      go_wp2_with fail
      refine D.out.mono ?_
      clear D
      cases hq : (wordP s [116, 114, 117, 101] j) with
      | bad e k =>
        have HN2 : Hid (R = .bad e k) := Lib.hid (by rw [HN.out, hq]; rfl)
        rintro x w2 ⟨rfl, hb, hk⟩
        clear hq HN
        go_wp2
        rw [HN2.out]
        exact ⟨rfl, rfl, hb, (hk1.drewN n).tr hk⟩
      | ok u k =>
        have HN2 : Hid (R = .ok (J.tru) k) := Lib.hid (by rw [HN.out, hq]; rfl)
        rintro x w2 ⟨rfl, hp2, hb, hk⟩
        clear hq HN
        go_wp2
        go_ret
        rw [HN2.out]
        exact ⟨⟨_, rfl, .tru⟩, hp2, hb, (hk1.drewN n).tr hk⟩
    by_cases e34 : c = 34
    · have HN : Hid (R = (textP s [] j).bind fun t i => .ok (J.tx t) i) := Lib.hid (by rw [HQ.out]; simp [e34])
      rw [decide_eq_false (by rw [e34]; decide)] at q110
      rw [decide_eq_false (by rw [e34]; decide)] at q102
      rw [decide_eq_false (by rw [e34]; decide)] at q116
      rw [decide_eq_true (by exact e34)] at q34
      rw [decide_eq_false (by rw [e34]; decide)] at q91
      rw [decide_eq_false (by rw [e34]; decide)] at q123
      clear HQ e34
      go_enter Tryz.func126, Tryz.ntmps126
      go_wp2_with fail
      refine B.out.mono ?_
      rintro x w1 ⟨rfl, hp1, hb1, hk1⟩
      go_wp2_with fail
      refine (C.out _ hp1).mono ?_
      rintro x w' ⟨rfl, n, rfl⟩
      have D := Lib.hid (text_any g s j d none [] _ (hp1.drewN n) (.inl ⟨rfl, rfl⟩) hl hb1)
      go_wp2_with fail
      refine D.out.mono ?_
      clear D
      cases hq : (textP s [] j) with
      | bad e k =>
        have HN2 : Hid (R = .bad e k) := Lib.hid (by rw [HN.out, hq]; rfl)
        rintro x w2 ⟨rfl, hb, hk⟩
        clear hq HN
        go_wp2
        rw [HN2.out]
        exact ⟨rfl, rfl, hb, (hk1.drewN n).tr hk⟩
      | ok t k =>
        have HN2 : Hid (R = .ok (J.tx t) k) := Lib.hid (by rw [HN.out, hq]; rfl)
        rintro x w2 ⟨rfl, hp2, hb, hk⟩
        clear hq HN
        go_wp2
        go_ret
        rw [HN2.out]
        exact ⟨⟨_, rfl, .tx _⟩, hp2, hb, (hk1.drewN n).tr hk⟩
    by_cases e91 : c = 91
    · have HN : Hid (R = (L j).bind fun xs i => .ok (J.list xs) i) := Lib.hid (by rw [HQ.out]; simp [e91])
      rw [decide_eq_false (by rw [e91]; decide)] at q110
      rw [decide_eq_false (by rw [e91]; decide)] at q102
      rw [decide_eq_false (by rw [e91]; decide)] at q116
      rw [decide_eq_false (by rw [e91]; decide)] at q34
      rw [decide_eq_true (by exact e91)] at q91
      rw [decide_eq_false (by rw [e91]; decide)] at q123
      clear HQ e91
      go_enter Tryz.func126, Tryz.ntmps126
      go_wp2_with fail
      refine B.out.mono ?_
      rintro x w1 ⟨rfl, hp1, hb1, hk1⟩
      go_wp2_with fail
      refine (C.out _ hp1).mono ?_
      rintro x w' ⟨rfl, n, rfl⟩
      have D := Lib.hid (HL.out j _ (hp1.drewN n) hjl)
      go_wp2_with fail
      refine D.out.mono ?_
      clear D
      cases hq : (L j) with
      | bad e k =>
        have HN2 : Hid (R = .bad e k) := Lib.hid (by rw [HN.out, hq]; rfl)
        rintro x w2 ⟨rfl, hb, hk⟩
        clear hq HN
        go_wp2
        rw [HN2.out]
        exact ⟨rfl, rfl, hb, (hk1.drewN n).tr hk⟩
      | ok xs k =>
        have HN2 : Hid (R = .ok (J.list xs) k) := Lib.hid (by rw [HN.out, hq]; rfl)
        rintro x w2 ⟨⟨u, rfl, hu⟩, hp2, hb, hk⟩
        have HU : Hid (VIn (fun b => w.heap.size ≤ b) w2 _ u) := Lib.hid (hu.mono fun b _ hb => Nat.le_trans hk1.size hb)
        clear hq HN hu
        go_wp2
        go_ret
        rw [HN2.out]
        exact ⟨⟨_, rfl, HU.out⟩, hp2, hb, (hk1.drewN n).tr hk⟩
    by_cases e123 : c = 123
    · have HN : Hid (R = (O j).bind fun ms i => .ok (J.obj (sortM ms)) i) := Lib.hid (by rw [HQ.out]; simp [e123])
      rw [decide_eq_false (by rw [e123]; decide)] at q110
      rw [decide_eq_false (by rw [e123]; decide)] at q102
      rw [decide_eq_false (by rw [e123]; decide)] at q116
      rw [decide_eq_false (by rw [e123]; decide)] at q34
      rw [decide_eq_false (by rw [e123]; decide)] at q91
      rw [decide_eq_true (by exact e123)] at q123
      clear HQ e123
      go_enter Tryz.func126, Tryz.ntmps126
      go_wp2_with fail
      refine B.out.mono ?_
      rintro x w1 ⟨rfl, hp1, hb1, hk1⟩
      go_wp2_with fail
      refine (C.out _ hp1).mono ?_
      rintro x w' ⟨rfl, n, rfl⟩
      have D := Lib.hid (HO.out j _ (hp1.drewN n) hjl)
      go_wp2_with fail
      refine D.out.mono ?_
      clear D
      cases hq : (O j) with
      | bad e k =>
        have HN2 : Hid (R = .bad e k) := Lib.hid (by rw [HN.out, hq]; rfl)
        rintro x w2 ⟨rfl, hb, hk⟩
        clear hq HN
        go_wp2
        rw [HN2.out]
        exact ⟨rfl, rfl, hb, (hk1.drewN n).tr hk⟩
      | ok ms k =>
        have HN2 : Hid (R = .ok (J.obj (sortM ms)) k) := Lib.hid (by rw [HN.out, hq]; rfl)
        rintro x w2 ⟨⟨u, rfl, hu⟩, hp2, hb, hk⟩
        have HU : Hid (VIn (fun b => w.heap.size ≤ b) w2 _ u) := Lib.hid (hu.mono fun b _ hb => Nat.le_trans hk1.size hb)
        clear hq HN hu
        go_wp2
        go_ret
        rw [HN2.out]
        exact ⟨⟨_, rfl, HU.out⟩, hp2, hb, (hk1.drewN n).tr hk⟩
    have HN : Hid (R = (numP s j).bind fun n i => .ok (J.nr n) i) := Lib.hid (by rw [HQ.out]; simp [e110, e102, e116, e34, e91, e123])
    rw [decide_eq_false (by exact e110)] at q110
    rw [decide_eq_false (by exact e102)] at q102
    rw [decide_eq_false (by exact e116)] at q116
    rw [decide_eq_false (by exact e34)] at q34
    rw [decide_eq_false (by exact e91)] at q91
    rw [decide_eq_false (by exact e123)] at q123
    clear HQ e110 e102 e116 e34 e91 e123
    go_enter Tryz.func126, Tryz.ntmps126
    go_wp2_with fail
    refine B.out.mono ?_
    rintro x w1 ⟨rfl, hp1, hb1, hk1⟩
    go_wp2_with fail
    refine (C.out _ hp1).mono ?_
    rintro x w' ⟨rfl, n, rfl⟩
    have D := Lib.hid (number_any g s j d _ (hp1.drewN n) hl hb1)
    go_wp2_with fail
    refine D.out.mono ?_
    clear D
    cases hq : numP s j with
    | bad e k =>
      have HN2 : Hid (R = .bad e k) := Lib.hid (by rw [HN.out, hq]; rfl)
      rintro x w2 ⟨rfl, hb, hk⟩
      clear hq HN
      go_wp2
      rw [HN2.out]
      exact ⟨rfl, rfl, hb, (hk1.drewN n).tr hk⟩
    | ok z k =>
      have HN2 : Hid (R = .ok (J.nr z) k) := Lib.hid (by rw [HN.out, hq]; rfl)
      rintro x w2 ⟨rfl, hp2, hb, hk⟩
      clear hq HN
      go_wp2
      go_ret
      rw [HN2.out]
      exact ⟨⟨_, rfl, .nr _⟩, hp2, hb, (hk1.drewN n).tr hk⟩
end Go.Proofs.YtpcgfhleloonfaaGreatDoor
namespace Go.Proofs.YtpcgfhleloonfaaGreatDoor
open Go.RowKit Jo
/-- What 'object' asks of the sort: the members come into their order. -/
def SortC : Prop := ∀ (B : Nat) (v : Value) (ms : List (List UInt8 × J)) (w : World), OwnM B v ms w → ms ≠ [] → (ms.map (·.1)).Nodup → ms.length ≤ 100000 →
  Calls Tryz.prog 181 #[v, .func (.func 182) #[] #[]] w fun e w' => e = .returned (.tuple #[]) ∧ OwnM B v (sortM ms) w' ∧ Kept (fun b => some b ≠ v.ownBlock) w w'
theorem OwnM.ne {B g : Nat} {v : Value} {ms : List (List UInt8 × J)} {w : World} (h : OwnM B v ms w) (hg : g < B) : some g ≠ v.ownBlock := fun e => by
  obtain ⟨es, _, h2, _⟩ := h
  have := (h2.lt g e.symm).1
  omega
set_option maxHeartbeats 16000000 in
set_option maxRecDepth 100000 in
theorem object_any (g : Nat) (s : List UInt8) (i d k : Nat) (hsort : SortC) (hv : ValC g s (d + 1) k) (w : World) (hp : PA g s i d w) (hd : d < 16) (hi : i < s.length) (hl : s.length ≤ 4000) :
    Calls Tryz.prog 154 #[.pointer (some ⟨g, 0, none⟩)] w (Reads g s d w (objP s (valP s k) i) fun ms e w' => ValQ w (J.obj (sortM ms)) e w') := by
  obtain ⟨R, hR⟩ : ∃ R, objP s (valP s k) i = R := ⟨_, rfl⟩
  have HR := Lib.hid hR
  rw [hR]
  clear hR
  have HV := Lib.hid hv
  have HS := Lib.hid hsort
  clear hv hsort
  have hgl := hp.lt
  have hmm := @run_makeMap Tryz.prog
  have O := Lib.hid (open_any g s i d w hp hd hi hl)
  clear hp
  go_enter Tryz.func154, Tryz.ntmps154
  go_wp2_with fail
  refine O.out.mono ?_
  rintro x w1 ⟨rfl, hp1, hb1, hk1⟩
  cases hc : s[bl s (i + 1)]? with
  | none =>
    have HN : Hid (R = .bad 40 (bl s (i + 1))) := Lib.hid (by rw [← HR.out, objP, hc])
    have E := Lib.hid (empty_none g s (bl s (i + 1)) (d + 1) 125 w1 hp1 hl hb1 hc)
    clear hc hp1
    go_wp2_with fail
    refine E.out.mono ?_
    rintro x w' ⟨rfl, hk⟩
    go_wp2
    rw [HN.out]
    exact ⟨rfl, rfl, hb1, hk1.tr hk⟩
  | some c =>
    by_cases h93 : c = 125
    · subst h93
      have HN : Hid (R = .ok [] (bl s (i + 1) + 1)) := Lib.hid (by rw [← HR.out, objP, hc]; rfl)
      have E := Lib.hid (empty_yes g s (bl s (i + 1)) d 125 w1 hp1 hl hd hc)
      clear hc hp1
      go_wp2_with fail
      refine E.out.mono ?_
      rintro x w' ⟨rfl, hp', hb, hk⟩
      go_wp2
      go_ret
      rw [HN.out]
      exact ⟨⟨_, rfl, .obj [] _ (fun _ => .nilIface) (by simp) (.inl ⟨rfl, rfl⟩) (fun j x h => by simp at h)⟩, hp', hb, hk1.tr hk⟩
    · have HN : Hid (objL s (valP s k) (s.length + 1) [] (bl s (i + 1)) = R) := Lib.hid (by rw [← HR.out, objP, hc]; simp only [if_neg h93])
      have E := Lib.hid (empty_no g s (bl s (i + 1)) (d + 1) 125 c w1 hp1 hl hc h93)
      obtain ⟨i1, hi1⟩ : ∃ i1, bl s (i + 1) = i1 := ⟨_, rfl⟩
      rw [hi1] at HN hb1 hp1
      have hil : 1 ≤ i1 := by have := bl_le s (i + 1); omega
      clear hc h93 hi1 HR O
      go_wp2_with fail
      refine E.out.mono ?_
      rintro x w' ⟨rfl, n, rfl⟩
      have hB := hk1.size
      go_wp2_with fail
      have hk0 : Kept (· ≠ g) w ((w1.drewN n).alloc (.map #[] 0)) := (hk1.drewN n).alloc _
      have hs0 : SeenAt (some w1.heap.size) [] ((w1.drewN n).alloc (.map #[] 0)) := SeenAt.made (w1.drewN n)
      have hp0 : PA g s i1 (d + 1) ((w1.drewN n).alloc (.map #[] 0)) := (hp1.drewN n).kept (ok := fun _ => True) ((Kept.refl _ _).alloc _) trivial
      have hgb : g < w1.heap.size := by omega
      obtain ⟨b0, hb0⟩ : ∃ b0, w1.heap.size = b0 := ⟨_, rfl⟩
      have hz0 : b0 + 1 ≤ ((w1.drewN n).alloc (.map #[] 0)).heap.size := by rw [← hb0]; simp
      rw [hb0] at hs0 hgb hB ⊢
      clear hb0 hmm
      go_loopg [3, 5] (s.length + 2) (fun q v mo wr => ∃ (acc : List (List UInt8 × J)) (j : Nat) (t : Bool), mo = .bool t ∧ OwnM (b0 + 1) v acc wr ∧ SeenAt (some b0) (acc.map (·.1)) wr ∧ (acc.map (·.1)).Nodup ∧ Kept (· ≠ g) w wr ∧ b0 + 1 ≤ wr.heap.size ∧ j ≤ s.length ∧ acc.length ≤ j ∧
        Hid ((t = true ∧ PA g s j (d + 1) wr ∧ ∃ f, q = f + 1 ∧ s.length + 1 ≤ j + f ∧ objL s (valP s k) f acc j = R) ∨ (t = false ∧ PA g s j d wr ∧ acc ≠ [] ∧ R = .ok acc j)))
      case atStart => exact ⟨[], i1, true, rfl, OwnM.nil _ _, hs0, List.nodup_nil, hk0, hz0, hb1, by simp, Lib.hid (.inl ⟨rfl, hp0, _, rfl, by omega, HN.out⟩)⟩
      case round =>
        clear HN E hp1 hk1 hk0 hs0 hp0 hz0
        obtain ⟨acc, j, t, rfl, ho, hs, hnd, hk, hzr, hj, hal, H⟩ := hrel
        have HO := Lib.hid ho
        have HS1 := Lib.hid hs
        have HND := Lib.hid hnd
        clear ho hs hnd
        cases t with
        | false =>
          obtain ⟨hp', hne, hR⟩ : PA g s j d wr ∧ acc ≠ [] ∧ R = .ok acc j := by
            rcases H.out with h | h
            · cases h.1
            · exact h.2
          have HN := Lib.hid hR
          have HP := Lib.hid hp'
          have D := Lib.hid (HS.out (b0 + 1) _ acc wr HO.out hne HND.out (by omega))
          clear hR hp' H hne
          go_wp2_with fail
          refine D.out.mono ?_
          rintro x w2 ⟨rfl, ho2, hk2⟩
          have hgv := HO.out.ne (g := g) (by omega)
          have hwr := hk.size
          have HV2 : Hid (VIn (fun b => w.heap.size ≤ b) w2 (J.obj (sortM acc)) _) := Lib.hid ((ho2.value (by rw [(sortM_perm acc).length_eq]; omega)).mono fun b _ hb => by omega)
          have hk3 : Kept (· ≠ g) w w2 := hk.trans hk2 fun b hb hne e => by
            obtain ⟨es, _, h2, _⟩ := HO.out
            have := (h2.lt b e.symm).1
            omega
          have HP2 := Lib.hid (HP.out.kept hk2 hgv)
          clear ho2
          go_wp2
          go_ret
          rw [HN.out]
          exact ⟨⟨_, rfl, HV2.out⟩, HP2.out, hj, hk3⟩
        | true =>
          obtain ⟨hp', f, rfl, hfu, hR⟩ : PA g s j (d + 1) wr ∧ ∃ f, gk = f + 1 ∧ s.length + 1 ≤ j + f ∧ objL s (valP s k) f acc j = R := by
            rcases H.out with h | h
            · exact h.2
            · cases h.1
          clear H
          obtain ⟨q, rfl⟩ : ∃ q, f = q + 1 := ⟨f - 1, by omega⟩
          have HQ0 : Hid (R = (textP s (acc.map (·.1)) (bl s j)).bind fun n i => (wantP s 58 (bl s i)).bind fun _ i => (valP s k i).bind fun x i => match s[bl s i]? with
            | none => .bad 40 (bl s i)
            | some c => if c = 44 then objL s (valP s k) q (acc ++ [(n, x)]) (bl s i + 1) else if c = 125 then .ok (acc ++ [(n, x)]) (bl s i + 1) else .bad 40 (bl s i)) := Lib.hid (by rw [← hR]; rfl)
          have hwr := hk.size
          have B1 := Lib.hid (blanks_any g s j (d + 1) wr hp' hl hj)
          have hbj := bl_le s j
          clear hR hp'
          obtain ⟨j2, hj2⟩ : ∃ j2, bl s j = j2 := ⟨_, rfl⟩
          rw [hj2] at HQ0 B1 hbj
          clear hj2
          go_wp2_with fail
          refine B1.out.mono ?_
          rintro x w2 ⟨rfl, hp2, hj2l, hk2⟩
          cases hc : s[j2]? with
          | none =>
            have HN : Hid (R = .bad 40 j2) := Lib.hid (by rw [HQ0.out, textP, wantP, hc]; rfl)
            have C := Lib.hid (here_bad g s j2 (d + 1) w2 hc hp2 hl hj2l)
            clear hc hp2 HQ0
            go_wp2_with fail
            refine C.out.mono ?_
            rintro x w' ⟨rfl, n, rfl⟩
            go_wp2
            rw [HN.out]
            exact ⟨rfl, rfl, hj2l, (hk.tr hk2).drewN _⟩
          | some c =>
            have C := Lib.hid (here_ok g s j2 (d + 1) w2 c hc hp2 hl)
            have qc : ((c.toNat : Int) != 34) = !decide (c = 34) := by rw [bne, byte_is c 34 34 rfl]
            by_cases h34 : ¬ c = 34
            · have HN : Hid (R = .bad 40 j2) := Lib.hid (by
                rw [HQ0.out, textP, wantP, hc, if_neg (by simpa using h34)]; rfl)
              rw [decide_eq_false h34] at qc
              have HP := Lib.hid hp2
              clear hc hp2 HQ0 h34
              go_wp2_with fail
              refine C.out.mono ?_
              rintro x w' ⟨rfl, n, rfl⟩
              go_wp2_with fail
              refine (fail_any _ _ _ _ _ _ (HP.out.drewN _)).mono ?_
              rintro x w' ⟨rfl, rfl⟩
              go_wp2
              rw [HN.out]
              exact ⟨rfl, rfl, hj2l, (hk.tr hk2).drewN _⟩
            · replace h34 : c = 34 := Decidable.not_not.1 h34
              rw [decide_eq_true h34] at qc
              have hwk2 : Kept (· ≠ g) w w2 := hk.tr hk2
              have HS2 := Lib.hid (HS1.out.keptS hk2 (by omega))
              have HO2 := Lib.hid (HO.out.kept hk2 (fun b hb => by omega))
              have HP := Lib.hid hp2
              have hz2 := hk2.size
              clear hc hp2 h34 HS1 HO
              go_wp2_with fail
              refine C.out.mono ?_
              rintro x w' ⟨rfl, n, rfl⟩
              have hkn : Kept (· ≠ g) w2 (w2.drewN n) := (Kept.refl _ w2).drewN n
              have T := Lib.hid (text_any g s j2 (d + 1) (some b0) (acc.map (·.1)) _ (HP.out.drewN n) (HS2.out.keptS hkn (by omega)) hl hj2l)
              go_wp2_with fail
              refine T.out.mono ?_
              cases hq : textP s (acc.map (·.1)) j2 with
              | bad e j' =>
                have HN : Hid (R = .bad e j') := Lib.hid (by rw [HQ0.out, hq]; rfl)
                rintro x w3 ⟨rfl, hb, hk3⟩
                clear hq HQ0 T
                go_wp2
                rw [HN.out]
                exact ⟨rfl, rfl, hb, (hwk2.tr hkn).tr hk3⟩
              | ok l j3 =>
                have HQ1 : Hid (R = (wantP s 58 (bl s j3)).bind fun _ i => (valP s k i).bind fun x i => match s[bl s i]? with
                  | none => .bad 40 (bl s i)
                  | some c => if c = 44 then objL s (valP s k) q (acc ++ [(l, x)]) (bl s i + 1) else if c = 125 then .ok (acc ++ [(l, x)]) (bl s i + 1) else .bad 40 (bl s i)) := Lib.hid (by rw [HQ0.out, hq]; rfl)
                rintro x w3 ⟨rfl, hp3, hj3, hk3'⟩
                obtain ⟨ht1, ht2, ht3⟩ := textP_le hq
                have hk3 := hkn.tr hk3'
                have hwk3 : Kept (· ≠ g) w w3 := hwk2.tr hk3
                have HS3 := Lib.hid (HS2.out.keptS hk3 (by omega))
                have HO3 := Lib.hid (HO2.out.kept hk3 (fun b hb => by omega))
                have hz3 := hk3.size
                have HT2 := Lib.hid ht2
                obtain ⟨kl, hkl, hlen⟩ := HS3.out.len 3
                rw [List.length_map] at hkl
                obtain ⟨w4, hupd, hs4, hk4⟩ := HS3.out.store l (by unfold maxLen; omega) (by rw [List.length_map]; unfold maxLen; omega) HT2.out (kl : Int) (WalkArith.wf_i64 (by omega))
                have HP4 := Lib.hid (hp3.kept hk4 (by omega))
                have hwk4 : Kept (· ≠ g) w w4 := hwk3.trans hk4 fun b hb _ => by omega
                have HS4 := Lib.hid hs4
                have HO4 := Lib.hid (HO3.out.kept hk4 (fun b hb => by omega))
                have hz4 := hk4.size
                clear hq HQ0 T hp3 hk3 hs4 HS3 HO3 HS2 HO2 HP hkn ht2 hk3'
                have B4 := Lib.hid (blanks_any g s j3 (d + 1) w4 HP4.out hl hj3)
                have hbj3 := bl_le s j3
                obtain ⟨j4, hj4⟩ : ∃ j4, bl s j3 = j4 := ⟨_, rfl⟩
                rw [hj4] at HQ1 B4 hbj3
                clear hj4
                go_wp2_with fail
                refine B4.out.mono ?_
                rintro x w5 ⟨rfl, hp5, hj4l, hk5⟩
                have W5 := Lib.hid (want_any g s j4 (d + 1) 58 w5 hp5 hl hj4l)
                clear hlen hupd hp5
                go_wp2_with fail
                refine W5.out.mono ?_
                cases hq : wantP s 58 j4 with
                | bad e j' =>
                  have HN : Hid (R = .bad e j') := Lib.hid (by rw [HQ1.out, hq]; rfl)
                  rintro x w6 ⟨rfl, hb, hk6⟩
                  clear hq HQ1 W5
                  go_wp2
                  rw [HN.out]
                  exact ⟨rfl, rfl, hb, (hwk4.tr hk5).tr hk6⟩
                | ok u j5 =>
                  have hj45 := (wantP_ok hq).2
                  have HQ2 : Hid (R = (valP s k j5).bind fun x i => match s[bl s i]? with
                    | none => .bad 40 (bl s i)
                    | some c => if c = 44 then objL s (valP s k) q (acc ++ [(l, x)]) (bl s i + 1) else if c = 125 then .ok (acc ++ [(l, x)]) (bl s i + 1) else .bad 40 (bl s i)) := Lib.hid (by rw [HQ1.out, hq]; rfl)
                  rintro x w6 ⟨rfl, hp6, hj5, hk6'⟩
                  have hk6 := hk5.tr hk6'
                  have hwk6 : Kept (· ≠ g) w w6 := hwk4.tr hk6
                  have HS6 := Lib.hid (HS4.out.keptS hk6 (by omega))
                  have HO6 := Lib.hid (HO4.out.kept hk6 (fun b hb => by omega))
                  have hz6 := hk6.size
                  have V := Lib.hid (HV.out j5 w6 hp6 hj5)
                  have hj5' : j4 + 1 ≤ j5 := by omega
                  clear hq HQ1 W5 hp6 hk6 hk6' HS4 HO4 hj45
                  go_wp2_with fail
                  refine V.out.mono ?_
                  cases hx : valP s k j5 with
                  | bad e j' =>
                    have HN : Hid (R = .bad e j') := Lib.hid (by rw [HQ2.out, hx]; rfl)
                    rintro x w7 ⟨rfl, hb, hk7⟩
                    clear hx HQ2 V
                    go_wp2
                    rw [HN.out]
                    exact ⟨rfl, rfl, hb, hwk6.tr hk7⟩
                  | ok x j7 =>
                    have hjj := valP_le hx
                    have HQ3 : Hid (R = match s[bl s j7]? with
                      | none => .bad 40 (bl s j7)
                      | some c => if c = 44 then objL s (valP s k) q (acc ++ [(l, x)]) (bl s j7 + 1) else if c = 125 then .ok (acc ++ [(l, x)]) (bl s j7 + 1) else .bad 40 (bl s j7)) := Lib.hid (by rw [HQ2.out, hx]; rfl)
                    rintro _ w7 ⟨⟨u, rfl, hu⟩, hp7, hj7, hk7⟩
                    obtain ⟨ut, uv, rfl⟩ := hu.face
                    have hwk7 : Kept (· ≠ g) w w7 := hwk6.tr hk7
                    have HO7 := Lib.hid (HO6.out.kept hk7 (fun b hb => by omega))
                    have HS7 := Lib.hid (HS6.out.keptS hk7 (by omega))
                    have HU : Hid (VIn (fun b => b0 + 1 ≤ b ∧ some b ≠ _) w7 x (.iface ut uv)) := Lib.hid (hu.mono fun b hb hw => ⟨by omega, fun e => by
                      obtain ⟨us, _, e2, _⟩ := HO6.out
                      have := (e2.lt b e.symm).2
                      omega⟩)
                    have hz7 := hk7.size
                    have HP7 := Lib.hid hp7
                    clear hu V HO6 HS6 hx HQ2 hp7
                    obtain ⟨es, e1, e2, e3⟩ := HO7.out
                    have HE2 := Lib.hid e2
                    have HE3 := Lib.hid e3
                    clear e2 e3
                    go_wp2_with (at_builtin; refine wpList_pushOne 213 215 Tryz.underlying213 infoMember rfl (by decide) rfl _ _ rfl (b0 + 1) _ acc.length (memCells es) (memEnc (l, ut, uv)) w7 _ rfl rfl rfl (by intro y hy; simp [memEnc] at hy; rcases hy with rfl | rfl <;> rfl) 1 _ rfl rfl rfl HE2.out (by omega) (by decide) (by omega) ?_)
                    intro v' w8 k1 k2 k3
                    have HO8 := Lib.hid (ownM_push (m := (l, x)) e1 HE3.out rfl HU.out k1 k3)
                    have hwk8 : Kept (· ≠ g) w w8 := hwk7.trans (Below.kept (g := g) k2) fun i hi ho => ⟨by omega, ho⟩
                    have HP8 := Lib.hid (HP7.out.kept (Below.kept (g := b0 + 1) k2) ⟨by omega, by omega⟩)
                    have HS8 := Lib.hid (HS7.out.keptS (Below.kept (g := g) k2) (by omega))
                    have HND8 : Hid (((acc ++ [(l, x)]).map (·.1)).Nodup) := Lib.hid (by
                      rw [List.map_append]
                      refine List.nodup_append.2 ⟨HND.out, by simp, ?_⟩
                      intro a ha b hb e
                      simp at hb
                      subst e hb
                      exact HT2.out ha)
                    have hz8 := k2.size
                    clear k1 k2 k3 HE2 HE3 HO7 HS7 HU HP7
                    by_cases h44 : s[bl s j7]? = some 44
                    · have HN : Hid (objL s (valP s k) q (acc ++ [(l, x)]) (bl s j7 + 1) = R) := Lib.hid (by rw [HQ3.out, h44]; rfl)
                      have M := Lib.hid (more_comma g s j7 (d + 1) 125 w8 HP8.out hl hj7 h44)
                      clear h44 HQ3 HP8
                      have hbj7 := bl_le s j7
                      go_wp2_with fail
                      refine M.out.mono ?_
                      rintro _ w9 ⟨rfl, hp9, hb9, hk9⟩
                      have HO9 := Lib.hid (HO8.out.kept hk9 (fun b hb => by omega))
                      have HS9 := Lib.hid (HS8.out.keptS hk9 (by omega))
                      have hz9 := hk9.size
                      clear HO8 HS8
                      go_wp2
                      go_roundg (q + 1)
                      case rel => exact ⟨acc ++ [(l, x)], bl s j7 + 1, true, rfl, HO9.out, by rw [List.map_append]; exact HS9.out, HND8.out, hwk8.tr hk9, by omega, hb9, by rw [List.length_append, List.length_singleton]; omega, Lib.hid (.inl ⟨rfl, hp9, q, rfl, by omega, HN.out⟩)⟩
                      case measure => omega
                    · by_cases h125 : s[bl s j7]? = some 125
                      · have HN : Hid (R = .ok (acc ++ [(l, x)]) (bl s j7 + 1)) := Lib.hid (by rw [HQ3.out, h125]; rfl)
                        have M := Lib.hid (more_end g s j7 d 125 w8 HP8.out hl hj7 hd h125 (by decide))
                        clear h44 h125 HQ3 HP8
                        have hbj7 := bl_le s j7
                        go_wp2_with fail
                        refine M.out.mono ?_
                        rintro _ w9 ⟨rfl, hp9, hb9, hk9⟩
                        have HO9 := Lib.hid (HO8.out.kept hk9 (fun b hb => by omega))
                        have HS9 := Lib.hid (HS8.out.keptS hk9 (by omega))
                        have hz9 := hk9.size
                        clear HO8 HS8
                        go_wp2
                        go_roundg q
                        case rel => exact ⟨acc ++ [(l, x)], bl s j7 + 1, false, rfl, HO9.out, by rw [List.map_append]; exact HS9.out, HND8.out, hwk8.tr hk9, by omega, hb9, by rw [List.length_append, List.length_singleton]; omega, Lib.hid (.inr ⟨rfl, hp9, by simp, HN.out⟩)⟩
                        case measure => omega
                      · have HN : Hid (R = .bad 40 (bl s j7)) := Lib.hid (by
                          rw [HQ3.out]
                          cases h : s[bl s j7]? with
                          | none => rfl
                          | some c =>
                            simp only
                            rw [if_neg (fun e => h44 (by rw [h, e])), if_neg (fun e => h125 (by rw [h, e]))])
                        have M := Lib.hid (more_bad g s j7 (d + 1) 125 w8 HP8.out hl hj7 h44 h125)
                        clear h44 h125 HQ3 HP8
                        have hbm := bl_max s j7 hj7
                        go_wp2_with fail
                        refine M.out.mono ?_
                        rintro _ w9 ⟨rfl, hk9⟩
                        go_wp2
                        rw [HN.out]
                        exact ⟨rfl, rfl, hbm, hwk8.tr hk9⟩
end Go.Proofs.YtpcgfhleloonfaaGreatDoor
namespace Go.Proofs
open Go.Shelf
def Tryz.pdqMem_ren : Go.Shelf.Ren := ⟨fun | 14 => 206 | 20 => 219 | 21 => 220 | 22 => 221 | 23 => 222 | 24 => 223 | 25 => 224 | 26 => 225 | 27 => 226 | 46 => 234 | 47 => 210 | 48 => 211 | 49 => 235 | 50 => 236 | 15 => 162 | 57 => 241 | 28 => 197 | 29 => 198 | n => n, fun | 24 => 215 | 22 => 212 | 3 => 3 | 25 => 217 | 4 => 4 | 0 => 0 | 46 => 225 | 45 => 224 | 50 => 179 | 66 => 245 | 39 => 83 | 55 => 140 | 70 => 249 | 76 => 261 | 77 => 262 | 53 => 132 | 5 => 5 | 9 => 9 | n => n, fun | n => n⟩
theorem Tryz.pdqMem : Go.Proofs.SlLaysF0.n14 Tryz.prog Tryz.pdqMem_ren := {
  mixed := by kernel_rfl
  f14 := ⟨Tryz.f206.name, by decide, Tryz.func206.trans (congrArg some (by kernel_rfl))⟩
  f15 := Tryz.func162.trans (congrArg some (by kernel_rfl))
  f20 := ⟨Tryz.f219.name, by decide, Tryz.func219.trans (congrArg some (by kernel_rfl))⟩
  f21 := ⟨Tryz.f220.name, by decide, Tryz.func220.trans (congrArg some (by kernel_rfl))⟩
  f22 := ⟨Tryz.f221.name, by decide, Tryz.func221.trans (congrArg some (by kernel_rfl))⟩
  f23 := ⟨Tryz.f222.name, by decide, Tryz.func222.trans (congrArg some (by kernel_rfl))⟩
  f24 := ⟨Tryz.f223.name, by decide, Tryz.func223.trans (congrArg some (by kernel_rfl))⟩
  f25 := ⟨Tryz.f224.name, by decide, Tryz.func224.trans (congrArg some (by kernel_rfl))⟩
  f26 := ⟨Tryz.f225.name, by decide, Tryz.func225.trans (congrArg some (by kernel_rfl))⟩
  f27 := ⟨Tryz.f226.name, by decide, Tryz.func226.trans (congrArg some (by kernel_rfl))⟩
  f28 := Tryz.func197.trans (congrArg some (by kernel_rfl))
  f29 := Tryz.func198.trans (congrArg some (by kernel_rfl))
  f46 := ⟨Tryz.f234.name, by decide, Tryz.func234.trans (congrArg some (by kernel_rfl))⟩
  f47 := Tryz.func210.trans (congrArg some (by kernel_rfl))
  f48 := Tryz.func211.trans (congrArg some (by kernel_rfl))
  f49 := ⟨Tryz.f235.name, by decide, Tryz.func235.trans (congrArg some (by kernel_rfl))⟩
  f50 := ⟨Tryz.f236.name, by decide, Tryz.func236.trans (congrArg some (by kernel_rfl))⟩
  f57 := ⟨Tryz.f241.name, by decide, Tryz.func241.trans (congrArg some (by kernel_rfl))⟩
  t0 := Tryz.underlying0
  a0 := Tryz.isAgg0
  z0 := Tryz.sizeOf0
  v0 := Tryz.zeroValue0
  t3 := Tryz.underlying3
  a3 := Tryz.isAgg3
  z3 := Tryz.sizeOf3
  v3 := Tryz.zeroValue3
  t4 := Tryz.underlying4
  a4 := Tryz.isAgg4
  z4 := Tryz.sizeOf4
  v4 := Tryz.zeroValue4
  t5 := Tryz.underlying5
  a5 := Tryz.isAgg5
  z5 := Tryz.sizeOf5
  v5 := Tryz.zeroValue5
  t9 := Tryz.underlying9
  a9 := Tryz.isAgg9
  z9 := Tryz.sizeOf9
  v9 := Tryz.zeroValue9
  t22 := Tryz.underlying212
  a22 := Tryz.isAgg212
  z22 := Tryz.sizeOf212
  v22 := Tryz.zeroValue212
  t25 := Tryz.underlying217
  a25 := Tryz.isAgg217
  z25 := Tryz.sizeOf217
  v25 := Tryz.zeroValue217
  t39 := Tryz.underlying83
  a39 := Tryz.isAgg83
  z39 := Tryz.sizeOf83
  v39 := Tryz.zeroValue83
  t45 := Tryz.underlying224
  a45 := Tryz.isAgg224
  z45 := Tryz.sizeOf224
  v45 := Tryz.zeroValue224
  t46 := Tryz.underlying225
  a46 := Tryz.isAgg225
  z46 := Tryz.sizeOf225
  v46 := Tryz.zeroValue225
  t50 := Tryz.underlying179
  a50 := Tryz.isAgg179
  z50 := Tryz.sizeOf179
  v50 := Tryz.zeroValue179
  t53 := Tryz.underlying132
  a53 := Tryz.isAgg132
  z53 := Tryz.sizeOf132
  v53 := Tryz.zeroValue132
  t55 := Tryz.underlying140
  a55 := Tryz.isAgg140
  z55 := Tryz.sizeOf140
  v55 := Tryz.zeroValue140
  t66 := Tryz.underlying245
  a66 := Tryz.isAgg245
  z66 := Tryz.sizeOf245
  v66 := Tryz.zeroValue245
  t70 := Tryz.underlying249
  a70 := Tryz.isAgg249
  z70 := Tryz.sizeOf249
  v70 := Tryz.zeroValue249
  t76 := Tryz.underlying261
  a76 := Tryz.isAgg261
  z76 := Tryz.sizeOf261
  v76 := Tryz.zeroValue261
  t77 := Tryz.underlying262
  a77 := Tryz.isAgg262
  z77 := Tryz.sizeOf262
  v77 := Tryz.zeroValue262 }
end Go.Proofs
namespace Go.Proofs.YtpcgfhleloonfaaGreatDoor
open Go.RowKit Jo Go.Sort Go.Shelf
theorem flatK_cells (es : List Mem) : (flatK memEnc 2 es.toArray).toList = memCells es := by
  apply List.ext_getElem?
  intro t
  by_cases ht : t < es.length * 2
  · have hq : t / 2 < es.length := by omega
    obtain ⟨e, he⟩ : ∃ e, es[t / 2]? = some e := ⟨es[t / 2]'hq, List.getElem?_eq_getElem hq⟩
    obtain ⟨c1, c2⟩ := memCells_at es _ e he
    have hg := get_flatK memEnc 2 es.toArray t (by simpa using ht)
    have hsz : t < (flatK memEnc 2 es.toArray).size := by simpa using ht
    have e1 : es.toArray[t / 2]! = e := by
      rw [getElem!_pos _ _ (by simpa using hq)]
      have := (List.getElem?_eq_some_iff.1 he).2
      simpa using this
    rw [Array.getElem?_toList, Array.getElem?_eq_getElem hsz]
    rw [getElem!_pos _ t hsz, e1] at hg
    rw [hg]
    rcases (by omega : t = t / 2 * 2 ∨ t = t / 2 * 2 + 1) with h | h
    · have hm : t % 2 = 0 := by omega
      rw [hm]
      rw [← h] at c1
      rw [c1]
      rfl
    · have hm : t % 2 = 1 := by omega
      rw [hm]
      rw [← h] at c2
      rw [c2]
      rfl
  · rw [List.getElem?_eq_none (by simp; omega), List.getElem?_eq_none (by rw [memCells_len]; omega)]
theorem ltOf_name (x y : Mem) : ltOf (fun x y : Mem => Lib.compareBytes x.1 y.1) x y = ltB x.1 y.1 := rfl
theorem swoName : SWO (ltOf fun x y : Mem => Lib.compareBytes x.1 y.1) where
  irrefl x := by rw [ltOf_name]; exact ltB_irrefl _
  trans x y z h1 h2 := by rw [ltOf_name] at *; exact ltB_trans h1 h2
  ntrans x y z h1 h2 := by rw [ltOf_name] at *; exact ltB_ntrans h1 h2
set_option maxHeartbeats 1000000 in
theorem closure_any (x y : Mem) (W : World) : Calls Tryz.prog 182 #[.agg #[S x.1, .iface x.2.1 x.2.2], .agg #[S y.1, .iface y.2.1 y.2.2]] W fun e w' => e = .returned (.int .i64 (Lib.compareBytes x.1 y.1)) ∧ ∃ q os', w' = grow (W.drewN q) os' := by
  have hcon := fun W' => Tryz.strings_Compare ⟨x.1.toArray⟩ ⟨y.1.toArray⟩ W'
  simp only at hcon
  generalize Lib.compareBytes x.1 y.1 = r at hcon ⊢
  go_enter Tryz.func182, Tryz.ntmps182
  go_wp2_with (go_at_call 183; refine (hcon _).mono ?_; rintro e w' ⟨rfl, rfl⟩)
  go_ret
  exact ⟨rfl, 0, _, by rw [alloc_eq_grow, alloc_eq_grow, grow_grow]; rfl⟩
theorem closure_lays (blk off size : Nat) (w : World) : Go.Proofs.CmpLays Tryz.prog 182 #[] memEnc 2 (fun x y => Lib.compareBytes x.1 y.1) blk off size w :=
  fun _ _ _ _ x y => closure_any x y _
theorem sortWorld_heap (w : World) (b n : Nat) (es : List Mem) (os : Array Obj) {cur : Array Value} {t : TypeId} (hb : w.heap[b]? = some (.cells cur t (0, 0))) (hl : es.length * 2 ≤ cur.size) :
    ∃ cur', (sortWorldK memEnc 2 w b 0 n es.toArray os).heap[b]? = some (.cells cur' t (0, 0)) ∧ cur'.size = cur.size ∧ cur'.toList.take (es.length * 2) = memCells es := by
  have hlt : b < w.heap.size := (Array.getElem?_eq_some_iff.1 hb).1
  refine ⟨putCells id 0 (flatK memEnc 2 es.toArray) cur, ?_, by simp [putCells], ?_⟩
  · unfold sortWorldK grow putRowK putRow
    simp only
    rw [Array.getElem?_append_left (by simpa [mapBlock, Sort.ahead] using hlt)]
    simp only [mapBlock, Sort.ahead, Array.getElem?_modify, if_true, hb, Option.map_some, onCells]
  · rw [← flatK_cells]
    apply List.ext_getElem?
    intro i
    by_cases hi : i < es.length * 2
    · have hc : i < cur.size := by omega
      rw [List.getElem?_take_of_lt hi]
      rw [Array.getElem?_toList, Array.getElem?_toList]
      simp only [putCells, Array.getElem?_mapIdx, Array.getElem?_eq_getElem hc, Option.map_some]
      rw [if_pos ⟨Nat.zero_le _, by simp; omega⟩]
      have hsz : i < (flatK memEnc 2 es.toArray).size := by simpa using hi
      rw [Array.getElem?_eq_getElem hsz, Nat.sub_zero, getElem!_pos _ i hsz]
      rfl
    · rw [List.getElem?_eq_none (by simp [List.length_take]; omega), List.getElem?_eq_none (by simp; omega)]
theorem sortWorld_kept (w : World) (b n : Nat) (es : List Mem) (os : Array Obj) : Kept (· ≠ b) w (sortWorldK memEnc 2 w b 0 n es.toArray os) := by
  refine ⟨rfl, rfl, rfl, ?_, fun k hk hne => ?_⟩
  · unfold sortWorldK grow putRowK putRow mapBlock Sort.ahead
    simp
  · unfold sortWorldK grow putRowK putRow
    simp only
    rw [Array.getElem?_append_left (by simpa [mapBlock, Sort.ahead] using hk)]
    simp only [mapBlock, Sort.ahead, Array.getElem?_modify]
    rw [if_neg (by omega)]
set_option maxHeartbeats 1000000 in
theorem sortFn_any (b cap : Nat) (es : List Mem) (w : World) (hH : HoldsK memEnc 2 w b 0 es.toArray) (hb : b < w.heap.size) (hl : es.length ≤ 100000) :
    Calls Tryz.prog 181 #[.slice (some ⟨b, 0, none⟩) es.length cap, .func (.func 182) #[] #[]] w fun e w' => e = .returned (.tuple #[]) ∧
      ∃ (es' : List Mem) (n : Nat) (os : Array Obj), es'.length = es.length ∧ es'.Perm es ∧ (∀ (i j : Nat) x y, i < j → es'[i]? = some x → es'[j]? = some y → ltB y.1 x.1 = false) ∧ w' = sortWorldK memEnc 2 w b 0 n es'.toArray os := by
  have eg : ∀ args w, (callFunc 182 args).run Tryz.prog w = .ok (.enter 182 args) w := enters_of Tryz.func182 (by kernel_rfl) rfl
  have hlim : Lib.bitLen es.length < 4611686018427387904 := Nat.lt_of_le_of_lt (Lib.bitLen_le es.length 62 (by omega) (by omega)) (by omega)
  have hp := AnyQ.pdqsortCmpFunc_all Tryz.pdqMem 2 Tryz.isAgg215 Tryz.sizeOf215 memEnc (fun x y => Lib.compareBytes x.1 y.1) 182 #[] swoName b 0 cap es.toArray w eg (closure_lays b 0 _ w)
    ⟨fun _ => rfl, fun x v hv => by simp [memEnc] at hv; rcases hv with rfl | rfl <;> rfl, hH, hb⟩ (es.length + 1) 0 es.length (Lib.bitLen es.length) es.toArray w (by omega) rfl (SWK.start hH) (Nat.zero_le _) (Nat.le_refl _) (by simp; omega) hlim (Or.inl rfl)
  have hlen := Tryz.bits_Len (es.length : Int) w (by omega) (by omega)
  rw [Int.toNat_natCast] at hlen
  have hsrt := pdq_sorts (ltOf fun x y : Mem => Lib.compareBytes x.1 y.1) swoName es.toArray 0 es.length (Lib.bitLen es.length) true true (Nat.zero_le _) (Nat.le_refl _) (Or.inl rfl)
  obtain ⟨d', hd'⟩ : ∃ d', pdq (ltOf fun x y : Mem => Lib.compareBytes x.1 y.1) es.toArray 0 es.length (Lib.bitLen es.length) true true = d' := ⟨_, rfl⟩
  rw [hd'] at hp hsrt
  obtain ⟨⟨s1, s2, s3⟩, s4⟩ := hsrt
  have hsz : d'.size = es.length := by simpa using s1
  have hres : ∃ (es' : List Mem), d' = es'.toArray ∧ es'.length = es.length ∧ es'.Perm es ∧ (∀ (i j : Nat) x y, i < j → es'[i]? = some x → es'[j]? = some y → ltB y.1 x.1 = false) := by
    refine ⟨d'.toList, by simp, by simpa using hsz, ?_, fun i j x y hij hx hy => ?_⟩
    · have e1 : d'.extract 0 es.length = d' := by rw [← hsz]; simp
      have e2 : es.toArray.extract 0 es.length = es.toArray := by simp
      rw [e1, e2] at s3
      exact s3
    · have hj := (List.getElem?_eq_some_iff.1 hy).1
      rw [Array.length_toList] at hj
      have h := s4 i j (Nat.zero_le _) hij (by omega)
      rw [getElem!_pos d' i (by omega), getElem!_pos d' j hj] at h
      have hx' := (List.getElem?_eq_some_iff.1 hx).2
      have hy' := (List.getElem?_eq_some_iff.1 hy).2
      rw [Array.getElem_toList] at hx' hy'
      rw [hx', hy'] at h
      exact h
  obtain ⟨es', rfl, r1, r2, r3⟩ := hres
  have HRes : Hid (es'.length = es.length ∧ es'.Perm es ∧ (∀ (i j : Nat) x y, i < j → es'[i]? = some x → es'[j]? = some y → ltB y.1 x.1 = false)) := Lib.hid ⟨r1, r2, r3⟩
  have HP := Lib.hid hp
  have HL := Lib.hid hlen
  clear hp hlen hd' s1 s2 s3 s4 hsz r1 r2 r3 hH hlim eg
  go_enter Tryz.func181, Tryz.ntmps181
  go_wp2_with fail
  refine HL.out.mono ?_
  rintro e w' ⟨rfl, rfl⟩
  go_wp2_with fail
  refine HP.out.mono ?_
  rintro e w' ⟨rfl, n, os, rfl⟩
  go_wp2
  go_end0
  exact ⟨rfl, es', n, os, HRes.out.1, HRes.out.2.1, HRes.out.2.2, rfl⟩
theorem map_names {es : List Mem} {ms : List (List UInt8 × J)} (hl : es.length = ms.length) (h : ∀ (j : Nat) m e, ms[j]? = some m → es[j]? = some e → e.1 = m.1) : es.map (·.1) = ms.map (·.1) := by
  apply List.ext_getElem?
  intro j
  rw [List.getElem?_map, List.getElem?_map]
  by_cases hj : j < es.length
  · have h1 : es[j]? = some (es[j]'hj) := List.getElem?_eq_getElem hj
    have h2 : ms[j]? = some (ms[j]'(by omega)) := List.getElem?_eq_getElem (by omega)
    rw [h1, h2, Option.map_some, Option.map_some, h j _ _ h2 h1]
  · rw [List.getElem?_eq_none (by omega), List.getElem?_eq_none (by omega)]; rfl
theorem nodup_index {l : List (List UInt8)} (h : l.Nodup) {i j : Nat} {x : List UInt8} (hi : l[i]? = some x) (hj : l[j]? = some x) : i = j := by
  obtain ⟨h1, h2⟩ := List.getElem?_eq_some_iff.1 hi
  obtain ⟨h3, h4⟩ := List.getElem?_eq_some_iff.1 hj
  rcases Nat.lt_trichotomy i j with h5 | h5 | h5
  · exact absurd (h2.trans h4.symm) (List.pairwise_iff_getElem.1 h i j h1 h3 h5)
  · exact h5
  · exact absurd (h4.trans h2.symm) (List.pairwise_iff_getElem.1 h j i h3 h1 h5)
/-- The sort's contract, as 'object' wants it. -/
theorem sort_any : SortC := by
  intro B v ms w ho hne hnd hlen
  obtain ⟨es, e1, e2, e3⟩ := ho
  rcases e2.2 with ⟨_, h0⟩ | ⟨b, cap, cur, rfl, hB, hb, hnc, hcm, hcs, htake⟩
  · exact absurd (List.eq_nil_of_length_eq_zero h0) hne
  have hbl : b < w.heap.size := (Array.getElem?_eq_some_iff.1 hb).1
  have hcells := e2.cells (g := b) rfl
  have hH : HoldsK memEnc 2 w b 0 es.toArray := by
    intro j hj
    have hj' : j < es.length * 2 := by simpa using hj
    refine ⟨?_, frozen_row hb _⟩
    have hc : (memCells es)[j]? = some ((flatK memEnc 2 es.toArray)[j]!) := by
      rw [← flatK_cells, Array.getElem?_toList, Array.getElem?_eq_getElem hj, getElem!_pos _ j hj]
    have := hcells j _ hc
    rw [show (⟨b, 0, none⟩ : Addr).add j = ⟨b, j, none⟩ from by unfold Addr.add; split <;> simp_all] at this
    rw [Nat.zero_add]
    exact this
  have hmap := map_names e1 (fun j m e hm he => (e3 j m e hm he).1)
  have hC := sortFn_any b cap es w hH hbl (by omega)
  rw [e1] at hC
  refine hC.mono ?_
  rintro e w' ⟨he, es', n, os, r1, r2, r3, rfl⟩
  have hk := sortWorld_kept w b n es' os
  refine ⟨he, ⟨es', ?_, ?_, fun j m x hm hx => ?_⟩, hk.mono fun i _ hi => by simpa [Value.ownBlock] using hi⟩
  · rw [r1, (sortM_perm ms).length_eq]
  · obtain ⟨cur', g1, g2, g3⟩ := sortWorld_heap w b n es' os hb (by rw [r1, hcs]; exact Nat.mul_le_mul_right _ hnc)
    have hlm : (sortM ms).length = ms.length := (sortM_perm ms).length_eq
    rw [hlm]
    refine ⟨by rw [memCells_len, r1], .inr ⟨b, cap, cur', rfl, hB, g1, hnc, hcm, by rw [g2, hcs], ?_⟩⟩
    rw [← g3, r1]
  · have hp1 : (es'.map (·.1)).Perm (ms.map (·.1)) := by rw [← hmap]; exact r2.map _
    have hnd' : (es'.map (·.1)).Nodup := hp1.nodup_iff.2 hnd
    have hasc : (es'.map (·.1)).Pairwise fun a b => ltB a b = true := by
      rw [List.pairwise_iff_getElem]
      intro i j hi hj hij
      rw [List.getElem_map, List.getElem_map]
      rw [List.length_map] at hi hj
      have h1 : es'[i]? = some (es'[i]'hi) := List.getElem?_eq_getElem hi
      have h2 : es'[j]? = some (es'[j]'hj) := List.getElem?_eq_getElem hj
      have h3 := r3 i j _ _ hij h1 h2
      refine ltB_total h3 fun e => ?_
      have h4 := nodup_index hnd' (i := i) (j := j) (x := (es'[i]'hi).1) (by rw [List.getElem?_map, h1]; rfl) (by rw [List.getElem?_map, h2, ← e]; rfl)
      omega
    have heq : es'.map (·.1) = (sortM ms).map (·.1) := asc_unique hasc ((List.pairwise_map).2 (sortM_asc ms hnd)) (hp1.trans ((sortM_perm ms).map _).symm)
    have hn : x.1 = m.1 := by
      have h1 : (es'.map (·.1))[j]? = some x.1 := by rw [List.getElem?_map, hx]; rfl
      have h2 : ((sortM ms).map (·.1))[j]? = some m.1 := by rw [List.getElem?_map, hm]; rfl
      rw [heq, h2] at h1
      exact (Option.some.inj h1).symm
    refine ⟨hn, ?_⟩
    obtain ⟨i, hi, hix⟩ := List.getElem_of_mem (r2.mem_iff.1 (List.mem_of_getElem? hx))
    have hxi : es[i]? = some x := by rw [List.getElem?_eq_getElem hi, hix]
    have hmi : ms[i]? = some (ms[i]'(by omega)) := List.getElem?_eq_getElem (by omega)
    obtain ⟨q1, q2⟩ := e3 i _ x hmi hxi
    obtain ⟨i', hi', him⟩ := List.getElem_of_mem ((sortM_perm ms).mem_iff.1 (List.mem_of_getElem? hm))
    have hmi' : ms[i']? = some m := by rw [List.getElem?_eq_getElem hi', him]
    have hii : i = i' := nodup_index hnd (i := i) (j := i') (x := m.1) (by rw [List.getElem?_map, hmi, Option.map_some, ← q1, hn]) (by rw [List.getElem?_map, hmi']; rfl)
    subst hii
    rw [hmi] at hmi'
    obtain rfl := Option.some.inj hmi'
    exact q2.kept hk fun b' _ hb' => by
      have := hb'.2
      simpa [Value.ownBlock] using this
end Go.Proofs.YtpcgfhleloonfaaGreatDoor
namespace Go.Proofs.YtpcgfhleloonfaaGreatDoor
open Go.RowKit Jo
theorem Row1.slice {ok : Nat → Prop} {w : World} {v : Value} {n : Nat} {us : Nat → Value} (h : Row1 ok w v n us) : ∃ a l c, v = .slice a l c := by
  rcases h with ⟨rfl, _⟩ | ⟨b, cap, rfl, _⟩ <;> exact ⟨_, _, _, rfl⟩
theorem Row2.slice {ok : Nat → Prop} {w : World} {v : Value} {ns : List (List UInt8)} {us : Nat → Value} (h : Row2 ok w v ns us) : ∃ a l c, v = .slice a l c := by
  rcases h with ⟨rfl, _⟩ | ⟨b, cap, rfl, _⟩ <;> exact ⟨_, _, _, rfl⟩
/-- Every value that stands inside can be handed out. -/
theorem VIn.jotC : ∀ (x : J) {ok : Nat → Prop} {w : World} {u : Value}, VIn ok w x u → JotC u x := by
  intro x
  induction x using J.ind with
  | h k n t ns xs ih =>
    intro ok w u h
    generalize hy : J.mk k n t ns xs = y at h
    cases h with
    | null => exact ⟨_, _, _, _, rfl, method_null, fun _ W _ => null_jot W⟩
    | fls => exact ⟨_, _, _, _, rfl, method_fls, fun _ W _ => fls_jot W⟩
    | tru => exact ⟨_, _, _, _, rfl, method_tru, fun _ W _ => tru_jot W⟩
    | nr m => exact ⟨_, _, _, _, rfl, method_nr m, fun _ W _ => nr_jot m W⟩
    | tx l => exact ⟨_, _, _, _, rfl, method_tx _, fun _ W _ => tx_jot l W⟩
    | list ys v us hl hr hv =>
      obtain ⟨a, l, c, rfl⟩ := hr.slice
      refine ⟨_, _, _, _, rfl, method_list a l c, fun ok' W hW => ?_⟩
      obtain ⟨v', us', e, hl', hr', hv'⟩ := hW.list_inv ys rfl
      obtain rfl : v' = .slice a l c := by injection e with _ e; exact e.symm
      obtain rfl : xs = ys := by simpa [J.list] using (congrArg J.items hy)
      exact list_jot ok' xs _ us' W hl' hr' hv' fun j y hjy => ih y (List.mem_of_getElem? hjy) (hv' j y hjy)
    | obj ms v us hl hr hv =>
      obtain ⟨a, l, c, rfl⟩ := hr.slice
      refine ⟨_, _, _, _, rfl, method_object a l c, fun ok' W hW => ?_⟩
      obtain ⟨v', us', e, hl', hr', hv'⟩ := hW.obj_inv ms rfl
      obtain rfl : v' = .slice a l c := by injection e with _ e; exact e.symm
      obtain rfl : xs = ms.map (·.2) := by simpa [J.obj] using (congrArg J.items hy)
      exact object_jot ok' ms _ us' W hl' hr' hv' fun j m hjm => ih m.2 (List.mem_map.2 ⟨m, List.mem_of_getElem? hjm, rfl⟩) (hv' j m hjm)
theorem value_any (g : Nat) (s : List UInt8) (hl : s.length ≤ 4000) : ∀ (k d : Nat), d + k = 16 → ValC g s d k := by
  intro k
  induction k with
  | zero =>
    intro d hd i w hp hi
    obtain rfl : d = 16 := by omega
    exact value_step g s 16 _ _ (fun i w hp hi => list_deep g s i w hp hi _) (fun i w hp hi => object_deep g s i w hp hi _) i w hp hi hl
  | succ k ih =>
    intro d hd i w hp hi
    exact value_step g s d _ _ (fun i w hp hi => list_any g s i d k (ih (d + 1) (by omega)) w hp (by omega) hi hl) (fun i w hp hi => object_any g s i d k sort_any (ih (d + 1) (by omega)) w hp (by omega) hi hl) i w hp hi hl
end Go.Proofs.YtpcgfhleloonfaaGreatDoor
namespace Go.Proofs.YtpcgfhleloonfaaGreatDoor
open Go.RowKit Jo
theorem assert_wrong (x : Int) (i : Nat) (w : World) : (Instr.typeAssert (.iface 162 (.agg #[.int .i64 x, .int .i64 i])) 20 162 true).run Tryz.prog w = .ok (.tuple #[.agg #[.int .i64 x, .int .i64 i], .bool true]) w := by kernel_rfl
theorem assert_nil (w : World) : (Instr.typeAssert .nilIface 20 162 true).run Tryz.prog w = .ok (.tuple #[.agg #[.int .i64 0, .int .i64 0], .bool false]) w := by kernel_rfl
set_option maxHeartbeats 4000000 in
set_option maxRecDepth 100000 in
theorem catch_wrong (a b c : Nat) (x : Int) (i : Nat) (older : List PanicEntry) (w : World) (h0 : OutAt a 0 0 [] (.slice none 0 0) (.slice none 0 0) w) (h1 : w.heap[b]? = some (.cells #[.int .i64 0] 29 (0, 0))) (h2 : w.heap[c]? = some (.cells #[.int .i64 0] 3 (0, 0))) (hab : a < b) (hbc : b < c) :
    CallsD Tryz.prog 125 #[.pointer (some ⟨a, 0, none⟩), .pointer (some ⟨b, 0, none⟩), .pointer (some ⟨c, 0, none⟩)] (.panicking ({ v := .iface 162 (.agg #[.int .i64 x, .int .i64 i]), recovered := false } :: older)) w fun e u' w' =>
      e = .returned (.tuple #[]) ∧ u' = .panicking ({ v := .iface 162 (.agg #[.int .i64 x, .int .i64 i]), recovered := true } :: older) ∧
      OutAt a 0 0 [] (.slice none 0 0) (.slice none 0 0) w' ∧ w'.cell? ⟨b, 0, none⟩ = some (.int .i64 x) ∧ w'.cell? ⟨c, 0, none⟩ = some (.int .i64 i) ∧ Kept (fun k => k ≠ a ∧ k ≠ b ∧ k ≠ c) w w' := by
  obtain ⟨g0, g1, g2, g3, g4, g5, g6⟩ := h0.facts
  obtain ⟨f0, f1, f2, f3, f4⟩ := h0.free
  have b0 : w.cell? ⟨b, 0, none⟩ = some (.int .i64 0) := by rw [cell_of_row w b _ _ _ (0, 0) h1]; rfl
  have b1 : w.frozen? ⟨b, 0, none⟩ = false := frozen_row h1 0
  have c0 : w.cell? ⟨c, 0, none⟩ = some (.int .i64 0) := by rw [cell_of_row w c _ _ _ (0, 0) h2]; rfl
  have c1 : w.frozen? ⟨c, 0, none⟩ = false := frozen_row h2 0
  have ta := assert_wrong x i
  have hrep : Array.replicate 18 undef = #[undef, undef, undef, undef, undef, undef, undef, undef, undef, undef, undef, undef, undef, undef, undef, undef, undef, undef] := rfl
  refine callsD_of_wpS Tryz.func125 rfl fun c₀ cs hu => ?_
  apply wpS_seq
  apply wpS_region
  simp [wpOpsS, go_sem, recoverD, hu, Tryz.ntmps125, Exit.thenS, hrep]
  clear hrep
  refine wpS_of_wp ?_
  have ha : a < w.heap.size := h0.lt
  have hb : b < w.heap.size := (Array.getElem?_eq_some_iff.1 h1).1
  have hc : c < w.heap.size := (Array.getElem?_eq_some_iff.1 h2).1
  have n1 : a ≠ b := by omega
  have n2 : a ≠ c := by omega
  have n3 : b ≠ c := by omega
  have n4 : b ≠ a := by omega
  have n5 : c ≠ a := by omega
  have n6 : c ≠ b := by omega
  go_wp2
  go_region
  refine ⟨rfl, _, rfl, .tuple #[], by simp [results, Tryz.results125], rfl, rfl, ?_, ?_, ?_, ?_⟩
  · have k1 := kept_box w a (.int .i64 0) (.int .i64 0) (S []) (.slice none 0 0) (.slice none 0 0)
    have h5 := h0.five 0 0 [] (.slice none 0 0) (.slice none 0 0)
    exact h5.kept (ok := fun k => k ≠ b ∧ k ≠ c) (((((Kept.refl _ _).setCell (.inr (by simp)) _).setCell (.inr (by simp)) _).alloc _).drew) ⟨n1, n2⟩
  · simp [go_sem, b0, hb]
  · simp [go_sem, c0, hc]
  · exact ((((kept_box w a _ _ _ _ _).mono (ok2 := fun k => ¬k = a ∧ ¬k = b ∧ ¬k = c) (fun i _ h => h.1)).setCell (.inr (by simp)) _).setCell (.inr (by simp)) _).alloc _ |>.drew
set_option maxHeartbeats 4000000 in
set_option maxRecDepth 100000 in
theorem catch_idle (p q r : Value) (w : World) :
    CallsD Tryz.prog 125 #[p, q, r] .returning w fun e u' w' => e = .returned (.tuple #[]) ∧ u' = .returning ∧ Kept (fun _ => True) w w' := by
  have ta := assert_nil
  have hrep : Array.replicate 18 undef = #[undef, undef, undef, undef, undef, undef, undef, undef, undef, undef, undef, undef, undef, undef, undef, undef, undef, undef] := rfl
  refine callsD_of_wpS Tryz.func125 rfl fun c₀ cs hu => ?_
  apply wpS_seq
  apply wpS_region
  simp [wpOpsS, go_sem, recoverD, hu, Tryz.ntmps125, Exit.thenS, hrep]
  clear hrep
  refine wpS_of_wp ?_
  go_wp2
  refine ⟨rfl, .returning, ?_, .tuple #[], by simp [results, Tryz.results125], rfl, rfl, (Kept.refl _ _).alloc _⟩
  cases c₀
  simp_all
/-- What Parse leaves. -/
def ParseQ (w : World) (r : J × Int × Nat) (e : Ending) (w' : World) : Prop := (∃ v fp, e = .returned (.tuple #[v, .int .i64 r.2.1, .int .i64 (r.2.2 : Int)]) ∧ JOwn w' r.1 v fp ∧ fp.Nodup ∧ ∀ b ∈ fp, w.heap.size ≤ b) ∧ Kept (fun _ => True) w w'
set_option maxHeartbeats 4000000 in
set_option maxRecDepth 100000 in
theorem Parse_long (s : List UInt8) (w : World) (h : s.length > 4000) (hm : s.length ≤ maxLen) :
    Calls Tryz.prog 103 #[S s] w (ParseQ w (parseP s)) := by
  have hR : parseP s = (J.null, 44, 4000) := by unfold parseP; rw [if_pos h]
  rw [hR]
  clear hR
  have hsz := size_mk s
  unfold maxLen at hm
  have hmf : ∀ (fn : Fn) (first cap : Array Value) (w : World), (Instr.makeFunc fn first cap).run Tryz.prog w = .ok (.func fn first cap) w := fun _ _ _ _ => rfl
  go_enter_defers Tryz.func103, Tryz.ntmps103
  go_wp2
  refine ⟨.tuple #[jotV 0 0 [] (.slice none 0 0) (.slice none 0 0), .int .i64 44, .int .i64 4000], by simp [results, Tryz.results103, go_sem], ?_⟩
  exact ⟨⟨_, [], rfl, JOwn.leaf _ _ _ _, List.nodup_nil, by simp⟩, (((Kept.refl _ _).alloc _).alloc _).alloc _⟩
set_option maxHeartbeats 8000000 in
set_option maxRecDepth 100000 in
theorem Parse_short (s : List UInt8) (w : World) (h : s.length ≤ 4000) : Calls Tryz.prog 103 #[S s] w (ParseQ w (parseP s)) := by
  obtain ⟨R, hR⟩ : ∃ R, parseP s = R := ⟨_, rfl⟩
  have HR : Hid (R = match valP s 16 0 with | .bad e i => (J.null, e, i) | .ok x i => if bl s i < s.length then (J.null, 40, bl s i) else (x, 0, 0)) := Lib.hid (by rw [← hR]; unfold parseP; rw [if_neg (by omega)]; rfl)
  rw [hR]
  clear hR
  have hsz := size_mk s
  have hmf : ∀ (fn : Fn) (first cap : Array Value) (w : World), (Instr.makeFunc fn first cap).run Tryz.prog w = .ok (.func fn first cap) w := fun _ _ _ _ => rfl
  obtain ⟨W, hW⟩ : ∃ W, (((w.alloc (.cells #[.int .i64 0, .int .i64 0, S [], .slice none 0 0, .slice none 0 0] 72)).alloc (.cells #[.int .i64 0] 29)).alloc (.cells #[.int .i64 0] 3)).alloc (.cells #[S s, .int .i64 0, .int .i64 0] 166) = W := ⟨_, rfl⟩
  have hkW : Kept (fun _ => True) w W := by rw [← hW]; exact ((((Kept.refl _ w).alloc _).alloc _).alloc _).alloc _
  have hz : W.heap.size = w.heap.size + 4 := by rw [← hW]; simp
  have hp : PA (w.heap.size + 3) s 0 0 W := by
    rw [← hW]
    have e : (((w.alloc (.cells #[.int .i64 0, .int .i64 0, S [], .slice none 0 0, .slice none 0 0] 72)).alloc (.cells #[.int .i64 0] 29)).alloc (.cells #[.int .i64 0] 3)).heap.size = w.heap.size + 3 := by simp
    unfold PA
    rw [← e]
    exact heap_alloc_new _ _
  have ho : OutAt w.heap.size 0 0 [] (.slice none 0 0) (.slice none 0 0) W := by
    rw [← hW]
    exact (OutAt.new w 0 0 [] (.slice none 0 0) (.slice none 0 0)).kept (ok := fun _ => True) ((((Kept.refl _ _).alloc _).alloc _).alloc _) trivial
  have h1 : W.heap[w.heap.size + 1]? = some (.cells #[.int .i64 0] 29 (0, 0)) := by
    rw [← hW]
    have := heap_alloc_new (w.alloc (.cells #[.int .i64 0, .int .i64 0, S [], .slice none 0 0, .slice none 0 0] 72)) (.cells #[.int .i64 0] 29)
    have h2 := ((Kept.refl (fun _ => True) ((w.alloc (.cells #[.int .i64 0, .int .i64 0, S [], .slice none 0 0, .slice none 0 0] 72)).alloc (.cells #[.int .i64 0] 29))).alloc (.cells #[.int .i64 0] 3)).alloc (.cells #[S s, .int .i64 0, .int .i64 0] 166) |>.block (w.heap.size + 1) (by simp) trivial
    rw [h2]
    simpa using this
  have h2 : W.heap[w.heap.size + 2]? = some (.cells #[.int .i64 0] 3 (0, 0)) := by
    rw [← hW]
    have := heap_alloc_new ((w.alloc (.cells #[.int .i64 0, .int .i64 0, S [], .slice none 0 0, .slice none 0 0] 72)).alloc (.cells #[.int .i64 0] 29)) (.cells #[.int .i64 0] 3)
    have h2 := (Kept.refl (fun _ => True) (((w.alloc (.cells #[.int .i64 0, .int .i64 0, S [], .slice none 0 0, .slice none 0 0] 72)).alloc (.cells #[.int .i64 0] 29)).alloc (.cells #[.int .i64 0] 3))).alloc (.cells #[S s, .int .i64 0, .int .i64 0] 166) |>.block (w.heap.size + 2) (by simp) trivial
    rw [h2]
    simpa using this
  have HW := Lib.hid hW
  have HZ := Lib.hid hz
  have V := Lib.hid (value_any (w.heap.size + 3) s h 16 0 rfl 0 W hp (Nat.zero_le _))
  have HO := Lib.hid ho
  have H1 := Lib.hid h1
  have H2 := Lib.hid h2
  clear hW hz hp ho h1 h2
  go_enter_defers Tryz.func103, Tryz.ntmps103
  go_wp2_with fail
  rw [HW.out]
  refine V.out.mono ?_
  cases hv : valP s 16 0 with
  | bad e i =>
    rintro x w1 ⟨rfl, hi, hk⟩
    have HN : Hid (R = (J.null, e, i)) := Lib.hid (by rw [HR.out, hv])
    clear hv V HR
    go_wp2
    refine leaves_cons (f := 125) (args := #[.pointer (some ⟨w.heap.size, 0, none⟩), .pointer (some ⟨w.heap.size + 1, 0, none⟩), .pointer (some ⟨w.heap.size + 2, 0, none⟩)]) (by simp) (by simp [go_sem]) ?_
    have hz := HZ.out
    refine (catch_wrong w.heap.size (w.heap.size + 1) (w.heap.size + 2) e i [] w1 (HO.out.kept hk (by omega)) ((hk.block _ (by omega) (by omega)).trans H1.out) ((hk.block _ (by omega) (by omega)).trans H2.out) (by omega) (by omega)).mono ?_
    rintro x u w2 ⟨rfl, rfl, q1, q2, q3, q4⟩
    obtain ⟨g0, g1, g2, g3, g4, g5, g6⟩ := q1.facts
    refine ⟨.tuple #[jotV 0 0 [] (.slice none 0 0) (.slice none 0 0), .int .i64 e, .int .i64 i], by simp [results, Tryz.results103, go_sem, g0, g1, g2, g3, g4, q2, q3], ?_⟩
    rw [HN.out]
    exact ⟨⟨_, [], rfl, JOwn.leaf _ _ _ _, List.nodup_nil, by simp⟩, (hkW.trans hk fun i hi _ => by omega).trans q4 fun i hi _ => by omega⟩
  | ok x i =>
    rintro _ w1 ⟨⟨u, rfl, hu⟩, hp1, hi, hk⟩
    obtain ⟨ut, uv, K, ka, rfl, hm, hcall⟩ := hu.jotC
    have HQ : Hid (R = if bl s i < s.length then (J.null, 40, bl s i) else (x, 0, 0)) := Lib.hid (by rw [HR.out, hv])
    have B := Lib.hid (blanks_any (w.heap.size + 3) s i 0 w1 hp1 h hi)
    have HU := Lib.hid hu
    have HM := Lib.hid hm
    have HC := Lib.hid hcall
    clear hv V HR hu hp1 hm hcall
    obtain ⟨j, hj⟩ : ∃ j, bl s i = j := ⟨_, rfl⟩
    rw [hj] at HQ B
    clear hj
    go_wp2_with fail
    refine B.out.mono ?_
    rintro _ w2 ⟨rfl, hp2, hj2, hk2⟩
    have hz := HZ.out
    have hk12 := hk.tr hk2
    obtain ⟨h0, h1', h2', h3, h4⟩ := hp2.facts
    by_cases hlt : j < s.length
    · have HN : Hid (R = (J.null, 40, j)) := Lib.hid (by rw [HQ.out, if_pos hlt])
      have HP2 := Lib.hid hp2
      clear HQ hp2
      go_wp2_with fail
      refine (fail_any _ _ _ _ _ _ HP2.out).mono ?_
      rintro x w' ⟨rfl, rfl⟩
      go_wp2
      refine leaves_cons (f := 125) (args := #[.pointer (some ⟨w.heap.size, 0, none⟩), .pointer (some ⟨w.heap.size + 1, 0, none⟩), .pointer (some ⟨w.heap.size + 2, 0, none⟩)]) (by simp) (by simp [go_sem]) ?_
      refine (catch_wrong w.heap.size (w.heap.size + 1) (w.heap.size + 2) 40 j [] w' (HO.out.kept hk12 (by omega)) ((hk12.block _ (by omega) (by omega)).trans H1.out) ((hk12.block _ (by omega) (by omega)).trans H2.out) (by omega) (by omega)).mono ?_
      rintro x u w2 ⟨rfl, rfl, q1, q2, q3, q4⟩
      obtain ⟨g0, g1, g2, g3, g4, g5, g6⟩ := q1.facts
      refine ⟨.tuple #[jotV 0 0 [] (.slice none 0 0) (.slice none 0 0), .int .i64 40, .int .i64 j], by simp [results, Tryz.results103, go_sem, g0, g1, g2, g3, g4, q2, q3], ?_⟩
      rw [HN.out]
      exact ⟨⟨_, [], rfl, JOwn.leaf _ _ _ _, List.nodup_nil, by simp⟩, (hkW.trans hk12 fun i hi _ => by omega).trans q4 fun i hi _ => by omega⟩
    · have HN : Hid (R = (x, 0, 0)) := Lib.hid (by rw [HQ.out, if_neg hlt])
      have HU2 := Lib.hid (HU.out.kept hk2 (fun b hb hw => by omega))
      have hz2 := hk12.size
      have HO2 := Lib.hid (HO.out.kept hk12 (by omega))
      have H12 := Lib.hid ((hk12.block _ (by omega) (by omega)).trans H1.out)
      have H22 := Lib.hid ((hk12.block _ (by omega) (by omega)).trans H2.out)
      clear HQ hp2
      go_wp2_with (refine wpList_invoke ut uv "latchkey/jot.jot" rfl (.tmp 28) rfl rfl HM.out (HC.out _ _ HU2.out) ?_)
      rintro e w3 ⟨⟨v, fp, rfl, hown, hnd, hfp⟩, hk3⟩
      obtain ⟨na, nl, nc, ia, il, ic, rfl⟩ := hown.form2
      refine ⟨_, rfl, ?_⟩
      have HO3 := Lib.hid (HO2.out.kept hk3 trivial)
      have h13 := (hk3.block _ (by omega) trivial).trans H12.out
      have h23 := (hk3.block _ (by omega) trivial).trans H22.out
      obtain ⟨g0, g1, g2, g3, g4, g5, g6⟩ := HO3.out.facts
      obtain ⟨f0, f1, f2, f3, f4⟩ := HO3.out.free
      have b0 : w3.cell? ⟨w.heap.size + 1, 0, none⟩ = some (.int .i64 0) := by rw [cell_of_row w3 _ _ _ _ (0, 0) h13]; rfl
      have b1 : w3.frozen? ⟨w.heap.size + 1, 0, none⟩ = false := frozen_row h13 0
      have c0 : w3.cell? ⟨w.heap.size + 1 + 1, 0, none⟩ = some (.int .i64 0) := by rw [cell_of_row w3 _ _ _ _ (0, 0) h23]; rfl
      have c1 : w3.frozen? ⟨w.heap.size + 1 + 1, 0, none⟩ = false := frozen_row h23 0
      have hz3 := hk3.size
      have HOWN := Lib.hid (And.intro hown (And.intro hnd hfp))
      have HFIVE := Lib.hid (HO3.out.five x.kind x.num x.text (.slice na nl nc) (.slice ia il ic))
      have HKB := Lib.hid (kept_box w3 w.heap.size (.int .i64 x.kind) (.int .i64 x.num) (S x.text) (.slice na nl nc) (.slice ia il ic))
      clear h13 h23 hown hnd hfp HU2 HU
      go_wp2
      refine leaves_cons (f := 125) (args := #[.pointer (some ⟨w.heap.size, 0, none⟩), .pointer (some ⟨w.heap.size + 1, 0, none⟩), .pointer (some ⟨w.heap.size + 1 + 1, 0, none⟩)]) (by simp) (by simp [go_sem]) ?_
      refine (catch_idle _ _ _ _).mono ?_
      rintro e u w5 ⟨rfl, rfl, hk5⟩
      have hkc := ((HKB.out.mono (ok2 := fun k => k ≠ w.heap.size ∧ k ≠ w.heap.size + 1 ∧ k ≠ w.heap.size + 1 + 1) (fun i _ h => h.1)).setCell (p := ⟨w.heap.size + 1, 0, none⟩) (.inr (by simp)) (.int .i64 0)).setCell (p := ⟨w.heap.size + 1 + 1, 0, none⟩) (.inr (by simp)) (.int .i64 0)
      have HF4 := Lib.hid (HFIVE.out.kept (ok := fun k => k ≠ w.heap.size + 1 ∧ k ≠ w.heap.size + 1 + 1) (((Kept.refl _ _).setCell (p := ⟨w.heap.size + 1, 0, none⟩) (.inr (by simp)) (.int .i64 0)).setCell (p := ⟨w.heap.size + 1 + 1, 0, none⟩) (.inr (by simp)) (.int .i64 0)) (by omega))
      obtain ⟨d0, d1, d2, d3, d4, d5, d6⟩ := (HF4.out.kept hk5 trivial).facts
      have d7 : w5.cell? ⟨w.heap.size + 1, 0, none⟩ = some (.int .i64 0) := by
        rw [hk5.cell (by simp [World.setCell]; omega) trivial]
        simp [go_sem, b0]
      have d8 : w5.cell? ⟨w.heap.size + 1 + 1, 0, none⟩ = some (.int .i64 0) := by
        rw [hk5.cell (by simp [World.setCell]; omega) trivial]
        simp [go_sem, c0]
      refine ⟨.tuple #[jotV x.kind x.num x.text (.slice na nl nc) (.slice ia il ic), .int .i64 0, .int .i64 0], by simp [results, Tryz.results103, go_sem, d0, d1, d2, d3, d4, d7, d8], ?_⟩
      rw [HN.out]
      obtain ⟨hown, hnd, hfp⟩ := HOWN.out
      have hkk := hkc.trans hk5 fun _ _ _ => trivial
      have hbig : ∀ b ∈ fp, w.heap.size + 4 ≤ b := fun b hb => by have := hfp b hb; omega
      exact ⟨⟨_, fp, rfl, hown.kept hkk.size (fun b hb => hkk.block b (hown.lt b hb) (by have := hbig b hb; omega)), hnd, fun b hb => by have := hbig b hb; omega⟩,
        ((hkW.trans hk12 fun i hi _ => by omega).trans hk3 fun _ _ _ => trivial).trans hkk fun i hi _ => by omega⟩
theorem Parse_any (s : List UInt8) (w : World) (hm : s.length ≤ maxLen) : Calls Tryz.prog 103 #[S s] w (ParseQ w (parseP s)) := by
  by_cases h : s.length > 4000
  · exact Parse_long s w h hm
  · exact Parse_short s w (by omega)
end Go.Proofs.YtpcgfhleloonfaaGreatDoor
