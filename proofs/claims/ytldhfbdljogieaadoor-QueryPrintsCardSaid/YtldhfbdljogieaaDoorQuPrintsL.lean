/- Walk of the law QueryPrints (layer 3). -/
import Derived.Test.YtldhfbdljogieaaDoorQuLent
import Derived.Test.YtldhfbdljogieaaDoorQuBackW
namespace Go.Proofs.YtldhfbdljogieaaDoor
open Go.RowKit Qu

theorem wt_append (a b : List Fld) : wt (a ++ b) = wt a + wt b := by simp only [wt, List.map_append, List.sum_append, List.length_append]; omega
theorem wt_drop_le (l : List Fld) (k : Nat) : wt (l.drop k) ≤ wt l := by
  have := wt_append (l.take k) (l.drop k)
  rw [List.take_append_drop] at this
  omega

set_option maxHeartbeats 16000000 in
set_option maxRecDepth 100000 in
theorem printsLaw (v u : Value) (l m : List Fld) (s : List UInt8) (w : World) (hE : Env w) (hv : FldIn w v l) (hu : FldIn w u m) (hlm : l.length ≤ 9223372036854775807) (hmm : m.length ≤ 9223372036854775807)
    (hlen : ∀ f ∈ l, f.1.length ≤ 9223372036854775807 ∧ f.2.length ≤ 9223372036854775807) (hmen : ∀ f ∈ m, f.1.length ≤ 9223372036854775807 ∧ f.2.length ≤ 9223372036854775807) (hs : s.length ≤ 9223372036854775807) :
    Calls Tryd.prog 5 #[v, S s, u] w fun e w' => e = .returned (.bool true) ∧ Below w.heap.size w w' := by
  have CW := weighs_any v l w hv hlm hlen
  have CW2 := fun (W : World) (hb : Below w.heap.size w W) => weighs_any u m W (hu.below hb) hmm hmen
  have hss := size_mk s
  obtain ⟨a, cap, hva⟩ := fldIn_len hv
  subst hva
  have HV := Lib.hid hv
  have HU := Lib.hid hu
  have HE := Lib.hid hE
  have HCW := Lib.hid CW
  have HCW2 := Lib.hid CW2
  clear hE CW CW2 hlen hmen hv hu
  go_enter Tryd.func5, Tryd.ntmps5
  go_wp2_with fail
  refine HCW.out.mono ?_
  rintro e w1 ⟨n1, rfl, hn0, hn1, hnw, hb1⟩
  have HNW := Lib.hid hnw
  clear hnw
  go_wp2_with fail
  refine (addsUp_any _ _ _ hn0 (by omega)).mono ?_
  rintro e w1' ⟨rfl, rfl⟩
  have hr := addI_rng n1 s.length hn0 (by omega)
  obtain ⟨k1, hk1⟩ : ∃ k1, addI n1 s.length = k1 := ⟨_, rfl⟩
  rw [hk1] at hr ⊢
  obtain ⟨hr0, hr1, hr2⟩ := hr
  have HR := Lib.hid hr2
  clear hk1 hr2
  go_wp2_with fail
  refine (HCW2.out _ hb1).mono ?_
  rintro e w2 ⟨n2, rfl, hm0, hm1, hnw2, hb2⟩
  have HNW2 := Lib.hid hnw2
  clear hnw2
  go_wp2_with fail
  refine (addsUp_any _ _ _ hr0 hm0).mono ?_
  rintro e w2' ⟨rfl, rfl⟩
  have hq := addI_rng k1 n2 hr0 hm0
  obtain ⟨k2, hk2⟩ : ∃ k2, addI k1 n2 = k2 := ⟨_, rfl⟩
  rw [hk2] at hq ⊢
  obtain ⟨hq0, hq1, hq2⟩ := hq
  have hb02 := hb1.trans (hb2.mono hb1.size)
  by_cases hbig : k2 > 2147483647
  · clear hq2
    go_wp2
    go_ret
    exact ⟨rfl, hb02⟩
  · obtain ⟨hk1b, hn2b, _⟩ := hq2 (by omega)
    obtain ⟨hn1b, hsb, _⟩ := HR.out hk1b
    have hwl : wt l ≤ 2147483647 := by have := HNW.out hn1b; omega
    have hwm : wt m ≤ 2147483647 := by have := HNW2.out hn2b; omega
    have hll := wt_len l
    have hml := wt_len m
    have hbig' : k2 ≤ 2147483647 := by omega
    clear hq2 hbig hk2
    have z2 := hb02.size
    have E2 := Lib.hid (HE.out.on HE.out.size hb02)
    go_wp2_with fail
    refine (awake_any _ E2.out).mono ?_
    rintro e w3 ⟨rfl, hb3⟩
    have hb03 := hb02.trans (hb3.mono z2)
    have z3 := hb03.size
    go_wp2_with fail
    refine (lent_any _ l _ (HV.out.below hb03) (by omega)).mono ?_
    rintro e w4 ⟨rfl, hb4, hr4⟩
    obtain ⟨g, hg⟩ : ∃ g, w3.heap.size = g := ⟨_, rfl⟩
    rw [hg] at hr4 ⊢
    have hb04 := hb03.trans (hb4.mono z3)
    have z4 := hb04.size
    have hgw : w.heap.size ≤ g := by omega
    have E4 := Lib.hid (HE.out.on HE.out.size hb04)
    have HR4 := Lib.hid hr4
    have hF : ∀ W, RowAt g (l ++ List.replicate 4 spareF) W → FldIn W (.slice (some ⟨g, 0, none⟩) l.length (l.length + 4)) l := by
      intro W h
      have := h.fldIn l.length (l.length + 4) (by simp) (by omega)
      rwa [List.take_left] at this
    have HF := Lib.hid hF
    clear hb1 hb2 hb3 hb4 hr4 hg hF hb02 hb03 z2 z3
    go_wp2_with fail
    refine (Print_any _ l _ E4.out (HF.out _ HR4.out) (by omega)).mono ?_
    rintro e w5 ⟨rfl, hb5⟩
    have hb05 := hb04.trans (hb5.mono z4)
    have z5 := hb05.size
    have HR5 := Lib.hid (HR4.out.below hb5)
    go_wp2_with fail
    refine (One_any _ l s _ (HF.out _ HR5.out) (by omega)).mono ?_
    rintro e w6 ⟨rfl, hb6⟩
    have hb06 := hb05.trans (hb6.mono z5)
    have z6 := hb06.size
    have HR6 := Lib.hid (HR5.out.below hb6)
    obtain ⟨R, hR⟩ : ∃ R, oneP l s = R := ⟨_, rfl⟩
    have CO := refOne_any (.slice a l.length cap) l s w6 (HV.out.below hb06) (by omega)
    rw [hR] at CO ⊢
    have HCO := Lib.hid CO
    clear CO hR
    go_wp2_with fail
    refine HCO.out.mono ?_
    rintro e w6' ⟨rfl, rfl⟩
    go_wp2_with fail
    refine (whole_any _ l g _ (HV.out.below hb06) HR6.out (by omega)).mono ?_
    rintro e w7 ⟨rfl, hb7⟩
    have hb07 := hb06.trans (hb7.mono z6)
    have z7 := hb07.size
    have HR7 := Lib.hid (HR6.out.below hb7)
    go_wp2_with fail
    refine (refPrint_any _ l _ (HV.out.below hb07) (by omega)).mono ?_
    rintro e w8 ⟨rfl, hb8⟩
    have hb08 := hb07.trans (hb8.mono z7)
    have z8 := hb08.size
    have hr8 := HR7.out.below hb8
    have hu8 := HU.out.below hb08
    clear hb04 hb05 hb06 hb07 hb5 hb6 hb7 hb8 z4 z5 z6 z7
    obtain ⟨old, hold⟩ : ∃ old, l ++ List.replicate 4 spareF = old := ⟨_, rfl⟩
    have holdl : l.length ≤ old.length := by rw [← hold]; simp
    rw [hold] at hr8
    have HO := Lib.hid hold
    have HOL := Lib.hid holdl
    clear hold holdl
    go_wp2_with ((with_reducible show wpList _ _ _ _ _ _); refine wpList_copyF (o := ⟨some 74, _, _, _, _, _⟩) rfl (.tmp 72) (.tmp 73) rfl g l.length (l.length + 4) _ old m rfl rfl hr8 hu8 HOL.out ?_)
    intro w9 hr9 hb9 hz9
    have hb09 := hb9 _ _ hb08 hgw
    have hrow : ∃ l2 : List Fld, RowAt g (l2 ++ List.replicate 4 spareF) w9 ∧ l2.length = l.length ∧ wt l2 ≤ wt l + wt m := by
      have hkk : min m.length l.length ≤ l.length := Nat.min_le_right _ _
      refine ⟨m.take (min m.length l.length) ++ l.drop (min m.length l.length), ?_, ?_, ?_⟩
      · rw [List.append_assoc, ← List.drop_append_of_le_length hkk, HO.out]
        exact hr9
      · rw [List.length_append, List.length_take, List.length_drop]
        omega
      · rw [wt_append]
        have h1 := wt_take_le m (min m.length l.length)
        have h2 := wt_drop_le l (min m.length l.length)
        omega
    obtain ⟨l2, hr92, hl2, hw2⟩ := hrow
    have HL2 := Lib.hid hl2
    have HR9 := Lib.hid hr92
    have z9 := hb09.size
    have hF9 : ∀ W, RowAt g (l2 ++ List.replicate 4 spareF) W → FldIn W (.slice (some ⟨g, 0, none⟩) l.length (l.length + 4)) l2 := by
      intro W h
      have := h.fldIn l.length (l.length + 4) (by rw [List.length_append, hl2]; omega) (by omega)
      rwa [← hl2, List.take_left, hl2] at this
    have HF9 := Lib.hid hF9
    have HNews : Hid (∀ (j : Nat) u, (fieldCells l2)[j]? = some u → w9.cell? ((⟨g, 0, none⟩ : Addr).add j) = some u) := by
      refine Lib.hid fun j x hj => ?_
      have hadd : (⟨g, 0, none⟩ : Addr).add j = ⟨g, j, none⟩ := by unfold Addr.add; split <;> simp_all
      rw [hadd, cell_of_row w9 g j _ _ (0, 0) HR9.out, fieldCells_append]
      have hjl := (List.getElem?_eq_some_iff.1 hj).1
      rw [List.getElem?_toArray, List.getElem?_append_left hjl]
      exact hj
    have HOne : Hid (∀ x ∈ fieldCells l2, x.oneCell' = true) := by
      refine Lib.hid fun x hx => ?_
      unfold fieldCells at hx
      obtain ⟨f, _, hf⟩ := List.mem_flatMap.1 hx
      simp at hf
      rcases hf with rfl | rfl <;> rfl
    have HCL : Hid ((fieldCells l2).length = l.length * 2) := Lib.hid (by rw [fieldCells_len, hl2])
    obtain ⟨i0, hi0, hz0, hz1, hz2⟩ := info_parts infoField
    clear hr9 hr92 hl2 hF9 hr8 hu8 hb9 hz9 hb08 z8
    go_wp2_with (at_builtin; refine wpList_append_own _ rfl (.tmp 75) (.tmp 76) 31 rfl w.heap.size 44 i0 _ 2 32 Tryd.underlying31 hi0 hz0 hz1 hz2 rfl (by decide) (.slice none 0 0) 0 [] rfl (World.ownsRow_nil _ _ _ _) ⟨g, 0, none⟩ l.length (l.length + 4) (fieldCells l2) rfl HCL.out HNews.out HOne.out (by unfold maxLen; omega) (by omega) z9 ?_)
    intro v10 w10 hown10 hgrow10 _
    have hb910 : Below w9.heap.size w9 w10 := (Below.refl _ _).grown hgrow10 (Nat.le_refl _) (by simp [Value.ownBlock])
    have hN : OwnF w.heap.size v10 l2 w10 := by unfold OwnF; rw [HL2.out]; exact hown10
    have hb010 := hb09.trans (hb910.mono z9)
    have z10 := hb010.size
    have HR10 := Lib.hid (HR9.out.below hb910)
    have HN10 := Lib.hid hN
    have h2l : l2.length ≤ 68719476736 := by have := HL2.out; omega
    clear hown10 hgrow10 hb910 hN hz0 hz1 hz2 hi0 z9 hb09
    go_wp2_with fail
    refine (One_any _ l2 s _ (HF9.out _ HR10.out) h2l).mono ?_
    rintro e w11 ⟨rfl, hb11⟩
    have hb011 := hb010.trans (hb11.mono z10)
    have z11 := hb011.size
    have HR11 := Lib.hid (HR10.out.below hb11)
    have HN11 := Lib.hid (HN10.out.below hb11)
    obtain ⟨R2, hR2⟩ : ∃ R, oneP l2 s = R := ⟨_, rfl⟩
    have CO2 := refOne_any v10 l2 s w11 HN11.out.fldIn h2l
    rw [hR2] at CO2 ⊢
    have HCO2 := Lib.hid CO2
    clear CO2 hR2
    go_wp2_with fail
    refine HCO2.out.mono ?_
    rintro e w11' ⟨rfl, rfl⟩
    have E11 := Lib.hid (HE.out.on HE.out.size hb011)
    go_wp2_with fail
    refine (Print_any _ l2 _ E11.out (HF9.out _ HR11.out) (by omega)).mono ?_
    rintro e w12 ⟨rfl, hb12⟩
    have hb012 := hb011.trans (hb12.mono z11)
    have z12 := hb012.size
    have HN12 := Lib.hid (HN11.out.below hb12)
    go_wp2_with fail
    refine (refPrint_any v10 l2 _ HN12.out.fldIn (by omega)).mono ?_
    rintro e w13 ⟨rfl, hb13⟩
    have hb013 := hb012.trans (hb13.mono z12)
    go_wp2
    go_ret
    exact ⟨rfl, hb013⟩
end Go.Proofs.YtldhfbdljogieaaDoor
