/- Walks of the reference's reader (layer 4): every value; read and Parse. -/
import Derived.Test.YtmajpambfblhnaaGreatDoorJoRV2
import Derived.Test.YtmajpambfblhnaaGreatDoorJoRM
import Derived.Deep.RegionHeld3
namespace Go.Proofs.YtmajpambfblhnaaGreatDoor
open Go.RowKit Jo


theorem refvalue_step (g : Nat) (s : List UInt8) (i d : Nat) (w : World) (hp : RA g s i 0 d w) (hi : i ≤ s.length) (hl : s.length ≤ 1000000) (L : Nat → PR (List J)) (O : Nat → PR (List (List UInt8 × J)))
    (hL : ∀ W, RA g s i 0 d W → i < s.length → Calls Tryz.prog 79 #[.pointer (some ⟨g, 0, none⟩)] W (RefB g s d W (L i) J.list))
    (hO : ∀ W, RA g s i 0 d W → i < s.length → Calls Tryz.prog 80 #[.pointer (some ⟨g, 0, none⟩)] W (RefB g s d W (O i) fun ms => J.obj (sortM ms))) :
    Calls Tryz.prog 59 #[.pointer (some ⟨g, 0, none⟩)] w (RRd g s d w (valQ s L O i) (RVal w) RNo) := by
  unfold valQ
  cases hc : s[i]? with
  | none => exact refvalue_none g s i d w hp hi hl hc
  | some c =>
    have hil := (List.getElem?_eq_some_iff.1 hc).1
    simp only
    by_cases e110 : c = 110
    · rw [if_pos e110]; exact refvalue_n g s i d w hp hi hl (by rw [hc, e110]) _ rfl
    rw [if_neg e110]
    by_cases e102 : c = 102
    · rw [if_pos e102]; exact refvalue_f g s i d w hp hi hl (by rw [hc, e102]) _ rfl
    rw [if_neg e102]
    by_cases e116 : c = 116
    · rw [if_pos e116]; exact refvalue_t g s i d w hp hi hl (by rw [hc, e116]) _ rfl
    rw [if_neg e116]
    by_cases e34 : c = 34
    · rw [if_pos e34]; exact refvalue_text g s i d w hp hi hl (by rw [hc, e34]) _ rfl
    rw [if_neg e34]
    by_cases e91 : c = 91
    · rw [if_pos e91]; exact refvalue_list g s i d w hp hi hl J.list (by rw [hc, e91]) (L i) fun W hW => hL W hW hil
    rw [if_neg e91]
    by_cases e123 : c = 123
    · rw [if_pos e123]; exact refvalue_object g s i d w hp hi hl (fun ms => J.obj (sortM ms)) (by rw [hc, e123]) (O i) fun W hW => hO W hW hil
    rw [if_neg e123]
    by_cases hM : (decide (c = 45) || (decide ((48 : Int) ≤ (c.toNat : Int)) && decide ((c.toNat : Int) ≤ 57))) = true
    · exact refvalue_num g s i d w hp hi hl _ rfl c hc e110 e102 e116 e34 e91 e123 _ _ _ (byte_is c 45 45 rfl) rfl rfl hM
    · rw [Bool.not_eq_true, Bool.or_eq_false_iff] at hM
      have e45 : c ≠ 45 := of_decide_eq_false hM.1
      have hdg : isDig c = false := by
        cases h : isDig c with
        | false => rfl
        | true =>
          exfalso
          unfold isDig at h
          simp [UInt8.le_iff_toNat_le] at h
          have h2 := hM.2
          rw [decide_eq_true (by omega), decide_eq_true (by omega)] at h2
          cases h2
      have hN : numP s i = .bad 40 i := by
        rw [numP, hc, if_neg (by simpa using e45), numQ, hc]
        simp only
        rw [if_pos hdg]
      rw [hN]
      exact refvalue_other g s i d w hp hi hl c hc e110 e102 e116 e34 e91 e123 e45 _ _ rfl rfl hM.2
theorem refvalue_any (g : Nat) (s : List UInt8) (hl : s.length ≤ 1000000) : ∀ (k d : Nat), d + k = 16 → RefV g s d k := by
  intro k
  induction k with
  | zero =>
    intro d hd i w hp hi
    obtain rfl : d = 16 := by omega
    refine refvalue_step g s i 16 w hp hi hl (fun i => .bad 41 i) (fun i => .bad 41 i) (fun W hW hil => ?_) fun W hW hil => ?_
    · refine (reflist_deep g s i W hW).mono ?_
      rintro e w' ⟨rfl, h1, h2⟩
      exact ⟨⟨_, _, _, _, _, _, _, _, _, rfl⟩, ⟨16, h1⟩, hi, h2⟩
    · refine (refobject_deep g s i W hW).mono ?_
      rintro e w' ⟨rfl, h1, h2⟩
      exact ⟨⟨_, _, _, _, _, _, _, _, _, rfl⟩, ⟨16, h1⟩, hi, h2⟩
  | succ k ih =>
    intro d hd i w hp hi
    have hv := ih (d + 1) (by omega)
    exact refvalue_step g s i d w hp hi hl (listP s (valP s k)) (objP s (valP s k)) (fun W hW hil => reflist_any g s i d k hv W hW (by omega) hil hl) fun W hW hil =>
      refobject_any g s i d k hv (fun N0 i w ms b nc b2 ic n hn hp hi hN hN0 ha hml hrn hri => refmember_any g s (d + 1) k hv N0 i w ms b nc b2 ic n hn hp hi hl hN hN0 ha hml hrn hri) W hW (by omega) hil hl
end Go.Proofs.YtmajpambfblhnaaGreatDoor

namespace Go.Proofs.YtmajpambfblhnaaGreatDoor
open Go.RowKit Jo

/-- What the reference's Parse leaves. -/
def RefPQ (w : World) (r : J × Int × Nat) (e : Ending) (w' : World) : Prop := (∃ v, e = .returned (.tuple #[v, .int .i64 r.2.1, .int .i64 (r.2.2 : Int)]) ∧ JIn (fun b => w.heap.size ≤ b) w' r.1 v) ∧ Kept (fun _ => True) w w'

set_option maxHeartbeats 8000000 in
set_option maxRecDepth 100000 in
theorem refread_any (s : List UInt8) (hl : s.length ≤ 1000000) (w : World) : Calls Tryz.prog 35 #[S s] w (RefPQ w (readP s)) := by
  have hsz : (⟨s.toArray⟩ : ByteArray).size = s.length := size_mk s
  obtain ⟨R, hR⟩ : ∃ R, readP s = R := ⟨_, rfl⟩
  have HR : Hid ((match valA s 16 (bl s 0) with | .bad e i => (J.null, e, i) | .ok x i => if bl s i < s.length then (J.null, 40, bl s i) else (x, 0, 0)) = R) := Lib.hid (by rw [← hR, readP, valP_valA]; rfl)
  rw [hR]
  clear hR
  obtain ⟨W0, hW0⟩ : ∃ W0, (w.alloc (.cells #[.int .i64 0, .int .i64 0, S [], .slice none 0 0, .slice none 0 0] 25)).alloc (.cells #[S s, .int .i64 0, .int .i64 0, .int .i64 0] 104) = W0 := ⟨_, rfl⟩
  have hk0 : Kept (fun _ => True) w W0 := by rw [← hW0]; exact ((Kept.refl _ w).alloc _).alloc _
  have hz0 : W0.heap.size = w.heap.size + 2 := by rw [← hW0]; simp
  have hbox0 : OutAt w.heap.size 0 0 [] (.slice none 0 0) (.slice none 0 0) W0 := by rw [← hW0]; exact (OutAt.new w 0 0 [] (.slice none 0 0) (.slice none 0 0)).kept (ok := fun _ => True) ((Kept.refl _ _).alloc _) trivial
  have hp0 : RA (w.heap.size + 1) s 0 0 0 W0 := by
    rw [← hW0]
    have := heap_alloc_new (w.alloc (.cells #[.int .i64 0, .int .i64 0, S [], .slice none 0 0, .slice none 0 0] 25)) (.cells #[S s, .int .i64 0, .int .i64 0, .int .i64 0] 104)
    simpa [RA] using this
  have B := Lib.hid (refblanks_any (w.heap.size + 1) s 0 0 W0 hp0 hl (Nat.zero_le _))
  have HW0 := Lib.hid hW0
  have HZ0 := Lib.hid hz0
  have HB0 := Lib.hid hbox0
  have HK0 := Lib.hid hk0
  clear hp0 hW0 hz0 hbox0 hk0
  go_enter Tryz.func35, Tryz.ntmps35
  go_wp2_with fail
  rw [show (({ data := #[] } : ByteArray)) = ⟨([] : List UInt8).toArray⟩ from rfl, HW0.out]
  refine B.out.mono ?_
  rintro e w1 ⟨rfl, hp1, hb1, hk1⟩
  have hz1 := hk1.size
  have hz0 := HZ0.out
  have HB1 := Lib.hid (HB0.out.kept hk1 (by omega))
  have HK1 : Hid (Kept (fun _ => True) w w1) := Lib.hid (HK0.out.trans hk1 fun i hi _ => by omega)
  have V := Lib.hid (refvalue_any (w.heap.size + 1) s hl 16 0 rfl (bl s 0) w1 hp1 hb1)
  obtain ⟨i0, hi0⟩ : ∃ i0, bl s 0 = i0 := ⟨_, rfl⟩
  rw [hi0] at HR V hb1
  clear hi0 hp1 hk1 B HB0 HK0
  go_wp2_with fail
  refine V.out.mono ?_
  clear V
  cases hv : valA s 16 i0 with
  | bad x j =>
    have HN : Hid (R = (J.null, x, j)) := Lib.hid (by rw [← HR.out, hv])
    rintro e w2 ⟨⟨k', n', t', na, nl, nc, ia, il, ic, rfl⟩, ⟨d', hp2⟩, hb2, hk2⟩
    have hz2 := hk2.size
    have hK2 : Kept (fun _ => True) w w2 := HK1.out.trans hk2 fun i hi _ => by omega
    have HK2 := Lib.hid hK2
    obtain ⟨W3, hW3⟩ : ∃ W3, w2.alloc (.cells #[.int .i64 k', .int .i64 n', S t', .slice na nl nc, .slice ia il ic] 25) = W3 := ⟨_, rfl⟩
    have hk23 : Kept (fun _ => True) w2 W3 := by rw [← hW3]; exact (Kept.refl _ _).alloc _
    have HW3 := Lib.hid hW3
    have HB3 := Lib.hid ((HB1.out.kept hk2 (by omega)).kept hk23 trivial)
    have HK3 := Lib.hid (HK2.out.tr hk23)
    have HP3 := Lib.hid (hp2.kept hk23 trivial)
    clear hv HR hp2 hk2 hK2 hk23 hW3
    go_wp2_with fail
    rw [HW3.out]
    obtain ⟨g0, g1, g2, g3, g4, g5, g6⟩ := HB3.out.facts
    obtain ⟨f0, f1, f2, f3, f4⟩ := HB3.out.free
    obtain ⟨h0, h1, h2, h3, h4, h5, h6⟩ := HP3.out.facts
    have hbn : w.heap.size + 1 ≠ w.heap.size := by omega
    go_region_held3 (fun wz => wz.cell? ⟨w.heap.size + 1, 1, none⟩ = some (.int .i64 j) ∧ wz.cell? ⟨w.heap.size + 1, 2, none⟩ = some (.int .i64 x)) (go_keep) (fail)
    go_wp2
    refine bodyPost_ret (v := .tuple #[jotV 0 0 [] (.slice none 0 0) (.slice none 0 0), .int .i64 x, .int .i64 j]) (by simp [results, Tryz.results35, go_sem, g0, g1, g2, g3, g4]) rfl ?_
    rw [HN.out]
    exact ⟨⟨_, rfl, jin_leaf _ 0 0 [] _ (by decide) (by decide) (by decide) (by decide) (by decide)⟩, (HK3.out.trans (kept_box _ w.heap.size _ _ _ _ _) fun i hi _ => by omega).drew⟩
  | ok x j =>
    rintro e w2 ⟨⟨v, rfl, hj⟩, hp2, hb2, hk2⟩
    obtain ⟨na, nl, nc, ia, il, ic, rfl⟩ := hj.form
    have HQ : Hid ((if bl s j < s.length then (J.null, (40 : Int), bl s j) else (x, 0, 0)) = R) := Lib.hid (by rw [← HR.out, hv])
    obtain ⟨W3, hW3⟩ : ∃ W3, w2.alloc (.cells #[.int .i64 x.kind, .int .i64 x.num, S x.text, .slice na nl nc, .slice ia il ic] 25) = W3 := ⟨_, rfl⟩
    have hk23 : Kept (fun _ => True) w2 W3 := by rw [← hW3]; exact (Kept.refl _ _).alloc _
    have hv3 : OutAt w2.heap.size x.kind x.num x.text (.slice na nl nc) (.slice ia il ic) W3 := by rw [← hW3]; exact OutAt.new _ _ _ _ _ _
    have hz3 : W3.heap.size = w2.heap.size + 1 := by rw [← hW3]; simp
    have hz2 := hk2.size
    have hk3 : Kept (fun b => b ≠ w.heap.size + 1) w1 W3 := hk2.tr (hk23.mono fun _ _ _ => trivial)
    have HB3 := Lib.hid (HB1.out.kept hk3 (by omega))
    have HK3 : Hid (Kept (fun _ => True) w W3) := Lib.hid (HK1.out.trans hk3 fun i hi _ => by omega)
    have HJ3 : Hid (JIn (fun b => w.heap.size + 2 ≤ b ∧ b < w2.heap.size) W3 x (jotV x.kind x.num x.text (.slice na nl nc) (.slice ia il ic))) := Lib.hid ((hj.mono (ok2 := fun b => w.heap.size + 2 ≤ b ∧ b < w2.heap.size) fun b hb h => ⟨by omega, hb⟩).kept hk23 fun _ _ _ => trivial)
    have B3 := Lib.hid (refblanks_any (w.heap.size + 1) s j 0 W3 (hp2.kept hk23 trivial) hl hb2)
    have HV3 := Lib.hid hv3
    have HW3 := Lib.hid hW3
    clear hv HR hp2 hk2 hj hk23 hv3 hW3 HB1 HK1 hk3
    go_wp2_with fail
    rw [HW3.out]
    refine B3.out.mono ?_
    rintro e w4 ⟨rfl, hp4, hb4, hk4⟩
    have hz4 := hk4.size
    have HV4 := Lib.hid (HV3.out.kept hk4 (by omega))
    have HB4 := Lib.hid (HB3.out.kept hk4 (by omega))
    have HK4 : Hid (Kept (fun _ => True) w w4) := Lib.hid (HK3.out.trans hk4 fun i hi _ => by omega)
    have HJ4 := Lib.hid (HJ3.out.kept hk4 fun b _ h => by omega)
    obtain ⟨j1, hj1⟩ : ∃ j1, bl s j = j1 := ⟨_, rfl⟩
    rw [hj1] at HQ hp4 hb4
    obtain ⟨h0, h1, h2, h3, h4, h5, h6⟩ := hp4.facts
    obtain ⟨g0, g1, g2, g3, g4, g5, g6⟩ := HB4.out.facts
    obtain ⟨f0, f1, f2, f3, f4⟩ := HB4.out.free
    obtain ⟨v0, v1, v2, v3, v4, v5, v6⟩ := HV4.out.facts
    have hbn : w2.heap.size ≠ w.heap.size := by omega
    clear hj1 hp4 hk4 B3 HB3 HK3 HJ3 HV3
    by_cases hlt : j1 < s.length
    · have HN : Hid (R = (J.null, 40, j1)) := Lib.hid (by rw [← HQ.out, if_pos hlt])
      have hbn1 : w.heap.size + 1 ≠ w.heap.size := by omega
      go_wp2
      go_region_held3 (fun wz => wz.cell? ⟨w.heap.size + 1, 1, none⟩ = some (.int .i64 j1)) (go_keep) (fail)
      go_wp2
      refine bodyPost_ret (v := .tuple #[jotV 0 0 [] (.slice none 0 0) (.slice none 0 0), .int .i64 40, .int .i64 j1]) (by simp [results, Tryz.results35, go_sem, g0, g1, g2, g3, g4]) rfl ?_
      rw [HN.out]
      exact ⟨⟨_, rfl, jin_leaf _ 0 0 [] _ (by decide) (by decide) (by decide) (by decide) (by decide)⟩, (HK4.out.trans (kept_box _ w.heap.size _ _ _ _ _) fun i hi _ => by omega).drew⟩
    · have HN : Hid (R = (x, 0, 0)) := Lib.hid (by rw [← HQ.out, if_neg hlt])
      have hd : decide (j1 < s.length) = false := decide_eq_false hlt
      go_wp2
      refine bodyPost_ret (v := .tuple #[jotV x.kind x.num x.text (.slice na nl nc) (.slice ia il ic), .int .i64 0, .int .i64 0]) (by simp [results, Tryz.results35, go_sem, g0, g1, g2, g3, g4]) rfl ?_
      rw [HN.out]
      have hkb := kept_box w4 w.heap.size (.int .i64 x.kind) (.int .i64 x.num) (S x.text) (.slice na nl nc) (.slice ia il ic)
      exact ⟨⟨_, rfl, (HJ4.out.kept hkb fun b _ h => by omega).mono fun b _ h => by omega⟩, HK4.out.trans hkb fun i hi _ => by omega⟩

set_option maxHeartbeats 4000000 in
set_option maxRecDepth 100000 in
theorem refParse_any (s : List UInt8) (w : World) (hm : s.length ≤ maxLen) : Calls Tryz.prog 17 #[S s] w (RefPQ w (parseP s)) := by
  have hsz : (⟨s.toArray⟩ : ByteArray).size = s.length := size_mk s
  unfold maxLen at hm
  obtain ⟨W0, hW0⟩ : ∃ W0, w.alloc (.cells #[.int .i64 0, .int .i64 0, S [], .slice none 0 0, .slice none 0 0] 25) = W0 := ⟨_, rfl⟩
  have hk0 : Kept (fun _ => True) w W0 := by rw [← hW0]; exact (Kept.refl _ w).alloc _
  have hz0 : W0.heap.size = w.heap.size + 1 := by rw [← hW0]; simp
  have hbox0 : OutAt w.heap.size 0 0 [] (.slice none 0 0) (.slice none 0 0) W0 := by rw [← hW0]; exact OutAt.new w 0 0 [] (.slice none 0 0) (.slice none 0 0)
  have HW0 := Lib.hid hW0
  have HZ0 := Lib.hid hz0
  have HB0 := Lib.hid hbox0
  have HK0 := Lib.hid hk0
  unfold parseP
  clear hW0 hz0 hbox0 hk0
  by_cases h : s.length > 4000
  · rw [if_pos h]
    have hI : (4000 : Int) < (s.length : Int) := by omega
    have g0 : (w.alloc (.cells #[.int .i64 0, .int .i64 0, S [], .slice none 0 0, .slice none 0 0] 25)).frozen? ⟨w.heap.size, 0, none⟩ = false := by simp
    go_enter Tryz.func17, Tryz.ntmps17
    go_wp2
    refine bodyPost_ret (v := .tuple #[jotV 0 0 [] (.slice none 0 0) (.slice none 0 0), .int .i64 44, .int .i64 4000]) (by simp [results, Tryz.results17, go_sem]) rfl ?_
    exact ⟨⟨_, rfl, jin_leaf _ 0 0 [] _ (by decide) (by decide) (by decide) (by decide) (by decide)⟩, (((Kept.refl _ w).alloc _)).trans (Kept.refl (fun _ => True) _) fun _ _ _ => trivial⟩
  · rw [if_neg h]
    have hI : ¬ (4000 : Int) < (s.length : Int) := by omega
    have hC := refread_any s (by omega) W0
    generalize readP s = R at hC ⊢
    obtain ⟨⟨k, n, t, ns, xs⟩, e0, p0⟩ := R
    have C := Lib.hid hC
    clear h hC
    go_enter Tryz.func17, Tryz.ntmps17
    go_wp2_with fail
    rw [show (({ data := #[] } : ByteArray)) = ⟨([] : List UInt8).toArray⟩ from rfl, HW0.out]
    refine C.out.mono ?_
    rintro e w1 ⟨⟨v, rfl, hj⟩, hk1⟩
    obtain ⟨na, nl, nc, ia, il, ic, rfl⟩ := hj.form
    have HJ := Lib.hid hj
    have hz1 := hk1.size
    have hz0 := HZ0.out
    have HB1 := Lib.hid (HB0.out.kept hk1 trivial)
    have HK1 : Hid (Kept (fun _ => True) w w1) := Lib.hid (HK0.out.tr hk1)
    obtain ⟨g0, g1, g2, g3, g4, g5, g6⟩ := HB1.out.facts
    obtain ⟨f0, f1, f2, f3, f4⟩ := HB1.out.free
    clear hj hk1 C
    go_wp2
    refine bodyPost_ret (v := .tuple #[jotV k n t (.slice na nl nc) (.slice ia il ic), .int .i64 e0, .int .i64 p0]) (by simp [results, Tryz.results17, go_sem, g0, g1, g2, g3, g4]) rfl ?_
    have hkb := kept_box w1 w.heap.size (.int .i64 k) (.int .i64 n) (S t) (.slice na nl nc) (.slice ia il ic)
    exact ⟨⟨_, rfl, (HJ.out.kept' hkb.size (fun b hb h => hkb.block b hb (by omega)) fun b _ h => by omega)⟩, HK1.out.trans hkb fun i hi _ => by omega⟩
end Go.Proofs.YtmajpambfblhnaaGreatDoor
