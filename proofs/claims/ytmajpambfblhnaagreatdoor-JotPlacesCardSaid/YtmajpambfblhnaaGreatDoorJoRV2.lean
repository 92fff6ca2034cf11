/- Walks of the reference's reader (layer 4): text, list, object, number, and what is none. -/
import Derived.Test.YtmajpambfblhnaaGreatDoorJoRV1
namespace Go.Proofs.YtmajpambfblhnaaGreatDoor
open Go.RowKit Jo

set_option maxHeartbeats 4000000 in
set_option maxRecDepth 100000 in
theorem refvalue_text (g : Nat) (s : List UInt8) (i d : Nat) (w : World) (hp : RA g s i 0 d w) (hi : i ≤ s.length) (hl : s.length ≤ 1000000) (hc : s[i]? = some 34) (R : PR J) (hR : ((textP s [] i).bind fun t i => .ok (J.tx t) i) = R) :
    Calls Tryz.prog 59 #[.pointer (some ⟨g, 0, none⟩)] w (RRd g s d w R (RVal w) RNo) := by
  obtain ⟨h0, h1, h2, h3, h4, h5, h6⟩ := hp.facts
  have hgl := hp.lt
  have hsz := size_mk s
  have HR := Lib.hid hR
  clear hR
  obtain ⟨hil, hci⟩ := List.getElem?_eq_some_iff.1 hc
  have hix := run_index_str (P := Tryz.prog) Tryz.underlying9 ⟨s.toArray⟩ i i rfl (by rw [hsz]; exact hil) 34 hci
  have hN : (((34 : UInt8).toNat : Nat) : Int) = 34 := rfl
  rw [hN] at hix
  clear hc hci hsz hN
  obtain ⟨W0, hW0⟩ : ∃ W0, w.alloc (.cells #[.int .i64 0, .int .i64 0, S [], .slice none 0 0, .slice none 0 0] 25) = W0 := ⟨_, rfl⟩
  have hk0 : Kept (· ≠ g) w W0 := by rw [← hW0]; exact (Kept.refl _ w).alloc _
  have hz0 : W0.heap.size = w.heap.size + 1 := by rw [← hW0]; simp
  have hbox0 : OutAt w.heap.size 0 0 [] (.slice none 0 0) (.slice none 0 0) W0 := by rw [← hW0]; exact OutAt.new w 0 0 [] (.slice none 0 0) (.slice none 0 0)
  have hp0 : RA g s i 0 d W0 := hp.kept (ok := fun _ => True) (by rw [← hW0]; exact (Kept.refl _ w).alloc _) trivial
  have HP0 := Lib.hid hp0
  have HW0 := Lib.hid hW0
  have HZ0 := Lib.hid hz0
  have HB0 := Lib.hid hbox0
  clear hp hp0 hW0 hz0 hbox0
  have C := Lib.hid (fun (W : World) (h : RA g s i 0 d W) => reftext_any g s i d W h hl hi)
  go_enter Tryz.func59, Tryz.ntmps59
  go_wp2
  go_quiet (fail)
  go_wp2
  go_quiet (fail)
  go_wp2_with fail
  rw [show (({ data := #[] } : ByteArray)) = ⟨([] : List UInt8).toArray⟩ from rfl, HW0.out]
  refine (C.out _ (HP0.out.drewN _)).mono ?_
  clear C
  cases hq : textP s [] i with
  | bad e k =>
    rintro x w1 ⟨rfl, ⟨d', hp1⟩, hb, hk1⟩
    have HN : Hid (R = .bad e k) := Lib.hid (by rw [← HR.out, hq]; rfl)
    clear hq
    replace hk1 : Kept (· ≠ g) W0 _ := ((Kept.refl _ W0).drewN _).tr hk1
    have hz1 := hk1.size
    have hz0 := HZ0.out
    have HB1 := Lib.hid (HB0.out.kept hk1 (by omega))
    obtain ⟨g0, g1, g2, g3, g4, g5, g6⟩ := HB1.out.facts
    obtain ⟨f0, f1, f2, f3, f4⟩ := HB1.out.free
    go_wp2
    refine bodyPost_ret (v := .tuple #[jotV 4 0 [] (.slice none 0 0) (.slice none 0 0), .bool false]) (by simp [results, Tryz.results59, go_sem, g0, g1, g2, g3, g4]) rfl ?_
    have hkb := fun (W : World) => kept_box W w.heap.size (.int .i64 4) (.int .i64 0) (S []) (.slice none 0 0) (.slice none 0 0)
    rw [HN.out]
    exact ⟨⟨_, _, _, _, _, _, _, _, _, rfl⟩, ⟨d', hp1.kept (hkb _) (by omega)⟩, hb, (hk0.tr hk1).trans (hkb _) fun b hb _ => by omega⟩
  | ok t k =>
    rintro x w1 ⟨rfl, hp1, hb, hk1⟩
    have HN : Hid (R = .ok (J.tx t) k) := Lib.hid (by rw [← HR.out, hq]; rfl)
    have htl : t.length ≤ 4000000 := by have := (textP_le hq).2.2; omega
    clear hq
    replace hk1 : Kept (· ≠ g) W0 _ := ((Kept.refl _ W0).drewN _).tr hk1
    have hz1 := hk1.size
    have hz0 := HZ0.out
    have HB1 := Lib.hid (HB0.out.kept hk1 (by omega))
    obtain ⟨g0, g1, g2, g3, g4, g5, g6⟩ := HB1.out.facts
    obtain ⟨f0, f1, f2, f3, f4⟩ := HB1.out.free
    go_wp2
    refine bodyPost_ret (v := .tuple #[jotV 4 0 t (.slice none 0 0) (.slice none 0 0), .bool true]) (by simp [results, Tryz.results59, go_sem, g0, g1, g2, g3, g4]) rfl ?_
    have hkb := fun (W : World) => kept_box W w.heap.size (.int .i64 4) (.int .i64 0) (S t) (.slice none 0 0) (.slice none 0 0)
    rw [HN.out]
    exact ⟨⟨_, rfl, jin_leaf _ 4 0 t _ (by decide) (by decide) (by decide) (by decide) htl⟩, hp1.kept (hkb _) (by omega), hb, (hk0.tr hk1).trans (hkb _) fun b hb _ => by omega⟩

set_option maxHeartbeats 4000000 in
set_option maxRecDepth 100000 in
theorem refvalue_list (g : Nat) (s : List UInt8) (i d : Nat) (w : World) (hp : RA g s i 0 d w) (_hi : i ≤ s.length) (_hl : s.length ≤ 1000000) {α : Type} (f : α → J) (hc : s[i]? = some 91) (L : PR α) (hL : ∀ W, RA g s i 0 d W → Calls Tryz.prog 79 #[.pointer (some ⟨g, 0, none⟩)] W (RefB g s d W L f)) :
    Calls Tryz.prog 59 #[.pointer (some ⟨g, 0, none⟩)] w (RRd g s d w (L.bind fun x i => .ok (f x) i) (RVal w) RNo) := by
  obtain ⟨h0, h1, h2, h3, h4, h5, h6⟩ := hp.facts
  have hgl := hp.lt
  have hsz := size_mk s
  obtain ⟨hil, hci⟩ := List.getElem?_eq_some_iff.1 hc
  have hix := run_index_str (P := Tryz.prog) Tryz.underlying9 ⟨s.toArray⟩ i i rfl (by rw [hsz]; exact hil) 91 hci
  have hN : (((91 : UInt8).toNat : Nat) : Int) = 91 := rfl
  rw [hN] at hix
  clear hc hci hsz hN
  obtain ⟨W0, hW0⟩ : ∃ W0, w.alloc (.cells #[.int .i64 0, .int .i64 0, S [], .slice none 0 0, .slice none 0 0] 25) = W0 := ⟨_, rfl⟩
  have hk0 : Kept (· ≠ g) w W0 := by rw [← hW0]; exact (Kept.refl _ w).alloc _
  have hz0 : W0.heap.size = w.heap.size + 1 := by rw [← hW0]; simp
  have hbox0 : OutAt w.heap.size 0 0 [] (.slice none 0 0) (.slice none 0 0) W0 := by rw [← hW0]; exact OutAt.new w 0 0 [] (.slice none 0 0) (.slice none 0 0)
  have hp0 : RA g s i 0 d W0 := hp.kept (ok := fun _ => True) (by rw [← hW0]; exact (Kept.refl _ w).alloc _) trivial
  have HP0 := Lib.hid hp0
  have HW0 := Lib.hid hW0
  have HZ0 := Lib.hid hz0
  have HB0 := Lib.hid hbox0
  clear hp hp0 hW0 hz0 hbox0
  have C := Lib.hid hL
  clear hL
  go_enter Tryz.func59, Tryz.ntmps59
  go_wp2
  go_quiet (fail)
  go_wp2
  go_quiet (fail)
  go_wp2_with fail
  rw [show (({ data := #[] } : ByteArray)) = ⟨([] : List UInt8).toArray⟩ from rfl, HW0.out]
  refine (C.out _ (HP0.out.drewN _)).mono ?_
  clear C
  cases L with
  | bad e k =>
    rintro x w1 ⟨⟨k', n', t', na, nl, nc, ia, il, ic, rfl⟩, ⟨d', hp1⟩, hb, hk1⟩
    replace hk1 : Kept (· ≠ g) W0 _ := ((Kept.refl _ W0).drewN _).tr hk1
    have hz1 := hk1.size
    have hz0 := HZ0.out
    have HB1 := Lib.hid (HB0.out.kept hk1 (by omega))
    obtain ⟨g0, g1, g2, g3, g4, g5, g6⟩ := HB1.out.facts
    obtain ⟨f0, f1, f2, f3, f4⟩ := HB1.out.free
    go_wp2
    refine bodyPost_ret (v := .tuple #[jotV k' n' t' (.slice na nl nc) (.slice ia il ic), .bool false]) (by simp [results, Tryz.results59, go_sem, g0, g1, g2, g3, g4]) rfl ?_
    have hkb := fun (W : World) => kept_box W w.heap.size (.int .i64 k') (.int .i64 n') (S t') (.slice na nl nc) (.slice ia il ic)
    exact ⟨⟨_, _, _, _, _, _, _, _, _, rfl⟩, ⟨d', hp1.kept (hkb _) (by omega)⟩, hb, (hk0.tr hk1).trans (hkb _) fun b hb _ => by omega⟩
  | ok xs k =>
    rintro x w1 ⟨⟨v, rfl, hv⟩, hp1, hb, hk1⟩
    obtain ⟨X, hX⟩ : ∃ X, f xs = X := ⟨_, rfl⟩
    have HX := Lib.hid hX
    rw [hX] at hv
    clear hX
    obtain ⟨na, nl, nc, ia, il, ic, rfl⟩ := hv.form
    have HJ : Hid (JIn (fun b => W0.heap.size ≤ b) w1 X _) := Lib.hid hv
    clear hv
    replace hk1 : Kept (· ≠ g) W0 _ := ((Kept.refl _ W0).drewN _).tr hk1
    have hz1 := hk1.size
    have hz0 := HZ0.out
    have HB1 := Lib.hid (HB0.out.kept hk1 (by omega))
    obtain ⟨g0, g1, g2, g3, g4, g5, g6⟩ := HB1.out.facts
    obtain ⟨f0, f1, f2, f3, f4⟩ := HB1.out.free
    go_wp2
    refine bodyPost_ret (v := .tuple #[jotV X.kind X.num X.text (.slice na nl nc) (.slice ia il ic), .bool true]) (by simp [results, Tryz.results59, go_sem, g0, g1, g2, g3, g4]) rfl ?_
    have hkb := fun (W : World) => kept_box W w.heap.size (.int .i64 X.kind) (.int .i64 X.num) (S X.text) (.slice na nl nc) (.slice ia il ic)
    have hjj := (HJ.out.kept (hkb w1) fun b _ h => by omega).mono (ok2 := fun b => w.heap.size ≤ b) fun b _ h => by omega
    exact ⟨⟨_, rfl, by rw [HX.out]; exact hjj⟩, hp1.kept (hkb _) (by omega), hb, (hk0.tr hk1).trans (hkb _) fun b hb _ => by omega⟩

set_option maxHeartbeats 4000000 in
set_option maxRecDepth 100000 in
theorem refvalue_object (g : Nat) (s : List UInt8) (i d : Nat) (w : World) (hp : RA g s i 0 d w) (_hi : i ≤ s.length) (_hl : s.length ≤ 1000000) {α : Type} (f : α → J) (hc : s[i]? = some 123) (L : PR α) (hL : ∀ W, RA g s i 0 d W → Calls Tryz.prog 80 #[.pointer (some ⟨g, 0, none⟩)] W (RefB g s d W L f)) :
    Calls Tryz.prog 59 #[.pointer (some ⟨g, 0, none⟩)] w (RRd g s d w (L.bind fun x i => .ok (f x) i) (RVal w) RNo) := by
  obtain ⟨h0, h1, h2, h3, h4, h5, h6⟩ := hp.facts
  have hgl := hp.lt
  have hsz := size_mk s
  obtain ⟨hil, hci⟩ := List.getElem?_eq_some_iff.1 hc
  have hix := run_index_str (P := Tryz.prog) Tryz.underlying9 ⟨s.toArray⟩ i i rfl (by rw [hsz]; exact hil) 123 hci
  have hN : (((123 : UInt8).toNat : Nat) : Int) = 123 := rfl
  rw [hN] at hix
  clear hc hci hsz hN
  obtain ⟨W0, hW0⟩ : ∃ W0, w.alloc (.cells #[.int .i64 0, .int .i64 0, S [], .slice none 0 0, .slice none 0 0] 25) = W0 := ⟨_, rfl⟩
  have hk0 : Kept (· ≠ g) w W0 := by rw [← hW0]; exact (Kept.refl _ w).alloc _
  have hz0 : W0.heap.size = w.heap.size + 1 := by rw [← hW0]; simp
  have hbox0 : OutAt w.heap.size 0 0 [] (.slice none 0 0) (.slice none 0 0) W0 := by rw [← hW0]; exact OutAt.new w 0 0 [] (.slice none 0 0) (.slice none 0 0)
  have hp0 : RA g s i 0 d W0 := hp.kept (ok := fun _ => True) (by rw [← hW0]; exact (Kept.refl _ w).alloc _) trivial
  have HP0 := Lib.hid hp0
  have HW0 := Lib.hid hW0
  have HZ0 := Lib.hid hz0
  have HB0 := Lib.hid hbox0
  clear hp hp0 hW0 hz0 hbox0
  have C := Lib.hid hL
  clear hL
  go_enter Tryz.func59, Tryz.ntmps59
  go_wp2
  go_quiet (fail)
  go_wp2
  go_quiet (fail)
  go_wp2_with fail
  rw [show (({ data := #[] } : ByteArray)) = ⟨([] : List UInt8).toArray⟩ from rfl, HW0.out]
  refine (C.out _ (HP0.out.drewN _)).mono ?_
  clear C
  cases L with
  | bad e k =>
    rintro x w1 ⟨⟨k', n', t', na, nl, nc, ia, il, ic, rfl⟩, ⟨d', hp1⟩, hb, hk1⟩
    replace hk1 : Kept (· ≠ g) W0 _ := ((Kept.refl _ W0).drewN _).tr hk1
    have hz1 := hk1.size
    have hz0 := HZ0.out
    have HB1 := Lib.hid (HB0.out.kept hk1 (by omega))
    obtain ⟨g0, g1, g2, g3, g4, g5, g6⟩ := HB1.out.facts
    obtain ⟨f0, f1, f2, f3, f4⟩ := HB1.out.free
    go_wp2
    refine bodyPost_ret (v := .tuple #[jotV k' n' t' (.slice na nl nc) (.slice ia il ic), .bool false]) (by simp [results, Tryz.results59, go_sem, g0, g1, g2, g3, g4]) rfl ?_
    have hkb := fun (W : World) => kept_box W w.heap.size (.int .i64 k') (.int .i64 n') (S t') (.slice na nl nc) (.slice ia il ic)
    exact ⟨⟨_, _, _, _, _, _, _, _, _, rfl⟩, ⟨d', hp1.kept (hkb _) (by omega)⟩, hb, (hk0.tr hk1).trans (hkb _) fun b hb _ => by omega⟩
  | ok xs k =>
    rintro x w1 ⟨⟨v, rfl, hv⟩, hp1, hb, hk1⟩
    obtain ⟨X, hX⟩ : ∃ X, f xs = X := ⟨_, rfl⟩
    have HX := Lib.hid hX
    rw [hX] at hv
    clear hX
    obtain ⟨na, nl, nc, ia, il, ic, rfl⟩ := hv.form
    have HJ : Hid (JIn (fun b => W0.heap.size ≤ b) w1 X _) := Lib.hid hv
    clear hv
    replace hk1 : Kept (· ≠ g) W0 _ := ((Kept.refl _ W0).drewN _).tr hk1
    have hz1 := hk1.size
    have hz0 := HZ0.out
    have HB1 := Lib.hid (HB0.out.kept hk1 (by omega))
    obtain ⟨g0, g1, g2, g3, g4, g5, g6⟩ := HB1.out.facts
    obtain ⟨f0, f1, f2, f3, f4⟩ := HB1.out.free
    go_wp2
    refine bodyPost_ret (v := .tuple #[jotV X.kind X.num X.text (.slice na nl nc) (.slice ia il ic), .bool true]) (by simp [results, Tryz.results59, go_sem, g0, g1, g2, g3, g4]) rfl ?_
    have hkb := fun (W : World) => kept_box W w.heap.size (.int .i64 X.kind) (.int .i64 X.num) (S X.text) (.slice na nl nc) (.slice ia il ic)
    have hjj := (HJ.out.kept (hkb w1) fun b _ h => by omega).mono (ok2 := fun b => w.heap.size ≤ b) fun b _ h => by omega
    exact ⟨⟨_, rfl, by rw [HX.out]; exact hjj⟩, hp1.kept (hkb _) (by omega), hb, (hk0.tr hk1).trans (hkb _) fun b hb _ => by omega⟩
end Go.Proofs.YtmajpambfblhnaaGreatDoor

namespace Go.Proofs.YtmajpambfblhnaaGreatDoor
open Go.RowKit Jo

set_option maxHeartbeats 4000000 in
set_option maxRecDepth 100000 in
theorem refvalue_num (g : Nat) (s : List UInt8) (i d : Nat) (w : World) (hp : RA g s i 0 d w) (hi : i ≤ s.length) (hl : s.length ≤ 1000000) (R : PR J) (hR : ((numP s i).bind fun n i => .ok (J.nr n) i) = R) (c : UInt8) (hc : s[i]? = some c) (n110 : c ≠ 110) (n102 : c ≠ 102) (n116 : c ≠ 116) (n34 : c ≠ 34) (n91 : c ≠ 91) (n123 : c ≠ 123) (M D1 D2 : Bool) (q45 : ((c.toNat : Int) == 45) = M) (hd1 : decide ((48 : Int) ≤ (c.toNat : Int)) = D1) (hd2 : decide ((c.toNat : Int) ≤ 57) = D2) (hM : (M || (D1 && D2)) = true) :
    Calls Tryz.prog 59 #[.pointer (some ⟨g, 0, none⟩)] w (RRd g s d w R (RVal w) RNo) := by
  obtain ⟨h0, h1, h2, h3, h4, h5, h6⟩ := hp.facts
  have hgl := hp.lt
  have hsz := size_mk s
  have HR := Lib.hid hR
  clear hR
  obtain ⟨hil, hci⟩ := List.getElem?_eq_some_iff.1 hc
  have hix := run_index_str (P := Tryz.prog) Tryz.underlying9 ⟨s.toArray⟩ i i rfl (by rw [hsz]; exact hil) c hci
  have q110 : ((c.toNat : Int) == 110) = false := by rw [byte_is c 110 110 rfl]; exact decide_eq_false n110
  have q102 : ((c.toNat : Int) == 102) = false := by rw [byte_is c 102 102 rfl]; exact decide_eq_false n102
  have q116 : ((c.toNat : Int) == 116) = false := by rw [byte_is c 116 116 rfl]; exact decide_eq_false n116
  have q34 : ((c.toNat : Int) == 34) = false := by rw [byte_is c 34 34 rfl]; exact decide_eq_false n34
  have q91 : ((c.toNat : Int) == 91) = false := by rw [byte_is c 91 91 rfl]; exact decide_eq_false n91
  have q123 : ((c.toNat : Int) == 123) = false := by rw [byte_is c 123 123 rfl]; exact decide_eq_false n123
  clear hc hci hsz n110 n102 n116 n34 n91 n123
  have HB := Lib.hid (numP_take s i)

  obtain ⟨W0, hW0⟩ : ∃ W0, w.alloc (.cells #[.int .i64 0, .int .i64 0, S [], .slice none 0 0, .slice none 0 0] 25) = W0 := ⟨_, rfl⟩
  have hk0 : Kept (· ≠ g) w W0 := by rw [← hW0]; exact (Kept.refl _ w).alloc _
  have hz0 : W0.heap.size = w.heap.size + 1 := by rw [← hW0]; simp
  have hbox0 : OutAt w.heap.size 0 0 [] (.slice none 0 0) (.slice none 0 0) W0 := by rw [← hW0]; exact OutAt.new w 0 0 [] (.slice none 0 0) (.slice none 0 0)
  have hp0 : RA g s i 0 d W0 := hp.kept (ok := fun _ => True) (by rw [← hW0]; exact (Kept.refl _ w).alloc _) trivial
  have HP0 := Lib.hid hp0
  have HW0 := Lib.hid hW0
  have HZ0 := Lib.hid hz0
  have HB0 := Lib.hid hbox0
  clear hp hp0 hW0 hz0 hbox0
  have C := Lib.hid (fun (W : World) (h : RA g s i 0 d W) => refnumber_any g s i d W h hl hi)
  have hcs : (M = true) ∨ (M = false ∧ D1 = true ∧ D2 = true) := by
    cases M <;> cases D1 <;> cases D2 <;> simp at hM ⊢
  clear hM
  rcases hcs with rfl | ⟨rfl, rfl, rfl⟩
  · go_enter Tryz.func59, Tryz.ntmps59
    go_wp2
    go_quiet (fail)
    go_wp2
    go_quiet (fail)
    go_wp2_with fail
    rw [show (({ data := #[] } : ByteArray)) = ⟨([] : List UInt8).toArray⟩ from rfl, HW0.out]
    refine (C.out _ (HP0.out.drewN _)).mono ?_
    clear C
    cases hq : numP s i with
    | bad e k =>
      rintro x w1 ⟨rfl, ⟨d', hp1⟩, hb, hk1⟩
      have HN : Hid (R = .bad e k) := Lib.hid (by rw [← HR.out, hq]; rfl)
      clear hq HB
      replace hk1 : Kept (· ≠ g) W0 _ := ((Kept.refl _ W0).drewN _).tr hk1
      have hz1 := hk1.size
      have hz0 := HZ0.out
      have HB1 := Lib.hid (HB0.out.kept hk1 (by omega))
      obtain ⟨g0, g1, g2, g3, g4, g5, g6⟩ := HB1.out.facts
      obtain ⟨f0, f1, f2, f3, f4⟩ := HB1.out.free
      go_wp2
      refine bodyPost_ret (v := .tuple #[jotV 3 0 [] (.slice none 0 0) (.slice none 0 0), .bool false]) (by simp [results, Tryz.results59, go_sem, g0, g1, g2, g3, g4]) rfl ?_
      have hkb := fun (W : World) => kept_box W w.heap.size (.int .i64 3) (.int .i64 0) (S []) (.slice none 0 0) (.slice none 0 0)
      rw [HN.out]
      exact ⟨⟨_, _, _, _, _, _, _, _, _, rfl⟩, ⟨d', hp1.kept (hkb _) (by omega)⟩, hb, (hk0.tr hk1).trans (hkb _) fun b hb _ => by omega⟩
    | ok n k =>
      rintro x w1 ⟨rfl, hp1, hb, hk1⟩
      have HN : Hid (R = .ok (J.nr n) k) := Lib.hid (by rw [← HR.out, hq]; rfl)
      have hn := HB.out
      rw [hq] at hn
      obtain ⟨_, _, hn1, hn2, _⟩ := hn
      clear hq HB
      replace hk1 : Kept (· ≠ g) W0 _ := ((Kept.refl _ W0).drewN _).tr hk1
      have hz1 := hk1.size
      have hz0 := HZ0.out
      have HB1 := Lib.hid (HB0.out.kept hk1 (by omega))
      obtain ⟨g0, g1, g2, g3, g4, g5, g6⟩ := HB1.out.facts
      obtain ⟨f0, f1, f2, f3, f4⟩ := HB1.out.free
      go_wp2
      refine bodyPost_ret (v := .tuple #[jotV 3 n [] (.slice none 0 0) (.slice none 0 0), .bool true]) (by simp [results, Tryz.results59, go_sem, g0, g1, g2, g3, g4]) rfl ?_
      have hkb := fun (W : World) => kept_box W w.heap.size (.int .i64 3) (.int .i64 n) (S []) (.slice none 0 0) (.slice none 0 0)
      rw [HN.out]
      exact ⟨⟨_, rfl, jin_leaf _ 3 n [] _ (by decide) (by decide) hn1 hn2 (by decide)⟩, hp1.kept (hkb _) (by omega), hb, (hk0.tr hk1).trans (hkb _) fun b hb _ => by omega⟩
  · go_enter Tryz.func59, Tryz.ntmps59
    go_wp2
    go_quiet (fail)
    go_wp2
    go_quiet (fail)
    go_wp2_with fail
    rw [show (({ data := #[] } : ByteArray)) = ⟨([] : List UInt8).toArray⟩ from rfl, HW0.out]
    refine (C.out _ (HP0.out.drewN _)).mono ?_
    clear C
    cases hq : numP s i with
    | bad e k =>
      rintro x w1 ⟨rfl, ⟨d', hp1⟩, hb, hk1⟩
      have HN : Hid (R = .bad e k) := Lib.hid (by rw [← HR.out, hq]; rfl)
      clear hq HB
      replace hk1 : Kept (· ≠ g) W0 _ := ((Kept.refl _ W0).drewN _).tr hk1
      have hz1 := hk1.size
      have hz0 := HZ0.out
      have HB1 := Lib.hid (HB0.out.kept hk1 (by omega))
      obtain ⟨g0, g1, g2, g3, g4, g5, g6⟩ := HB1.out.facts
      obtain ⟨f0, f1, f2, f3, f4⟩ := HB1.out.free
      go_wp2
      refine bodyPost_ret (v := .tuple #[jotV 3 0 [] (.slice none 0 0) (.slice none 0 0), .bool false]) (by simp [results, Tryz.results59, go_sem, g0, g1, g2, g3, g4]) rfl ?_
      have hkb := fun (W : World) => kept_box W w.heap.size (.int .i64 3) (.int .i64 0) (S []) (.slice none 0 0) (.slice none 0 0)
      rw [HN.out]
      exact ⟨⟨_, _, _, _, _, _, _, _, _, rfl⟩, ⟨d', hp1.kept (hkb _) (by omega)⟩, hb, (hk0.tr hk1).trans (hkb _) fun b hb _ => by omega⟩
    | ok n k =>
      rintro x w1 ⟨rfl, hp1, hb, hk1⟩
      have HN : Hid (R = .ok (J.nr n) k) := Lib.hid (by rw [← HR.out, hq]; rfl)
      have hn := HB.out
      rw [hq] at hn
      obtain ⟨_, _, hn1, hn2, _⟩ := hn
      clear hq HB
      replace hk1 : Kept (· ≠ g) W0 _ := ((Kept.refl _ W0).drewN _).tr hk1
      have hz1 := hk1.size
      have hz0 := HZ0.out
      have HB1 := Lib.hid (HB0.out.kept hk1 (by omega))
      obtain ⟨g0, g1, g2, g3, g4, g5, g6⟩ := HB1.out.facts
      obtain ⟨f0, f1, f2, f3, f4⟩ := HB1.out.free
      go_wp2
      refine bodyPost_ret (v := .tuple #[jotV 3 n [] (.slice none 0 0) (.slice none 0 0), .bool true]) (by simp [results, Tryz.results59, go_sem, g0, g1, g2, g3, g4]) rfl ?_
      have hkb := fun (W : World) => kept_box W w.heap.size (.int .i64 3) (.int .i64 n) (S []) (.slice none 0 0) (.slice none 0 0)
      rw [HN.out]
      exact ⟨⟨_, rfl, jin_leaf _ 3 n [] _ (by decide) (by decide) hn1 hn2 (by decide)⟩, hp1.kept (hkb _) (by omega), hb, (hk0.tr hk1).trans (hkb _) fun b hb _ => by omega⟩

set_option maxHeartbeats 4000000 in
set_option maxRecDepth 100000 in
theorem refvalue_none (g : Nat) (s : List UInt8) (i d : Nat) (w : World) (hp : RA g s i 0 d w) (hi : i ≤ s.length) (_hl : s.length ≤ 1000000) (hc : s[i]? = none) :
    Calls Tryz.prog 59 #[.pointer (some ⟨g, 0, none⟩)] w (RRd g s d w (.bad 40 i : PR J) (RVal w) RNo) := by
  obtain ⟨h0, h1, h2, h3, h4, h5, h6⟩ := hp.facts
  have hgl := hp.lt
  have hsz := size_mk s
  obtain rfl : i = s.length := by rw [List.getElem?_eq_none_iff] at hc; omega
  have hd : decide (s.length < s.length) = false := by simp
  clear hc
  obtain ⟨W0, hW0⟩ : ∃ W0, w.alloc (.cells #[.int .i64 0, .int .i64 0, S [], .slice none 0 0, .slice none 0 0] 25) = W0 := ⟨_, rfl⟩
  have hk0 : Kept (· ≠ g) w W0 := by rw [← hW0]; exact (Kept.refl _ w).alloc _
  have hz0 : W0.heap.size = w.heap.size + 1 := by rw [← hW0]; simp
  have hbox0 : OutAt w.heap.size 0 0 [] (.slice none 0 0) (.slice none 0 0) W0 := by rw [← hW0]; exact OutAt.new w 0 0 [] (.slice none 0 0) (.slice none 0 0)
  have hp0 : RA g s s.length 0 d W0 := hp.kept (ok := fun _ => True) (by rw [← hW0]; exact (Kept.refl _ w).alloc _) trivial
  have HP0 := Lib.hid hp0
  have HW0 := Lib.hid hW0
  have HZ0 := Lib.hid hz0
  have HB0 := Lib.hid hbox0
  clear hp hp0 hW0 hz0 hbox0
  have CW := Lib.hid (fun (W : World) (h : RA g s s.length 0 d W) => refwrong_any g s s.length d 0 40 W h)
  go_enter Tryz.func59, Tryz.ntmps59
  go_wp2
  go_quiet (fail)
  go_wp2_with fail
  rw [show (({ data := #[] } : ByteArray)) = ⟨([] : List UInt8).toArray⟩ from rfl, HW0.out]
  refine (CW.out _ (HP0.out.drewN _)).mono ?_
  rintro x w1 ⟨rfl, hp1, hk1⟩
  replace hk1 : Kept (· ≠ g) W0 _ := ((Kept.refl _ W0).drewN _).tr hk1
  have hz1 := hk1.size
  have hz0 := HZ0.out
  have HB1 := Lib.hid (HB0.out.kept hk1 (by omega))
  obtain ⟨g0, g1, g2, g3, g4, g5, g6⟩ := HB1.out.facts
  obtain ⟨f0, f1, f2, f3, f4⟩ := HB1.out.free
  go_wp2
  refine bodyPost_ret (v := .tuple #[jotV 0 0 [] (.slice none 0 0) (.slice none 0 0), .bool false]) (by simp [results, Tryz.results59, go_sem, g0, g1, g2, g3, g4]) rfl ?_
  have hkb := fun (W : World) => kept_box W w.heap.size (.int .i64 0) (.int .i64 0) (S []) (.slice none 0 0) (.slice none 0 0)
  exact ⟨⟨_, _, _, _, _, _, _, _, _, rfl⟩, ⟨d, hp1.kept (hkb _) (by omega)⟩, hi, (hk0.tr hk1).trans (hkb _) fun b hb _ => by omega⟩

set_option maxHeartbeats 4000000 in
set_option maxRecDepth 100000 in
theorem refvalue_other (g : Nat) (s : List UInt8) (i d : Nat) (w : World) (hp : RA g s i 0 d w) (hi : i ≤ s.length) (_hl : s.length ≤ 1000000) (c : UInt8) (hc : s[i]? = some c) (n110 : c ≠ 110) (n102 : c ≠ 102) (n116 : c ≠ 116) (n34 : c ≠ 34) (n91 : c ≠ 91) (n123 : c ≠ 123) (n45 : c ≠ 45) (D1 D2 : Bool) (hd1 : decide ((48 : Int) ≤ (c.toNat : Int)) = D1) (hd2 : decide ((c.toNat : Int) ≤ 57) = D2) (hM : (D1 && D2) = false) :
    Calls Tryz.prog 59 #[.pointer (some ⟨g, 0, none⟩)] w (RRd g s d w (.bad 40 i : PR J) (RVal w) RNo) := by
  obtain ⟨h0, h1, h2, h3, h4, h5, h6⟩ := hp.facts
  have hgl := hp.lt
  have hsz := size_mk s
  obtain ⟨hil, hci⟩ := List.getElem?_eq_some_iff.1 hc
  have hix := run_index_str (P := Tryz.prog) Tryz.underlying9 ⟨s.toArray⟩ i i rfl (by rw [hsz]; exact hil) c hci
  have q110 : ((c.toNat : Int) == 110) = false := by rw [byte_is c 110 110 rfl]; exact decide_eq_false n110
  have q102 : ((c.toNat : Int) == 102) = false := by rw [byte_is c 102 102 rfl]; exact decide_eq_false n102
  have q116 : ((c.toNat : Int) == 116) = false := by rw [byte_is c 116 116 rfl]; exact decide_eq_false n116
  have q34 : ((c.toNat : Int) == 34) = false := by rw [byte_is c 34 34 rfl]; exact decide_eq_false n34
  have q91 : ((c.toNat : Int) == 91) = false := by rw [byte_is c 91 91 rfl]; exact decide_eq_false n91
  have q123 : ((c.toNat : Int) == 123) = false := by rw [byte_is c 123 123 rfl]; exact decide_eq_false n123
  have q45 : ((c.toNat : Int) == 45) = false := by rw [byte_is c 45 45 rfl]; exact decide_eq_false n45
  clear hc hci hsz n110 n102 n116 n34 n91 n123 n45
  have hcs : (D1 = false) ∨ (D1 = true ∧ D2 = false) := by
    cases D1 <;> cases D2 <;> simp at hM ⊢
  clear hM
  obtain ⟨W0, hW0⟩ : ∃ W0, w.alloc (.cells #[.int .i64 0, .int .i64 0, S [], .slice none 0 0, .slice none 0 0] 25) = W0 := ⟨_, rfl⟩
  have hk0 : Kept (· ≠ g) w W0 := by rw [← hW0]; exact (Kept.refl _ w).alloc _
  have hz0 : W0.heap.size = w.heap.size + 1 := by rw [← hW0]; simp
  have hbox0 : OutAt w.heap.size 0 0 [] (.slice none 0 0) (.slice none 0 0) W0 := by rw [← hW0]; exact OutAt.new w 0 0 [] (.slice none 0 0) (.slice none 0 0)
  have hp0 : RA g s i 0 d W0 := hp.kept (ok := fun _ => True) (by rw [← hW0]; exact (Kept.refl _ w).alloc _) trivial
  have HP0 := Lib.hid hp0
  have HW0 := Lib.hid hW0
  have HZ0 := Lib.hid hz0
  have HB0 := Lib.hid hbox0
  clear hp hp0 hW0 hz0 hbox0
  have CW := Lib.hid (fun (W : World) (h : RA g s i 0 d W) => refwrong_any g s i d 0 40 W h)
  rcases hcs with rfl | ⟨rfl, rfl⟩
  · go_enter Tryz.func59, Tryz.ntmps59
    go_wp2
    go_quiet (fail)
    go_wp2
    go_quiet (fail)
    go_wp2_with fail
    rw [show (({ data := #[] } : ByteArray)) = ⟨([] : List UInt8).toArray⟩ from rfl, HW0.out]
    refine (CW.out _ (HP0.out.drewN _)).mono ?_
    rintro x w1 ⟨rfl, hp1, hk1⟩
    replace hk1 : Kept (· ≠ g) W0 _ := ((Kept.refl _ W0).drewN _).tr hk1
    have hz1 := hk1.size
    have hz0 := HZ0.out
    have HB1 := Lib.hid (HB0.out.kept hk1 (by omega))
    obtain ⟨g0, g1, g2, g3, g4, g5, g6⟩ := HB1.out.facts
    obtain ⟨f0, f1, f2, f3, f4⟩ := HB1.out.free
    go_wp2
    refine bodyPost_ret (v := .tuple #[jotV 0 0 [] (.slice none 0 0) (.slice none 0 0), .bool false]) (by simp [results, Tryz.results59, go_sem, g0, g1, g2, g3, g4]) rfl ?_
    have hkb := fun (W : World) => kept_box W w.heap.size (.int .i64 0) (.int .i64 0) (S []) (.slice none 0 0) (.slice none 0 0)
    exact ⟨⟨_, _, _, _, _, _, _, _, _, rfl⟩, ⟨d, hp1.kept (hkb _) (by omega)⟩, hi, (hk0.tr hk1).trans (hkb _) fun b hb _ => by omega⟩
  · go_enter Tryz.func59, Tryz.ntmps59
    go_wp2
    go_quiet (fail)
    go_wp2
    go_quiet (fail)
    go_wp2_with fail
    rw [show (({ data := #[] } : ByteArray)) = ⟨([] : List UInt8).toArray⟩ from rfl, HW0.out]
    refine (CW.out _ (HP0.out.drewN _)).mono ?_
    rintro x w1 ⟨rfl, hp1, hk1⟩
    replace hk1 : Kept (· ≠ g) W0 _ := ((Kept.refl _ W0).drewN _).tr hk1
    have hz1 := hk1.size
    have hz0 := HZ0.out
    have HB1 := Lib.hid (HB0.out.kept hk1 (by omega))
    obtain ⟨g0, g1, g2, g3, g4, g5, g6⟩ := HB1.out.facts
    obtain ⟨f0, f1, f2, f3, f4⟩ := HB1.out.free
    go_wp2
    refine bodyPost_ret (v := .tuple #[jotV 0 0 [] (.slice none 0 0) (.slice none 0 0), .bool false]) (by simp [results, Tryz.results59, go_sem, g0, g1, g2, g3, g4]) rfl ?_
    have hkb := fun (W : World) => kept_box W w.heap.size (.int .i64 0) (.int .i64 0) (S []) (.slice none 0 0) (.slice none 0 0)
    exact ⟨⟨_, _, _, _, _, _, _, _, _, rfl⟩, ⟨d, hp1.kept (hkb _) (by omega)⟩, hi, (hk0.tr hk1).trans (hkb _) fun b hb _ => by omega⟩
end Go.Proofs.YtmajpambfblhnaaGreatDoor
