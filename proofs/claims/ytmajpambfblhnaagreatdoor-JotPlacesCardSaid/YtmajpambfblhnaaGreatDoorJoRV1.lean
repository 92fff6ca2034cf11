/- Walks of the reference's reader (layer 4), eleventh part: values of one word. Printed by gen_refvalue.py. -/
import Derived.Test.YtmajpambfblhnaaGreatDoorJoRO
namespace Go.Proofs.YtmajpambfblhnaaGreatDoor
open Go.RowKit Jo

set_option maxHeartbeats 1000000 in
set_option maxRecDepth 100000 in
theorem reflist_deep (g : Nat) (s : List UInt8) (i : Nat) (w : World) (hp : RA g s i 0 16 w) :
    Calls Tryz.prog 79 #[.pointer (some ⟨g, 0, none⟩)] w fun e w' => e = .returned (.tuple #[jotV 5 0 [] (.slice none 0 0) (.slice none 0 0), .bool false]) ∧ RA g s i 41 16 w' ∧ Kept (· ≠ g) w w' := by
  have hgl := hp.lt
  obtain ⟨W0, hW0⟩ : ∃ W0, (w.alloc (.cells #[.int .i64 0, .int .i64 0, S [], .slice none 0 0, .slice none 0 0] 25)).alloc (.cells #[.int .i64 5, .int .i64 0, S [], .slice none 0 0, .slice none 0 0] 25) = W0 := ⟨_, rfl⟩
  have hk0 : Kept (· ≠ g) w W0 := by rw [← hW0]; exact ((Kept.refl _ w).alloc _).alloc _
  have hz0 : W0.heap.size = w.heap.size + 2 := by rw [← hW0]; simp
  have hbox0 : OutAt w.heap.size 0 0 [] (.slice none 0 0) (.slice none 0 0) W0 := by rw [← hW0]; exact (OutAt.new w 0 0 [] (.slice none 0 0) (.slice none 0 0)).kept (ok := fun _ => True) ((Kept.refl _ _).alloc _) trivial
  have hout0 : OutAt (w.heap.size + 1) 5 0 [] (.slice none 0 0) (.slice none 0 0) W0 := by
    rw [← hW0]
    have := OutAt.new (w.alloc (.cells #[.int .i64 0, .int .i64 0, S [], .slice none 0 0, .slice none 0 0] 25)) 5 0 [] (.slice none 0 0) (.slice none 0 0)
    simpa using this
  have hp0 : RA g s i 0 16 W0 := hp.kept (ok := fun _ => True) (by rw [← hW0]; exact ((Kept.refl _ w).alloc _).alloc _) trivial
  have O := Lib.hid (refopens_deep g s i W0 hp0)
  have HW0 := Lib.hid hW0
  have HZ0 := Lib.hid hz0
  have HB0 := Lib.hid hbox0
  have HO0 := Lib.hid hout0
  clear hp hp0 hW0 hz0 hbox0 hout0
  go_enter Tryz.func79, Tryz.ntmps79
  go_wp2_with fail
  rw [show (({ data := #[] } : ByteArray)) = ⟨([] : List UInt8).toArray⟩ from rfl, HW0.out]
  refine O.out.mono ?_
  rintro e w1 ⟨rfl, hp1, hk1⟩
  have hz0 := HZ0.out
  have HB1 := Lib.hid (HB0.out.kept hk1 (by omega))
  have HO1 := Lib.hid (HO0.out.kept hk1 (by omega))
  obtain ⟨o0, o1, o2, o3, o4, o5, o6⟩ := HO1.out.facts
  obtain ⟨g0, g1, g2, g3, g4, g5, g6⟩ := HB1.out.facts
  obtain ⟨f0, f1, f2, f3, f4⟩ := HB1.out.free
  go_wp2
  refine bodyPost_ret (v := .tuple #[jotV 5 0 [] (.slice none 0 0) (.slice none 0 0), .bool false]) (by simp [results, Tryz.results79, go_sem, g0, g1, g2, g3, g4]) rfl ?_
  have hkb := fun (W : World) => kept_box W w.heap.size (.int .i64 5) (.int .i64 0) (S []) (.slice none 0 0) (.slice none 0 0)
  exact ⟨rfl, hp1.kept (hkb _) (by omega), (hk0.tr hk1).trans (hkb _) fun b hb _ => by omega⟩

set_option maxHeartbeats 1000000 in
set_option maxRecDepth 100000 in
theorem refobject_deep (g : Nat) (s : List UInt8) (i : Nat) (w : World) (hp : RA g s i 0 16 w) :
    Calls Tryz.prog 80 #[.pointer (some ⟨g, 0, none⟩)] w fun e w' => e = .returned (.tuple #[jotV 6 0 [] (.slice none 0 0) (.slice none 0 0), .bool false]) ∧ RA g s i 41 16 w' ∧ Kept (· ≠ g) w w' := by
  have hgl := hp.lt
  obtain ⟨W0, hW0⟩ : ∃ W0, (w.alloc (.cells #[.int .i64 0, .int .i64 0, S [], .slice none 0 0, .slice none 0 0] 25)).alloc (.cells #[.int .i64 6, .int .i64 0, S [], .slice none 0 0, .slice none 0 0] 25) = W0 := ⟨_, rfl⟩
  have hk0 : Kept (· ≠ g) w W0 := by rw [← hW0]; exact ((Kept.refl _ w).alloc _).alloc _
  have hz0 : W0.heap.size = w.heap.size + 2 := by rw [← hW0]; simp
  have hbox0 : OutAt w.heap.size 0 0 [] (.slice none 0 0) (.slice none 0 0) W0 := by rw [← hW0]; exact (OutAt.new w 0 0 [] (.slice none 0 0) (.slice none 0 0)).kept (ok := fun _ => True) ((Kept.refl _ _).alloc _) trivial
  have hout0 : OutAt (w.heap.size + 1) 6 0 [] (.slice none 0 0) (.slice none 0 0) W0 := by
    rw [← hW0]
    have := OutAt.new (w.alloc (.cells #[.int .i64 0, .int .i64 0, S [], .slice none 0 0, .slice none 0 0] 25)) 6 0 [] (.slice none 0 0) (.slice none 0 0)
    simpa using this
  have hp0 : RA g s i 0 16 W0 := hp.kept (ok := fun _ => True) (by rw [← hW0]; exact ((Kept.refl _ w).alloc _).alloc _) trivial
  have O := Lib.hid (refopens_deep g s i W0 hp0)
  have HW0 := Lib.hid hW0
  have HZ0 := Lib.hid hz0
  have HB0 := Lib.hid hbox0
  have HO0 := Lib.hid hout0
  clear hp hp0 hW0 hz0 hbox0 hout0
  go_enter Tryz.func80, Tryz.ntmps80
  go_wp2_with fail
  rw [show (({ data := #[] } : ByteArray)) = ⟨([] : List UInt8).toArray⟩ from rfl, HW0.out]
  refine O.out.mono ?_
  rintro e w1 ⟨rfl, hp1, hk1⟩
  have hz0 := HZ0.out
  have HB1 := Lib.hid (HB0.out.kept hk1 (by omega))
  have HO1 := Lib.hid (HO0.out.kept hk1 (by omega))
  obtain ⟨o0, o1, o2, o3, o4, o5, o6⟩ := HO1.out.facts
  obtain ⟨g0, g1, g2, g3, g4, g5, g6⟩ := HB1.out.facts
  obtain ⟨f0, f1, f2, f3, f4⟩ := HB1.out.free
  go_wp2
  refine bodyPost_ret (v := .tuple #[jotV 6 0 [] (.slice none 0 0) (.slice none 0 0), .bool false]) (by simp [results, Tryz.results80, go_sem, g0, g1, g2, g3, g4]) rfl ?_
  have hkb := fun (W : World) => kept_box W w.heap.size (.int .i64 6) (.int .i64 0) (S []) (.slice none 0 0) (.slice none 0 0)
  exact ⟨rfl, hp1.kept (hkb _) (by omega), (hk0.tr hk1).trans (hkb _) fun b hb _ => by omega⟩


theorem jin_leaf (B : Nat) (k n : Int) (t : List UInt8) (w : World) (h1 : 0 ≤ k) (h2 : k ≤ 6) (h3 : -9007199254740991 ≤ n) (h4 : n ≤ 9007199254740991) (h5 : t.length ≤ 4000000) : JIn (fun b => B ≤ b) w (.mk k n t [] []) (jotV k n t (.slice none 0 0) (.slice none 0 0)) :=
  (OwnR.nil B w).value k n t (ns := []) (World.ownsRow_nil _ _ _ _) ⟨by omega, by omega, by omega, by omega, by omega, by simp, by simp, by simp⟩
/-- What 'list' and 'object' leave, as 'value' hands it on. -/
def RefB {α : Type} (g : Nat) (s : List UInt8) (d : Nat) (w : World) (r : PR α) (f : α → J) (e : Ending) (w' : World) : Prop := RRd g s d w r (fun x e w' => RVal w (f x) e w') RNo e w'

set_option maxHeartbeats 4000000 in
set_option maxRecDepth 100000 in
theorem refvalue_n (g : Nat) (s : List UInt8) (i d : Nat) (w : World) (hp : RA g s i 0 d w) (hi : i ≤ s.length) (hl : s.length ≤ 1000000) (hc : s[i]? = some 110) (R : PR J) (hR : ((wordP s [110, 117, 108, 108] i).bind fun _ i => .ok J.null i) = R) :
    Calls Tryz.prog 59 #[.pointer (some ⟨g, 0, none⟩)] w (RRd g s d w R (RVal w) RNo) := by
  obtain ⟨h0, h1, h2, h3, h4, h5, h6⟩ := hp.facts
  have hgl := hp.lt
  have hsz := size_mk s
  have HR := Lib.hid hR
  clear hR
  obtain ⟨hil, hci⟩ := List.getElem?_eq_some_iff.1 hc
  have hix := run_index_str (P := Tryz.prog) Tryz.underlying9 ⟨s.toArray⟩ i i rfl (by rw [hsz]; exact hil) 110 hci
  have hN : (((110 : UInt8).toNat : Nat) : Int) = 110 := rfl
  rw [hN] at hix
  clear hc hci hsz hN
  obtain ⟨W0, hW0⟩ : ∃ W0, w.alloc (.cells #[.int .i64 0, .int .i64 0, S [], .slice none 0 0, .slice none 0 0] 25) = W0 := ⟨_, rfl⟩
  have hk0 : Kept (· ≠ g) w W0 := by rw [← hW0]; exact (Kept.refl _ w).alloc _
  have hz0 : W0.heap.size = w.heap.size + 1 := by rw [← hW0]; simp
  have hbox0 : OutAt w.heap.size 0 0 [] (.slice none 0 0) (.slice none 0 0) W0 := by rw [← hW0]; exact OutAt.new w 0 0 [] (.slice none 0 0) (.slice none 0 0)
  have hp0 : RA g s i 0 d W0 := hp.kept (ok := fun _ => True) (by rw [← hW0]; exact (Kept.refl _ w).alloc _) trivial
  have HP0 := Lib.hid hp0
  have HW0 := Lib.hid hW0
  have HZ0 := Lib.hid hz0
  have HB0 := Lib.hid hbox0
  clear hp hp0 hW0 hz0 hbox0
  have C := Lib.hid (fun (W : World) (h : RA g s i 0 d W) => refword_any g s [110, 117, 108, 108] i d W h hl (by simp) hi)
  go_enter Tryz.func59, Tryz.ntmps59
  go_wp2
  go_quiet (fail)
  go_wp2
  go_quiet (fail)
  go_wp2_with fail
  rw [show (({ data := #[] } : ByteArray)) = ⟨([] : List UInt8).toArray⟩ from rfl, HW0.out]
  refine (C.out _ (HP0.out.drewN _)).mono ?_
  clear C
  cases hq : (wordP s [110, 117, 108, 108] i) with
  | bad e k =>
    rintro x w1 ⟨rfl, ⟨d', hp1⟩, hb, hk1⟩
    have HN : Hid (R = .bad e k) := Lib.hid (by rw [← HR.out, hq]; rfl)
    clear hq
    replace hk1 : Kept (· ≠ g) W0 _ := ((Kept.refl _ W0).drewN _).tr hk1
    have hz1 := hk1.size
    have hz0 := HZ0.out
    have HB1 := Lib.hid (HB0.out.kept hk1 (by omega))
    obtain ⟨g0, g1, g2, g3, g4, g5, g6⟩ := HB1.out.facts
    obtain ⟨f0, f1, f2, f3, f4⟩ := HB1.out.free
    go_wp2
    refine bodyPost_ret (v := .tuple #[jotV 0 0 [] (.slice none 0 0) (.slice none 0 0), .bool false]) (by simp [results, Tryz.results59, go_sem, g0, g1, g2, g3, g4]) rfl ?_
    have hkb := fun (W : World) => kept_box W w.heap.size (.int .i64 0) (.int .i64 0) (S []) (.slice none 0 0) (.slice none 0 0)
    rw [HN.out]
    exact ⟨⟨_, _, _, _, _, _, _, _, _, rfl⟩, ⟨d', hp1.kept (hkb _) (by omega)⟩, hb, (hk0.tr hk1).trans (hkb _) fun b hb _ => by omega⟩
  | ok u k =>
    rintro x w1 ⟨rfl, hp1, hb, hk1⟩
    have HN : Hid (R = .ok J.null k) := Lib.hid (by rw [← HR.out, hq]; rfl)
    clear hq
    replace hk1 : Kept (· ≠ g) W0 _ := ((Kept.refl _ W0).drewN _).tr hk1
    have hz1 := hk1.size
    have hz0 := HZ0.out
    have HB1 := Lib.hid (HB0.out.kept hk1 (by omega))
    obtain ⟨g0, g1, g2, g3, g4, g5, g6⟩ := HB1.out.facts
    obtain ⟨f0, f1, f2, f3, f4⟩ := HB1.out.free
    go_wp2
    refine bodyPost_ret (v := .tuple #[jotV 0 0 [] (.slice none 0 0) (.slice none 0 0), .bool true]) (by simp [results, Tryz.results59, go_sem, g0, g1, g2, g3, g4]) rfl ?_
    have hkb := fun (W : World) => kept_box W w.heap.size (.int .i64 0) (.int .i64 0) (S []) (.slice none 0 0) (.slice none 0 0)
    rw [HN.out]
    exact ⟨⟨_, rfl, jin_leaf _ 0 0 [] _ (by decide) (by decide) (by decide) (by decide) (by decide)⟩, hp1.kept (hkb _) (by omega), hb, (hk0.tr hk1).trans (hkb _) fun b hb _ => by omega⟩

set_option maxHeartbeats 4000000 in
set_option maxRecDepth 100000 in
theorem refvalue_f (g : Nat) (s : List UInt8) (i d : Nat) (w : World) (hp : RA g s i 0 d w) (hi : i ≤ s.length) (hl : s.length ≤ 1000000) (hc : s[i]? = some 102) (R : PR J) (hR : ((wordP s [102, 97, 108, 115, 101] i).bind fun _ i => .ok J.fls i) = R) :
    Calls Tryz.prog 59 #[.pointer (some ⟨g, 0, none⟩)] w (RRd g s d w R (RVal w) RNo) := by
  obtain ⟨h0, h1, h2, h3, h4, h5, h6⟩ := hp.facts
  have hgl := hp.lt
  have hsz := size_mk s
  have HR := Lib.hid hR
  clear hR
  obtain ⟨hil, hci⟩ := List.getElem?_eq_some_iff.1 hc
  have hix := run_index_str (P := Tryz.prog) Tryz.underlying9 ⟨s.toArray⟩ i i rfl (by rw [hsz]; exact hil) 102 hci
  have hN : (((102 : UInt8).toNat : Nat) : Int) = 102 := rfl
  rw [hN] at hix
  clear hc hci hsz hN
  obtain ⟨W0, hW0⟩ : ∃ W0, w.alloc (.cells #[.int .i64 0, .int .i64 0, S [], .slice none 0 0, .slice none 0 0] 25) = W0 := ⟨_, rfl⟩
  have hk0 : Kept (· ≠ g) w W0 := by rw [← hW0]; exact (Kept.refl _ w).alloc _
  have hz0 : W0.heap.size = w.heap.size + 1 := by rw [← hW0]; simp
  have hbox0 : OutAt w.heap.size 0 0 [] (.slice none 0 0) (.slice none 0 0) W0 := by rw [← hW0]; exact OutAt.new w 0 0 [] (.slice none 0 0) (.slice none 0 0)
  have hp0 : RA g s i 0 d W0 := hp.kept (ok := fun _ => True) (by rw [← hW0]; exact (Kept.refl _ w).alloc _) trivial
  have HP0 := Lib.hid hp0
  have HW0 := Lib.hid hW0
  have HZ0 := Lib.hid hz0
  have HB0 := Lib.hid hbox0
  clear hp hp0 hW0 hz0 hbox0
  have C := Lib.hid (fun (W : World) (h : RA g s i 0 d W) => refword_any g s [102, 97, 108, 115, 101] i d W h hl (by simp) hi)
  go_enter Tryz.func59, Tryz.ntmps59
  go_wp2
  go_quiet (fail)
  go_wp2
  go_quiet (fail)
  go_wp2_with fail
  rw [show (({ data := #[] } : ByteArray)) = ⟨([] : List UInt8).toArray⟩ from rfl, HW0.out]
  refine (C.out _ (HP0.out.drewN _)).mono ?_
  clear C
  cases hq : (wordP s [102, 97, 108, 115, 101] i) with
  | bad e k =>
    rintro x w1 ⟨rfl, ⟨d', hp1⟩, hb, hk1⟩
    have HN : Hid (R = .bad e k) := Lib.hid (by rw [← HR.out, hq]; rfl)
    clear hq
    replace hk1 : Kept (· ≠ g) W0 _ := ((Kept.refl _ W0).drewN _).tr hk1
    have hz1 := hk1.size
    have hz0 := HZ0.out
    have HB1 := Lib.hid (HB0.out.kept hk1 (by omega))
    obtain ⟨g0, g1, g2, g3, g4, g5, g6⟩ := HB1.out.facts
    obtain ⟨f0, f1, f2, f3, f4⟩ := HB1.out.free
    go_wp2
    refine bodyPost_ret (v := .tuple #[jotV 1 0 [] (.slice none 0 0) (.slice none 0 0), .bool false]) (by simp [results, Tryz.results59, go_sem, g0, g1, g2, g3, g4]) rfl ?_
    have hkb := fun (W : World) => kept_box W w.heap.size (.int .i64 1) (.int .i64 0) (S []) (.slice none 0 0) (.slice none 0 0)
    rw [HN.out]
    exact ⟨⟨_, _, _, _, _, _, _, _, _, rfl⟩, ⟨d', hp1.kept (hkb _) (by omega)⟩, hb, (hk0.tr hk1).trans (hkb _) fun b hb _ => by omega⟩
  | ok u k =>
    rintro x w1 ⟨rfl, hp1, hb, hk1⟩
    have HN : Hid (R = .ok J.fls k) := Lib.hid (by rw [← HR.out, hq]; rfl)
    clear hq
    replace hk1 : Kept (· ≠ g) W0 _ := ((Kept.refl _ W0).drewN _).tr hk1
    have hz1 := hk1.size
    have hz0 := HZ0.out
    have HB1 := Lib.hid (HB0.out.kept hk1 (by omega))
    obtain ⟨g0, g1, g2, g3, g4, g5, g6⟩ := HB1.out.facts
    obtain ⟨f0, f1, f2, f3, f4⟩ := HB1.out.free
    go_wp2
    refine bodyPost_ret (v := .tuple #[jotV 1 0 [] (.slice none 0 0) (.slice none 0 0), .bool true]) (by simp [results, Tryz.results59, go_sem, g0, g1, g2, g3, g4]) rfl ?_
    have hkb := fun (W : World) => kept_box W w.heap.size (.int .i64 1) (.int .i64 0) (S []) (.slice none 0 0) (.slice none 0 0)
    rw [HN.out]
    exact ⟨⟨_, rfl, jin_leaf _ 1 0 [] _ (by decide) (by decide) (by decide) (by decide) (by decide)⟩, hp1.kept (hkb _) (by omega), hb, (hk0.tr hk1).trans (hkb _) fun b hb _ => by omega⟩

set_option maxHeartbeats 4000000 in
set_option maxRecDepth 100000 in
theorem refvalue_t (g : Nat) (s : List UInt8) (i d : Nat) (w : World) (hp : RA g s i 0 d w) (hi : i ≤ s.length) (hl : s.length ≤ 1000000) (hc : s[i]? = some 116) (R : PR J) (hR : ((wordP s [116, 114, 117, 101] i).bind fun _ i => .ok J.tru i) = R) :
    Calls Tryz.prog 59 #[.pointer (some ⟨g, 0, none⟩)] w (RRd g s d w R (RVal w) RNo) := by
  obtain ⟨h0, h1, h2, h3, h4, h5, h6⟩ := hp.facts
  have hgl := hp.lt
  have hsz := size_mk s
  have HR := Lib.hid hR
  clear hR
  obtain ⟨hil, hci⟩ := List.getElem?_eq_some_iff.1 hc
  have hix := run_index_str (P := Tryz.prog) Tryz.underlying9 ⟨s.toArray⟩ i i rfl (by rw [hsz]; exact hil) 116 hci
  have hN : (((116 : UInt8).toNat : Nat) : Int) = 116 := rfl
  rw [hN] at hix
  clear hc hci hsz hN
  obtain ⟨W0, hW0⟩ : ∃ W0, w.alloc (.cells #[.int .i64 0, .int .i64 0, S [], .slice none 0 0, .slice none 0 0] 25) = W0 := ⟨_, rfl⟩
  have hk0 : Kept (· ≠ g) w W0 := by rw [← hW0]; exact (Kept.refl _ w).alloc _
  have hz0 : W0.heap.size = w.heap.size + 1 := by rw [← hW0]; simp
  have hbox0 : OutAt w.heap.size 0 0 [] (.slice none 0 0) (.slice none 0 0) W0 := by rw [← hW0]; exact OutAt.new w 0 0 [] (.slice none 0 0) (.slice none 0 0)
  have hp0 : RA g s i 0 d W0 := hp.kept (ok := fun _ => True) (by rw [← hW0]; exact (Kept.refl _ w).alloc _) trivial
  have HP0 := Lib.hid hp0
  have HW0 := Lib.hid hW0
  have HZ0 := Lib.hid hz0
  have HB0 := Lib.hid hbox0
  clear hp hp0 hW0 hz0 hbox0
  have C := Lib.hid (fun (W : World) (h : RA g s i 0 d W) => refword_any g s [116, 114, 117, 101] i d W h hl (by simp) hi)
  go_enter Tryz.func59, Tryz.ntmps59
  go_wp2
  go_quiet (fail)
  go_wp2
  go_quiet (fail)
  go_wp2_with fail
  rw [show (({ data := #[] } : ByteArray)) = ⟨([] : List UInt8).toArray⟩ from rfl, HW0.out]
  refine (C.out _ (HP0.out.drewN _)).mono ?_
  clear C
  cases hq : (wordP s [116, 114, 117, 101] i) with
  | bad e k =>
    rintro x w1 ⟨rfl, ⟨d', hp1⟩, hb, hk1⟩
    have HN : Hid (R = .bad e k) := Lib.hid (by rw [← HR.out, hq]; rfl)
    clear hq
    replace hk1 : Kept (· ≠ g) W0 _ := ((Kept.refl _ W0).drewN _).tr hk1
    have hz1 := hk1.size
    have hz0 := HZ0.out
    have HB1 := Lib.hid (HB0.out.kept hk1 (by omega))
    obtain ⟨g0, g1, g2, g3, g4, g5, g6⟩ := HB1.out.facts
    obtain ⟨f0, f1, f2, f3, f4⟩ := HB1.out.free
    go_wp2
    refine bodyPost_ret (v := .tuple #[jotV 2 0 [] (.slice none 0 0) (.slice none 0 0), .bool false]) (by simp [results, Tryz.results59, go_sem, g0, g1, g2, g3, g4]) rfl ?_
    have hkb := fun (W : World) => kept_box W w.heap.size (.int .i64 2) (.int .i64 0) (S []) (.slice none 0 0) (.slice none 0 0)
    rw [HN.out]
    exact ⟨⟨_, _, _, _, _, _, _, _, _, rfl⟩, ⟨d', hp1.kept (hkb _) (by omega)⟩, hb, (hk0.tr hk1).trans (hkb _) fun b hb _ => by omega⟩
  | ok u k =>
    rintro x w1 ⟨rfl, hp1, hb, hk1⟩
    have HN : Hid (R = .ok J.tru k) := Lib.hid (by rw [← HR.out, hq]; rfl)
    clear hq
    replace hk1 : Kept (· ≠ g) W0 _ := ((Kept.refl _ W0).drewN _).tr hk1
    have hz1 := hk1.size
    have hz0 := HZ0.out
    have HB1 := Lib.hid (HB0.out.kept hk1 (by omega))
    obtain ⟨g0, g1, g2, g3, g4, g5, g6⟩ := HB1.out.facts
    obtain ⟨f0, f1, f2, f3, f4⟩ := HB1.out.free
    go_wp2
    refine bodyPost_ret (v := .tuple #[jotV 2 0 [] (.slice none 0 0) (.slice none 0 0), .bool true]) (by simp [results, Tryz.results59, go_sem, g0, g1, g2, g3, g4]) rfl ?_
    have hkb := fun (W : World) => kept_box W w.heap.size (.int .i64 2) (.int .i64 0) (S []) (.slice none 0 0) (.slice none 0 0)
    rw [HN.out]
    exact ⟨⟨_, rfl, jin_leaf _ 2 0 [] _ (by decide) (by decide) (by decide) (by decide) (by decide)⟩, hp1.kept (hkb _) (by omega), hb, (hk0.tr hk1).trans (hkb _) fun b hb _ => by omega⟩
end Go.Proofs.YtmajpambfblhnaaGreatDoor
