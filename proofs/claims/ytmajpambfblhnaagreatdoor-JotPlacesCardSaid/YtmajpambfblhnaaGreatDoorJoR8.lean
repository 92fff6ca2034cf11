/- Walks of the reference's reader (layer 4): a member of an object; an object's first member. -/
import Derived.Test.YtmajpambfblhnaaGreatDoorJoR7
import Derived.Test.YtmajpambfblhnaaGreatDoorJoPlainC
import Derived.Deep.RegionWith
namespace Go.Proofs.YtmajpambfblhnaaGreatDoor
open Go.RowKit Jo

/-- A cut of an owned row's front, and of what stands behind it, can be read. -/
theorem rd_cut {B n cap size : Nat} {e : TypeId} {b : Nat} {xs : List Value} {w : World} (h : w.ownsRow B e size (.slice (some ⟨b, 0, none⟩) n cap) n xs) (hl : xs.length = n * size) (i : Nat) (hi : i ≤ n) (c : Nat) (_hs : 0 < size) :
    Rd w (.slice (some ⟨b, 0, none⟩) i c) i (xs.take (i * size)) := by
  have hle : i * size ≤ n * size := Nat.mul_le_mul_right _ hi
  rcases Nat.eq_zero_or_pos i with rfl | hpos
  · exact .inl ⟨_, _, rfl, rfl, by simp⟩
  · refine .inr ⟨b, 0, c, rfl, hpos, fun j u hu => ?_⟩
    have hj : j < i * size := by have := (List.getElem?_eq_some_iff.1 hu).1; rw [List.length_take] at this; omega
    rw [List.getElem?_take_of_lt hj] at hu
    have := h.cells (g := b) rfl j u hu
    rwa [show (⟨b, 0, none⟩ : Addr).add j = ⟨b, 0 + j, none⟩ from by unfold Addr.add; split <;> simp_all] at this
theorem rd_rest {B n cap size : Nat} {e : TypeId} {b : Nat} {xs : List Value} {w : World} (h : w.ownsRow B e size (.slice (some ⟨b, 0, none⟩) n cap) n xs) (hl : xs.length = n * size) (i : Nat) (hi : i ≤ n) (a : Option Addr) (m c : Nat) (hm : m = n - i) (ha : i < n → a = some ⟨b, i * size, none⟩) (_hs : 0 < size) :
    Rd w (.slice a m c) (n - i) (xs.drop (i * size)) := by
  subst hm
  rcases Nat.eq_or_lt_of_le hi with rfl | hlt
  · exact .inl ⟨a, c, by rw [Nat.sub_self], Nat.sub_self _, by rw [List.drop_eq_nil_iff]; omega⟩
  · obtain rfl := ha hlt
    refine .inr ⟨b, i * size, c, rfl, by omega, fun j u hu => ?_⟩
    rw [List.getElem?_drop] at hu
    have := h.cells (g := b) rfl _ u hu
    rwa [show (⟨b, 0, none⟩ : Addr).add (i * size + j) = ⟨b, i * size + j, none⟩ from by unfold Addr.add; split <;> simp_all] at this

/-- A row of names and a row of items that are being made, in blocks of their own. -/
structure Two (M : Nat) (nv iv : Value) (nn : Nat) (nl : List Value) (ni : Nat) (il : List Value) (w : World) : Prop where
  names : w.ownsRow M 9 1 nv nn nl
  items : w.ownsRow M 25 5 iv ni il
  ne : ∀ b, nv.ownBlock = some b → iv.ownBlock ≠ some b
theorem Two.nil (M : Nat) (w : World) : Two M (.slice none 0 0) (.slice none 0 0) 0 [] 0 [] w := ⟨World.ownsRow_nil _ _ _ _, World.ownsRow_nil _ _ _ _, fun b hb => by cases hb⟩
theorem Two.kept {M : Nat} {nv iv : Value} {nn ni : Nat} {nl il : List Value} {w w' : World} {ok : Nat → Prop} (h : Two M nv iv nn nl ni il w) (hk : Kept ok w w') (ho : ∀ b, M ≤ b → ok b) : Two M nv iv nn nl ni il w' :=
  ⟨ownsRow_kept h.names hk fun b hb => ho b (h.names.lt b hb).1, ownsRow_kept h.items hk fun b hb => ho b (h.items.lt b hb).1, h.ne⟩
theorem Two.pushN {M : Nat} {nv nv' iv : Value} {nn ni nn' : Nat} {nl il nl' : List Value} {w w' : World} (h : Two M nv iv nn nl ni il w) (hm : Moved nv nv' w w') (o : w'.ownsRow M 9 1 nv' nn' nl') : Two M nv' iv nn' nl' ni il w' := by
  refine ⟨o, ownsRow_keptL h.items hm.kept.1 fun b hb => hm.kept.2 b (h.items.lt b hb).2 fun e => h.ne b e.symm hb, fun b hb e => ?_⟩
  rcases hm with ⟨e2, _⟩ | ⟨e2, _⟩
  · exact h.ne b (e2 ▸ hb) e
  · have := e2 b hb; have := (h.items.lt b e).2; omega
theorem Two.pushI {M : Nat} {nv iv iv' : Value} {nn ni ni' : Nat} {nl il il' : List Value} {w w' : World} (h : Two M nv iv nn nl ni il w) (hm : Moved iv iv' w w') (o : w'.ownsRow M 25 5 iv' ni' il') : Two M nv iv' nn nl ni' il' w' := by
  refine ⟨ownsRow_keptL h.names hm.kept.1 fun b hb => hm.kept.2 b (h.names.lt b hb).2 fun e => h.ne b hb e.symm, o, fun b hb e => ?_⟩
  rcases hm with ⟨e2, _⟩ | ⟨e2, _⟩
  · exact h.ne b hb (e2 ▸ e)
  · have := e2 b e; have := (h.names.lt b hb).2; omega
theorem jotCells_app (a c : List Value) : jotCells (a ++ c) = jotCells a ++ jotCells c := by simp [jotCells]
theorem jotCells_cut (us : List Value) (h : ∀ u ∈ us, u.cells.size = 5) (A : Nat) (hA : A ≤ us.length) : (jotCells us).take (A * 5) = jotCells (us.take A) ∧ (jotCells us).drop (A * 5) = jotCells (us.drop A) := by
  have e : jotCells us = jotCells (us.take A) ++ jotCells (us.drop A) := by rw [← jotCells_app, List.take_append_drop]
  have hl : (jotCells (us.take A)).length = A * 5 := by
    rw [jotCells_len _ (fun u hu => h u (List.mem_of_mem_take hu)), List.length_take]
    congr 1; omega
  rw [e]
  exact ⟨by rw [List.take_left' hl], by rw [List.drop_left' hl]⟩
theorem jin_ins {ok : Nat → Prop} {w : World} {xs : List J} {us : List Value} {x : J} {u : Value} (A : Nat) (h1 : us.length = xs.length) (h : ∀ (j : Nat) y, xs[j]? = some y → JIn ok w y (us.getD j .nilIface)) (hx : JIn ok w x u) (hA : A ≤ xs.length) :
    ∀ (j : Nat) y, (xs.take A ++ x :: xs.drop A)[j]? = some y → JIn ok w y ((us.take A ++ u :: us.drop A).getD j .nilIface) := by
  intro j y hy
  have l1 : (xs.take A).length = A := by rw [List.length_take]; omega
  have l2 : (us.take A).length = A := by rw [List.length_take]; omega
  rcases Nat.lt_trichotomy j A with hj | hj | hj
  · rw [List.getElem?_append_left (by omega), List.getElem?_take_of_lt hj] at hy
    have := h j y hy
    rwa [List.getD_eq_getElem?_getD, List.getElem?_append_left (by omega), List.getElem?_take_of_lt hj, ← List.getD_eq_getElem?_getD]
  · subst hj
    rw [List.getElem?_append_right (by omega), l1, Nat.sub_self] at hy
    rw [List.getD_eq_getElem?_getD, List.getElem?_append_right (by omega), l2, Nat.sub_self]
    obtain rfl : x = y := by simpa using hy
    exact hx
  · obtain ⟨q, rfl⟩ : ∃ q, j = A + 1 + q := ⟨j - A - 1, by omega⟩
    have e : A + 1 + q - A = q + 1 := by omega
    rw [List.getElem?_append_right (by omega), l1, e, List.getElem?_cons_succ, List.getElem?_drop] at hy
    rw [List.getD_eq_getElem?_getD, List.getElem?_append_right (by omega), l2, e, List.getElem?_cons_succ, List.getElem?_drop, ← List.getD_eq_getElem?_getD]
    exact h _ y hy
/-- What 'member' leaves: the members, the new one among them, in rows of their own. -/
def MemQ (N0 : Nat) (ms : List (List UInt8 × J)) (m : List UInt8 × J) (e : Ending) (w' : World) : Prop :=
  ∃ na nl nc ia il ic, e = .returned (.tuple #[jotV 6 0 [] (.slice na nl nc) (.slice ia il ic), .bool true]) ∧ w'.ownsRow N0 9 1 (.slice na nl nc) ((insM m ms).map (·.1)).length (((insM m ms).map (·.1)).map S) ∧ OwnR N0 (.slice ia il ic) ((insM m ms).map (·.2)) w'

end Go.Proofs.YtmajpambfblhnaaGreatDoor

namespace Go.Proofs.YtmajpambfblhnaaGreatDoor
open Go.RowKit Jo

set_option maxHeartbeats 8000000 in
set_option maxRecDepth 100000 in
theorem refmember_nil (g : Nat) (s : List UInt8) (d k : Nat) (hv : RefV g s d k) (N0 i : Nat) (w : World) (hp : RA g s i 0 d w) (hi : i ≤ s.length) (hl : s.length ≤ 1000000) (_hN : g < N0) (hN0 : N0 ≤ w.heap.size) :
    Calls Tryz.prog 102 #[.pointer (some ⟨g, 0, none⟩), jotV 6 0 [] (.slice none 0 0) (.slice none 0 0)] w
      (RRd g s d w (memR s k [] i) (MemQ N0 []) fun e => e = .returned (.tuple #[jotV 6 0 [] (.slice none 0 0) (.slice none 0 0), .bool false])) := by
  have HV := Lib.hid hv
  clear hv
  obtain ⟨R, hR⟩ : ∃ R, memR s k [] i = R := ⟨_, rfl⟩
  have HR := Lib.hid hR
  rw [hR]
  clear hR
  obtain ⟨W0, hW0⟩ : ∃ W0, (w.alloc (.cells #[.int .i64 6, .int .i64 0, S [], .slice none 0 0, .slice none 0 0] 25)).alloc (.cells #[.int .i64 0, .int .i64 0, S [], .slice none 0 0, .slice none 0 0] 25) = W0 := ⟨_, rfl⟩
  have hgl := hp.lt
  have hk0 : Kept (fun _ => True) w W0 := by rw [← hW0]; exact ((Kept.refl _ w).alloc _).alloc _
  have hz0 : W0.heap.size = w.heap.size + 2 := by rw [← hW0]; simp
  have hbox0 : OutAt w.heap.size 6 0 [] (.slice none 0 0) (.slice none 0 0) W0 := by rw [← hW0]; exact (OutAt.new w 6 0 [] _ _).kept (ok := fun _ => True) ((Kept.refl _ _).alloc _) trivial
  have hout0 : OutAt (w.heap.size + 1) 0 0 [] (.slice none 0 0) (.slice none 0 0) W0 := by
    rw [← hW0]
    have := OutAt.new (w.alloc (.cells #[.int .i64 6, .int .i64 0, S [], .slice none 0 0, .slice none 0 0] 25)) 0 0 [] (.slice none 0 0) (.slice none 0 0)
    simpa using this
  have hp0 : RA g s i 0 d W0 := hp.kept hk0 trivial
  have T := Lib.hid (reftext_any g s i d W0 hp0 hl hi)
  have HW0 := Lib.hid hW0
  have HZ0 := Lib.hid hz0
  have HV0 := Lib.hid hbox0
  have HB0 := Lib.hid hout0
  have HK0 := Lib.hid (hk0.mono (ok2 := (· ≠ g)) fun _ _ _ => trivial)
  clear hp hp0 hW0 hz0 hbox0 hout0 hk0
  go_enter Tryz.func102, Tryz.ntmps102
  go_wp2_with fail
  rw [show (({ data := #[] } : ByteArray)) = ⟨([] : List UInt8).toArray⟩ from rfl, HW0.out]
  refine T.out.mono ?_
  have hz0 := HZ0.out
  cases ht : textP s [] i with
  | bad x j =>
    have HN : Hid (R = .bad x j) := Lib.hid (by rw [← HR.out, memR, ht]; rfl)
    rintro e w1 ⟨rfl, ⟨d', hp1⟩, hj, hk1⟩
    have HV1 := Lib.hid (HV0.out.kept hk1 (by omega))
    have HB1 := Lib.hid (HB0.out.kept hk1 (by omega))
    have HK1 := Lib.hid (HK0.out.tr hk1)
    obtain ⟨o0, o1, o2, o3, o4, o5, o6⟩ := HV1.out.facts
    obtain ⟨g0, g1, g2, g3, g4, g5, g6⟩ := HB1.out.facts
    obtain ⟨f0, f1, f2, f3, f4⟩ := HB1.out.free
    clear ht HR T HV0 HB0 HK0 hk1
    go_wp2
    refine bodyPost_ret (v := .tuple #[jotV 6 0 [] (.slice none 0 0) (.slice none 0 0), .bool false]) (by simp [results, Tryz.results102, go_sem, g0, g1, g2, g3, g4]) rfl ?_
    rw [HN.out]
    have hkb := fun (W : World) => kept_box W (w.heap.size + 1) (.int .i64 6) (.int .i64 0) (S []) (.slice none 0 0) (.slice none 0 0)
    exact ⟨rfl, ⟨d', hp1.kept (hkb _) (by omega)⟩, hj, HK1.out.trans (hkb _) fun b hb _ => by omega⟩
  | ok name j1 =>
    have HQ2 : Hid (R = (wantP s 58 (bl s j1)).bind fun _ j => (valP s k j).bind fun x j => .ok (name, x) j) := Lib.hid (by rw [← HR.out, memR, ht]; rfl)
    have hj0 := (textP_le ht).1
    rintro e w1 ⟨rfl, hp1, hj1, hk1⟩
    have HV1 := Lib.hid (HV0.out.kept hk1 (by omega))
    have HB1 := Lib.hid (HB0.out.kept hk1 (by omega))
    have HK1 := Lib.hid (HK0.out.tr hk1)
    have HP1 := Lib.hid hp1
    have hz1 := hk1.size
    clear ht HR T HV0 HB0 HK0 hk1 hp1
    obtain ⟨h0, h1, h2, h3, h4, h5, h6⟩ := HP1.out.facts
    obtain ⟨o0, o1, o2, o3, o4, o5, o6⟩ := HV1.out.facts
    go_wp2
    go_loopg [8] 0 (fun q a wr => ∃ m : Nat, a = .int .i64 0 ∧ wr = w1.drewN m)
    case atStart => exact ⟨0, rfl, rfl⟩
    case round =>
      obtain ⟨m, rfl, rfl⟩ := hrel
      have HKd : Hid (∀ n, Kept (· ≠ g) w1 (w1.drewN n)) := Lib.hid fun n => (Kept.refl _ w1).drewN n
      have B1 := Lib.hid (fun n => refblanks_any g s j1 d (w1.drewN n) (HP1.out.drewN n) hl hj1)
      have HBX := Lib.hid (And.intro HV1.out HB1.out)
      go_wp2_with fail
      refine (B1.out m).mono ?_
      rintro e w2 ⟨rfl, hp2, hb2, hk2⟩
      have hk12 : Kept (· ≠ g) w1 w2 := (HKd.out m).tr hk2
      have C2 := Lib.hid (reftakes_any g s (bl s j1) d 58 w2 hp2 hb2 hl)
      obtain ⟨j2, hj2⟩ : ∃ y, bl s j1 = y := ⟨_, rfl⟩
      rw [hj2] at HQ2 C2 hb2
      clear B1 HKd hk2 hp2 hj2 h0 h1 h2 h3 h4 h5 h6 o0 o1 o2 o3 o4 o5 o6
      go_wp2_with fail
      refine C2.out.mono ?_
      cases hq : wantP s 58 j2 with
      | bad x j' =>
        have HN : Hid (R = .bad x j') := Lib.hid (by rw [HQ2.out, hq]; rfl)
        rintro e w3 ⟨rfl, ⟨d', hp3⟩, hj', hk3⟩
        have hk13 : Kept (· ≠ g) w1 w3 := hk12.tr hk3
        have hz3 := hk13.size
        have HV3 := Lib.hid (HBX.out.1.kept hk13 (by omega))
        have HB3 := Lib.hid (HBX.out.2.kept hk13 (by omega))
        obtain ⟨p0, p1, p2, p3, p4, p5, p6⟩ := HV3.out.facts
        obtain ⟨g0, g1, g2, g3, g4, g5, g6⟩ := HB3.out.facts
        obtain ⟨f0, f1, f2, f3, f4⟩ := HB3.out.free
        clear hq HQ2 C2
        go_wp2
        refine bodyPost_ret (v := .tuple #[jotV 6 0 [] (.slice none 0 0) (.slice none 0 0), .bool false]) (by simp [results, Tryz.results102, go_sem, g0, g1, g2, g3, g4]) rfl ?_
        rw [HN.out]
        have hkb := fun (W : World) => kept_box W (w.heap.size + 1) (.int .i64 6) (.int .i64 0) (S []) (.slice none 0 0) (.slice none 0 0)
        exact ⟨rfl, ⟨d', hp3.kept (hkb _) (by omega)⟩, hj', (HK1.out.tr hk13).trans (hkb _) fun b hb _ => by omega⟩
      | ok u j3 =>
        have HQ3 : Hid (R = (valP s k j3).bind fun x j => .ok (name, x) j) := Lib.hid (by rw [HQ2.out, hq]; rfl)
        rintro e w3 ⟨rfl, hp3, hj3, hk3⟩
        have hk13 : Kept (· ≠ g) w1 w3 := hk12.tr hk3
        have B3 := Lib.hid (refblanks_any g s j3 d w3 hp3 hl hj3)
        clear hq HQ2 C2 hk3 hk12 hp3
        go_wp2_with fail
        refine B3.out.mono ?_
        rintro e w4 ⟨rfl, hp4, hb4, hk4⟩
        have hk14 : Kept (· ≠ g) w1 w4 := hk13.tr hk4
        have V := Lib.hid (HV.out (bl s j3) w4 hp4 hb4)
        rw [← valP_valA] at V
        clear B3 hk4 hk13 hp4
        go_wp2_with fail
        refine V.out.mono ?_
        cases hx : valP s k j3 with
        | bad x j' =>
          have HN : Hid (R = .bad x j') := Lib.hid (by rw [HQ3.out, hx]; rfl)
          rintro e w5 ⟨⟨xk, xn, xt, xna, xnl, xnc, xia, xil, xic, rfl⟩, ⟨d', hp5⟩, hj', hk5⟩
          obtain ⟨w6, hW6⟩ : ∃ w', w5.alloc (.cells #[.int .i64 xk, .int .i64 xn, S xt, .slice xna xnl xnc, .slice xia xil xic] 25) = w' := ⟨_, rfl⟩
          have hk16 : Kept (· ≠ g) w1 w6 := by rw [← hW6]; exact (hk14.tr hk5).alloc _
          have hp6 : RA g s j' x d' w6 := by rw [← hW6]; exact hp5.kept (ok := fun _ => True) ((Kept.refl _ _).alloc _) trivial
          have hz3 := hk16.size
          have HV3 := Lib.hid (HBX.out.1.kept hk16 (by omega))
          have HB3 := Lib.hid (HBX.out.2.kept hk16 (by omega))
          obtain ⟨p0, p1, p2, p3, p4, p5, p6⟩ := HV3.out.facts
          obtain ⟨g0, g1, g2, g3, g4, g5, g6⟩ := HB3.out.facts
          obtain ⟨f0, f1, f2, f3, f4⟩ := HB3.out.free
          clear hx HQ3 V hp5 hk5
          go_wp2
          refine bodyPost_ret (v := .tuple #[jotV 6 0 [] (.slice none 0 0) (.slice none 0 0), .bool false]) (by simp [results, Tryz.results102, go_sem, g0, g1, g2, g3, g4]) rfl ?_
          rw [HN.out]
          have hkb := fun (W : World) => kept_box W (w.heap.size + 1) (.int .i64 6) (.int .i64 0) (S []) (.slice none 0 0) (.slice none 0 0)
          exact ⟨rfl, ⟨d', hp6.kept (hkb _) (by omega)⟩, hj', (HK1.out.tr hk16).trans (hkb _) fun b hb _ => by omega⟩
        | ok x j5 =>
          have HN : Hid (R = .ok (name, x) j5) := Lib.hid (by rw [HQ3.out, hx]; rfl)
          rintro e w5 ⟨⟨u, rfl, hu⟩, hp5, hj5, hk5⟩
          obtain ⟨xna, xnl, xnc, xia, xil, xic, rfl⟩ := hu.form
          obtain ⟨w6, hW6⟩ : ∃ w', w5.alloc (.cells #[.int .i64 x.kind, .int .i64 x.num, S x.text, .slice xna xnl xnc, .slice xia xil xic] 25) = w' := ⟨_, rfl⟩
          have hk56 : Kept (fun _ => True) w5 w6 := by rw [← hW6]; exact (Kept.refl _ _).alloc _
          have hz56 : w6.heap.size = w5.heap.size + 1 := by rw [← hW6]; simp
          have hbx : OutAt w5.heap.size x.kind x.num x.text (.slice xna xnl xnc) (.slice xia xil xic) w6 := by rw [← hW6]; exact OutAt.new _ _ _ _ _ _
          have hk16 : Kept (· ≠ g) w1 w6 := (hk14.tr hk5).trans hk56 fun _ _ _ => trivial
          have hkw6 := HK1.out.tr hk16
          have hz4 := hk14.size
          have hz6 := hk16.size
          have hz65 : w5.heap.size < w6.heap.size := by omega
          have HP6 := Lib.hid (hp5.kept hk56 trivial)
          have HX6 : Hid (JIn (fun b => N0 ≤ b ∧ b ≠ w.heap.size ∧ b ≠ w.heap.size + 1 ∧ b < w6.heap.size) w6 x (jotV x.kind x.num x.text (.slice xna xnl xnc) (.slice xia xil xic))) := Lib.hid (hu.kept' hk56.size (fun b hb _ => hk56.block b hb trivial) fun b hb h => ⟨by omega, by omega, by omega, by omega⟩)
          have HV6 := Lib.hid (HBX.out.1.kept hk16 (by omega))
          have HB6 := Lib.hid (HBX.out.2.kept hk16 (by omega))
          have HX5 := Lib.hid hbx
          have HKW := Lib.hid hkw6
          clear hz56 hx HQ3 V hp5 hk5 hu hk56 hbx hk16 hkw6 hk14 HBX HV1 HB1 HP1
          obtain ⟨o0, o1, o2, o3, o4, o5, o6⟩ := HV6.out.facts
          obtain ⟨x0, x1, x2, x3, x4, x5, x6⟩ := HX5.out.facts
          go_wp2_with (at_builtin; refine wpList_pushOne' 22 9 Tryz.underlying22 infoStr rfl (by decide) rfl _ _ rfl w6.heap.size (.slice none 0 0) 0 [] [S name] w6 _ rfl rfl rfl (by intro u hu; simp at hu; subst hu; rfl) 1 _ rfl rfl rfl (World.ownsRow_nil _ _ _ _) (by omega) (by decide) (Nat.le_refl _) ?_)
          intro n2 w9 k1 k2 k3
          have HT9 : Hid (Two w6.heap.size n2 (.slice none 0 0) 1 [S name] 0 [] w9) := Lib.hid ((Two.nil w6.heap.size w6).pushN k3 (by simpa using k1))
          have HBE9 := Lib.hid k2
          have HV9 := Lib.hid (HV6.out.below k2 (by omega))
          have HX9 := Lib.hid (HX5.out.below k2 (by omega))
          have hz9 := k2.size
          clear k1 k2 k3 o0 o1 o2 o3 o4 o5 o6 x0 x1 x2 x3 x4 x5 x6
          obtain ⟨o0, o1, o2, o3, o4, o5, o6⟩ := HV9.out.facts
          obtain ⟨x0, x1, x2, x3, x4, x5, x6⟩ := HX9.out.facts
          obtain ⟨nb, ncap, rfl, hn1⟩ : ∃ nb ncap, n2 = .slice (some ⟨nb, 0, none⟩) 1 ncap ∧ 1 ≤ ncap := by
            rcases ownsRow_view HT9.out.names with ⟨_, h⟩ | ⟨b', cap, h, h1, _⟩
            · cases h
            · exact ⟨b', cap, h, h1⟩
          go_wp2_with (at_builtin; refine wpList_pushOne' 23 25 Tryz.underlying23 infoJot rfl (by decide) rfl _ _ rfl w6.heap.size (.slice none 0 0) 0 [] (jotV x.kind x.num x.text (.slice xna xnl xnc) (.slice xia xil xic)).cells.toList w9 _ rfl rfl rfl HX6.out.ones 1 _ rfl rfl rfl (World.ownsRow_nil _ _ _ _) (by omega) (by decide) (by omega) ?_)
          intro i2 w10 k1 k2 k3
          have HT10 : Hid (Two w6.heap.size (.slice (some ⟨nb, 0, none⟩) 1 ncap) i2 1 [S name] 1 (jotCells [jotV x.kind x.num x.text (.slice xna xnl xnc) (.slice xia xil xic)]) w10) := Lib.hid (HT9.out.pushI k3 (by simpa [jotCells, Value.cells] using k1))
          have HK10 : Hid (Kept (fun b => b ≠ w.heap.size ∧ b < w6.heap.size) w6 w10) := Lib.hid ((Kept.of_below' (HBE9.out.trans k2)).mono fun b _ h => h.2)
          have HV10 := Lib.hid (HV9.out.below k2 (by omega))
          have hz10 := k2.size
          clear k1 k2 k3 o0 o1 o2 o3 o4 o5 o6 x0 x1 x2 x3 x4 x5 x6 HT9 HBE9 HV9 HX9
          obtain ⟨o0, o1, o2, o3, o4, o5, o6⟩ := HV10.out.facts
          obtain ⟨ib, icap, rfl, hi1⟩ : ∃ nb ncap, i2 = .slice (some ⟨nb, 0, none⟩) 1 ncap ∧ 1 ≤ ncap := by
            rcases ownsRow_view HT10.out.items with ⟨_, h⟩ | ⟨b', cap, h, h1, _⟩
            · cases h
            · exact ⟨b', cap, h, h1⟩
          have HB10 := Lib.hid (HB6.out.kept HK10.out (by omega))
          obtain ⟨g0, g1, g2, g3, g4, g5, g6⟩ := HB10.out.facts
          obtain ⟨f0, f1, f2, f3, f4⟩ := HB10.out.free
          go_wp2
          refine bodyPost_ret (v := .tuple #[jotV 6 0 [] (.slice (some ⟨nb, 0, none⟩) 1 ncap) (.slice (some ⟨ib, 0, none⟩) 1 icap), .bool true]) (by simp [results, Tryz.results102, go_sem, g0, g1, g2, g3, g4]) rfl ?_
          rw [HN.out]
          have hkg : Kept (fun b => b ≠ w.heap.size ∧ b ≠ w.heap.size + 1) w10 (((w10.setCell ⟨w.heap.size, 3, none⟩ (.slice (some ⟨nb, 0, none⟩) 1 ncap)).setCell ⟨w.heap.size, 4, none⟩ (.slice (some ⟨ib, 0, none⟩) 1 icap))) := ((Kept.refl _ _).setCell (.inr (by simp)) _).setCell (.inr (by simp)) _
          replace hkg := hkg.trans (kept_box _ (w.heap.size + 1) (.int .i64 6) (.int .i64 0) (S []) (.slice (some ⟨nb, 0, none⟩) 1 ncap) (.slice (some ⟨ib, 0, none⟩) 1 icap)) fun b _ h => h.2
          have hkf := (HK10.out.mono (ok2 := fun b => b ≠ w.heap.size ∧ b ≠ w.heap.size + 1 ∧ b < w6.heap.size) fun b _ h => ⟨h.1, h.2.2⟩).trans hkg fun b _ h => ⟨h.1, h.2.1⟩
          have hT := HT10.out.kept hkg fun b hb => by omega
          refine ⟨⟨_, _, _, _, _, _, rfl, ownsRow_base hT.names (by omega), [_], rfl, ownsRow_base hT.items (by omega), fun q y hy => ?_⟩, HP6.out.kept hkf (by omega), hj5, HKW.out.trans hkf fun b hb h => by omega⟩
          have hq : q = 0 := by have := (List.getElem?_eq_some_iff.1 hy).1; simp [insM] at this; omega
          subst hq
          obtain rfl : x = y := by simpa [insM] using hy
          exact HX6.out.kept' hkf.size (fun b hb h => hkf.block b hb h.2) fun b hb h => ⟨h.1, fun e => by
            have := (hT.items.lt b e.symm).1
            omega⟩
end Go.Proofs.YtmajpambfblhnaaGreatDoor
