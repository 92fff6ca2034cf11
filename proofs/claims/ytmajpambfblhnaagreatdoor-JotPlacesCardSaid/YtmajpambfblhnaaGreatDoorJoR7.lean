/- Walks of the reference's reader (layer 4), seventh part: values that stand in a row of the reader's own; lists. -/
import Derived.Test.YtmajpambfblhnaaGreatDoorJoR4
import Derived.Test.YtmajpambfblhnaaGreatDoorJoR6
import Derived.Test.YtmajpambfblhnaaGreatDoorJoOA
namespace Go.Proofs.YtmajpambfblhnaaGreatDoor
open Go.RowKit Jo

theorem JIn.kept' {ok ok2 : Nat → Prop} {w w' : World} {x : J} {u : Value} (h : JIn ok w x u) (hz : w.heap.size ≤ w'.heap.size) (hk : ∀ b, b < w.heap.size → ok b → w'.heap[b]? = w.heap[b]?) (hi : ∀ b, b < w.heap.size → ok b → ok2 b) : JIn ok2 w' x u := by
  have hc : ∀ b o, b < w.heap.size → ok b → w'.cell? ⟨b, o, none⟩ = w.cell? ⟨b, o, none⟩ := fun b o hb ho => World.cell?_of_block (a := ⟨b, o, none⟩) (hk b hb ho)
  induction h with
  | mk k n t ns xs nv iv us hr hn hi2 _ ih =>
    refine .mk k n t ns xs nv iv us hr ?_ ?_ ih
    · rcases hn with h | ⟨b, off, cap, rfl, h1, h2, h3, h4⟩
      · exact .inl h
      · exact .inr ⟨b, off, cap, rfl, h1, hi b h3 h2, by omega, fun j l hj => (hc b _ h3 h2).trans (h4 j l hj)⟩
    · rcases hi2 with h | ⟨b, off, cap, rfl, h1, h2, h3, h4⟩
      · exact .inl h
      · refine .inr ⟨b, off, cap, rfl, h1, hi b h3 h2, by omega, fun j hj => ?_⟩
        obtain ⟨k, n, t, na, nl, nc, ia, il, ic, e, c0, c1, c2, c3, c4⟩ := h4 j hj
        exact ⟨k, n, t, na, nl, nc, ia, il, ic, e, (hc b _ h3 h2).trans c0, (hc b _ h3 h2).trans c1, (hc b _ h3 h2).trans c2, (hc b _ h3 h2).trans c3, (hc b _ h3 h2).trans c4⟩
theorem JIn.form {ok : Nat → Prop} {w : World} {x : J} {u : Value} (h : JIn ok w x u) : ∃ na nl nc ia il ic, u = jotV x.kind x.num x.text (.slice na nl nc) (.slice ia il ic) := by
  obtain ⟨na, nc, ia, ic, us, e, _⟩ := h.inv
  exact ⟨_, _, _, _, _, _, e⟩
theorem JIn.five {ok : Nat → Prop} {w : World} {x : J} {u : Value} (h : JIn ok w x u) : u.cells.size = 5 := by
  obtain ⟨_, _, _, _, _, _, rfl⟩ := h.form; rfl
theorem JIn.ones {ok : Nat → Prop} {w : World} {x : J} {u : Value} (h : JIn ok w x u) : ∀ v ∈ u.cells.toList, v.oneCell' = true := by
  obtain ⟨_, _, _, _, _, _, rfl⟩ := h.form
  intro v hv
  simp [Value.cells] at hv
  rcases hv with rfl | rfl | rfl | rfl | rfl <;> rfl

/-- The values xs stand in the slice value iv, a row of the call's own (in a block from B on); what they reach is no part of that row, and lies from B on. -/
def OwnR (B : Nat) (iv : Value) (xs : List J) (w : World) : Prop :=
  ∃ us : List Value, us.length = xs.length ∧ w.ownsRow B 25 5 iv xs.length (jotCells us) ∧ ∀ (j : Nat) x, xs[j]? = some x → JIn (fun b => B ≤ b ∧ some b ≠ iv.ownBlock) w x (us.getD j .nilIface)
theorem OwnR.nil (B : Nat) (w : World) : OwnR B (.slice none 0 0) [] w := ⟨[], rfl, World.ownsRow_nil _ _ _ _, fun j x h => by simp at h⟩
theorem OwnR.kept {B : Nat} {ok : Nat → Prop} {iv : Value} {xs : List J} {w w' : World} (h : OwnR B iv xs w) (hk : Kept ok w w') (ho : ∀ b, B ≤ b → ok b) : OwnR B iv xs w' := by
  obtain ⟨us, h1, h2, h3⟩ := h
  exact ⟨us, h1, ownsRow_kept h2 hk (fun b hb => ho b (h2.lt b hb).1), fun j x hx => (h3 j x hx).kept' hk.size (fun b hb hw => hk.block b hb (ho b hw.1)) fun b _ h => h⟩
theorem OwnR.slice {B : Nat} {iv : Value} {xs : List J} {w : World} (h : OwnR B iv xs w) : ∃ a l c, iv = .slice a l c := by
  obtain ⟨us, h1, h2, _⟩ := h
  exact ownsRow_slice h2
/-- One value more. -/
theorem ownR_push {B : Nat} {v v' : Value} {xs : List J} {us : List Value} {x : J} {u : Value} {w w' : World} (h1 : us.length = xs.length) (h3 : ∀ (j : Nat) x, xs[j]? = some x → JIn (fun b => B ≤ b ∧ some b ≠ v.ownBlock) w x (us.getD j .nilIface))
    (hx : JIn (fun b => B ≤ b ∧ some b ≠ v.ownBlock) w x u) (hr : w'.ownsRow B 25 5 v' (xs.length + 1) (jotCells us ++ u.cells.toList)) (hm : Moved v v' w w') : OwnR B v' (xs ++ [x]) w' := by
  have hkeep : ∀ (y : J) (t : Value), JIn (fun b => B ≤ b ∧ some b ≠ v.ownBlock) w y t → JIn (fun b => B ≤ b ∧ some b ≠ v'.ownBlock) w' y t := by
    intro y t hy
    rcases hm with ⟨e, hk⟩ | ⟨e, hk⟩
    · rw [e]
      exact hy.kept' hk.1 (fun b hb ho => hk.2 b hb ho.2) fun b _ h => h
    · exact hy.kept' hk.1 (fun b hb _ => hk.2 b hb (by simp)) fun b hb h => ⟨h.1, fun e2 => by have := e b e2.symm; omega⟩
  refine ⟨us ++ [u], by simp [h1], by rw [List.length_append, jotCells_snoc]; exact hr, fun j y hy => ?_⟩
  rw [List.getElem?_append] at hy
  by_cases hj : j < xs.length
  · rw [if_pos hj] at hy
    have e : (us ++ [u]).getD j .nilIface = us.getD j .nilIface := by
      rw [List.getD_eq_getElem?_getD, List.getD_eq_getElem?_getD, List.getElem?_append_left (by omega)]
    rw [e]
    exact hkeep _ _ (h3 j y hy)
  · rw [if_neg hj] at hy
    have hj0 : j - xs.length = 0 := by
      have := (List.getElem?_eq_some_iff.1 hy).1
      simp at this
      omega
    obtain rfl : j = xs.length := by omega
    have e : (us ++ [u]).getD xs.length .nilIface = u := by
      rw [List.getD_eq_getElem?_getD, List.getElem?_append_right (by omega), h1]
      simp
    rw [e]
    obtain rfl : x = y := by simpa using hy
    exact hkeep _ _ hx
theorem rowS_of {B : Nat} {v : Value} {ns : List (List UInt8)} {w : World} (h : w.ownsRow B 9 1 v ns.length (ns.map S)) : RowS (fun b => B ≤ b) w v ns := by
  rcases ownsRow_view h with ⟨rfl, h0⟩ | ⟨b, cap, rfl, h1, h2, h3, h4⟩
  · exact .inl ⟨_, _, rfl, List.eq_nil_of_length_eq_zero h0⟩
  · exact .inr ⟨b, 0, cap, rfl, h1, h2, h3, fun j l hj => by rw [Nat.zero_add]; exact h4 j _ (by rw [List.getElem?_map, hj]; rfl)⟩
theorem OwnR.rowJ {B : Nat} {v : Value} {xs : List J} {us : List Value} {w : World} (h1 : us.length = xs.length) (h2 : w.ownsRow B 25 5 v xs.length (jotCells us)) (h3 : ∀ (j : Nat) x, xs[j]? = some x → JIn (fun b => B ≤ b ∧ some b ≠ v.ownBlock) w x (us.getD j .nilIface)) :
    RowJ (fun b => B ≤ b) w v xs.length (fun j => us.getD j .nilIface) := by
  have hg : ∀ j, j < us.length → us[j]? = some (us.getD j .nilIface) := fun j hj => by rw [List.getD_eq_getElem?_getD, List.getElem?_eq_getElem hj]; rfl
  have h5 : ∀ u ∈ us, u.cells.size = 5 := by
    intro u hu
    obtain ⟨j, hj, rfl⟩ := List.getElem_of_mem hu
    have := (h3 j (xs[j]'(by omega)) (List.getElem?_eq_getElem _)).five
    rwa [List.getD_eq_getElem?_getD, List.getElem?_eq_getElem hj] at this
  rcases ownsRow_view h2 with ⟨rfl, h0⟩ | ⟨b, cap, rfl, k1, k2, k3, k4⟩
  · exact .inl ⟨_, _, rfl, h0⟩
  · refine .inr ⟨b, 0, cap, rfl, k1, k2, k3, fun j hj => ?_⟩
    obtain ⟨na, nl, nc, ia, il, ic, e⟩ := (h3 j _ (List.getElem?_eq_getElem hj)).form
    refine ⟨_, _, _, na, nl, nc, ia, il, ic, e, ?_⟩
    have hc := fun i hi => jotCells_at us h5 j _ (hg j (by omega)) i hi
    rw [e] at hc
    rw [Nat.zero_add]
    exact ⟨k4 _ _ (hc 0 (by omega)), k4 _ _ (hc 1 (by omega)), k4 _ _ (hc 2 (by omega)), k4 _ _ (hc 3 (by omega)), k4 _ _ (hc 4 (by omega))⟩
/-- The whole value, out of a row of names and a row of items. -/
theorem OwnR.value {B : Nat} {iv nv : Value} {xs : List J} {ns : List (List UInt8)} {w : World} (k n : Int) (t : List UInt8) (h : OwnR B iv xs w) (hn : w.ownsRow B 9 1 nv ns.length (ns.map S)) (hr : Rng k n t ns xs.length) : JIn (fun b => B ≤ b) w (.mk k n t ns xs) (jotV k n t nv iv) := by
  obtain ⟨us, h1, h2, h3⟩ := h
  exact .mk k n t ns xs nv iv (fun j => us.getD j .nilIface) hr (rowS_of hn) (OwnR.rowJ h1 h2 h3) fun j x hx => (h3 j x hx).mono fun b _ hb => hb.1

set_option maxHeartbeats 1000000 in
theorem refopens_deep (g : Nat) (s : List UInt8) (i : Nat) (w : World) (hp : RA g s i 0 16 w) :
    Calls Tryz.prog 101 #[.pointer (some ⟨g, 0, none⟩)] w fun e w' => e = .returned (.bool false) ∧ RA g s i 41 16 w' ∧ Kept (· ≠ g) w w' := by
  obtain ⟨h0, h1, h2, h3, h4, h5, h6⟩ := hp.facts
  have HP := Lib.hid hp
  clear hp
  have q : (((16 : Nat) : Int) == 16) = true := rfl
  go_enter Tryz.func101, Tryz.ntmps101
  go_wp2_with fail
  refine (refwrong_any g s i 16 0 41 _ HP.out).mono ?_
  rintro x w' ⟨rfl, hp', hk⟩
  go_wp2
  go_ret
  exact ⟨rfl, hp', hk⟩
set_option maxHeartbeats 1000000 in
theorem refopens_any (g : Nat) (s : List UInt8) (i d : Nat) (w : World) (hp : RA g s i 0 d w) (hd : d < 16) (hi : i < s.length) (hl : s.length ≤ 1000000) :
    Calls Tryz.prog 101 #[.pointer (some ⟨g, 0, none⟩)] w fun e w' => e = .returned (.bool true) ∧ RA g s (bl s (i + 1)) 0 (d + 1) w' ∧ bl s (i + 1) ≤ s.length ∧ Kept (· ≠ g) w w' := by
  obtain ⟨h0, h1, h2, h3, h4, h5, h6⟩ := hp.facts
  have HP := Lib.hid ((hp.setDeep (d + 1) (.int .i64 ((d : Int) + 1)) rfl).setAt (i + 1) (.int .i64 ((i : Int) + 1)) rfl)
  clear hp
  have q : ((d : Int) == 16) = false := by rw [beq_eq_false_iff_ne]; omega
  go_enter Tryz.func101, Tryz.ntmps101
  go_wp2_with fail
  refine (refblanks_any g s (i + 1) (d + 1) _ HP.out hl hi).mono ?_
  rintro x w' ⟨rfl, hp', hb, hk⟩
  go_wp2
  go_ret
  exact ⟨rfl, hp', hb, (((Kept.refl _ w).setCell (.inr (by simp)) _).setCell (.inr (by simp)) _).tr hk⟩

theorem Kept.of_below' {B : Nat} {w w' : World} (h : Below B w w') : Kept (· < B) w w' := ⟨h.os, h.tape, h.output, h.size, fun k _ ho => h.block k ho⟩
/-- What 'value' of the reference's reader leaves. -/
def RVal (w : World) (x : J) (e : Ending) (w' : World) : Prop := ∃ v, e = .returned (.tuple #[v, .bool true]) ∧ JIn (fun b => w.heap.size ≤ b) w' x v
def RNo (e : Ending) : Prop := ∃ k n t na nl nc ia il ic, e = .returned (.tuple #[jotV k n t (.slice na nl nc) (.slice ia il ic), .bool false])
/-- The contract of 'value', where k lists and objects more may be opened. -/
def RefV (g : Nat) (s : List UInt8) (d k : Nat) : Prop := ∀ (i : Nat) (w : World), RA g s i 0 d w → i ≤ s.length →
  Calls Tryz.prog 59 #[.pointer (some ⟨g, 0, none⟩)] w (RRd g s d w (valA s k i) (RVal w) RNo)

set_option maxHeartbeats 8000000 in
set_option maxRecDepth 100000 in
theorem reflist_any (g : Nat) (s : List UInt8) (i d k : Nat) (hv : RefV g s (d + 1) k) (w : World) (hp : RA g s i 0 d w) (hd : d < 16) (hi : i < s.length) (hl : s.length ≤ 1000000) :
    Calls Tryz.prog 79 #[.pointer (some ⟨g, 0, none⟩)] w (RRd g s d w (listP s (valP s k) i) (fun xs e w' => RVal w (J.list xs) e w') RNo) := by
  obtain ⟨R, hR⟩ : ∃ R, listP s (valP s k) i = R := ⟨_, rfl⟩
  have HR : Hid ((if s[bl s (i + 1)]? = some 93 then .ok [] (bl s (i + 1) + 1) else listL s (valP s k) (s.length + 1) [] (bl s (i + 1))) = R) := Lib.hid (by rw [← hR, listP_ref])
  rw [hR]
  clear hR
  have HV := Lib.hid hv
  clear hv
  have hgl := hp.lt
  obtain ⟨W0, hW0⟩ : ∃ W0, (w.alloc (.cells #[.int .i64 0, .int .i64 0, S [], .slice none 0 0, .slice none 0 0] 25)).alloc (.cells #[.int .i64 5, .int .i64 0, S [], .slice none 0 0, .slice none 0 0] 25) = W0 := ⟨_, rfl⟩
  have hk0 : Kept (· ≠ g) w W0 := by rw [← hW0]; exact ((Kept.refl _ w).alloc _).alloc _
  have hz0 : W0.heap.size = w.heap.size + 2 := by rw [← hW0]; simp
  have hbox0 : OutAt w.heap.size 0 0 [] (.slice none 0 0) (.slice none 0 0) W0 := by rw [← hW0]; exact (OutAt.new w 0 0 [] (.slice none 0 0) (.slice none 0 0)).kept (ok := fun _ => True) ((Kept.refl _ _).alloc _) trivial
  have hout0 : OutAt (w.heap.size + 1) 5 0 [] (.slice none 0 0) (.slice none 0 0) W0 := by
    rw [← hW0]
    have := OutAt.new (w.alloc (.cells #[.int .i64 0, .int .i64 0, S [], .slice none 0 0, .slice none 0 0] 25)) 5 0 [] (.slice none 0 0) (.slice none 0 0)
    simpa using this
  have hp0 : RA g s i 0 d W0 := hp.kept (ok := fun _ => True) (by rw [← hW0]; exact ((Kept.refl _ w).alloc _).alloc _) trivial
  have O := Lib.hid (refopens_any g s i d W0 hp0 hd hi hl)
  have HW0 := Lib.hid hW0
  have HZ0 := Lib.hid hz0
  have HB0 := Lib.hid hbox0
  have HO0 := Lib.hid hout0
  clear hp hp0 hW0 hz0 hbox0 hout0
  go_enter Tryz.func79, Tryz.ntmps79
  go_wp2_with fail
  rw [show (({ data := #[] } : ByteArray)) = ⟨([] : List UInt8).toArray⟩ from rfl, HW0.out]
  refine O.out.mono ?_
  rintro e w1 ⟨rfl, hp1, hj1, hk1⟩
  have C := Lib.hid (refis_any g s (bl s (i + 1)) (d + 1) 0 93 w1 hp1 hj1 hl)
  have HP1 := Lib.hid hp1
  have hbj := bl_idem s (i + 1)
  obtain ⟨j1, hj1e⟩ : ∃ j, bl s (i + 1) = j := ⟨_, rfl⟩
  rw [hj1e] at C HP1 HR hj1 hbj
  have HBJ := Lib.hid hbj
  clear hp1 hj1e hbj O
  go_wp2_with fail
  refine C.out.mono ?_
  rintro e w2 ⟨rfl, n, rfl⟩
  have hB := hk1.size
  have HK1 := Lib.hid (((hk0.tr hk1).drewN n))
  have hz0 := HZ0.out
  have HB1 := Lib.hid (HB0.out.kept (hk1.drewN n) (by omega))
  have HO1 := Lib.hid (HO0.out.kept (hk1.drewN n) (by omega))
  have HPn := Lib.hid (HP1.out.drewN n)
  clear HB0 HO0 HP1 C hk0 hk1
  go_wp2_with fail
  go_loopg [6] (s.length + 2) (fun q mo wr => ∃ (acc : List J) (iv : Value) (j : Nat) (t : Bool), mo = .bool t ∧ OutAt (w.heap.size + 1) 5 0 [] (.slice none 0 0) iv wr ∧ OutAt w.heap.size 0 0 [] (.slice none 0 0) (.slice none 0 0) wr ∧ OwnR (w.heap.size + 2) iv acc wr ∧ w.heap.size + 2 ≤ wr.heap.size ∧ Kept (· ≠ g) w wr ∧ RA g s j 0 (d + 1) wr ∧ j ≤ s.length ∧ acc.length ≤ j ∧
    Hid ((t = true ∧ j + 1 ≤ s.length ∧ R = .ok acc (j + 1)) ∨ (t = false ∧ bl s j = j ∧ ∃ f, q = f + 1 ∧ s.length + 1 ≤ j + f ∧ listL s (valP s k) f acc j = R)))
  case atStart =>
    refine ⟨[], _, j1, _, rfl, HO1.out, HB1.out, OwnR.nil _ _, by simp; omega, HK1.out, HPn.out, hj1, by simp, Lib.hid ?_⟩
    by_cases h93 : s[j1]? = some 93
    · exact .inl ⟨decide_eq_true h93, (List.getElem?_eq_some_iff.1 h93).1, by rw [← HR.out, if_pos h93]⟩
    · exact .inr ⟨decide_eq_false h93, HBJ.out, _, rfl, by omega, by rw [← HR.out, if_neg h93]⟩
  case round =>
    clear HR HB1 HO1 HPn HK1 HBJ
    obtain ⟨acc, iv, j, t, rfl, hout, hbox, ho, hz, hk, hpj, hj, hal, H⟩ := hrel
    obtain ⟨ia, il, ic, rfl⟩ := ho.slice
    have HO := Lib.hid ho
    have HOUT := Lib.hid hout
    have HBOX := Lib.hid hbox
    have HP := Lib.hid hpj
    clear ho hout hbox hpj
    cases t with
    | true =>
      obtain ⟨hj2, hR⟩ : j + 1 ≤ s.length ∧ R = .ok acc (j + 1) := by
        rcases H.out with h | h
        · exact h.2
        · cases h.1
      have HN := Lib.hid hR
      obtain ⟨h0, h1, h2, h3, h4, h5, h6⟩ := HP.out.facts
      obtain ⟨o0, o1, o2, o3, o4, o5, o6⟩ := HOUT.out.facts
      obtain ⟨g0, g1, g2, g3, g4, g5, g6⟩ := HBOX.out.facts
      obtain ⟨f0, f1, f2, f3, f4⟩ := HBOX.out.free
      have hg1 : g ≠ w.heap.size + 1 := by omega
      have hg2 : g ≠ w.heap.size := by omega
      clear hR H
      go_wp2
      refine bodyPost_ret (v := .tuple #[jotV 5 0 [] (.slice none 0 0) (.slice ia il ic), .bool true]) (by simp [results, Tryz.results79, go_sem, g0, g1, g2, g3, g4]) rfl ?_
      rw [HN.out]
      have hkr : Kept (fun b => b ≠ g) wr ((wr.setCell ⟨g, 1, none⟩ (.int .i64 ((j : Int) + 1))).setCell ⟨g, 3, none⟩ (.int .i64 (d : Int))) := ((Kept.refl _ wr).setCell (.inr (by simp)) _).setCell (.inr (by simp)) _
      have hkb := fun (W : World) => kept_box W w.heap.size (.int .i64 5) (.int .i64 0) (S []) (.slice none 0 0) (.slice ia il ic)
      refine ⟨⟨_, rfl, (((HO.out.kept hkr fun b hb => by omega).kept (hkb _) fun b hb => by omega).value 5 0 [] (ns := []) (World.ownsRow_nil _ _ _ _) (by unfold Rng; simp; omega)).mono fun b _ hb => by omega⟩, ?_, hj2, ?_⟩
      · exact ((HP.out.setAt (j + 1) (.int .i64 ((j : Int) + 1)) rfl).setDeep d (.int .i64 (d : Int)) rfl).kept (hkb _) hg2
      · exact (hk.tr hkr).trans (hkb _) fun b hb _ => by omega
    | false =>
      obtain ⟨hbj, f, rfl, hfu, hR⟩ : bl s j = j ∧ ∃ f, gk = f + 1 ∧ s.length + 1 ≤ j + f ∧ listL s (valP s k) f acc j = R := by
        rcases H.out with h | h
        · cases h.1
        · exact h.2
      obtain ⟨q, rfl⟩ : ∃ q, f = q + 1 := ⟨f - 1, by omega⟩
      have V := Lib.hid (HV.out j wr HP.out hj)
      have hva : valP s k j = valA s k j := by rw [valP_valA, hbj]
      have HBJ := Lib.hid hbj
      clear H hbj
      cases hx : valA s k j with
      | bad e j' =>
        have HN : Hid (R = .bad e j') := Lib.hid (by rw [← hR, listL, hva, hx]; rfl)
        rw [hx] at V
        clear hx hR hva
        go_wp2_with fail
        refine V.out.mono ?_
        rintro x w6 ⟨⟨xk, xn, xt, xna, xnl, xnc, xia, xil, xic, rfl⟩, hr6, hb, hk6⟩
        obtain ⟨w', hW6⟩ : ∃ w', w6.alloc (.cells #[.int .i64 xk, .int .i64 xn, S xt, .slice xna xnl xnc, .slice xia xil xic] 25) = w' := ⟨_, rfl⟩
        have hk' : Kept (· ≠ g) wr w' := by rw [← hW6]; exact hk6.alloc _
        have hr : ∃ d', RA g s j' e d' w' := by
          obtain ⟨d', hr⟩ := hr6
          exact ⟨d', by rw [← hW6]; exact hr.kept (ok := fun _ => True) ((Kept.refl _ _).alloc _) trivial⟩
        clear hr6 hk6
        have hz' := hk'.size
        have HOUT2 := Lib.hid (HOUT.out.kept hk' (by omega))
        have HBOX2 := Lib.hid (HBOX.out.kept hk' (by omega))
        obtain ⟨o0, o1, o2, o3, o4, o5, o6⟩ := HOUT2.out.facts
        obtain ⟨g0, g1, g2, g3, g4, g5, g6⟩ := HBOX2.out.facts
        obtain ⟨f0, f1, f2, f3, f4⟩ := HBOX2.out.free
        go_wp2
        refine bodyPost_ret (v := .tuple #[jotV 5 0 [] (.slice none 0 0) (.slice ia il ic), .bool false]) (by simp [results, Tryz.results79, go_sem, g0, g1, g2, g3, g4]) rfl ?_
        rw [HN.out]
        have hkb := fun (W : World) => kept_box W w.heap.size (.int .i64 5) (.int .i64 0) (S []) (.slice none 0 0) (.slice ia il ic)
        obtain ⟨d', hr⟩ := hr
        exact ⟨⟨_, _, _, _, _, _, _, _, _, rfl⟩, ⟨d', hr.kept (hkb _) (by omega)⟩, hb, (hk.tr hk').trans (hkb _) fun b hb _ => by omega⟩
      | ok x j1 =>
        have hjj : j < j1 := by have := valP_take s k j hj; rw [hva, hx] at this; exact this.2.1
        have HQ : Hid (R = match s[bl s j1]? with
          | none => .bad 40 (bl s j1)
          | some c => if c = 44 then listL s (valP s k) q (acc ++ [x]) (bl s j1 + 1) else if c = 93 then .ok (acc ++ [x]) (bl s j1 + 1) else .bad 40 (bl s j1)) := Lib.hid (by rw [← hR, listL, hva, hx]; rfl)
        rw [hx] at V
        clear hx hR hva
        go_wp2_with fail
        refine V.out.mono ?_
        rintro _ w1 ⟨⟨u, rfl, hu⟩, hp2, hj1, hk2⟩
        obtain ⟨xna, xnl, xnc, xia, xil, xic, rfl⟩ := hu.form
        obtain ⟨w2, hW6⟩ : ∃ w2, w1.alloc (.cells #[.int .i64 x.kind, .int .i64 x.num, S x.text, .slice xna xnl xnc, .slice xia xil xic] 25) = w2 := ⟨_, rfl⟩
        have hk12 : Kept (fun _ => True) w1 w2 := by rw [← hW6]; exact (Kept.refl _ _).alloc _
        have hz12 : w2.heap.size = w1.heap.size + 1 := by rw [← hW6]; simp
        have hbx : OutAt w1.heap.size x.kind x.num x.text (.slice xna xnl xnc) (.slice xia xil xic) w2 := by rw [← hW6]; exact OutAt.new _ _ _ _ _ _
        replace hu := hu.kept hk12 fun _ _ _ => trivial
        have hz1 := hk2.size
        replace hk2 : Kept (· ≠ g) wr w2 := hk2.trans hk12 fun _ _ _ => trivial
        replace hp2 := hp2.kept hk12 trivial
        have hz2 := hk2.size
        have hwk : Kept (· ≠ g) w w2 := hk.tr hk2
        have HO2 := Lib.hid (HO.out.kept hk2 fun b hb => by omega)
        have HU : Hid (JIn (fun b => w.heap.size + 2 ≤ b ∧ some b ≠ (Value.slice ia il ic).ownBlock) w2 x _) := Lib.hid (hu.mono fun b hb hw => ⟨by omega, fun e => by
          obtain ⟨us, _, e2, _⟩ := HO.out
          have := (e2.lt b e.symm).2
          omega⟩)
        have HOUT2 := Lib.hid (HOUT.out.kept hk2 (by omega))
        have HBOX2 := Lib.hid (HBOX.out.kept hk2 (by omega))
        obtain ⟨o0, o1, o2, o3, o4, o5, o6⟩ := HOUT2.out.facts
        obtain ⟨y0, y1, y2, y3, y4, y5, y6⟩ := hbx.facts
        clear hu V HO HOUT HBOX hk12 hbx
        obtain ⟨us, e1, e2, e3⟩ := HO2.out
        have HE2 := Lib.hid e2
        have HE3 := Lib.hid e3
        have HE1 := Lib.hid e1
        have HP2 := Lib.hid hp2
        clear e1 e2 e3 hp2 hk2
        go_wp2_with (at_builtin; refine wpList_pushOne' 23 25 Tryz.underlying23 infoJot rfl (by decide) rfl _ _ rfl (w.heap.size + 2) (.slice ia il ic) acc.length (jotCells us) (jotV x.kind x.num x.text (.slice xna xnl xnc) (.slice xia xil xic)).cells.toList w2 _ rfl rfl rfl HU.out.ones 1 _ hz12.symm rfl rfl HE2.out (by omega) (by decide) (by omega) ?_)
        intro v' w3 k1 k2 k3
        obtain ⟨vb, vc, rfl⟩ := ownsRow_some k1
        have HO3 := Lib.hid (ownR_push HE1.out HE3.out HU.out k1 k3)
        have hwk3 : Kept (· ≠ g) w w3 := hwk.trans (Kept.of_below' k2) fun i hi ho => by omega
        have HP3 := Lib.hid (HP2.out.kept (Kept.of_below' k2) (by omega))
        have HOUT3 := Lib.hid (HOUT2.out.below k2 (by omega))
        have HBOX3 := Lib.hid (HBOX2.out.below k2 (by omega))
        obtain ⟨p0, p1, p2, p3, p4, p5, p6⟩ := HOUT3.out.facts
        have hz4 := k2.size
        clear k1 k2 k3 HE1 HE2 HE3 HO2 HU HOUT2 HBOX2 HP2 hwk o0 o1 o2 o3 o4 o5 o6 y0 y1 y2 y3 y4 y5 y6
        have HLEN : Hid ((acc ++ [x]).length = acc.length + [x].length) := Lib.hid List.length_append
        go_wp2_with fail
        have hks : Kept (· ≠ w.heap.size + 1) w3 (w3.setCell ⟨w.heap.size + 1, 4, none⟩ (.slice (some ⟨vb, 0, none⟩) (acc.length + 1) vc)) := (Kept.refl _ _).setCell (.inr (by simp)) _
        have HP4 := Lib.hid (HP3.out.kept hks (by omega))
        have HOUT4 := Lib.hid (HOUT3.out.setItems (.slice (some ⟨vb, 0, none⟩) (acc.length + 1) vc))
        have HBOX4 := Lib.hid (HBOX3.out.kept hks (by omega))
        have HO4 := Lib.hid (HO3.out.kept hks fun b hb => by omega)
        have hwk4 : Kept (· ≠ g) w (w3.setCell ⟨w.heap.size + 1, 4, none⟩ (.slice (some ⟨vb, 0, none⟩) (acc.length + 1) vc)) := hwk3.trans hks fun b hb _ => by omega
        have hz5 := hks.size
        clear HP3 HOUT3 HBOX3 HO3 hwk3 hks p0 p1 p2 p3 p4 p5 p6
        generalize w3.setCell ⟨w.heap.size + 1, 4, none⟩ (.slice (some ⟨vb, 0, none⟩) (acc.length + 1) vc) = w4 at HP4 HOUT4 HBOX4 HO4 hwk4 hz5 ⊢
        have HK4 := Lib.hid hwk4
        clear hwk4
        refine (refblanks_any g s j1 (d + 1) w4 HP4.out hl hj1).mono ?_
        rintro e w5 ⟨rfl, hp5, hb5, hk5⟩
        have hz6 := hk5.size
        have HBX5 := Lib.hid (HBOX4.out.kept hk5 (by omega))
        have HOT5 := Lib.hid (HOUT4.out.kept hk5 (by omega))
        have HO5 := Lib.hid (HO4.out.kept hk5 fun b hb => by omega)
        have HK5 := Lib.hid (HK4.out.tr hk5)
        have C := Lib.hid (refis_any g s (bl s j1) (d + 1) 0 93 w5 hp5 hb5 hl)
        have HP5 := Lib.hid hp5
        have hbi := bl_le s j1
        have hbm := bl_idem s j1
        obtain ⟨j2, hj2⟩ : ∃ y, bl s j1 = y := ⟨_, rfl⟩
        rw [hj2] at HQ C HP5 hb5 hbi hbm
        have HBM := Lib.hid hbm
        clear hj2 HP4 HOUT4 HBOX4 HO4 HK4 hp5 hk5 hbm
        by_cases h93 : s[j2]? = some 93
        · have hj3 : j2 + 1 ≤ s.length := (List.getElem?_eq_some_iff.1 h93).1
          have HN : Hid (R = .ok (acc ++ [x]) (j2 + 1)) := Lib.hid (by rw [HQ.out, h93]; rfl)
          rw [decide_eq_true h93] at C
          clear h93 HQ
          go_wp2_with fail
          refine C.out.mono ?_
          rintro e w6 ⟨rfl, n6, rfl⟩
          go_wp2
          go_roundg (q + 1)
          case rel => exact ⟨acc ++ [x], _, j2, true, rfl, HOT5.out.kept ((Kept.refl (fun _ => True) w5).drewN n6) trivial, HBX5.out.kept ((Kept.refl (fun _ => True) w5).drewN n6) trivial, HO5.out.kept ((Kept.refl (fun _ => True) w5).drewN n6) fun _ _ => trivial, Nat.le_trans (by omega) (Nat.le_of_eq (rfl : w5.heap.size = (w5.drewN n6).heap.size)), HK5.out.drewN n6, HP5.out.drewN n6, hb5, by rw [HLEN.out, List.length_singleton]; omega, Lib.hid (.inl ⟨rfl, hj3, HN.out⟩)⟩
          case measure => omega
        · rw [decide_eq_false h93] at C
          by_cases h44 : s[j2]? = some 44
          · have HN : Hid (listL s (valP s k) q (acc ++ [x]) (j2 + 1) = R) := Lib.hid (by rw [HQ.out, h44]; rfl)
            have hj3 : j2 + 1 ≤ s.length := (List.getElem?_eq_some_iff.1 h44).1
            have hW : wantP s 44 j2 = .ok () (j2 + 1) := by unfold wantP; rw [if_pos h44]
            have M := Lib.hid (fun n => reftakes_any g s j2 (d + 1) 44 (w5.drewN n) (HP5.out.drewN n) hb5 hl)
            rw [hW] at M
            clear h44 h93 HQ hW
            go_wp2_with fail
            refine C.out.mono ?_
            rintro e w6 ⟨rfl, n6, rfl⟩
            go_wp2_with fail
            refine (M.out n6).mono ?_
            rintro e w7 ⟨rfl, hp7, hj7, hk7⟩
            have B := Lib.hid (refblanks_any g s (j2 + 1) (d + 1) w7 hp7 hl hj3)
            have hk57 : Kept (· ≠ g) w5 w7 := ((Kept.refl _ w5).drewN n6).tr hk7
            clear M C hp7 hk7
            go_wp2_with fail
            refine B.out.mono ?_
            rintro e w8 ⟨rfl, hp8, hb8, hk8⟩
            have hk58 : Kept (· ≠ g) w5 w8 := hk57.tr hk8
            have hz8 := hk58.size
            have hb9 := bl_le s (j2 + 1)
            go_wp2
            obtain ⟨q2, rfl⟩ : ∃ q2, q = q2 + 1 := ⟨q - 1, by omega⟩
            go_roundg (q2 + 1 + 1)
            case rel => exact ⟨acc ++ [x], _, bl s (j2 + 1), false, rfl, HOT5.out.kept hk58 (by omega), HBX5.out.kept hk58 (by omega), HO5.out.kept hk58 fun b hb => by omega, by omega, HK5.out.tr hk58, hp8, hb8, by rw [HLEN.out, List.length_singleton]; omega, Lib.hid (.inr ⟨rfl, bl_idem s (j2 + 1), q2 + 1, rfl, by omega, by rw [listL_bl]; exact HN.out⟩)⟩
            case measure => omega
          · have HN : Hid (R = .bad 40 j2) := Lib.hid (by
              rw [HQ.out]
              cases h : s[j2]? with
              | none => rfl
              | some c =>
                simp only
                rw [if_neg (fun e => h44 (by rw [h, e])), if_neg (fun e => h93 (by rw [h, e]))])
            have hW : wantP s 44 j2 = .bad 40 j2 := by unfold wantP; rw [if_neg h44]
            have M := Lib.hid (fun n => reftakes_any g s j2 (d + 1) 44 (w5.drewN n) (HP5.out.drewN n) hb5 hl)
            rw [hW] at M
            clear h44 h93 HQ hW
            go_wp2_with fail
            refine C.out.mono ?_
            rintro e w6 ⟨rfl, n6, rfl⟩
            go_wp2_with fail
            refine (M.out n6).mono ?_
            rintro e w7 ⟨rfl, ⟨d', hp7⟩, hj7, hk7⟩
            have hk57 : Kept (· ≠ g) w5 w7 := ((Kept.refl _ w5).drewN n6).tr hk7
            have hz7 := hk57.size
            have HOUT2 := Lib.hid (HOT5.out.kept hk57 (by omega))
            have HBOX2 := Lib.hid (HBX5.out.kept hk57 (by omega))
            obtain ⟨o0, o1, o2, o3, o4, o5, o6⟩ := HOUT2.out.facts
            obtain ⟨g0, g1, g2, g3, g4, g5, g6⟩ := HBOX2.out.facts
            obtain ⟨f0, f1, f2, f3, f4⟩ := HBOX2.out.free
            clear M C hk7
            go_wp2
            refine bodyPost_ret (v := .tuple #[jotV 5 0 [] (.slice none 0 0) (.slice (some ⟨vb, 0, none⟩) (acc.length + 1) vc), .bool false]) (by simp [results, Tryz.results79, go_sem, g0, g1, g2, g3, g4]) rfl ?_
            rw [HN.out]
            have hkb := fun (W : World) => kept_box W w.heap.size (.int .i64 5) (.int .i64 0) (S []) (.slice none 0 0) (.slice (some ⟨vb, 0, none⟩) (acc.length + 1) vc)
            exact ⟨⟨_, _, _, _, _, _, _, _, _, rfl⟩, ⟨d', hp7.kept (hkb _) (by omega)⟩, hb5, (HK5.out.tr hk57).trans (hkb _) fun b hb _ => by omega⟩
end Go.Proofs.YtmajpambfblhnaaGreatDoor
