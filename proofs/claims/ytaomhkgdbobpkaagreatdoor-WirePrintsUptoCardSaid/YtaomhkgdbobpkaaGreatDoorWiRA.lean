/- Walks of the law of layer 5: WirePrints. -/
import Derived.Test.YtaomhkgdbobpkaaGreatDoorWiR9
namespace Go.Proofs.YtaomhkgdbobpkaaGreatDoor
open Go.RowKit Wi

theorem OwnS.at {B : Nat} {a : Option Addr} {n c : Nat} {L : List (List UInt8)} {w : World} (h : OwnS B (.slice a n c) L w) {j : Nat} (hj : j < L.length) : ∃ b, a = some ⟨b, 0, none⟩ ∧ B ≤ b ∧ b < w.heap.size ∧ w.frozen? ⟨b, j, none⟩ = false ∧ ∃ x, L[j]? = some x ∧ w.cell? ⟨b, j, none⟩ = some (S x) := by
  rcases h.2 with ⟨e, h0⟩ | ⟨g, cap, cur, e, hB, hg, hnc, hcap, hat⟩
  · omega
  · obtain ⟨rfl, rfl, rfl⟩ : a = some ⟨g, 0, none⟩ ∧ n = L.length ∧ c = cap := by simpa using e
    obtain ⟨x, hx⟩ : ∃ x, L[j]? = some x := ⟨_, List.getElem?_eq_getElem hj⟩
    refine ⟨g, rfl, hB, (Array.getElem?_eq_some_iff.1 hg).1, frozen_row hg j, x, hx, ?_⟩
    have := World.ownsRow.cellAt h j (by omega)
    rw [this, List.getElem?_map, hx]
    rfl
theorem OwnS.put {B b n c : Nat} {L : List (List UInt8)} {w : World} (h : OwnS B (.slice (some ⟨b, 0, none⟩) n c) L w) (j : Nat) (y : List UInt8) : OwnS B (.slice (some ⟨b, 0, none⟩) n c) (L.set j y) (w.setCell ⟨b, j, none⟩ (S y)) := by
  have hn : n = L.length := by
    rcases h.2 with ⟨e, h0⟩ | ⟨g, cap, cur, e, _⟩
    · simp at e
    · have : (some ⟨b, 0, none⟩ : Option Addr) = some ⟨g, 0, none⟩ ∧ n = L.length ∧ c = cap := by simpa using e
      exact this.2.1
  subst hn
  unfold OwnS at h ⊢
  rw [List.length_set, List.map_set]
  exact (World.ownsRow.stored h j (S y)).1
theorem OwnS.keptN {B : Nat} {v : Value} {L : List (List UInt8)} {w w' : World} {ok : Nat → Prop} (h : OwnS B v L w) (hk : Kept ok w w') (ho : ∀ b, v.ownBlock = some b → ok b) : OwnS B v L w' := ownsRow_kept h hk ho
def mkL : List UInt8 := [109, 97, 114, 107]
def L1 (L : List (List UInt8)) (j : Nat) : List (List UInt8) := List.replicate j mkL ++ L.drop j
theorem L1_len {L : List (List UInt8)} {j : Nat} (h : j ≤ L.length) : (L1 L j).length = L.length := by
  unfold L1
  rw [List.length_append, List.length_replicate, List.length_drop]; omega
theorem L1_at {L : List (List UInt8)} {j : Nat} (h : j < L.length) : (L1 L j)[j]? = L[j]? := by
  unfold L1
  rw [List.getElem?_append_right (by simp), List.length_replicate, Nat.sub_self, List.getElem?_drop]
  rfl
theorem L1_set {L : List (List UInt8)} {j : Nat} (h : j < L.length) : (L1 L j).set j mkL = L1 L (j + 1) := by
  unfold L1
  rw [List.drop_eq_getElem_cons h, List.set_append_right _ _ (by simp), List.length_replicate, Nat.sub_self, List.set_cons_zero, List.replicate_succ', List.append_assoc]
  rfl
theorem OwnS.keptM {B : Nat} {v v' u : Value} {L : List (List UInt8)} {w w' : World} (h : OwnS B u L w) (hm : Moved v v' w w') (hn : ∀ b, u.ownBlock = some b → v.ownBlock ≠ some b) (hb : Below 0 w w') : OwnS B u L w' :=
  ownsRow_kept h (ok := fun b => v.ownBlock ≠ some b) ⟨hb.os, hb.tape, hb.output, hm.kept.1, fun k hk ho => hm.kept.2 k hk fun e => ho e.symm⟩ hn
/-- The row that grows, apart from two others. -/
def Lk (B B2 B3 : Nat) (kv nv : Value) (L : List (List UInt8)) (v : Value) (M : List (List UInt8)) (w : World) : Prop :=
  OwnS B v M w ∧ (∀ b, v.ownBlock = some b → (∀ b', kv.ownBlock = some b' → b ≠ b') ∧ (∀ b', nv.ownBlock = some b' → b ≠ b')) ∧ OwnS B2 kv L w ∧ OwnS B3 nv L w
theorem lk_push {B B2 B3 : Nat} {kv nv v v' : Value} {L M : List (List UInt8)} {y : List UInt8} {w w' : World} (_h : OwnS B v M w) (hs : ∀ b, v.ownBlock = some b → (∀ b', kv.ownBlock = some b' → b ≠ b') ∧ (∀ b', nv.ownBlock = some b' → b ≠ b')) (hk : OwnS B2 kv L w) (hn : OwnS B3 nv L w)
    (k1 : w'.ownsRow B 9 1 v' (M.length + 1) (M.map S ++ [S y])) (k2 : Below B w w') (k3 : Moved v v' w w') : Lk B B2 B3 kv nv L v' (M ++ [y]) w' := by
  have hkp : Kept (fun b => v.ownBlock ≠ some b) w w' := ⟨k2.os, k2.tape, k2.output, k3.kept.1, fun k hk ho => k3.kept.2 k hk fun e => ho e.symm⟩
  refine ⟨?_, fun b hb => ?_, ownsRow_kept hk hkp fun b hb e => (hs b e).1 b hb rfl, ownsRow_kept hn hkp fun b hb e => (hs b e).2 b hb rfl⟩
  · unfold OwnS
    rw [List.length_append, List.map_append]
    exact k1
  · rcases k3 with ⟨e, _⟩ | ⟨hnew, _⟩
    · exact hs b (e ▸ hb)
    · have h1 := hnew b hb
      exact ⟨fun b' hb' => by have := (hk.lt b' hb').2; omega, fun b' hb' => by have := (hn.lt b' hb').2; omega⟩
/-- A message's value, with short texts. -/
def MsV (x : Msg) (hv : Value) (w : World) : Prop := RowF (fun _ => True) w hv x.hs ∧ SmlF x.hs ∧ (Sml x.m ∧ Sml x.p ∧ Sml x.body) ∧ x.hs.length ≤ 68719476736
def AnV (y : Ans) (hv : Value) (w : World) : Prop := RowF (fun _ => True) w hv y.hs ∧ SmlF y.hs ∧ Sml y.body ∧ y.hs.length ≤ 68719476736
theorem MsV.kept {x : Msg} {hv : Value} {w w' : World} (h : MsV x hv w) (hk : Kept (fun _ => True) w w') : MsV x hv w' := ⟨h.1.kept hk fun _ _ _ => trivial, h.2⟩
theorem AnV.kept {x : Ans} {hv : Value} {w w' : World} (h : AnV x hv w) (hk : Kept (fun _ => True) w w') : AnV x hv w' := ⟨h.1.kept hk fun _ _ _ => trivial, h.2⟩
theorem prints_ms {x : Msg} {y : Ans} {hv yv : Value} {w0 w : World} (hE : WE w0.heap.size w0) (hk : Kept (fun _ => True) w0 w) (h1 : MsV x hv w) (h2 : AnV y yv w) :
    Calls Tryz.prog 24 #[.agg #[S x.m, S x.p, hv, S x.body], .agg #[.int .i64 y.st, yv, S y.body]] w fun e w' => e = .returned (.bool true) ∧ Kept (fun _ => True) w w' :=
  prints_any x y hv yv w ((hE.kept hk fun _ _ => trivial).le hk.size) h1.1 h2.1 h1.2.1 h1.2.2.1 h2.2.1 h2.2.2.1 ⟨h1.2.2.2, h2.2.2.2⟩
theorem held_ms {x : Msg} {y : Ans} {hv yv : Value} {w0 w : World} (hE : WE w0.heap.size w0) (hk : Kept (fun _ => True) w0 w) (h1 : MsV x hv w) (h2 : AnV y yv w) :
    Calls Tryz.prog 26 #[.agg #[S x.m, S x.p, hv, S x.body], .agg #[.int .i64 y.st, yv, S y.body]] w fun e w' => e = .returned (.bool true) ∧ Kept (fun _ => True) w w' :=
  held_any x y hv yv w ((hE.kept hk fun _ _ => trivial).le hk.size) h1.1 h2.1 h1.2.1 h1.2.2.1 h2.2.1 h2.2.2.1 ⟨h1.2.2.2, h2.2.2.2⟩
theorem msV_of {x : Msg} {hv : Value} {w : World} (h : RowF (fun _ => True) w hv x.hs) (h1 : restOk x.hs x.body = true) (h2 : isMethodP x.m = true) (h3 : isPathP x.p = true) : MsV x hv w :=
  ⟨h, (restOk_sml h1).1, ⟨by have := method_len h2; unfold Sml; omega, by have := path_len h3; unfold Sml; omega, (restOk_sml h1).2⟩, by have := restOk_len h1; omega⟩
theorem setFour0 {g : Nat} {a b c : List UInt8} {v : Value} {w : World} (h : four g a b v c w) (u : List UInt8) : four g u b v c (w.setCell ⟨g, 0, none⟩ (S u)) := (setCell_heap h (S u)).trans rfl
theorem setFour1 {g : Nat} {a b c : List UInt8} {v : Value} {w : World} (h : four g a b v c w) (u : List UInt8) : four g a u v c (w.setCell ⟨g, 1, none⟩ (S u)) := (setCell_heap h (S u)).trans rfl
theorem setFour3 {g : Nat} {a b c : List UInt8} {v : Value} {w : World} (h : four g a b v c w) (u : List UInt8) : four g a b v u (w.setCell ⟨g, 3, none⟩ (S u)) := (setCell_heap h (S u)).trans rfl
theorem setThree0 {g : Nat} {a : Int} {c : List UInt8} {v : Value} {w : World} (h : three g a v c w) (u : Int) : three g u v c (w.setCell ⟨g, 0, none⟩ (.int .i64 u)) := (setCell_heap h (.int .i64 u)).trans rfl
theorem setThree2 {g : Nat} {a : Int} {c : List UInt8} {v : Value} {w : World} (h : three g a v c w) (u : List UInt8) : three g a v u (w.setCell ⟨g, 2, none⟩ (S u)) := (setCell_heap h (S u)).trans rfl
theorem kset {w : World} (g o : Nat) (u : Value) : Kept (· ≠ g) w (w.setCell ⟨g, o, none⟩ u) := (Kept.refl _ w).setCell (.inr (by simp)) _
theorem RowF.rdF {ok : Nat → Prop} {w : World} {a : Option Addr} {c : Nat} {F : List Fl} (h : RowF ok w (.slice a F.length c) F) : Rd w (.slice a F.length c) F.length (fieldCells F) := by
  rcases h with ⟨a', c', e, rfl⟩ | ⟨b, off, cap, e, h1, h2, h3, h4⟩
  · exact .inl ⟨_, _, rfl, rfl, rfl⟩
  · obtain ⟨rfl, rfl⟩ : a = some ⟨b, off, none⟩ ∧ c = cap := by simpa using e
    by_cases h0 : F.length = 0
    · exact .inl ⟨_, _, by rw [h0], h0, by rw [List.eq_nil_of_length_eq_zero h0]; rfl⟩
    · refine .inr ⟨b, off, c, rfl, by omega, fun j u hj => ?_⟩
      have hjl : j < (fieldCells F).length := (List.getElem?_eq_some_iff.1 hj).1
      rw [fieldCells_len] at hjl
      obtain ⟨f, hf⟩ : ∃ f, F[j / 2]? = some f := ⟨_, List.getElem?_eq_getElem (by omega)⟩
      obtain ⟨g1, g2⟩ := fieldCells_at hf
      obtain ⟨k1, k2⟩ := h4 _ f hf
      rcases (by omega : j = j / 2 * 2 ∨ j = j / 2 * 2 + 1) with e | e
      · rw [← e] at g1 k1
        rw [g1] at hj
        rw [k1, Option.some.inj hj]
      · rw [← e] at g2
        rw [Nat.add_assoc, ← e] at k2
        rw [g2] at hj
        rw [k2, Option.some.inj hj]
/-- A field of a row is written. -/
theorem RowF.put {ok : Nat → Prop} {w : World} {b off cap k : Nat} {F : List Fl} (f : Fl) (h : RowF ok w (.slice (some ⟨b, off, none⟩) F.length cap) F) (hk : k < F.length) :
    RowF ok ((w.setCell ⟨b, off + k * 2, none⟩ (S f.1)).setCell ⟨b, off + k * 2 + 1, none⟩ (S f.2)) (.slice (some ⟨b, off, none⟩) F.length cap) (F.set k f) := by
  rcases h with ⟨a', c', e, rfl⟩ | ⟨b', off', cap', e, h1, h2, h3, h4⟩
  · simp at hk
  · obtain ⟨⟨rfl, rfl⟩, rfl⟩ : (b = b' ∧ off = off') ∧ cap = cap' := by simpa using e
    have hl : (F.set k f).length = F.length := List.length_set
    have hc0 := (h4 k _ (List.getElem?_eq_getElem hk)).1
    have hc1 := (h4 k _ (List.getElem?_eq_getElem hk)).2
    refine .inr ⟨b, off, cap, by rw [hl], by rw [hl]; exact h1, h2, by simp [World.setCell]; exact h3, fun j x hj => ?_⟩
    rw [List.getElem?_set] at hj
    by_cases hjk : k = j
    · subst hjk
      rw [if_pos rfl, if_pos hk] at hj
      obtain rfl : f = x := by simpa using hj
      refine ⟨?_, ?_⟩
      · rw [World.cell?_setCell_other _ _ _ _ (by intro e; have := congrArg Addr.off e; simp at this)]
        exact World.cell?_setCell_same _ _ _ hc0
      · refine World.cell?_setCell_same _ _ _ (u := S (F[k]).2) ?_
        rw [World.cell?_setCell_other _ _ _ _ (by intro e; have := congrArg Addr.off e; simp at this)]
        exact hc1
    · rw [if_neg hjk] at hj
      obtain ⟨x0, x1⟩ := h4 j x hj
      refine ⟨?_, ?_⟩
      · rw [World.cell?_setCell_other _ _ _ _ (by intro e; have := congrArg Addr.off e; simp at this; omega), World.cell?_setCell_other _ _ _ _ (by intro e; have := congrArg Addr.off e; simp at this; omega)]
        exact x0
      · rw [World.cell?_setCell_other _ _ _ _ (by intro e; have := congrArg Addr.off e; simp at this; omega), World.cell?_setCell_other _ _ _ _ (by intro e; have := congrArg Addr.off e; simp at this; omega)]
        exact x1
theorem index_row {a : Option Addr} {b o n c k : Nat} (ha : a = some ⟨b, o, none⟩) (hk : k < n) (W : World) : (Instr.indexAt 48 (.slice a n c) (.int .i64 (k : Int))).run Tryz.prog W = .ok (.pointer (some ⟨b, o + k * 2, none⟩)) W := by
  subst ha
  have h1 : (0 : Int) ≤ (k : Int) := by omega
  have h2 : (k : Int) < (n : Int) := by omega
  have h3 := Tryz.underlying48
  go_simp
abbrev PT (bz bm b o : Nat) (v1 mv : Value) (f1 f2 : List UInt8) (w : World) : Prop := w.cell? ⟨bz, 2, none⟩ = some v1 ∧ w.cell? ⟨bm, 2, none⟩ = some mv ∧ w.cell? ⟨b, o, none⟩ = some (S f1) ∧ w.cell? ⟨b, o + 1, none⟩ = some (S f2)
set_option maxHeartbeats 8000000 in
set_option maxRecDepth 100000 in
theorem prints_law (x : Msg) (y : Ans) (vm va : Value) (wh : Int) (nm : List UInt8) (w : World) (hE : WE w.heap.size w) (hvm : RowF (fun _ => True) w vm x.hs) (hva : RowF (fun _ => True) w va y.hs) (hst : -9223372036854775808 ≤ y.st ∧ y.st ≤ 9223372036854775807) (hwh : -9223372036854775808 ≤ wh ∧ wh ≤ 9223372036854775807)
    (hsz : 2 * (sizeN x.m x.p x.hs x.body + toldNn y.hs y.body) + nm.length ≤ 2147483647) :
    Calls Tryz.prog 5 #[.agg #[S x.m, S x.p, vm, S x.body], .agg #[.int .i64 y.st, va, S y.body], .int .i64 wh, S nm] w fun e w' => e = .returned (.bool true) ∧ Kept (fun _ => True) w w' := by
  obtain ⟨m, p, fs, mb⟩ := x
  obtain ⟨st, gs, ab⟩ := y
  simp only at hvm hva hst hsz ⊢
  obtain ⟨ma, mc, rfl⟩ := hvm.slice
  obtain ⟨aa, ac, rfl⟩ := hva.slice
  obtain ⟨W1, hW1⟩ : ∃ W1, w.alloc (.cells #[S m, S p, .slice ma fs.length mc, S mb] 50) = W1 := ⟨_, rfl⟩
  obtain ⟨W2, hW2⟩ : ∃ W2, W1.alloc (.cells #[.int .i64 st, .slice aa gs.length ac, S ab] 56) = W2 := ⟨_, rfl⟩
  have hk1 : Kept (fun _ => True) w W1 := by rw [← hW1]; exact (Kept.refl _ w).alloc _
  have hk12 : Kept (fun _ => True) W1 W2 := by rw [← hW2]; exact (Kept.refl _ W1).alloc _
  have hbm : four w.heap.size m p (.slice ma fs.length mc) mb W2 := four.kept (by rw [← hW1]; exact heap_alloc_new w _) hk12 trivial
  have hba : three W1.heap.size st (.slice aa gs.length ac) ab W2 := by rw [← hW2]; exact heap_alloc_new W1 _
  have hw1 : weightN gs ≤ 2147483647 := by unfold toldNn at hsz; omega
  have hw2 : weightN fs ≤ 2147483647 := by unfold sizeN at hsz; omega
  have hl1 : Sml ab := by unfold toldNn at hsz; unfold Sml; omega
  have hl2 : Sml m ∧ Sml p ∧ Sml mb := by unfold sizeN at hsz; unfold Sml; omega
  have hln1 : fs.length ≤ 68719476736 := by have := weightN_len fs; omega
  have hln2 : gs.length ≤ 68719476736 := by have := weightN_len gs; omega
  have HMV : Hid (MsV ⟨m, p, fs, mb⟩ (.slice ma fs.length mc) w) := Lib.hid ⟨hvm, smlF_of hw2, hl2, hln1⟩
  have HAV : Hid (AnV ⟨st, gs, ab⟩ (.slice aa gs.length ac) w) := Lib.hid ⟨hva, smlF_of hw1, hl1, hln2⟩
  have TO := Lib.hid (fun W (hk : Kept (fun _ => True) w W) => ltold_any st ab gs (.slice aa gs.length ac) W (hva.kept hk fun _ _ _ => trivial) (by omega))
  have SZ := Lib.hid (fun W (hk : Kept (fun _ => True) w W) => size_any m p mb fs (.slice ma fs.length mc) W (hvm.kept hk fun _ _ _ => trivial) (by omega))
  obtain ⟨t, ht⟩ : ∃ t, toldNn gs ab = t := ⟨_, rfl⟩
  obtain ⟨z, hz⟩ : ∃ z, sizeN m p fs mb = z := ⟨_, rfl⟩
  rw [ht] at hsz TO
  rw [hz] at hsz SZ
  have hml : (⟨nm.toArray⟩ : ByteArray).size = nm.length := size_mk nm
  have g1 := Lib.hid (addZ_rng (n := (z : Int)) (m := (t : Int)) (by omega) (by omega))
  have g2 := Lib.hid (addZ_rng (n := addZ (z : Int) (t : Int)) (m := (nm.length : Int)) g1.out.1 (by omega))
  have hq : ¬ (2147483647 : Int) < addZ (addZ (z : Int) (t : Int)) (addZ (addZ (z : Int) (t : Int)) (nm.length : Int)) := by
    rw [addZ_of (n := (z : Int)) (by omega), addZ_of (n := (z : Int) + (t : Int)) (m := (nm.length : Int)) (by omega), addZ_of (by omega)]
    omega
  have hnl : nm.length ≤ 2147483647 := by omega
  have HNM : Hid (Sml nm) := Lib.hid (by unfold Sml; omega)
  have ht2 : t ≤ 2147483647 := by omega
  have hz2 : z ≤ 2147483647 := by omega
  have HK2 := Lib.hid (hk1.tr hk12)
  have HBA := Lib.hid hba
  have HBM := Lib.hid hbm
  have HEW := Lib.hid hE
  have HSW : Hid (∀ W, Kept (fun _ => True) W2 W → AM W1.heap.size w.heap.size st (.slice aa gs.length ac) ab m p (.slice ma fs.length mc) mb W) := Lib.hid fun W hk => AM.of (HBA.out.kept hk trivial) (HBM.out.kept hk trivial)
  have HKD : Hid (Kept (fun _ => True) W2 W2.drew) := Lib.hid (Kept.refl _ _).drew
  have hss := HSW.out _ HKD.out
  clear hE hba hbm hva hvm hk1 hk12 ht hz hsz hw1 hw2 hl1 hl2 hln1 hln2
  go_enter Tryz.func5, Tryz.ntmps5
  go_wp2_with fail
  go_region_held3 (fun wz => AM W1.heap.size w.heap.size st (.slice aa gs.length ac) ab m p (.slice ma fs.length mc) mb wz) (first | exact hss | go_keep)
    (first
      | (go_at_call 23; refine (TO.out _ (HK2.out.tr HKD.out)).mono ?_; rintro e w1 ⟨rfl, hk1⟩; have HKD := Lib.hid (HKD.out.tr hk1); have hss := HSW.out _ HKD.out; clear hk1)
      | (go_at_call 20; refine (SZ.out _ (HK2.out.tr HKD.out)).mono ?_; rintro e w1 ⟨rfl, hk1⟩; have HKD := Lib.hid (HKD.out.tr hk1); have hss := HSW.out _ HKD.out; clear hk1)
      | (go_at_call 8; refine (add_z _ _ _ (by first | omega | exact ⟨g1.out.1, by have := g1.out.2.1; omega⟩ | exact ⟨g2.out.1, by have := g2.out.2.1; omega⟩) (by first | omega | exact ⟨g1.out.1, by have := g1.out.2.1; omega⟩ | exact ⟨g2.out.1, by have := g2.out.2.1; omega⟩)).mono ?_; rintro e w1 ⟨rfl, rfl⟩))
  have HK3 := Lib.hid (HK2.out.tr HKD.out)
  have AW := Lib.hid (awake_any w1 ((HEW.out.kept HK3.out fun _ _ => trivial).le HK3.out.size))
  clear hss HSW TO SZ ht2 hz2
  go_wp2_with fail
  refine AW.out.mono ?_
  rintro e w2 ⟨rfl, hk2⟩
  have HK4 := Lib.hid (HK3.out.tr hk2)
  have HBA4 := Lib.hid (HBA.out.kept (HKD.out.tr hk2) trivial)
  have HBM4 := Lib.hid (HBM.out.kept (HKD.out.tr hk2) trivial)
  have P1 := Lib.hid (prints_ms HEW.out HK4.out (HMV.out.kept HK4.out) (HAV.out.kept HK4.out))
  obtain ⟨d0, d1, d2⟩ := HBA4.out.facts
  obtain ⟨c0, c1, c2, c3⟩ := HBM4.out.facts
  clear hk2 g1 g2 hq hW1 hW2
  go_wp2_with fail
  refine P1.out.mono ?_
  rintro e w3 ⟨rfl, hk3⟩
  have HK5 := Lib.hid (HK4.out.tr hk3)
  have HBA5 := Lib.hid (HBA4.out.kept hk3 trivial)
  have HBM5 := Lib.hid (HBM4.out.kept hk3 trivial)
  have MS := Lib.hid (message_any2 m p mb fs (.slice ma fs.length mc) w3 (HMV.out.kept HK5.out).1 HMV.out.2.1 HMV.out.2.2.1.1 HMV.out.2.2.1.2.1 HMV.out.2.2.1.2.2)
  clear hk3 c0 c1 c2 c3 d0 d1 d2
  obtain ⟨c0, c1, c2, c3⟩ := HBM5.out.facts
  go_wp2_with fail
  refine MS.out.mono ?_
  rintro e w4 ⟨⟨X, xv, rfl, n1, n2, n3, n4, n5⟩, hk4⟩
  have hrx := rowf_of n1
  obtain ⟨xa, xc, rfl⟩ := rowf_slice n1
  obtain ⟨WA, hWA⟩ : ∃ W, w4.alloc (.cells #[S X.m, S X.p, .slice xa X.hs.length xc, S X.body] 50) = W := ⟨_, rfl⟩
  have hkA : Kept (fun _ => True) w4 WA := by rw [← hWA]; exact (Kept.refl _ w4).alloc _
  have hbx : four w4.heap.size X.m X.p (.slice xa X.hs.length xc) X.body WA := by rw [← hWA]; exact heap_alloc_new w4 _
  have HK6 := Lib.hid ((HK5.out.tr hk4).tr hkA)
  have HBA6 := Lib.hid (HBA5.out.kept (hk4.tr hkA) trivial)
  have HBM6 := Lib.hid (HBM5.out.kept (hk4.tr hkA) trivial)
  have HBX6 := Lib.hid hbx
  have HXV := Lib.hid ((msV_of hrx n4 n2 n3).kept hkA)
  have HXL := Lib.hid n5
  have AN := Lib.hid (answer_any st ab gs (.slice aa gs.length ac) WA hst (HAV.out.kept HK6.out).1 HAV.out.2.1 HAV.out.2.2.1)
  clear c0 c1 c2 c3 n1 n2 n3 n4 n5 hk4 hkA hrx hbx MS
  obtain ⟨d0, d1, d2⟩ := HBA6.out.facts
  go_wp2_with fail
  refine AN.out.mono ?_
  rintro e w5 ⟨⟨sy, ys, yb, yv, rfl, n1, n2, n3, n4⟩, hk5⟩
  have hry := rowf_of n1
  obtain ⟨ya, yc, rfl⟩ := rowf_slice n1
  obtain ⟨WB, hWB⟩ : ∃ W, w5.alloc (.cells #[.int .i64 sy, .slice ya ys.length yc, S yb] 56) = W := ⟨_, rfl⟩
  have hkB : Kept (fun _ => True) w5 WB := by rw [← hWB]; exact (Kept.refl _ w5).alloc _
  have hby : three w5.heap.size sy (.slice ya ys.length yc) yb WB := by rw [← hWB]; exact heap_alloc_new w5 _
  have HK7 := Lib.hid ((HK6.out.tr hk5).tr hkB)
  have HBA7 := Lib.hid (HBA6.out.kept (hk5.tr hkB) trivial)
  have HBM7 := Lib.hid (HBM6.out.kept (hk5.tr hkB) trivial)
  have HBX7 := Lib.hid (HBX6.out.kept (hk5.tr hkB) trivial)
  have HBY7 := Lib.hid hby
  have HXV7 := Lib.hid (HXV.out.kept (hk5.tr hkB))
  have HYL : Hid (ys.length ≤ 32) := Lib.hid (restOk_len n4)
  have HYV7 : Hid (AnV ⟨sy, ys, yb⟩ (.slice ya ys.length yc) WB) := Lib.hid ⟨hry.kept hkB fun _ _ _ => trivial, (restOk_sml n4).1, (restOk_sml n4).2, by have := restOk_len n4; show ys.length ≤ 68719476736; omega⟩
  have P2 := Lib.hid (prints_ms HEW.out HK7.out HXV7.out HYV7.out)
  clear d0 d1 d2 n1 n2 n3 n4 hk5 hkB hry hby AN hWA
  obtain ⟨c0, c1, c2, c3⟩ := HBX7.out.facts
  obtain ⟨d0, d1, d2⟩ := HBY7.out.facts
  go_wp2_with fail
  refine P2.out.mono ?_
  rintro e w6 ⟨rfl, hk6⟩
  have HK8 := Lib.hid (HK7.out.tr hk6)
  have HBA8 := Lib.hid (HBA7.out.kept hk6 trivial)
  have HBM8 := Lib.hid (HBM7.out.kept hk6 trivial)
  have HBX8 := Lib.hid (HBX7.out.kept hk6 trivial)
  have HBY8 := Lib.hid (HBY7.out.kept hk6 trivial)
  have HXV8 := Lib.hid (HXV7.out.kept hk6)
  have HYV8 := Lib.hid (HYV7.out.kept hk6)
  clear c0 c1 c2 c3 d0 d1 d2 hk6 hWB
  obtain ⟨WZ, hWZ⟩ : ∃ W, w6.alloc (.cells #[S X.m, S X.p, .slice xa X.hs.length xc, S X.body] 50) = W := ⟨_, rfl⟩
  obtain ⟨WV, hWV⟩ : ∃ W, WZ.alloc (.cells #[.int .i64 sy, .slice ya ys.length yc, S yb] 56) = W := ⟨_, rfl⟩
  have hkZ : Kept (fun _ => True) w6 WZ := by rw [← hWZ]; exact (Kept.refl _ w6).alloc _
  have hkV : Kept (fun _ => True) WZ WV := by rw [← hWV]; exact (Kept.refl _ WZ).alloc _
  have hbz : four w6.heap.size X.m X.p (.slice xa X.hs.length xc) X.body WV := four.kept (by rw [← hWZ]; exact heap_alloc_new w6 _) hkV trivial
  have hbv : three WZ.heap.size sy (.slice ya ys.length yc) yb WV := by rw [← hWV]; exact heap_alloc_new WZ _
  have hkZV := hkZ.tr hkV
  have HK9 := Lib.hid (HK8.out.tr hkZV)
  have HBZ := Lib.hid hbz
  have HBV := Lib.hid hbv
  have HBM9 := Lib.hid (HBM8.out.kept hkZV trivial)
  have HBA9 := Lib.hid (HBA8.out.kept hkZV trivial)
  have HBX9 := Lib.hid (HBX8.out.kept hkZV trivial)
  have HBY9 := Lib.hid (HBY8.out.kept hkZV trivial)
  have HXR : Hid (RowF (· < w6.heap.size) WV (.slice xa X.hs.length xc) X.hs) := Lib.hid ((HXV8.out.1.mono fun b hb _ => hb).kept hkZV fun _ _ _ => trivial)
  have HYR : Hid (RowF (· < w6.heap.size) WV (.slice ya ys.length yc) ys) := Lib.hid ((HYV8.out.1.mono fun b hb _ => hb).kept hkZV fun _ _ _ => trivial)
  have HMR : Hid (RowF (· < w6.heap.size) WV (.slice ma fs.length mc) fs) := Lib.hid (((HMV.out.kept HK8.out).1.mono fun b hb _ => hb).kept hkZV fun _ _ _ => trivial)
  have HZV : Hid (w6.heap.size < WZ.heap.size) := Lib.hid (by rw [← hWZ]; simp)
  obtain ⟨c0, c1, c2, c3⟩ := HBX8.out.facts
  obtain ⟨d0, d1, d2⟩ := (HBY8.out.kept hkZ trivial).facts
  clear hkZ hkV hkZV hbz hbv
  have PK := Lib.hid (pick_is wh 5 WV hwh (by decide))
  have hpl := pickZ_lt wh 5 (by decide)
  obtain ⟨pc, hpc⟩ : ∃ c, pickZ wh 5 = c := ⟨_, rfl⟩
  rw [hpc] at PK hpl
  clear hpc
  go_wp2_with fail
  refine PK.out.mono ?_
  rintro e w7 ⟨rfl, rfl⟩
  clear c0 c1 c2 c3 d0 d1 d2 hWZ hWV PK
  have HVX := Lib.hid (And.intro HXV8.out.2 HYV8.out.2)
  have HVM := Lib.hid (And.intro HMV.out.2 HAV.out.2)
  obtain ⟨z0, z1, z2, z3⟩ := HBZ.out.facts
  obtain ⟨v0, v1, v2⟩ := HBV.out.facts
  have fz0 := frozen_row HBZ.out 0
  have fz1 := frozen_row HBZ.out 1
  have fz2 := frozen_row HBZ.out 2
  have fz3 := frozen_row HBZ.out 3
  obtain ⟨c0, c1, c2, c3⟩ := HBM9.out.facts
  obtain ⟨d0, d1, d2⟩ := HBA9.out.facts
  obtain ⟨x0, x1, x2, x3⟩ := HBX9.out.facts
  obtain ⟨y0, y1, y2⟩ := HBY9.out.facts
  go_upto_block 0 with fail
  go_cut [] (fun wx => ∃ (Z : Msg) (zv : Value) (V : Ans) (vv : Value), Hid (four w6.heap.size Z.m Z.p zv Z.body wx ∧ MsV Z zv wx) ∧ Hid (three WZ.heap.size V.st vv V.body wx ∧ AnV V vv wx) ∧ Hid (Kept (fun b => b ≠ w6.heap.size ∧ b ≠ WZ.heap.size) w7 wx))
  case first =>
    have hcs : pc = 0 ∨ pc = 1 ∨ pc = 2 ∨ pc = 3 ∨ pc = 4 := by omega
    have HXQ : Hid (∀ wx, Kept (fun b => b ≠ w6.heap.size ∧ b ≠ WZ.heap.size) w7 wx → RowF (fun _ => True) wx (.slice xa X.hs.length xc) X.hs ∧ RowF (fun _ => True) wx (.slice ya ys.length yc) ys) := Lib.hid fun wx hk =>
      ⟨(HXR.out.kept hk fun b _ hb => by have := HZV.out; omega).mono fun _ _ _ => trivial, (HYR.out.kept hk fun b _ hb => by have := HZV.out; omega).mono fun _ _ _ => trivial⟩
    have HLT : Hid (W1.heap.size < w6.heap.size ∧ w.heap.size < w6.heap.size ∧ w4.heap.size < w6.heap.size ∧ w5.heap.size < w6.heap.size) := Lib.hid ⟨HBA8.out.lt, HBM8.out.lt, HBX8.out.lt, HBY8.out.lt⟩
    have hnz : w6.heap.size ≠ WZ.heap.size := by have := HZV.out; omega
    rcases hcs with rfl | rfl | rfl | rfl | rfl
    · obtain ⟨WE1, hWE1⟩ : ∃ W, w7.setCell ⟨w6.heap.size, 0, none⟩ (S m) = W := ⟨_, rfl⟩
      have k1 : Kept (· ≠ w6.heap.size) w7 WE1 := by rw [← hWE1]; exact kset _ _ _
      have hb1 : four w6.heap.size m X.p (.slice xa X.hs.length xc) X.body WE1 := by rw [← hWE1]; exact setFour0 HBZ.out m
      have hv1 := HBV.out.kept k1 hnz.symm
      obtain ⟨WE2, hWE2⟩ : ∃ W, WE1.setCell ⟨WZ.heap.size, 0, none⟩ (.int .i64 st) = W := ⟨_, rfl⟩
      have k2 : Kept (· ≠ WZ.heap.size) WE1 WE2 := by rw [← hWE2]; exact kset _ _ _
      have hv2 : three WZ.heap.size st (.slice ya ys.length yc) yb WE2 := by rw [← hWE2]; exact setThree0 hv1 st
      have HKF : Hid (Kept (fun b => b ≠ w6.heap.size ∧ b ≠ WZ.heap.size) w7 WE2) := Lib.hid ((k1.mono fun i _ h => h.1).trans k2 fun i _ h => h.2)
      have HB2 := Lib.hid (hb1.kept k2 hnz)
      have HV2 := Lib.hid hv2
      obtain ⟨e0, e1, e2⟩ := (HBA9.out.kept k1 (by have := HLT.out.1; omega)).facts
      obtain ⟨f0, f1, f2⟩ := hv1.facts
      have fw0 := frozen_row hv1 0
      clear k1 k2 hb1 hv1 hv2
      go_wp2
      go_meet
      exact ⟨⟨m, X.p, X.hs, X.body⟩, _, ⟨st, ys, yb⟩, _, Lib.hid ⟨HB2.out, (HXQ.out _ HKF.out).1, HVX.out.1.1, ⟨HVM.out.1.2.1.1, HVX.out.1.2.1.2⟩, HVX.out.1.2.2⟩, Lib.hid ⟨HV2.out, (HXQ.out _ HKF.out).2, HVX.out.2⟩, HKF⟩
    · obtain ⟨WE1, hWE1⟩ : ∃ W, w7.setCell ⟨w6.heap.size, 1, none⟩ (S p) = W := ⟨_, rfl⟩
      have k1 : Kept (· ≠ w6.heap.size) w7 WE1 := by rw [← hWE1]; exact kset _ _ _
      have hb1 : four w6.heap.size X.m p (.slice xa X.hs.length xc) X.body WE1 := by rw [← hWE1]; exact setFour1 HBZ.out p
      have HV2 := Lib.hid (HBV.out.kept k1 hnz.symm)
      have HKF : Hid (Kept (fun b => b ≠ w6.heap.size ∧ b ≠ WZ.heap.size) w7 WE1) := Lib.hid (k1.mono fun i _ h => h.1)
      have HB2 := Lib.hid hb1
      clear k1 hb1
      go_wp2
      go_meet
      exact ⟨⟨X.m, p, X.hs, X.body⟩, _, ⟨sy, ys, yb⟩, _, Lib.hid ⟨HB2.out, (HXQ.out _ HKF.out).1, HVX.out.1.1, ⟨HVX.out.1.2.1.1, HVM.out.1.2.1.2.1, HVX.out.1.2.1.2.2⟩, HVX.out.1.2.2⟩, Lib.hid ⟨HV2.out, (HXQ.out _ HKF.out).2, HVX.out.2⟩, HKF⟩
    · obtain ⟨WE1, hWE1⟩ : ∃ W, w7.setCell ⟨w6.heap.size, 3, none⟩ (S mb) = W := ⟨_, rfl⟩
      have k1 : Kept (· ≠ w6.heap.size) w7 WE1 := by rw [← hWE1]; exact kset _ _ _
      have hb1 : four w6.heap.size X.m X.p (.slice xa X.hs.length xc) mb WE1 := by rw [← hWE1]; exact setFour3 HBZ.out mb
      have hv1 := HBV.out.kept k1 hnz.symm
      obtain ⟨WE2, hWE2⟩ : ∃ W, WE1.setCell ⟨WZ.heap.size, 2, none⟩ (S ab) = W := ⟨_, rfl⟩
      have k2 : Kept (· ≠ WZ.heap.size) WE1 WE2 := by rw [← hWE2]; exact kset _ _ _
      have hv2 : three WZ.heap.size sy (.slice ya ys.length yc) ab WE2 := by rw [← hWE2]; exact setThree2 hv1 ab
      have HKF : Hid (Kept (fun b => b ≠ w6.heap.size ∧ b ≠ WZ.heap.size) w7 WE2) := Lib.hid ((k1.mono fun i _ h => h.1).trans k2 fun i _ h => h.2)
      have HB2 := Lib.hid (hb1.kept k2 hnz)
      have HV2 := Lib.hid hv2
      obtain ⟨e0, e1, e2⟩ := (HBA9.out.kept k1 (by have := HLT.out.1; omega)).facts
      obtain ⟨f0, f1, f2⟩ := hv1.facts
      have fw2 := frozen_row hv1 2
      clear k1 k2 hb1 hv1 hv2
      go_wp2
      go_meet
      exact ⟨⟨X.m, X.p, X.hs, mb⟩, _, ⟨sy, ys, ab⟩, _, Lib.hid ⟨HB2.out, (HXQ.out _ HKF.out).1, HVX.out.1.1, ⟨HVX.out.1.2.1.1, HVX.out.1.2.1.2.1, HVM.out.1.2.1.2.2⟩, HVX.out.1.2.2⟩, Lib.hid ⟨HV2.out, (HXQ.out _ HKF.out).2, HVX.out.2.1, HVM.out.2.2.1, HVX.out.2.2.2⟩, HKF⟩
    · by_cases hfl : fs.length = 0
      · have hfz : ¬ (0 : Int) < (fs.length : Int) := by omega
        have hfz2 : ¬ 0 < fs.length := by omega
        have HKF : Hid (Kept (fun b => b ≠ w6.heap.size ∧ b ≠ WZ.heap.size) w7 w7) := Lib.hid (Kept.refl _ _)
        clear hfl
        go_wp2
        go_meet
        exact ⟨X, _, ⟨sy, ys, yb⟩, _, Lib.hid ⟨HBZ.out, (HXQ.out _ HKF.out).1, HVX.out.1⟩, Lib.hid ⟨HBV.out, (HXQ.out _ HKF.out).2, HVX.out.2⟩, HKF⟩
      · have hf1 : (0 : Int) < (fs.length : Int) := by omega
        have hf2 : 0 < fs.length := by omega
        have hx1 : (0 : Int) < (X.hs.length : Int) := by have := HXL.out; omega
        have hx2 : 0 < X.hs.length := by omega
        have hx32 : X.hs.length ≤ 32 ∧ X.hs.length ≤ fs.length := by have := HXL.out; omega
        have PK2 := Lib.hid (pick_is wh X.hs.length w7 hwh ⟨hx2, by omega⟩)
        have hpl2 := pickZ_lt wh X.hs.length hx2
        obtain ⟨pz, hpz⟩ : ∃ c, pickZ wh X.hs.length = c := ⟨_, rfl⟩
        rw [hpz] at PK2 hpl2
        clear hpz
        have hn1 : 0 + X.hs.length ≤ 1099511627776 := by omega
        obtain ⟨f, hf⟩ : ∃ f, fs[pz]? = some f := ⟨_, List.getElem?_eq_getElem (by omega)⟩
        have HF := Lib.hid hf
        have HSX := Lib.hid (HVX.out.1)
        clear hf hfl
        have HMW : Hid (∀ wx, Kept (fun b => b ≠ w6.heap.size ∧ b ≠ WZ.heap.size) w7 wx → RowF (· < w6.heap.size) wx (.slice ma fs.length mc) fs ∧ four w.heap.size m p (.slice ma fs.length mc) mb wx) := Lib.hid fun wx hk =>
          ⟨HMR.out.kept hk fun b _ hb => by have := HZV.out; omega, HBM9.out.kept hk (by have := HLT.out; have := HZV.out; omega)⟩
        go_wp2_with fail
        refine PK2.out.mono ?_
        rintro e w7' ⟨rfl, rfl⟩
        go_upto_region 24 with (at_builtin; refine wpList_pushAll 48 61 Tryz.underlying48 infoField rfl (by decide) rfl _ _ rfl w7'.heap.size (.slice none 0 0) 0 [] (.slice xa X.hs.length xc) X.hs.length (fieldCells X.hs) (fieldCells_len X.hs) (ones_F X.hs) rfl rfl HXR.out.rdF (World.ownsRow_nil _ _ _ _) hn1 (by decide) (Nat.le_refl _) ?_; intro v1 w8 k1 k2 k3; rw [Nat.zero_add, List.nil_append] at k1; have HK8' : Hid (Kept (fun _ => True) w7' w8) := Lib.hid (Kept.of_below k2 (Nat.le_refl _)); have HO8 := Lib.hid k1; obtain ⟨va1, vc1, rfl⟩ := row_slice k1; have hb8 := HBZ.out.kept HK8'.out trivial; obtain ⟨q0, q1, q2, q3⟩ := hb8.facts; have fq2 := frozen_row hb8 2; clear k1 k2 k3)
        obtain ⟨WA1, hWA1⟩ : ∃ W, w8.setCell ⟨w6.heap.size, 2, none⟩ (.slice va1 X.hs.length vc1) = W := ⟨_, rfl⟩
        have hb8 := HBZ.out.kept HK8'.out trivial
        have kz : Kept (· ≠ w6.heap.size) w8 WA1 := by rw [← hWA1]; exact kset _ _ _
        have hbz1 : four w6.heap.size X.m X.p (.slice va1 X.hs.length vc1) X.body WA1 := by rw [← hWA1]; exact setFour hb8 _
        obtain ⟨g, cap, cur, eg, hBg, hg, -⟩ : ∃ g cap cur, Value.slice va1 X.hs.length vc1 = .slice (some ⟨g, 0, none⟩) X.hs.length cap ∧ w7'.heap.size ≤ g ∧ w8.heap[g]? = some (.cells cur 61 (0, 0)) ∧ True := by
          rcases HO8.out.2 with ⟨e, h0⟩ | ⟨g, cap, cur, e, hB, hg, _⟩
          · omega
          · exact ⟨g, cap, cur, e, hB, hg, trivial⟩
        obtain ⟨rfl, rfl⟩ : va1 = some ⟨g, 0, none⟩ ∧ vc1 = cap := by simpa using eg
        have hgz : g ≠ w6.heap.size := ty_ne hg hb8 (by decide)
        have hg1 : WA1.heap[g]? = some (.cells cur 61 (0, 0)) := (kz.block g (Array.getElem?_eq_some_iff.1 hg).1 hgz).trans hg
        have hrow1 : RowF (fun _ => True) WA1 (.slice (some ⟨g, 0, none⟩) X.hs.length vc1) X.hs := rowf_of (ownsRow_kept HO8.out kz fun b hb => by
          obtain rfl : g = b := by simpa [Value.ownBlock] using hb
          exact hgz)
        have HKA : Hid (Kept (fun b => b ≠ w6.heap.size ∧ b ≠ WZ.heap.size) w7' WA1) := Lib.hid ((HK8'.out.mono fun _ _ _ => trivial).trans kz fun i _ h => h.1)
        obtain ⟨hmr, hm4⟩ := HMW.out _ HKA.out
        obtain ⟨mb', mo, hme, hmbl, hmbo, f', hf', r0, r1⟩ := hmr.at (j := pz) (by omega)
        obtain rfl : f = f' := by have h := HF.out; rw [hf'] at h; exact (Option.some.inj h).symm
        have HIX : ∀ W, (Instr.indexAt 48 (.slice ma fs.length mc) (.int .i64 (pz : Int))).run Tryz.prog W = .ok (.pointer (some ⟨mb', mo + pz * 2, none⟩)) W := index_row hme (by omega)
        clear hme
        obtain ⟨f1, f2⟩ := f
        simp only at r0 r1
        have hput0 := RowF.put (f1, f2) hrow1 hpl2
        simp only [Nat.zero_add] at hput0
        have hput : RowF (fun _ => True) ((WA1.setCell ⟨g, pz * 2, none⟩ (S f1)).setCell ⟨g, pz * 2 + 1, none⟩ (S f2)).drew (.slice (some ⟨g, 0, none⟩) X.hs.length vc1) (X.hs.set pz (f1, f2)) := hput0.kept ((Kept.refl (fun _ => True) _).drew) fun _ _ _ => trivial
        clear hput0
        obtain ⟨b0, o0, he0, hbl0, -, f0', hf0', s0, s1⟩ := hrow1.at (j := pz) hpl2
        obtain ⟨rfl, rfl⟩ : g = b0 ∧ 0 = o0 := by simpa using he0
        simp only [Nat.zero_add] at s0 s1
        have hss : PT w6.heap.size w.heap.size mb' (mo + pz * 2) (.slice (some ⟨g, 0, none⟩) X.hs.length vc1) (.slice ma fs.length mc) f1 f2 WA1.drew := ⟨hbz1.facts.2.2.1, hm4.facts.2.2.1, r0, r1⟩
        have HKF : Hid (Kept (fun b => b ≠ w6.heap.size ∧ b ≠ WZ.heap.size) w7' ((WA1.setCell ⟨g, pz * 2, none⟩ (S f1)).setCell ⟨g, pz * 2 + 1, none⟩ (S f2)).drew) := Lib.hid ((HKA.out.setCell (p := ⟨g, pz * 2, none⟩) (.inl hBg) _).setCell (p := ⟨g, pz * 2 + 1, none⟩) (.inl hBg) _).drew
        have hkg : Kept (· ≠ g) WA1 ((WA1.setCell ⟨g, pz * 2, none⟩ (S f1)).setCell ⟨g, pz * 2 + 1, none⟩ (S f2)).drew := (((Kept.refl _ WA1).setCell (p := ⟨g, pz * 2, none⟩) (.inr (by simp)) _).setCell (p := ⟨g, pz * 2 + 1, none⟩) (.inr (by simp)) _).drew
        have HB2 := Lib.hid (hbz1.kept hkg hgz.symm)
        have hss2 : PT w6.heap.size w.heap.size mb' (mo + pz * 2) (.slice (some ⟨g, 0, none⟩) X.hs.length vc1) (.slice ma fs.length mc) f1 f2 ((WA1.setCell ⟨g, pz * 2, none⟩ (S f1)).setCell ⟨g, pz * 2 + 1, none⟩ (S f2)).drew :=
          ⟨(hbz1.kept hkg hgz.symm).facts.2.2.1, (hm4.kept hkg (ty_ne hm4 hg1 (by decide))).facts.2.2.1, (hkg.cell hmbl (by have h1 := HBV.out.lt; have h2 := HZV.out; omega)).trans r0, (hkg.cell hmbl (by have h1 := HBV.out.lt; have h2 := HZV.out; omega)).trans r1⟩
        have bz1 : (0 : Int) ≤ (pz : Int) := by omega
        have bz2 : (pz : Int) < (fs.length : Int) := by omega
        have bz3 : (pz : Int) < (X.hs.length : Int) := by omega
        have HV2 := Lib.hid (((HBV.out.kept HK8'.out trivial).kept kz hnz.symm).kept hkg (by have := HBV.out.lt; omega))
        have HPUT := Lib.hid hput
        have HSF : Hid (SmlF (X.hs.set pz (f1, f2)) ∧ (X.hs.set pz (f1, f2)).length ≤ 68719476736) := Lib.hid ⟨⟨by rw [List.length_set]; exact HSX.out.1.1, fun x hx => (List.mem_or_eq_of_mem_set hx).elim (fun h => HSX.out.1.2 x h) fun h => by rw [h]; exact HVM.out.1.1.2 _ (List.mem_of_getElem? HF.out)⟩, by rw [List.length_set]; omega⟩
        have fg0 := frozen_row hg1 (pz * 2)
        have fg1 := frozen_row hg1 (pz * 2 + 1)
        obtain ⟨a0, a1, a2, a3⟩ := hbz1.facts
        obtain ⟨e0, e1, e2, e3⟩ := hm4.facts
        clear hput hkg hrow1 hmr hm4 hbz1 kz hg hg1 hb8 HO8 hf' hf0'
        rw [hWA1]
        go_region_held3 (fun wz => PT w6.heap.size w.heap.size mb' (mo + pz * 2) (.slice (some ⟨g, 0, none⟩) X.hs.length vc1) (.slice ma fs.length mc) f1 f2 wz) (first | exact hss | exact hss2 | go_keep) (fail)
        go_wp2
        go_meet
        exact ⟨⟨X.m, X.p, X.hs.set pz (f1, f2), X.body⟩, .slice (some ⟨g, 0, none⟩) X.hs.length vc1, ⟨sy, ys, yb⟩, _, Lib.hid ⟨HB2.out, HPUT.out, HSF.out.1, HSX.out.2.1, HSF.out.2⟩, Lib.hid ⟨HV2.out, (HXQ.out _ HKF.out).2, HVX.out.2⟩, HKF⟩
    · have hn1 : 0 + X.hs.length ≤ 1099511627776 := by have := HVX.out.1.2.2; omega
      have hn2 : X.hs.length + ys.length ≤ 1099511627776 := by have h1 := HVX.out.1.2.2; have h2 : ys.length ≤ 68719476736 := HVX.out.2.2.2; omega
      have hnn : X.hs.length + ys.length ≤ 68719476736 := by have h1 := HXL.out; have h2 := HYL.out; omega
      have hss : w7.drew.cell? ⟨w4.heap.size, 2, none⟩ = some (.slice xa X.hs.length xc) ∧ w7.drew.cell? ⟨w5.heap.size, 1, none⟩ = some (.slice ya ys.length yc) := ⟨x2, y1⟩
      have HXD : Hid (RowF (· < w6.heap.size) w7.drew (.slice xa X.hs.length xc) X.hs) := Lib.hid (HXR.out.kept ((Kept.refl (fun _ => True) w7).drew) fun _ _ _ => trivial)
      go_wp2
      go_region_held3 (fun wz => wz.cell? ⟨w4.heap.size, 2, none⟩ = some (.slice xa X.hs.length xc) ∧ wz.cell? ⟨w5.heap.size, 1, none⟩ = some (.slice ya ys.length yc)) (first | exact hss | exact hss3 | go_keep)
        (first
          | (refine step_pushAll 48 61 Tryz.underlying48 infoField rfl (by decide) rfl _ _ rfl w7.drew.heap.size (.slice none 0 0) 0 [] (.slice xa X.hs.length xc) X.hs.length (fieldCells X.hs) (fieldCells_len X.hs) (ones_F X.hs) rfl rfl HXD.out.rdF (World.ownsRow_nil _ _ _ _) hn1 (by decide) (Nat.le_refl _) ?_; intro v1 w8 k1 k2 k3; rw [Nat.zero_add, List.nil_append] at k1; have HK8' : Hid (Kept (fun _ => True) w7 w8) := Lib.hid (((Kept.refl _ w7).drew).tr (Kept.of_below k2 (Nat.le_refl _))); have HO8 := Lib.hid k1; obtain ⟨va1, vc1, rfl⟩ := row_slice k1; have hss := And.intro (HBX9.out.kept HK8'.out trivial).facts.2.2.1 (HBY9.out.kept HK8'.out trivial).facts.2.1; have HYR8 : Hid (RowF (· < w6.heap.size) w8 (.slice ya ys.length yc) ys) := Lib.hid (HYR.out.kept HK8'.out fun _ _ _ => trivial); have hwz8 := HK8'.out.size; clear k1 k2 k3)
          | (refine step_pushAll 48 61 Tryz.underlying48 infoField rfl (by decide) rfl _ _ rfl w7.drew.heap.size (.slice va1 X.hs.length vc1) X.hs.length (fieldCells X.hs) (.slice ya ys.length yc) ys.length (fieldCells ys) (fieldCells_len ys) (ones_F ys) rfl rfl HYR8.out.rdF HO8.out hn2 (by decide) hwz8 ?_; intro v2 w9 k1 k2 k3; have HK9' : Hid (Kept (fun _ => True) w7 w9) := Lib.hid (HK8'.out.trans (Kept.of_belowB k2) fun i hi _ => hi); have HO9 := Lib.hid k1; obtain ⟨va2, vc2, rfl⟩ := row_slice k1; have hb9 := HBZ.out.kept HK9'.out trivial; obtain ⟨s0, s1, s2, s3⟩ := hb9.facts; have fs2 := frozen_row hb9 2; have hss := And.intro (HBX9.out.kept HK9'.out trivial).facts.2.2.1 (HBY9.out.kept HK9'.out trivial).facts.2.1; have hss3 := And.intro ((HBX9.out.kept HK9'.out trivial).kept (kset w6.heap.size 2 (.slice va2 (X.hs.length + ys.length) vc2)) (by have := HLT.out; omega)).facts.2.2.1 ((HBY9.out.kept HK9'.out trivial).kept (kset w6.heap.size 2 (.slice va2 (X.hs.length + ys.length) vc2)) (by have := HLT.out; omega)).facts.2.1; clear k1 k2 k3 hb9))
      have kz : Kept (· ≠ w6.heap.size) w9 (w9.setCell ⟨w6.heap.size, 2, none⟩ (.slice va2 (X.hs.length + ys.length) vc2)) := kset _ _ _
      have HB2 : Hid (four w6.heap.size X.m X.p (.slice va2 (X.hs.length + ys.length) vc2) X.body (w9.setCell ⟨w6.heap.size, 2, none⟩ (.slice va2 (X.hs.length + ys.length) vc2))) := Lib.hid (setFour (HBZ.out.kept HK9'.out trivial) _)
      have HKF : Hid (Kept (fun b => b ≠ w6.heap.size ∧ b ≠ WZ.heap.size) w7 (w9.setCell ⟨w6.heap.size, 2, none⟩ (.slice va2 (X.hs.length + ys.length) vc2))) := Lib.hid ((HK9'.out.mono fun _ _ _ => trivial).trans kz fun i _ h => h.1)
      have HV2 := Lib.hid ((HBV.out.kept HK9'.out trivial).kept kz hnz.symm)
      have HRZ : Hid (RowF (fun _ => True) (w9.setCell ⟨w6.heap.size, 2, none⟩ (.slice va2 (X.hs.length + ys.length) vc2)) (.slice va2 (X.hs.length + ys.length) vc2) (X.hs ++ ys)) := Lib.hid (rowf_of (B := w7.drew.heap.size) (by
        have h := HO9.out
        rw [← fieldCells_append, ← List.length_append] at h
        have hb9 := HBZ.out.kept HK9'.out trivial
        exact ownsRow_kept (by rw [← List.length_append]; exact h) kz fun b hb => by
          obtain ⟨cs, hc⟩ := own_cells HO9.out hb
          exact ty_ne hc hb9 (by decide)))
      have HSF : Hid (SmlF (X.hs ++ ys) ∧ (X.hs ++ ys).length ≤ 68719476736) := Lib.hid ⟨⟨by rw [List.length_append]; omega, fun x hx => (List.mem_append.1 hx).elim (fun h => HVX.out.1.1.2 x h) fun h => HVX.out.2.1.2 x h⟩, by rw [List.length_append]; exact hnn⟩
      clear kz
      go_wp2
      go_meet
      exact ⟨⟨X.m, X.p, X.hs ++ ys, X.body⟩, .slice va2 (X.hs.length + ys.length) vc2, ⟨sy, ys, yb⟩, _, Lib.hid ⟨HB2.out, HRZ.out, HSF.out.1, HVX.out.1.2.1, HSF.out.2⟩, Lib.hid ⟨HV2.out, (HXQ.out _ HKF.out).2, HVX.out.2⟩, HKF⟩
  case rest =>
  rename World => wS
  obtain ⟨Z, zv, V, vv, HZ, HV, HKs⟩ := hcut
  have HLT : Hid (W1.heap.size < w6.heap.size ∧ w.heap.size < w6.heap.size ∧ w4.heap.size < w6.heap.size ∧ w5.heap.size < w6.heap.size) := Lib.hid ⟨HBA8.out.lt, HBM8.out.lt, HBX8.out.lt, HBY8.out.lt⟩
  have HKS : Hid (Kept (fun _ => True) w wS) := Lib.hid (HK9.out.trans HKs.out fun i hi _ => by have := HLT.out; have := HZV.out; omega)
  have HBMs := Lib.hid (HBM9.out.kept HKs.out (by have := HLT.out; have := HZV.out; omega))
  have HBAs := Lib.hid (HBA9.out.kept HKs.out (by have := HLT.out; have := HZV.out; omega))
  have HBXs := Lib.hid (HBX9.out.kept HKs.out (by have := HLT.out; have := HZV.out; omega))
  have HBYs := Lib.hid (HBY9.out.kept HKs.out (by have := HLT.out; have := HZV.out; omega))
  have HXVs : Hid (MsV X (.slice xa X.hs.length xc) wS) := Lib.hid ⟨(HXR.out.kept HKs.out fun b _ hb => by have := HZV.out; omega).mono fun _ _ _ => trivial, HVX.out.1⟩
  have HYVs : Hid (AnV ⟨sy, ys, yb⟩ (.slice ya ys.length yc) wS) := Lib.hid ⟨(HYR.out.kept HKs.out fun b _ hb => by have := HZV.out; omega).mono fun _ _ _ => trivial, HVX.out.2⟩
  have P3 := Lib.hid (prints_ms HEW.out HKS.out HZ.out.2 HV.out.2)
  clear z0 z1 z2 z3 v0 v1 v2 fz0 fz1 fz2 fz3 c0 c1 c2 c3 d0 d1 d2 x0 x1 x2 x3 y0 y1 y2
  obtain ⟨c0, c1, c2, c3⟩ := HZ.out.1.facts
  obtain ⟨d0, d1, d2⟩ := HV.out.1.facts
  go_wp2_with fail
  refine P3.out.mono ?_
  rintro e w8 ⟨rfl, hk8⟩
  have HKa := Lib.hid (HKS.out.tr hk8)
  have H4 := Lib.hid (held_ms HEW.out HKa.out (HXVs.out.kept hk8) (HYVs.out.kept hk8))
  have HBMa := Lib.hid (HBMs.out.kept hk8 trivial)
  have HBAa := Lib.hid (HBAs.out.kept hk8 trivial)
  clear c0 c1 c2 c3 d0 d1 d2
  obtain ⟨c0, c1, c2, c3⟩ := (HBXs.out.kept hk8 trivial).facts
  obtain ⟨d0, d1, d2⟩ := (HBYs.out.kept hk8 trivial).facts
  clear hk8
  go_wp2_with fail
  refine H4.out.mono ?_
  rintro e w9 ⟨rfl, hk9⟩
  have HKb := Lib.hid (HKa.out.tr hk9)
  have H5 := Lib.hid (held_ms HEW.out HKb.out (HMV.out.kept HKb.out) (HAV.out.kept HKb.out))
  have HBMb := Lib.hid (HBMa.out.kept hk9 trivial)
  clear c0 c1 c2 c3 d0 d1 d2
  obtain ⟨c0, c1, c2, c3⟩ := HBMb.out.facts
  obtain ⟨d0, d1, d2⟩ := (HBAa.out.kept hk9 trivial).facts
  clear hk9
  go_wp2_with fail
  refine H5.out.mono ?_
  rintro e w10 ⟨rfl, hk10⟩
  have HKc := Lib.hid (HKb.out.tr hk10)
  have HBMc := Lib.hid (HBMb.out.kept hk10 trivial)
  have A1 := Lib.hid (wAll_any fs (.slice ma fs.length mc) nm w10 (HMV.out.kept HKc.out).1 HMV.out.2.1 HNM.out)
  clear c0 c1 c2 c3 d0 d1 d2 hk10
  obtain ⟨c0, c1, c2, c3⟩ := HBMc.out.facts
  go_wp2_with fail
  refine A1.out.mono ?_
  rintro e w11 ⟨⟨lv, rfl, ho1⟩, hk11⟩
  have HKd := Lib.hid (HKc.out.tr hk11)
  have HSZ1 := Lib.hid hk11.size
  have HBMd := Lib.hid (HBMc.out.kept hk11 trivial)
  have HO1 := Lib.hid ho1
  have A2 := Lib.hid (wAll_any fs (.slice ma fs.length mc) nm w11 (HMV.out.kept HKd.out).1 HMV.out.2.1 HNM.out)
  clear c0 c1 c2 c3 hk11 ho1
  obtain ⟨c0, c1, c2, c3⟩ := HBMd.out.facts
  go_wp2_with fail
  refine A2.out.mono ?_
  rintro e w12 ⟨⟨kv, rfl, ho2⟩, hk12⟩
  have HKe := Lib.hid (HKd.out.tr hk12)
  have HBMe := Lib.hid (HBMd.out.kept hk12 trivial)
  have HO1b := Lib.hid (HO1.out.keptN hk12 fun _ _ => trivial)
  have HO2 := Lib.hid ho2
  have HSZ2 := Lib.hid hk12.size
  have A3 := Lib.hid (refAll_any fs (.slice ma fs.length mc) nm w12 (HMV.out.kept HKe.out).1 HMV.out.2.1 HNM.out)
  clear c0 c1 c2 c3 hk12 ho2
  obtain ⟨c0, c1, c2, c3⟩ := HBMe.out.facts
  go_wp2_with fail
  refine A3.out.mono ?_
  rintro e w13 ⟨⟨nv, rfl, ho3⟩, hk13⟩
  have HKf := Lib.hid (HKe.out.tr hk13)
  have HO1c := Lib.hid (HO1b.out.keptN hk13 fun _ _ => trivial)
  have HO2c := Lib.hid (HO2.out.keptN hk13 fun _ _ => trivial)
  have HO3 := Lib.hid ho3
  have HKx := Lib.hid hk13
  have HLL : Hid ((allP fs nm).length ≤ fs.length) := Lib.hid (by have := allP_len fs nm fs.length; rwa [List.take_length] at this)
  have HL32 : Hid (fs.length ≤ 68719476736) := Lib.hid HMV.out.2.2.2
  have HSEP : Hid (w11.heap.size ≤ w12.heap.size ∧ ∀ b, lv.ownBlock = some b → b < w11.heap.size) := Lib.hid ⟨HSZ2.out, fun b hb => (HO1.out.lt b hb).2⟩
  obtain ⟨L, hL⟩ : ∃ L, allP fs nm = L := ⟨_, rfl⟩
  rw [hL] at HO1c HO2c HO3 HLL
  obtain ⟨la, lc, rfl⟩ := row_slice HO1c.out
  obtain ⟨ka, kc, rfl⟩ := row_slice HO2c.out
  obtain ⟨na, nc, rfl⟩ := row_slice HO3.out
  clear c0 c1 c2 c3 hk13 ho3 hL
  have HK13 := Lib.hid (HKe.out.tr HKx.out)
  have hLm : L.length ≤ 68719476736 := by have := HLL.out; have := HL32.out; omega
  have HSK : Hid (∀ b, (Value.slice la L.length lc).ownBlock = some b → (∀ b', (Value.slice ka L.length kc).ownBlock = some b' → b ≠ b') ∧ (∀ b', (Value.slice na L.length nc).ownBlock = some b' → b ≠ b')) := Lib.hid fun b hb => by
    have h1 := HSEP.out.2 b hb
    have h2 := HSEP.out.1
    exact ⟨fun b' hb' => by have := (HO2c.out.lt b' hb').1; omega, fun b' hb' => by have := (HO3.out.lt b' hb').1; omega⟩
  go_upto_block 1 with fail
  go_cut [] (fun wx => Hid (OwnS w10.heap.size (.slice la L.length lc) (L1 L L.length) wx) ∧ Hid (OwnS w11.heap.size (.slice ka L.length kc) L wx) ∧ Hid (OwnS w12.heap.size (.slice na L.length nc) L wx) ∧ Hid (Kept (fun _ => True) w wx ∧ w10.heap.size ≤ wx.heap.size))
  case first =>
    go_wp2_with fail
    go_loopg [23] L.length (fun q iv wr => ∃ j : Nat, iv = .int .i64 j ∧ q = L.length - j ∧ j ≤ L.length ∧ Hid (OwnS w10.heap.size (.slice la L.length lc) (L1 L j) wr) ∧ Hid (OwnS w11.heap.size (.slice ka L.length kc) L wr) ∧ Hid (OwnS w12.heap.size (.slice na L.length nc) L wr) ∧ Hid (Kept (fun _ => True) w wr ∧ w10.heap.size ≤ wr.heap.size))
    case atStart => exact ⟨0, rfl, rfl, Nat.zero_le _, Lib.hid (by simpa [L1] using HO1c.out), HO2c, HO3, Lib.hid ⟨HK13.out, by have h1 := HSZ1.out; have h2 := HSZ2.out; have h3 := HKx.out.size; omega⟩⟩
    case round =>
      obtain ⟨j, rfl, rfl, hj, HA, HB, HC, HK⟩ := hrel
      by_cases hlt : j < L.length
      · obtain ⟨b, hbe, hbB, hbl, fzb, x, hx, x0⟩ := HA.out.at (j := j) (by rw [L1_len hj]; exact hlt)
        obtain ⟨b2, hbe2, -, hbl2, -, x', hx', x1⟩ := HB.out.at hlt
        obtain ⟨b3, hbe3, -, hbl3, -, x'', hx'', x2⟩ := HC.out.at hlt
        rw [L1_at hlt] at hx
        obtain rfl : x = x' := by rw [hx] at hx'; exact Option.some.inj hx'
        obtain rfl : x = x'' := by rw [hx] at hx''; exact Option.some.inj hx''
        subst hbe hbe2 hbe3
        have hn2 : b ≠ b2 := (HSK.out b rfl).1 b2 rfl
        have hn3 : b ≠ b3 := (HSK.out b rfl).2 b3 rfl
        have HS : Hid (∀ m, OwnS w10.heap.size (.slice (some ⟨b, 0, none⟩) L.length lc) (L1 L (j + 1)) ((wr.drewN m).setCell ⟨b, j, none⟩ (S mkL)) ∧ OwnS w11.heap.size (.slice (some ⟨b2, 0, none⟩) L.length kc) L ((wr.drewN m).setCell ⟨b, j, none⟩ (S mkL)) ∧ OwnS w12.heap.size (.slice (some ⟨b3, 0, none⟩) L.length nc) L ((wr.drewN m).setCell ⟨b, j, none⟩ (S mkL)) ∧ Kept (fun _ => True) w ((wr.drewN m).setCell ⟨b, j, none⟩ (S mkL)) ∧ w10.heap.size ≤ ((wr.drewN m).setCell ⟨b, j, none⟩ (S mkL)).heap.size) := Lib.hid fun m => by
          have kd : Kept (fun _ => True) wr (wr.drewN m) := (Kept.refl _ wr).drewN m
          have ks : Kept (· ≠ b) (wr.drewN m) ((wr.drewN m).setCell ⟨b, j, none⟩ (S mkL)) := kset _ _ _
          have h1 := (HA.out.keptN kd fun _ _ => trivial).put j mkL
          rw [L1_set hlt] at h1
          exact ⟨h1, (HB.out.keptN kd fun _ _ => trivial).keptN ks (fun b' hb' => (Option.some.inj hb' : b2 = b') ▸ hn2.symm), (HC.out.keptN kd fun _ _ => trivial).keptN ks (fun b' hb' => (Option.some.inj hb' : b3 = b') ▸ hn3.symm),
            (HK.out.1.tr kd).setCell (.inl (by have := HKc.out.size; show w.heap.size ≤ b; omega)) _, Nat.le_trans HK.out.2 (Nat.le_trans kd.size ks.size)⟩
        have hi0 : (0 : Int) ≤ (j : Int) := by omega
        have hi1 : (j : Int) < (L.length : Int) := by omega
        have q1 : (x == x) = true := beq_self_eq_true x
        clear hx hx' hx''
        go_wp2
        go_quiet (fail)
        go_wp2
        go_roundg (L.length - (j + 1))
        case rel => exact ⟨j + 1, by go_num, rfl, by omega, Lib.hid (HS.out _).1, Lib.hid (HS.out _).2.1, Lib.hid (HS.out _).2.2.1, Lib.hid (HS.out _).2.2.2⟩
        case measure => omega
      · obtain rfl : j = L.length := by omega
        clear hlt
        go_wp2
        go_meet
        exact ⟨HA, HB, HC, HK⟩
  case rest =>
  rename World => w14
  obtain ⟨HA, HB, HC, HK14⟩ := hcut
  go_upto_block 3 with fail
  go_cut [] (fun wx => Hid (OwnS w11.heap.size (.slice ka L.length kc) L wx) ∧ Hid (OwnS w12.heap.size (.slice na L.length nc) L wx) ∧ Hid (Kept (fun _ => True) w wx))
  case first =>
    go_wp2_with fail
    go_loopg [20, 24] 9 (fun q lv iv wr => ∃ (j : Nat) (M : List (List UInt8)), iv = .int .i64 j ∧ q = 9 - j ∧ j ≤ 9 ∧ Hid (OwnS w10.heap.size lv M wr ∧ M.length = L.length + j ∧ ∀ b, lv.ownBlock = some b → (∀ b', (Value.slice ka L.length kc).ownBlock = some b' → b ≠ b') ∧ (∀ b', (Value.slice na L.length nc).ownBlock = some b' → b ≠ b')) ∧ Hid (OwnS w11.heap.size (.slice ka L.length kc) L wr) ∧ Hid (OwnS w12.heap.size (.slice na L.length nc) L wr) ∧ Hid (Kept (fun _ => True) w wr ∧ w10.heap.size ≤ wr.heap.size))
    case atStart => exact ⟨0, L1 L L.length, rfl, rfl, by omega, Lib.hid ⟨HA.out, L1_len (Nat.le_refl _), HSK.out⟩, HB, HC, HK14⟩
    case round =>
      clear HA HB HC
      obtain ⟨j, M', rfl, rfl, hj, HA, HB, HC, HK⟩ := hrel
      by_cases hlt : j < 9
      · obtain ⟨va, vc, rfl⟩ := row_slice HA.out.1
        have hM1 : M'.length + 1 ≤ 1099511627776 := by have := HA.out.2.1; omega
        have hwz : w10.heap.size ≤ wr.heap.size := HK.out.2
        go_wp2_with (at_builtin; refine wpList_pushOne' 62 9 Tryz.underlying62 infoStr rfl (by decide) rfl _ _ rfl w10.heap.size (.slice va M'.length vc) M'.length (M'.map S) [S mkL] wr _ rfl rfl rfl (by intro u hu; simp at hu; rw [hu]; rfl) 1 _ rfl rfl rfl HA.out.1 hM1 (by decide) hwz ?_; intro v' w3' k1 k2 k3; have HR : Hid (Lk w10.heap.size w11.heap.size w12.heap.size (.slice ka L.length kc) (.slice na L.length nc) L v' (M' ++ [mkL]) w3' ∧ Kept (fun _ => True) w w3' ∧ w10.heap.size ≤ w3'.heap.size) := Lib.hid (lk_push HA.out.1 HA.out.2.2 HB.out HC.out k1 k2 k3 |> fun h => ⟨h, HK.out.1.trans (Kept.of_belowB k2) fun i hi _ => (by have := HKc.out.size; omega), Nat.le_trans HK.out.2 k2.size⟩); clear k1 k2 k3)
        go_roundg (9 - (j + 1))
        case rel => exact ⟨j + 1, M' ++ [mkL], by go_num, rfl, by omega, Lib.hid ⟨HR.out.1.1, by rw [List.length_append, HA.out.2.1]; rfl, HR.out.1.2.1⟩, Lib.hid HR.out.1.2.2.1, Lib.hid HR.out.1.2.2.2, Lib.hid HR.out.2⟩
        case measure => omega
      · obtain rfl : j = 9 := by omega
        clear hlt
        go_wp2
        go_meet
        exact ⟨HB, HC, Lib.hid HK.out.1⟩
  case rest =>
  rename World => w15
  obtain ⟨HB15, HC15, HK15⟩ := hcut
  clear HA HB HC
  go_wp2_with fail
  go_loopg [25] L.length (fun q iv wr => ∃ j : Nat, iv = .int .i64 j ∧ q = L.length - j ∧ j ≤ L.length ∧ Hid (Kept (fun _ => True) w15 wr))
  case atStart => exact ⟨0, rfl, rfl, Nat.zero_le _, Lib.hid (Kept.refl _ _)⟩
  case round =>
    obtain ⟨j, rfl, rfl, hj, HK⟩ := hrel
    by_cases hlt : j < L.length
    · obtain ⟨b2, hbe2, -, hbl2, -, x, hx, x1⟩ := HB15.out.at hlt
      obtain ⟨b3, hbe3, -, hbl3, -, x', hx', x2⟩ := HC15.out.at hlt
      obtain rfl : x = x' := by rw [hx] at hx'; exact Option.some.inj hx'
      subst hbe2 hbe3
      replace x1 := (HK.out.cell hbl2 trivial).trans x1
      replace x2 := (HK.out.cell hbl3 trivial).trans x2
      have hi0 : (0 : Int) ≤ (j : Int) := by omega
      have hi1 : (j : Int) < (L.length : Int) := by omega
      have q1 : (x == x) = true := beq_self_eq_true x
      clear hx hx'
      go_wp2
      go_quiet (fail)
      go_wp2
      go_roundg (L.length - (j + 1))
      case rel => exact ⟨j + 1, by go_num, rfl, by omega, Lib.hid (HK.out.drewN _)⟩
      case measure => omega
    · obtain rfl : j = L.length := by omega
      have HKZ := Lib.hid (HK15.out.tr HK.out)
      clear hlt
      go_wp2
      go_ret
      exact ⟨rfl, HKZ.out⟩
end Go.Proofs.YtaomhkgdbobpkaaGreatDoor
