/- Walks of the law of layer 5, seventh part: a message and an answer made that may be. -/
import Derived.Test.YtaomhkgdbobpkaaGreatDoorWiL6
namespace Go.Proofs.YtaomhkgdbobpkaaGreatDoor
open Go.RowKit Wi

theorem fieldCells_at : ∀ {hs : List Fl} {j : Nat} {f : Fl}, hs[j]? = some f → (fieldCells hs)[j * 2]? = some (S f.1) ∧ (fieldCells hs)[j * 2 + 1]? = some (S f.2)
  | [], _, _, h => by simp at h
  | g :: hs, 0, f, h => by
    obtain rfl : g = f := by simpa using h
    exact ⟨rfl, rfl⟩
  | g :: hs, j + 1, f, h => by
    have := fieldCells_at (hs := hs) (j := j) (f := f) (by simpa using h)
    have e : fieldCells (g :: hs) = S g.1 :: S g.2 :: fieldCells hs := rfl
    rw [e, show (j + 1) * 2 = j * 2 + 1 + 1 by omega]
    exact this
theorem ownsRow_le {e : TypeId} {B C size n : Nat} {v : Value} {xs : List Value} {w : World} (h : w.ownsRow B e size v n xs) (hC : C ≤ B) : w.ownsRow C e size v n xs := by
  refine ⟨h.1, h.2.imp id ?_⟩
  rintro ⟨g, cap, cur, h1, hB, rest⟩
  exact ⟨g, cap, cur, h1, Nat.le_trans hC hB, rest⟩
/-- A row that is owned is a row of fields. -/
theorem rowf_of {B : Nat} {v : Value} {hs : List Fl} {w : World} (h : w.ownsRow B 61 2 v hs.length (fieldCells hs)) : RowF (fun _ => True) w v hs := by
  rcases h.2 with ⟨rfl, h0⟩ | ⟨g, cap, cur, rfl, hB, hg, hnc, hcap, hat⟩
  · exact .inl ⟨none, 0, by simp, List.eq_nil_of_length_eq_zero h0⟩
  · refine .inr ⟨g, 0, cap, rfl, hnc, trivial, (Array.getElem?_eq_some_iff.1 hg).1, fun j f hj => ?_⟩
    have hl : j < hs.length := (List.getElem?_eq_some_iff.1 hj).1
    obtain ⟨e0, e1⟩ := fieldCells_at hj
    rw [Nat.zero_add]
    exact ⟨(World.ownsRow.cellAt h (j * 2) (by omega)).trans e0, (World.ownsRow.cellAt h (j * 2 + 1) (by omega)).trans e1⟩
theorem path_of {v : List UInt8} (h1 : v.length ≤ 199) (h2 : ∀ c ∈ v, 33 ≤ c.toNat ∧ c.toNat ≤ 126) : isPathP (47 :: v) = true := by
  unfold isPathP
  rw [only_of (fun c hc => ?_) (by simp) (by simp; omega)]
  · rfl
  · rcases List.mem_cons.1 hc with rfl | hc
    · decide
    · exact shown_of (h2 c hc)
theorem method_of {v : List UInt8} (h1 : 1 ≤ v.length) (h2 : v.length ≤ 16) (h3 : ∀ c ∈ v, c ∈ capsL) : isMethodP v = true := only_of (fun c hc => caps_cap c (h3 c hc)) h1 h2
theorem restOk_of {hs : List Fl} {b : List UInt8} (h1 : hs.length ≤ 32) (h2 : hs.all isHeaderP = true) (h3 : b.length ≤ 4000) : restOk hs b = true := by
  unfold restOk
  rw [h2, decide_eq_true h1, decide_eq_true h3]
  rfl
def fm4 (rb : Nat) (w : World) : Prop := w.heap[rb]? = some (.cells #[S [], S [], .slice none 0 0, S []] 50 (0, 0))
theorem fm4.facts {rb : Nat} {w : World} (h : fm4 rb w) : w.cell? ⟨rb, 0, none⟩ = some (S []) ∧ w.cell? ⟨rb, 1, none⟩ = some (S []) ∧ w.cell? ⟨rb, 2, none⟩ = some (.slice none 0 0) ∧ w.cell? ⟨rb, 3, none⟩ = some (S []) ∧ ∀ o, w.frozen? ⟨rb, o, none⟩ = false := by
  unfold fm4 at h
  refine ⟨?_, ?_, ?_, ?_, fun o => frozen_row h o⟩ <;> rw [cell_of_row w rb _ _ _ (0, 0) h] <;> rfl
theorem fm4.set {rb : Nat} {w : World} (h : fm4 rb w) (x y z u : Value) : ∃ W, (((w.setCell ⟨rb, 0, none⟩ x).setCell ⟨rb, 1, none⟩ y).setCell ⟨rb, 2, none⟩ z).setCell ⟨rb, 3, none⟩ u = W ∧ W.cell? ⟨rb, 0, none⟩ = some x ∧ W.cell? ⟨rb, 1, none⟩ = some y ∧ W.cell? ⟨rb, 2, none⟩ = some z ∧ W.cell? ⟨rb, 3, none⟩ = some u ∧ Kept (· ≠ rb) w W := by
  have h3 := setCell_heap (o := 3) (setCell_heap (o := 2) (setCell_heap (o := 1) (setCell_heap (o := 0) h x) y) z) u
  refine ⟨_, rfl, ?_, ?_, ?_, ?_, ((((Kept.refl _ w).setCell (.inr (by simp)) _).setCell (.inr (by simp)) _).setCell (.inr (by simp)) _).setCell (.inr (by simp)) _⟩ <;> rw [cell_of_row _ rb _ _ _ (0, 0) h3] <;> rfl
theorem fm4.kept {rb : Nat} {w w' : World} (h : fm4 rb w) (hk : Kept (fun _ => True) w w') : fm4 rb w' := (hk.block rb (Array.getElem?_eq_some_iff.1 h).1 trivial).trans h
/-- A message that may be, in memory. -/
def MsgQ (w : World) (e : Ending) (w' : World) : Prop := (∃ (x : Msg) (hv : Value), e = .returned (.agg #[S x.m, S x.p, hv, S x.body]) ∧ w'.ownsRow w.heap.size 61 2 hv x.hs.length (fieldCells x.hs) ∧ isMethodP x.m = true ∧ isPathP x.p = true ∧ restOk x.hs x.body = true) ∧ Kept (fun _ => True) w w'
/-- .. and it has as many headers as the raw one, 32 at most. -/
def MsgQ2 (n : Nat) (w : World) (e : Ending) (w' : World) : Prop := (∃ (x : Msg) (hv : Value), e = .returned (.agg #[S x.m, S x.p, hv, S x.body]) ∧ w'.ownsRow w.heap.size 61 2 hv x.hs.length (fieldCells x.hs) ∧ isMethodP x.m = true ∧ isPathP x.p = true ∧ restOk x.hs x.body = true ∧ x.hs.length = min n 32) ∧ Kept (fun _ => True) w w'
def AnsQ (w : World) (e : Ending) (w' : World) : Prop := (∃ (st : Nat) (hs : List Fl) (b : List UInt8) (hv : Value), e = .returned (.agg #[.int .i64 st, hv, S b]) ∧ w'.ownsRow w.heap.size 61 2 hv hs.length (fieldCells hs) ∧ 100 ≤ st ∧ st ≤ 599 ∧ restOk hs b = true) ∧ Kept (fun _ => True) w w'
abbrev SM4 (g : Nat) (m p : List UInt8) (v : Value) (b : List UInt8) (w : World) : Prop := w.cell? ⟨g, 0, none⟩ = some (S m) ∧ w.cell? ⟨g, 1, none⟩ = some (S p) ∧ w.cell? ⟨g, 2, none⟩ = some v ∧ w.cell? ⟨g, 3, none⟩ = some (S b)
set_option maxHeartbeats 8000000 in
set_option maxRecDepth 100000 in
theorem message_any2 (m p b : List UInt8) (fs : List Fl) (v : Value) (w : World) (hv : RowF (fun _ => True) w v fs) (hl : SmlF fs) (h1 : Sml m) (h2 : Sml p) (h3 : Sml b) :
    Calls Tryz.prog 21 #[.agg #[S m, S p, v, S b]] w (MsgQ2 fs.length w) := by
  obtain ⟨a, c, rfl⟩ := hv.slice
  obtain ⟨W9, hW9⟩ : ∃ W9, w.alloc (.cells #[S m, S p, .slice a fs.length c, S b] 50) = W9 := ⟨_, rfl⟩
  obtain ⟨W0, hW0⟩ : ∃ W0, W9.alloc (.cells #[S [], S [], .slice none 0 0, S []] 50) = W0 := ⟨_, rfl⟩
  have hk9 : Kept (fun _ => True) w W9 := by rw [← hW9]; exact (Kept.refl _ w).alloc _
  have hk90 : Kept (fun _ => True) W9 W0 := by rw [← hW0]; exact (Kept.refl _ W9).alloc _
  have hz9 : W9.heap.size = w.heap.size + 1 := by rw [← hW9]; simp
  have hz0 : W0.heap.size = W9.heap.size + 1 := by rw [← hW0]; simp
  have hbox : four w.heap.size m p (.slice a fs.length c) b W0 := four.kept (by rw [← hW9]; exact heap_alloc_new w _) hk90 trivial
  have hfm : fm4 W9.heap.size W0 := by rw [← hW0]; exact heap_alloc_new W9 _
  obtain ⟨c0, c1, c2, c3⟩ := hbox.facts
  have LT := Lib.hid (fun W => letters_any m capsL 1 16 W h1 (by decide) (by decide))
  have PL := Lib.hid (fun W => plain_any p 33 199 199 rfl W h2 (by decide) (by decide))
  have HS := Lib.hid (fun W (hk : Kept (fun _ => True) w W) => headers_any fs (.slice a fs.length c) W (hv.kept hk fun _ _ _ => trivial) hl)
  have CU := Lib.hid (fun W => lcut_any b 4000 W (by unfold Sml at h3; omega) (by decide))
  have HK0 := Lib.hid (hk9.tr hk90)
  have HB := Lib.hid hbox
  have HFM := Lib.hid hfm
  have HSW : Hid (∀ W, Kept (fun _ => True) W0 W → SM4 w.heap.size m p (.slice a fs.length c) b W) := Lib.hid fun W hk => (HB.out.kept hk trivial).facts
  have HKD : Hid (Kept (fun _ => True) W0 W0.drew) := Lib.hid (Kept.refl _ _).drew
  have hss := HSW.out _ HKD.out
  have HZ9 := Lib.hid hz9
  have HW9 : Hid (W9.heap.size < W0.heap.size) := Lib.hid (by omega)
  clear hbox hfm hk9 hk90 hv hl h1 h2 h3 hz9 hz0
  go_enter Tryz.func21, Tryz.ntmps21
  go_wp2_with fail
  go_region_held3 (fun wz => SM4 w.heap.size m p (.slice a fs.length c) b wz) (first | exact hss | exact hss4 | go_keep)
    (first
      | (go_at_call 45; refine (LT.out _).mono ?_; rintro e w1 ⟨⟨xm, rfl, n1, n2, n3⟩, hk1⟩; have HK1 := Lib.hid (HKD.out.tr hk1); have hss := HSW.out _ HK1.out; have HN1 := Lib.hid (method_of n1 n2 n3); clear hk1 n1 n2 n3)
      | (go_at_call 46; refine (PL.out _).mono ?_; rintro e w2 ⟨⟨xp, rfl, n1, n2⟩, hk2⟩; have HK2 := Lib.hid (HK1.out.tr hk2); have hss := HSW.out _ HK2.out; have HN2 := Lib.hid (path_of n1 n2); have CT := run_cat (P := Tryz.prog) [47] xp (47 :: xp) rfl (by simp only [List.length_cons, List.length_nil]; omega); clear hk2 n1 n2)
      | (go_at_call 47; refine (HS.out _ (HK0.out.tr HK2.out)).mono ?_; rintro e w3 ⟨⟨hv, hs, rfl, n1, n2, n3⟩, hk3⟩; have HK3 := Lib.hid (HK2.out.tr hk3); have hss := HSW.out _ HK3.out; have HO3 := Lib.hid n1; have HN3 := Lib.hid (And.intro n2 n3); obtain ⟨oa, oc, rfl⟩ := rowf_slice n1; obtain ⟨e0, e1, e2, e3, e9⟩ := (fm4.kept HFM.out HK3.out).facts; have f0 := e9 0; have f1 := e9 1; have f2 := e9 2; have f3 := e9 3; obtain ⟨W4, hW4, d0, d1, d2, d3, hk4⟩ := (fm4.kept HFM.out HK3.out).set (S xm) (S (47 :: xp)) (.slice oa hs.length oc) (S (b.take 4000)); have HK4 := Lib.hid hk4; have hss4 : SM4 w.heap.size m p (.slice a fs.length c) b W4 := ((HB.out.kept HK3.out trivial).kept hk4 (by have := HZ9.out; omega)).facts; clear hk3 n1 n2 n3 e9 hk4)
      | (go_at_call 48; refine (CU.out _).mono ?_; rintro e w4 ⟨rfl, rfl⟩))
  have HOZ : Hid (W4.ownsRow w.heap.size 61 2 (.slice oa hs.length oc) hs.length (fieldCells hs)) := Lib.hid (by
    have hlt := HO3.out.lt
    refine ownsRow_le (ownsRow_kept HO3.out HK4.out fun bb hb e => ?_) (HK0.out.tr HK2.out).size
    have := (hlt bb hb).1
    have := HK2.out.size
    have := HZ9.out
    have := HW9.out
    omega)
  have HKZ : Hid (Kept (fun _ => True) w W4) := Lib.hid ((HK0.out.tr HK3.out).trans HK4.out fun i hi _ => (by have := HZ9.out; omega))
  have HR := Lib.hid (restOk_of (b := b.take 4000) (by rw [HN3.out.1]; omega) HN3.out.2 (by rw [List.length_take]; omega))
  go_wp2
  refine bodyPost_ret (v := .agg #[S xm, S (47 :: xp), .slice oa hs.length oc, S (b.take 4000)]) (by simp [results, Tryz.results21, go_sem, d0, d1, d2, d3]) rfl ?_
  exact ⟨⟨⟨xm, 47 :: xp, hs, b.take 4000⟩, _, rfl, HOZ.out, HN1.out, HN2.out, HR.out, HN3.out.1⟩, HKZ.out⟩
theorem message_any (m p b : List UInt8) (fs : List Fl) (v : Value) (w : World) (hv : RowF (fun _ => True) w v fs) (hl : SmlF fs) (h1 : Sml m) (h2 : Sml p) (h3 : Sml b) :
    Calls Tryz.prog 21 #[.agg #[S m, S p, v, S b]] w (MsgQ w) :=
  (message_any2 m p b fs v w hv hl h1 h2 h3).mono fun _ _ ⟨⟨x, hv, h1, h2, h3, h4, h5, _⟩, hk⟩ => ⟨⟨x, hv, h1, h2, h3, h4, h5⟩, hk⟩
def fa3 (rb : Nat) (w : World) : Prop := w.heap[rb]? = some (.cells #[.int .i64 0, .slice none 0 0, S []] 56 (0, 0))
theorem fa3.kept {rb : Nat} {w w' : World} (h : fa3 rb w) (hk : Kept (fun _ => True) w w') : fa3 rb w' := (hk.block rb (Array.getElem?_eq_some_iff.1 h).1 trivial).trans h
theorem fa3.facts {rb : Nat} {w : World} (h : fa3 rb w) : w.cell? ⟨rb, 0, none⟩ = some (.int .i64 0) ∧ w.cell? ⟨rb, 1, none⟩ = some (.slice none 0 0) ∧ w.cell? ⟨rb, 2, none⟩ = some (S []) ∧ ∀ o, w.frozen? ⟨rb, o, none⟩ = false := by
  unfold fa3 at h
  refine ⟨?_, ?_, ?_, fun o => frozen_row h o⟩ <;> rw [cell_of_row w rb _ _ _ (0, 0) h] <;> rfl
theorem fa3.set {rb : Nat} {w : World} (h : fa3 rb w) (x y z : Value) : ∃ W, ((w.setCell ⟨rb, 0, none⟩ x).setCell ⟨rb, 1, none⟩ y).setCell ⟨rb, 2, none⟩ z = W ∧ W.cell? ⟨rb, 0, none⟩ = some x ∧ W.cell? ⟨rb, 1, none⟩ = some y ∧ W.cell? ⟨rb, 2, none⟩ = some z ∧ Kept (· ≠ rb) w W := by
  have h3 := setCell_heap (o := 2) (setCell_heap (o := 1) (setCell_heap (o := 0) h x) y) z
  refine ⟨_, rfl, ?_, ?_, ?_, (((Kept.refl _ w).setCell (.inr (by simp)) _).setCell (.inr (by simp)) _).setCell (.inr (by simp)) _⟩ <;> rw [cell_of_row _ rb _ _ _ (0, 0) h3] <;> rfl
abbrev SM3 (g : Nat) (st : Int) (v : Value) (b : List UInt8) (w : World) : Prop := w.cell? ⟨g, 0, none⟩ = some (.int .i64 st) ∧ w.cell? ⟨g, 1, none⟩ = some v ∧ w.cell? ⟨g, 2, none⟩ = some (S b)
set_option maxHeartbeats 8000000 in
set_option maxRecDepth 100000 in
theorem answer_any (st : Int) (b : List UInt8) (fs : List Fl) (v : Value) (w : World) (hst : -9223372036854775808 ≤ st ∧ st ≤ 9223372036854775807) (hv : RowF (fun _ => True) w v fs) (hl : SmlF fs) (h3 : Sml b) :
    Calls Tryz.prog 25 #[.agg #[.int .i64 st, v, S b]] w (AnsQ w) := by
  obtain ⟨a, c, rfl⟩ := hv.slice
  obtain ⟨W9, hW9⟩ : ∃ W9, w.alloc (.cells #[.int .i64 st, .slice a fs.length c, S b] 56) = W9 := ⟨_, rfl⟩
  obtain ⟨W0, hW0⟩ : ∃ W0, W9.alloc (.cells #[.int .i64 0, .slice none 0 0, S []] 56) = W0 := ⟨_, rfl⟩
  have hk9 : Kept (fun _ => True) w W9 := by rw [← hW9]; exact (Kept.refl _ w).alloc _
  have hk90 : Kept (fun _ => True) W9 W0 := by rw [← hW0]; exact (Kept.refl _ W9).alloc _
  have hz9 : W9.heap.size = w.heap.size + 1 := by rw [← hW9]; simp
  have hz0 : W0.heap.size = W9.heap.size + 1 := by rw [← hW0]; simp
  have hbox : three w.heap.size st (.slice a fs.length c) b W0 := three.kept (by rw [← hW9]; exact heap_alloc_new w _) hk90 trivial
  have hfm : fa3 W9.heap.size W0 := by rw [← hW0]; exact heap_alloc_new W9 _
  obtain ⟨c0, c1, c2⟩ := hbox.facts
  have PK := Lib.hid (fun W => pick_is st 500 W hst (by decide))
  have hpl := pickZ_lt st 500 (by decide)
  have HS := Lib.hid (fun W (hk : Kept (fun _ => True) w W) => headers_any fs (.slice a fs.length c) W (hv.kept hk fun _ _ _ => trivial) hl)
  have CU := Lib.hid (fun W => lcut_any b 4000 W (by unfold Sml at h3; omega) (by decide))
  have HK0 := Lib.hid (hk9.tr hk90)
  have HB := Lib.hid hbox
  have HFM := Lib.hid hfm
  have HSW : Hid (∀ W, Kept (fun _ => True) W0 W → SM3 w.heap.size st (.slice a fs.length c) b W) := Lib.hid fun W hk => (HB.out.kept hk trivial).facts
  have HKD : Hid (Kept (fun _ => True) W0 W0.drew) := Lib.hid (Kept.refl _ _).drew
  have hss := HSW.out _ HKD.out
  have HZ9 := Lib.hid hz9
  have HW9 : Hid (W9.heap.size < W0.heap.size) := Lib.hid (by omega)
  obtain ⟨pz, hpz⟩ : ∃ pz, pickZ st 500 = pz := ⟨_, rfl⟩
  rw [hpz] at PK hpl
  clear hbox hfm hk9 hk90 hv hl h3 hz9 hz0 hst hpz
  go_enter Tryz.func25, Tryz.ntmps25
  go_wp2_with fail
  go_region_held3 (fun wz => SM3 w.heap.size st (.slice a fs.length c) b wz) (first | exact hss | exact hss4 | go_keep)
    (first
      | (go_at_call 12; refine (PK.out _).mono ?_; rintro e w1 ⟨rfl, rfl⟩)
      | (go_at_call 47; refine (HS.out _ (HK0.out.tr HKD.out)).mono ?_; rintro e w3 ⟨⟨hv, hs, rfl, n1, n2, n3⟩, hk3⟩; have HK3 := Lib.hid (HKD.out.tr hk3); have hss := HSW.out _ HK3.out; have HO3 := Lib.hid n1; have HN3 := Lib.hid (And.intro n2 n3); obtain ⟨oa, oc, rfl⟩ := rowf_slice n1; obtain ⟨e0, e1, e2, e9⟩ := (fa3.kept HFM.out HK3.out).facts; have f0 := e9 0; have f1 := e9 1; have f2 := e9 2; obtain ⟨W4, hW4, d0, d1, d2, hk4⟩ := (fa3.kept HFM.out HK3.out).set (.int .i64 (IntKind.i64.wrap (100 + (pz : Int)))) (.slice oa hs.length oc) (S (b.take 4000)); have HK4 := Lib.hid hk4; have hss4 : SM3 w.heap.size st (.slice a fs.length c) b W4 := ((HB.out.kept HK3.out trivial).kept hk4 (by have := HZ9.out; omega)).facts; clear hk3 n1 n2 n3 e9 hk4)
      | (go_at_call 48; refine (CU.out _).mono ?_; rintro e w4 ⟨rfl, rfl⟩))
  have HOZ : Hid (W4.ownsRow w.heap.size 61 2 (.slice oa hs.length oc) hs.length (fieldCells hs)) := Lib.hid (by
    have hlt := HO3.out.lt
    refine ownsRow_le (ownsRow_kept HO3.out HK4.out fun bb hb e => ?_) (HK0.out.tr HKD.out).size
    have := (hlt bb hb).1
    have := HKD.out.size
    have := HZ9.out
    have := HW9.out
    omega)
  have HKZ : Hid (Kept (fun _ => True) w W4) := Lib.hid ((HK0.out.tr HK3.out).trans HK4.out fun i hi _ => (by have := HZ9.out; omega))
  have HR := Lib.hid (restOk_of (b := b.take 4000) (by rw [HN3.out.1]; omega) HN3.out.2 (by rw [List.length_take]; omega))
  go_wp2
  refine bodyPost_ret (v := .agg #[.int .i64 (IntKind.i64.wrap (100 + (pz : Int))), .slice oa hs.length oc, S (b.take 4000)]) (by simp [results, Tryz.results25, go_sem, d0, d1, d2]) rfl ?_
  exact ⟨⟨100 + pz, hs, b.take 4000, _, by rw [show IntKind.i64.wrap (100 + (pz : Int)) = ((100 + pz : Nat) : Int) by rw [IntKind.wrap_i64]; omega], HOZ.out, by omega, by omega, HR.out⟩, HKZ.out⟩
end Go.Proofs.YtaomhkgdbobpkaaGreatDoor
