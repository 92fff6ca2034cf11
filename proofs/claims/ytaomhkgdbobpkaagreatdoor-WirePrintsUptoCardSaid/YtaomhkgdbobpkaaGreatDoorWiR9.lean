/- Walks of the law of layer 5: what is printed is as the reference prints it. -/
import Derived.Test.YtaomhkgdbobpkaaGreatDoorWiR8
namespace Go.Proofs.YtaomhkgdbobpkaaGreatDoor
open Go.RowKit Wi

theorem RowAt.rd {g : Nat} {F : List Fl} {w : World} (h : RowAt g (F ++ List.replicate 4 spareF) w) : Rd w (.slice (some ⟨g, 0, none⟩) F.length (F.length + 4)) F.length (fieldCells F) := by
  by_cases h0 : F.length = 0
  · exact .inl ⟨_, _, by rw [h0], h0, by rw [List.eq_nil_of_length_eq_zero h0]; rfl⟩
  · refine .inr ⟨g, 0, _, rfl, by omega, fun j u hj => ?_⟩
    rw [Nat.zero_add, cell_of_row w g _ _ _ (0, 0) h]
    rw [fieldCells_append]
    have hl : j < (fieldCells F).length := (List.getElem?_eq_some_iff.1 hj).1
    rw [List.getElem?_toArray, List.getElem?_append_left hl]
    exact hj
theorem ones_F (F : List Fl) : ∀ u ∈ fieldCells F, u.oneCell' = true := by
  intro u hu
  unfold fieldCells at hu
  obtain ⟨f, _, hf⟩ := List.mem_flatMap.1 hu
  simp at hf
  rcases hf with rfl | rfl <;> rfl
/-- What a turn begins with. -/
structure Tn (w : World) (bm ba gm ga : Nat) (m p mb : List UInt8) (st : Int) (ab : List UInt8) (n k : Nat) (F G : List Fl) (hvm hva : Value) (wr : World) : Prop where
  fl : F.length = n
  gl : G.length = k
  fs : SmlF F
  gs : SmlF G
  rm : RowAt gm (F ++ List.replicate 4 spareF) wr
  ra : RowAt ga (G ++ List.replicate 4 spareF) wr
  bm : four bm m p hvm mb wr
  ba : three ba st hva ab wr
  vm : ∃ a c, hvm = .slice a n c
  va : ∃ a c, hva = .slice a k c
  kp : Kept (fun _ => True) w wr
theorem Tn.keptT {w : World} {bm ba gm ga : Nat} {m p mb : List UInt8} {st : Int} {ab : List UInt8} {n k : Nat} {F G : List Fl} {hvm hva : Value} {wr w' : World} (h : Tn w bm ba gm ga m p mb st ab n k F G hvm hva wr) (hk : Kept (fun _ => True) wr w') : Tn w bm ba gm ga m p mb st ab n k F G hvm hva w' :=
  ⟨h.fl, h.gl, h.fs, h.gs, h.rm.kept hk trivial, h.ra.kept hk trivial, h.bm.kept hk trivial, h.ba.kept hk trivial, h.vm, h.va, h.kp.tr hk⟩
theorem setFour {g : Nat} {a b c : List UInt8} {v : Value} {w : World} (h : four g a b v c w) (u : Value) : four g a b u c (w.setCell ⟨g, 2, none⟩ u) := (setCell_heap h u).trans rfl
theorem setThree {g : Nat} {a : Int} {c : List UInt8} {v : Value} {w : World} (h : three g a v c w) (u : Value) : three g a u c (w.setCell ⟨g, 1, none⟩ u) := (setCell_heap h u).trans rfl
theorem Tn.setM {w : World} {bm ba gm ga : Nat} {m p mb : List UInt8} {st : Int} {ab : List UInt8} {n k : Nat} {F G : List Fl} {hvm hva : Value} {wr : World} (h : Tn w bm ba gm ga m p mb st ab n k F G hvm hva wr) (hb : w.heap.size ≤ bm) :
    Tn w bm ba gm ga m p mb st ab n k F G (.slice (some ⟨gm, 0, none⟩) n (n + 4)) hva (wr.setCell ⟨bm, 2, none⟩ (.slice (some ⟨gm, 0, none⟩) n (n + 4))) := by
  have hk : Kept (· ≠ bm) wr (wr.setCell ⟨bm, 2, none⟩ (.slice (some ⟨gm, 0, none⟩) n (n + 4))) := (Kept.refl _ wr).setCell (.inr (by simp)) _
  exact ⟨h.fl, h.gl, h.fs, h.gs, h.rm.kept hk (ty_ne h.rm h.bm (by decide)), h.ra.kept hk (ty_ne h.ra h.bm (by decide)), setFour h.bm _, h.ba.kept hk (ty_ne h.ba h.bm (by decide)), ⟨_, _, rfl⟩, h.va, h.kp.setCell (.inl hb) _⟩
theorem Tn.setA {w : World} {bm ba gm ga : Nat} {m p mb : List UInt8} {st : Int} {ab : List UInt8} {n k : Nat} {F G : List Fl} {hvm hva : Value} {wr : World} (h : Tn w bm ba gm ga m p mb st ab n k F G hvm hva wr) (hb : w.heap.size ≤ ba) :
    Tn w bm ba gm ga m p mb st ab n k F G hvm (.slice (some ⟨ga, 0, none⟩) k (k + 4)) (wr.setCell ⟨ba, 1, none⟩ (.slice (some ⟨ga, 0, none⟩) k (k + 4))) := by
  have hk : Kept (· ≠ ba) wr (wr.setCell ⟨ba, 1, none⟩ (.slice (some ⟨ga, 0, none⟩) k (k + 4))) := (Kept.refl _ wr).setCell (.inr (by simp)) _
  exact ⟨h.fl, h.gl, h.fs, h.gs, h.rm.kept hk (ty_ne h.rm h.ba (by decide)), h.ra.kept hk (ty_ne h.ra h.ba (by decide)), h.bm.kept hk (ty_ne h.bm h.ba (by decide)), setThree h.ba _, h.vm, ⟨_, _, rfl⟩, h.kp.setCell (.inl hb) _⟩
abbrev OwnG (B : Nat) (v : Value) (l : List Fl) (w : World) : Prop := w.ownsRow B 61 2 v l.length (fieldCells l)
theorem rowf_ofB {B : Nat} {v : Value} {hs : List Fl} {w : World} (h : w.ownsRow B 61 2 v hs.length (fieldCells hs)) : RowF (B ≤ ·) w v hs := by
  rcases h.2 with ⟨rfl, h0⟩ | ⟨g, cap, cur, rfl, hB, hg, hnc, hcap, hat⟩
  · exact .inl ⟨none, 0, by simp, List.eq_nil_of_length_eq_zero h0⟩
  · refine .inr ⟨g, 0, cap, rfl, hnc, hB, (Array.getElem?_eq_some_iff.1 hg).1, fun j f hj => ?_⟩
    have hl : j < hs.length := (List.getElem?_eq_some_iff.1 hj).1
    obtain ⟨e0, e1⟩ := fieldCells_at hj
    rw [Nat.zero_add]
    exact ⟨(World.ownsRow.cellAt h (j * 2) (by omega)).trans e0, (World.ownsRow.cellAt h (j * 2 + 1) (by omega)).trans e1⟩
/-- Turned round up to a place. -/
def revA (F : List Fl) (i : Nat) : List Fl := F.reverse.take i ++ F.drop i
theorem rev_step {F : List Fl} {i : Nat} (h : i < F.length) (sp : List Fl) : ∃ f, revA F i ++ sp = F.reverse.take i ++ f :: (F.drop (i + 1) ++ sp) ∧ (∀ r, F[F.length - 1 - i]? = some r → F.reverse.take i ++ r :: (F.drop (i + 1) ++ sp) = revA F (i + 1) ++ sp) ∧ (F.reverse.take i).length = i := by
  refine ⟨F[i], ?_, fun r hr => ?_, by rw [List.length_take, List.length_reverse]; omega⟩
  · unfold revA
    rw [List.drop_eq_getElem_cons h, List.append_assoc]
    rfl
  · unfold revA
    have e : F.reverse[i]? = some r := by rw [List.getElem?_reverse h]; exact hr
    rw [List.take_add_one, e]
    simp
theorem rev_end (F : List Fl) : revA F F.length = F.reverse := by
  unfold revA
  rw [List.drop_length, List.append_nil, List.take_of_length_le (by rw [List.length_reverse]; exact Nat.le_refl _)]
theorem smlF_rev {F : List Fl} (h : SmlF F) : SmlF F.reverse := ⟨by rw [List.length_reverse]; exact h.1, fun f hf => h.2 f (List.mem_reverse.1 hf)⟩
/-- The message's copy, with headers in a row of its own. -/
theorem stageX {wr w5 : World} {m p mb : List UInt8} {F : List Fl} {hv v1 : Value} (k1 : w5.ownsRow (wr.alloc (.cells #[S m, S p, hv, S mb] 50)).heap.size 61 2 v1 (0 + F.length) ([] ++ fieldCells F)) (k2 : Below (wr.alloc (.cells #[S m, S p, hv, S mb] 50)).heap.size (wr.alloc (.cells #[S m, S p, hv, S mb] 50)) w5) :
    Kept (fun _ => True) wr (w5.setCell ⟨wr.heap.size, 2, none⟩ v1) ∧ four wr.heap.size m p v1 mb (w5.setCell ⟨wr.heap.size, 2, none⟩ v1) ∧ OwnG wr.heap.size v1 F (w5.setCell ⟨wr.heap.size, 2, none⟩ v1) ∧ w5.cell? ⟨wr.heap.size, 2, none⟩ = some hv ∧ w5.frozen? ⟨wr.heap.size, 2, none⟩ = false := by
  have ka : Kept (fun _ => True) wr (wr.alloc (.cells #[S m, S p, hv, S mb] 50)) := (Kept.refl _ wr).alloc _
  have kb : Kept (fun _ => True) (wr.alloc (.cells #[S m, S p, hv, S mb] 50)) w5 := Kept.of_below k2 (Nat.le_refl _)
  have hb : four wr.heap.size m p hv mb w5 := four.kept (heap_alloc_new wr _) kb trivial
  have hk : Kept (· ≠ wr.heap.size) w5 (w5.setCell ⟨wr.heap.size, 2, none⟩ v1) := (Kept.refl _ w5).setCell (.inr (by simp)) _
  refine ⟨(ka.tr kb).setCell (.inl (Nat.le_refl _)) _, setFour hb _, ?_, hb.facts.2.2.1, frozen_row hb 2⟩
  rw [Nat.zero_add, List.nil_append] at k1
  exact ownsRow_kept (ownsRow_le k1 (by simp)) hk fun b hb' => by
    obtain ⟨cs, hc⟩ := own_cells k1 hb'
    exact ty_ne hc hb (by decide)
theorem stageY {wr w5 : World} {st : Int} {ab : List UInt8} {G : List Fl} {hv v1 : Value} (k1 : w5.ownsRow (wr.alloc (.cells #[.int .i64 st, hv, S ab] 56)).heap.size 61 2 v1 (0 + G.length) ([] ++ fieldCells G)) (k2 : Below (wr.alloc (.cells #[.int .i64 st, hv, S ab] 56)).heap.size (wr.alloc (.cells #[.int .i64 st, hv, S ab] 56)) w5) :
    Kept (fun _ => True) wr (w5.setCell ⟨wr.heap.size, 1, none⟩ v1) ∧ three wr.heap.size st v1 ab (w5.setCell ⟨wr.heap.size, 1, none⟩ v1) ∧ OwnG wr.heap.size v1 G (w5.setCell ⟨wr.heap.size, 1, none⟩ v1) ∧ w5.cell? ⟨wr.heap.size, 1, none⟩ = some hv ∧ w5.frozen? ⟨wr.heap.size, 1, none⟩ = false := by
  have ka : Kept (fun _ => True) wr (wr.alloc (.cells #[.int .i64 st, hv, S ab] 56)) := (Kept.refl _ wr).alloc _
  have kb : Kept (fun _ => True) (wr.alloc (.cells #[.int .i64 st, hv, S ab] 56)) w5 := Kept.of_below k2 (Nat.le_refl _)
  have hb : three wr.heap.size st hv ab w5 := three.kept (heap_alloc_new wr _) kb trivial
  have hk : Kept (· ≠ wr.heap.size) w5 (w5.setCell ⟨wr.heap.size, 1, none⟩ v1) := (Kept.refl _ w5).setCell (.inr (by simp)) _
  refine ⟨(ka.tr kb).setCell (.inl (Nat.le_refl _)) _, setThree hb _, ?_, hb.facts.2.1, frozen_row hb 1⟩
  rw [Nat.zero_add, List.nil_append] at k1
  exact ownsRow_kept (ownsRow_le k1 (by simp)) hk fun b hb' => by
    obtain ⟨cs, hc⟩ := own_cells k1 hb'
    exact ty_ne hc hb (by decide)
set_option maxHeartbeats 8000000 in
set_option maxRecDepth 100000 in
theorem prints_any (x : Msg) (y : Ans) (vm va : Value) (w : World) (hE : WE w.heap.size w) (hvm : RowF (fun _ => True) w vm x.hs) (hva : RowF (fun _ => True) w va y.hs) (h1 : SmlF x.hs) (h2 : Sml x.m ∧ Sml x.p ∧ Sml x.body) (h3 : SmlF y.hs) (h4 : Sml y.body) (hl : x.hs.length ≤ 68719476736 ∧ y.hs.length ≤ 68719476736) :
    Calls Tryz.prog 24 #[.agg #[S x.m, S x.p, vm, S x.body], .agg #[.int .i64 y.st, va, S y.body]] w fun e w' => e = .returned (.bool true) ∧ Kept (fun _ => True) w w' := by
  obtain ⟨m, p, fs, mb⟩ := x
  obtain ⟨st, gs, ab⟩ := y
  simp only at hvm hva h1 h2 h3 h4 hl ⊢
  obtain ⟨l1, l2⟩ := hl
  obtain ⟨ma, mc, rfl⟩ := hvm.slice
  obtain ⟨aa, ac, rfl⟩ := hva.slice
  obtain ⟨W1, hW1⟩ : ∃ W1, w.alloc (.cells #[S m, S p, .slice ma fs.length mc, S mb] 50) = W1 := ⟨_, rfl⟩
  obtain ⟨W2, hW2⟩ : ∃ W2, W1.alloc (.cells #[.int .i64 st, .slice aa gs.length ac, S ab] 56) = W2 := ⟨_, rfl⟩
  have hk1 : Kept (fun _ => True) w W1 := by rw [← hW1]; exact (Kept.refl _ w).alloc _
  have hk12 : Kept (fun _ => True) W1 W2 := by rw [← hW2]; exact (Kept.refl _ W1).alloc _
  have hz1 : W1.heap.size = w.heap.size + 1 := by rw [← hW1]; simp
  have hbm : four w.heap.size m p (.slice ma fs.length mc) mb W2 := four.kept (by rw [← hW1]; exact heap_alloc_new w _) hk12 trivial
  have hba : three W1.heap.size st (.slice aa gs.length ac) ab W2 := by rw [← hW2]; exact heap_alloc_new W1 _
  have HEW := Lib.hid hE
  have HVM := Lib.hid hvm
  have HVA := Lib.hid hva
  have HK2 := Lib.hid (hk1.tr hk12)
  have HBM := Lib.hid hbm
  have HBA := Lib.hid hba
  have HSM := Lib.hid (And.intro h1 (And.intro h2 (And.intro h3 h4)))
  have LM := Lib.hid (lentT_any (.slice ma fs.length mc) fs W2 (HVM.out.kept HK2.out fun _ _ _ => trivial) l1)
  have HZ1 := Lib.hid hz1
  obtain ⟨c0, c1, c2, c3⟩ := hbm.facts
  obtain ⟨d0, d1, d2⟩ := hba.facts
  clear hE hvm hva hk1 hk12 hbm hba h1 h2 h3 h4 hz1
  go_enter Tryz.func24, Tryz.ntmps24
  go_wp2_with fail
  refine LM.out.mono ?_
  rintro e w3 ⟨rfl, hk3, hr3⟩
  have HK3 := Lib.hid (HK2.out.tr hk3)
  have HBM3 := Lib.hid (HBM.out.kept hk3 trivial)
  have HBA3 := Lib.hid (HBA.out.kept hk3 trivial)
  have HR3 := Lib.hid hr3
  have LA := Lib.hid (lentT_any (.slice aa gs.length ac) gs w3 (HVA.out.kept HK3.out fun _ _ _ => trivial) l2)
  clear c0 c1 c2 c3 d0 d1 d2 hk3 hr3 LM hW1 hW2
  obtain ⟨c0, c1, c2, c3⟩ := HBM3.out.facts
  obtain ⟨d0, d1, d2⟩ := HBA3.out.facts
  go_wp2_with fail
  refine LA.out.mono ?_
  rintro e w4 ⟨rfl, hk4, hr4⟩
  have HGE : Hid (W2.heap.size < w3.heap.size) := Lib.hid HR3.out.lt
  have HT0 : Hid (Tn w w.heap.size W1.heap.size W2.heap.size w3.heap.size m p mb st ab fs.length gs.length fs gs (.slice ma fs.length mc) (.slice aa gs.length ac) w4) := Lib.hid
    ⟨rfl, rfl, HSM.out.1, HSM.out.2.2.1, HR3.out.kept hk4 trivial, hr4, HBM3.out.kept hk4 trivial, HBA3.out.kept hk4 trivial, ⟨_, _, rfl⟩, ⟨_, _, rfl⟩, HK3.out.tr hk4⟩
  have HB12 : Hid (w.heap.size < W1.heap.size ∧ W1.heap.size < W2.heap.size) := Lib.hid ⟨by have := HZ1.out; omega, HBA.out.lt⟩
  obtain ⟨gm, hgm⟩ : ∃ g, W2.heap.size = g := ⟨_, rfl⟩
  obtain ⟨ga, hga⟩ : ∃ g, w3.heap.size = g := ⟨_, rfl⟩
  obtain ⟨ba, hba⟩ : ∃ g, W1.heap.size = g := ⟨_, rfl⟩
  rw [hgm, hga] at HGE
  rw [hgm, hga, hba] at HT0
  rw [hgm, hba] at HB12
  rw [hgm, hga, hba]
  have HLS : Hid (fs.length ≤ 68719476736 ∧ gs.length ≤ 68719476736) := Lib.hid ⟨l1, l2⟩
  obtain ⟨n, hn⟩ : ∃ n, fs.length = n := ⟨_, rfl⟩
  obtain ⟨k, hk⟩ : ∃ n, gs.length = n := ⟨_, rfl⟩
  rw [hn, hk] at HT0 HLS ⊢
  have HM := Lib.hid (And.intro HSM.out.2.1 HSM.out.2.2.2)
  clear c0 c1 c2 c3 d0 d1 d2 hk4 hr4 LA hgm hga hba HSM HVM HVA HBM HBA HBM3 HBA3 HR3 HK3 HK2 hn hk l1 l2 HZ1
  go_wp2_with fail
  go_loopg [7] 2 (fun q tv wr => ∃ (t : Nat) (F G : List Fl) (hvm hva : Value), tv = .int .i64 t ∧ q = 2 - t ∧ t ≤ 2 ∧ Hid (Tn w w.heap.size ba gm ga m p mb st ab n k F G hvm hva wr))
  case atStart => exact ⟨0, fs, gs, _, _, rfl, rfl, by omega, HT0⟩
  case round =>
    obtain ⟨t, F, G, hvm, hva, rfl, rfl, ht, HT⟩ := hrel
    by_cases hlt : t < 2
    · obtain ⟨xa, xc, rfl⟩ := HT.out.vm
      obtain ⟨za, zc, rfl⟩ := HT.out.va
      obtain ⟨rfl, rfl⟩ : F.length = n ∧ G.length = k := ⟨HT.out.fl, HT.out.gl⟩
      obtain ⟨WX, hWX⟩ : ∃ WX, wr.alloc (.cells #[S m, S p, .slice xa F.length xc, S mb] 50) = WX := ⟨_, rfl⟩
      have hkx : Kept (fun _ => True) wr WX := by rw [← hWX]; exact (Kept.refl _ wr).alloc _
      have HTX := Lib.hid (HT.out.keptT hkx)
      have HSX := Lib.hid (fun (v1 : Value) (w5 : World) => stageX (wr := wr) (w5 := w5) (m := m) (p := p) (mb := mb) (F := F) (hv := .slice xa F.length xc) (v1 := v1))
      rw [hWX] at HSX
      have hn1 : 0 + F.length ≤ 1099511627776 := by have := HLS.out.1; omega
      have hn2 : 0 + G.length ≤ 1099511627776 := by have := HLS.out.2; omega
      have b1 : (0 : Int) ≤ (F.length : Int) := by omega
      have b2 : (F.length : Int) ≤ (F.length : Int) + 4 := by omega
      have b3 : F.length ≤ F.length + 4 := by omega
      have b4 : (0 : Int) ≤ (G.length : Int) := by omega
      have b5 : (G.length : Int) ≤ (G.length : Int) + 4 := by omega
      have b6 : G.length ≤ G.length + 4 := by omega
      obtain ⟨c0, c1, c2, c3⟩ := HT.out.bm.facts
      obtain ⟨e0, e1, e2, e3⟩ := HTX.out.bm.facts
      clear hkx
      go_upto_region 8 with (at_builtin; refine wpList_pushAll 48 61 Tryz.underlying48 infoField rfl (by decide) rfl _ _ rfl WX.heap.size (.slice none 0 0) 0 [] (.slice (some ⟨gm, 0, none⟩) F.length (F.length + 4)) F.length (fieldCells F) (fieldCells_len F) (ones_F F) rfl rfl HTX.out.rm.rd (World.ownsRow_nil _ _ _ _) hn1 (by decide) (Nat.le_refl _) ?_; intro v1 w5 k1 k2 k3; have HSX1 := Lib.hid (HSX.out v1 w5 k1 k2); rw [Nat.zero_add] at k1; obtain ⟨va1, vc1, rfl⟩ := row_slice k1; obtain ⟨s1, s2, s3, s4, s5⟩ := HSX1.out; clear k1 k2 k3 s1 s2 s3)
      obtain ⟨s1, s2, s3, -, -⟩ := HSX1.out
      obtain ⟨WP, hWP⟩ : ∃ W, w5.setCell ⟨wr.heap.size, 2, none⟩ (.slice va1 F.length vc1) = W := ⟨_, rfl⟩
      rw [hWP] at s1 s2 s3
      have HTP := Lib.hid (HT.out.keptT s1)
      obtain ⟨WY, hWY⟩ : ∃ W, WP.alloc (.cells #[.int .i64 st, .slice za G.length zc, S ab] 56) = W := ⟨_, rfl⟩
      have hky : Kept (fun _ => True) WP WY := by rw [← hWY]; exact (Kept.refl _ WP).alloc _
      have HTY := Lib.hid (HTP.out.keptT hky)
      have HSY := Lib.hid (fun (v1 : Value) (w5 : World) => stageY (wr := WP) (w5 := w5) (st := st) (ab := ab) (G := G) (hv := .slice za G.length zc) (v1 := v1))
      rw [hWY] at HSY
      have HX2 := Lib.hid s2
      have HX3 := Lib.hid s3
      have HXK := Lib.hid s1
      clear c0 c1 c2 c3 e0 e1 e2 e3 s1 s2 s3 s4 s5 hky HSX1 HSX hWX
      obtain ⟨d0, d1, d2⟩ := HTP.out.ba.facts
      obtain ⟨f0, f1, f2⟩ := HTY.out.ba.facts
      go_upto_region 10 with (at_builtin; refine wpList_pushAll 48 61 Tryz.underlying48 infoField rfl (by decide) rfl _ _ rfl WY.heap.size (.slice none 0 0) 0 [] (.slice (some ⟨ga, 0, none⟩) G.length (G.length + 4)) G.length (fieldCells G) (fieldCells_len G) (ones_F G) rfl rfl HTY.out.ra.rd (World.ownsRow_nil _ _ _ _) hn2 (by decide) (Nat.le_refl _) ?_; intro v2 w6 k1 k2 k3; have HSY1 := Lib.hid (HSY.out v2 w6 k1 k2); rw [Nat.zero_add] at k1; obtain ⟨va2, vc2, rfl⟩ := row_slice k1; obtain ⟨s1, s2, s3, s4, s5⟩ := HSY1.out; clear k1 k2 k3 s1 s2 s3)
      obtain ⟨s1, s2, s3, -, -⟩ := HSY1.out
      obtain ⟨WQ, hWQ⟩ : ∃ W, w6.setCell ⟨WP.heap.size, 1, none⟩ (.slice va2 G.length vc2) = W := ⟨_, rfl⟩
      rw [hWQ] at s1 s2 s3
      have htq := HTP.out.keptT s1
      have hq := htq.setM (Nat.le_refl _)
      obtain ⟨WM, hWM⟩ : ∃ W, WQ.setCell ⟨w.heap.size, 2, none⟩ (.slice (some ⟨gm, 0, none⟩) F.length (F.length + 4)) = W := ⟨_, rfl⟩
      have hkM : Kept (· ≠ w.heap.size) WQ WM := by rw [← hWM]; exact (Kept.refl _ WQ).setCell (.inr (by simp)) _
      rw [hWM] at hq
      have hbaW : w.heap.size ≤ ba := by have := HB12.out.1; omega
      have hq2 := hq.setA hbaW
      obtain ⟨WN, hWN⟩ : ∃ W, WM.setCell ⟨ba, 1, none⟩ (.slice (some ⟨ga, 0, none⟩) G.length (G.length + 4)) = W := ⟨_, rfl⟩
      have hkN : Kept (· ≠ ba) WM WN := by rw [← hWN]; exact (Kept.refl _ WM).setCell (.inr (by simp)) _
      rw [hWN] at hq2
      have HTN := Lib.hid hq2
      have hx4 : four wr.heap.size m p (.slice va1 F.length vc1) mb WN := (((HX2.out.kept s1 trivial).kept hkM (by have := HT.out.bm.lt; omega)).kept hkN (ty_ne (((HX2.out.kept s1 trivial).kept hkM (by have := HT.out.bm.lt; omega))) hq.ba (by decide)))
      have hy4 : three WP.heap.size st (.slice va2 G.length vc2) ab WN := (s2.kept hkM (ty_ne s2 htq.bm (by decide))).kept hkN (by have := HTP.out.ba.lt; omega)
      have ho1 : OwnG wr.heap.size (.slice va1 F.length vc1) F WN := by
        have e1 : OwnG wr.heap.size (.slice va1 F.length vc1) F WQ := ownsRow_kept HX3.out s1 fun _ _ => trivial
        have e2 : OwnG wr.heap.size (.slice va1 F.length vc1) F WM := ownsRow_kept e1 hkM fun b hb => by obtain ⟨cs, hc⟩ := own_cells e1 hb; exact ty_ne hc htq.bm (by decide)
        exact ownsRow_kept e2 hkN fun b hb => by obtain ⟨cs, hc⟩ := own_cells e2 hb; exact ty_ne hc hq.ba (by decide)
      have ho2 : OwnG WP.heap.size (.slice va2 G.length vc2) G WN := by
        have e2 : OwnG WP.heap.size (.slice va2 G.length vc2) G WM := ownsRow_kept s3 hkM fun b hb => by obtain ⟨cs, hc⟩ := own_cells s3 hb; exact ty_ne hc htq.bm (by decide)
        exact ownsRow_kept e2 hkN fun b hb => by obtain ⟨cs, hc⟩ := own_cells e2 hb; exact ty_ne hc hq.ba (by decide)
      have HX4 := Lib.hid hx4
      have HY4 := Lib.hid hy4
      have HO1 := Lib.hid ho1
      have HO2 := Lib.hid ho2
      have HLT : Hid (gm < WQ.heap.size ∧ wr.heap.size < WQ.heap.size) := Lib.hid ⟨htq.rm.lt, (HX2.out.kept s1 trivial).lt⟩
      obtain ⟨m0, m1, m2, m3⟩ := htq.bm.facts
      have fzm := frozen_row htq.bm 2
      obtain ⟨n0, n1, n2⟩ := hq.ba.facts
      have fza := frozen_row hq.ba 1
      obtain ⟨g0, g1, g2⟩ := htq.ba.facts
      clear d0 d1 d2 f0 f1 f2 s1 s2 s3 s4 s5 HSY1 HSY hWY hWP hx4 hy4 ho1 ho2
      obtain ⟨r0, r1, r2, r3⟩ := HTN.out.bm.facts
      have PM := Lib.hid (fun W (hk : Kept (fun _ => True) WN W) => printM_any ⟨m, p, F, mb⟩ (.slice (some ⟨gm, 0, none⟩) F.length (F.length + 4)) W ((HEW.out.kept (HTN.out.kp.tr hk) fun _ _ => trivial).le (HTN.out.kp.tr hk).size) ((HTN.out.rm.kept hk trivial).front) HTN.out.fs HM.out.1.1 HM.out.1.2.1 HM.out.1.2.2)
      have RM := Lib.hid (fun W (hk : Kept (fun _ => True) WN W) => refPrintM_any ⟨m, p, F, mb⟩ (.slice va1 F.length vc1) W (rowf_of (ownsRow_kept HO1.out hk fun _ _ => trivial)) HTN.out.fs HM.out.1.1 HM.out.1.2.1 HM.out.1.2.2)
      have PA := Lib.hid (fun W (hk : Kept (fun _ => True) WN W) => printA_any ⟨st, G, ab⟩ (.slice (some ⟨ga, 0, none⟩) G.length (G.length + 4)) W ((HEW.out.kept (HTN.out.kp.tr hk) fun _ _ => trivial).le (HTN.out.kp.tr hk).size) ((HTN.out.ra.kept hk trivial).front) HTN.out.gs HM.out.2)
      have RA := Lib.hid (fun W (hk : Kept (fun _ => True) WN W) => refPrintA_any ⟨st, G, ab⟩ (.slice va2 G.length vc2) W (rowf_of (ownsRow_kept HO2.out hk fun _ _ => trivial)) HTN.out.gs HM.out.2)
      obtain ⟨T1, E1, hT1⟩ : ∃ T E, printM ⟨m, p, F, mb⟩ = (T, E) := ⟨_, _, rfl⟩
      obtain ⟨T2, E2, hT2⟩ : ∃ T E, printA ⟨st, G, ab⟩ = (T, E) := ⟨_, _, rfl⟩
      rw [hT1] at PM RM
      rw [hT2] at PA RA
      clear hq hq2 htq hkM hkN hT1 hT2
      go_wp2_with fail
      refine (PM.out _ (Kept.refl _ _)).mono ?_
      rintro e w7 ⟨rfl, hk7⟩
      have HK7 := Lib.hid hk7
      clear hk7 m0 m1 m2 m3 n0 n1 n2 g0 g1 g2 r0 r1 r2 r3 hWQ hWM hWN fzm fza
      obtain ⟨r0, r1, r2, r3⟩ := (HX4.out.kept HK7.out trivial).facts
      go_wp2_with fail
      refine (RM.out _ HK7.out).mono ?_
      rintro e w8 ⟨rfl, hk8⟩
      have HK8 := Lib.hid (HK7.out.tr hk8)
      clear hk8 r0 r1 r2 r3
      obtain ⟨r0, r1, r2⟩ := (HTN.out.ba.kept HK8.out trivial).facts
      go_wp2_with fail
      refine (PA.out _ HK8.out).mono ?_
      rintro e w9 ⟨rfl, hk9⟩
      have HK9 := Lib.hid (HK8.out.tr hk9)
      clear hk9 r0 r1 r2
      obtain ⟨r0, r1, r2⟩ := (HY4.out.kept HK9.out trivial).facts
      go_wp2_with fail
      refine (RA.out _ HK9.out).mono ?_
      rintro e w10 ⟨rfl, hk10⟩
      have HK10 := Lib.hid (HK9.out.tr hk10)
      clear hk10 r0 r1 r2 PM RM PA RA
      have HGA : Hid (ga < WP.heap.size) := Lib.hid HTP.out.ra.lt
      have HGM : Hid (gm < wr.heap.size) := Lib.hid HT.out.rm.lt
      have HT10 := Lib.hid (HTN.out.keptT HK10.out)
      have HX10 := Lib.hid (HX4.out.kept HK10.out trivial)
      have HY10 := Lib.hid (HY4.out.kept HK10.out trivial)
      have HRX : Hid (RowF (wr.heap.size ≤ ·) w10 (.slice va1 F.length vc1) F) := Lib.hid (rowf_ofB (ownsRow_kept HO1.out HK10.out fun _ _ => trivial))
      have HRY : Hid (RowF (WP.heap.size ≤ ·) w10 (.slice va2 G.length vc2) G) := Lib.hid (rowf_ofB (ownsRow_kept HO2.out HK10.out fun _ _ => trivial))
      go_upto_block 2 with fail
      go_cut [] (fun wx => Hid (RowAt gm (F.reverse ++ List.replicate 4 spareF) wx) ∧ Hid (Kept (· ≠ gm) w10 wx))
      case first =>
        go_wp2_with fail
        go_loopg [18] F.length (fun q iv wz => ∃ i : Nat, iv = .int .i64 i ∧ q = F.length - i ∧ i ≤ F.length ∧ Hid (RowAt gm (revA F i ++ List.replicate 4 spareF) wz) ∧ Hid (Kept (· ≠ gm) w10 wz))
        case atStart => exact ⟨0, rfl, rfl, Nat.zero_le _, Lib.hid (by simpa [revA] using HT10.out.rm), Lib.hid (Kept.refl _ _)⟩
        case round =>
          obtain ⟨i, rfl, rfl, hi, HRi, HKi⟩ := hrel
          obtain ⟨r0, r1, r2, r3⟩ := (HX10.out.kept HKi.out (ty_ne HX10.out HT10.out.rm (by decide))).facts
          by_cases hlt2 : i < F.length
          · obtain ⟨f, hs1, hs2, hs3⟩ := rev_step hlt2 (List.replicate 4 spareF)
            have hr := HRi.out
            rw [hs1] at hr
            have fz0 := hr.frozen (i * 2)
            have fz1 := hr.frozen (i * 2 + 1)
            obtain ⟨y0, y1⟩ := hr.cells i f (by rw [List.getElem?_append_right (by omega), hs3, Nat.sub_self]; rfl)
            obtain ⟨b, off, hbe, hb, hbo, r, hrr, x0, x1⟩ := HRX.out.at (j := F.length - 1 - i) (by omega)
            subst hbe
            have hbg : b ≠ gm := by have := HGM.out; omega
            replace x0 := (HKi.out.cell hb hbg).trans x0
            replace x1 := (HKi.out.cell hb hbg).trans x1
            have hset := hr.setBoth r.1 r.2
            rw [hs3, show F.reverse.take i ++ (r.1, r.2) :: (F.drop (i + 1) ++ List.replicate 4 spareF) = revA F (i + 1) ++ List.replicate 4 spareF from hs2 r hrr] at hset
            have HSET := Lib.hid hset
            have HK2 := Lib.hid ((HKi.out.setCell (p := ⟨gm, i * 2, none⟩) (.inr (by simp)) (S r.1)).setCell (p := ⟨gm, i * 2 + 1, none⟩) (.inr (by simp)) (S r.2))
            have he1 : (F.length : Int) - 1 - (i : Int) = ((F.length - 1 - i : Nat) : Int) := by omega
            obtain ⟨z, hz⟩ : ∃ z, F.length - 1 - i = z := ⟨_, rfl⟩
            rw [hz] at he1 x0 x1 hrr
            have hzl : z < F.length := by omega
            have hz0 : (0 : Int) ≤ (z : Int) := by omega
            have hz1 : (z : Int) < (F.length : Int) := by omega
            have hi4 : (i : Int) < (F.length : Int) + 4 := by omega
            clear hr hset hrr hz hs1 hs2 hs3
            go_wp2
            go_roundg (F.length - (i + 1))
            case rel => exact ⟨i + 1, by go_num, rfl, by omega, HSET, HK2⟩
            case measure => omega
          · obtain rfl : i = F.length := by omega
            have hrz := HRi.out
            rw [rev_end] at hrz
            have HRZ := Lib.hid hrz
            clear hrz
            clear hlt2
            go_wp2
            go_meet
            exact ⟨HRZ, HKi⟩
      case rest =>
      rename World => w11
      obtain ⟨HR11, HK11⟩ := hcut
      have hgne : gm ≠ ga := by have := HGE.out; omega
      have HY11 := Lib.hid (HY10.out.kept HK11.out (ty_ne HY10.out HT10.out.rm (by decide)))
      have HRA11 := Lib.hid (HT10.out.ra.kept HK11.out hgne.symm)
      have HRY11 : Hid (RowF (WP.heap.size ≤ ·) w11 (.slice va2 G.length vc2) G) := Lib.hid (HRY.out.kept HK11.out fun b _ hb => by have := HGM.out; have := HXK.out.size; omega)
      have HNX : Hid (∀ w12, RowAt ga (G.reverse ++ List.replicate 4 spareF) w12 → Kept (· ≠ ga) w11 w12 → Tn w w.heap.size ba gm ga m p mb st ab F.length G.length F.reverse G.reverse (.slice (some ⟨gm, 0, none⟩) F.length (F.length + 4)) (.slice (some ⟨ga, 0, none⟩) G.length (G.length + 4)) w12) := Lib.hid fun w12 h1 h2 =>
        ⟨List.length_reverse, List.length_reverse, smlF_rev HT10.out.fs, smlF_rev HT10.out.gs, HR11.out.kept h2 hgne, h1,
          (HT10.out.bm.kept HK11.out (ty_ne HT10.out.bm HT10.out.rm (by decide))).kept h2 (ty_ne (HT10.out.bm.kept HK11.out (ty_ne HT10.out.bm HT10.out.rm (by decide))) HRA11.out (by decide)),
          (HT10.out.ba.kept HK11.out (ty_ne HT10.out.ba HT10.out.rm (by decide))).kept h2 (ty_ne (HT10.out.ba.kept HK11.out (ty_ne HT10.out.ba HT10.out.rm (by decide))) HRA11.out (by decide)),
          ⟨_, _, rfl⟩, ⟨_, _, rfl⟩, (HT10.out.kp.trans HK11.out fun i hi _ => by have := HB12.out; omega).trans h2 fun i hi _ => by have := HB12.out; have := HGE.out; omega⟩
      go_wp2_with fail
      go_loopg [19] G.length (fun q iv wz => ∃ i : Nat, iv = .int .i64 i ∧ q = G.length - i ∧ i ≤ G.length ∧ Hid (RowAt ga (revA G i ++ List.replicate 4 spareF) wz) ∧ Hid (Kept (· ≠ ga) w11 wz))
      case atStart => exact ⟨0, rfl, rfl, Nat.zero_le _, Lib.hid (by simpa [revA] using HRA11.out), Lib.hid (Kept.refl _ _)⟩
      case round =>
        obtain ⟨i, rfl, rfl, hi, HRi, HKi⟩ := hrel
        obtain ⟨r0, r1, r2⟩ := (HY11.out.kept HKi.out (ty_ne HY11.out HRA11.out (by decide))).facts
        by_cases hlt2 : i < G.length
        · obtain ⟨f, hs1, hs2, hs3⟩ := rev_step hlt2 (List.replicate 4 spareF)
          have hr := HRi.out
          rw [hs1] at hr
          have fz0 := hr.frozen (i * 2)
          have fz1 := hr.frozen (i * 2 + 1)
          obtain ⟨y0, y1⟩ := hr.cells i f (by rw [List.getElem?_append_right (by omega), hs3, Nat.sub_self]; rfl)
          obtain ⟨b, off, hbe, hb, hbo, r, hrr, x0, x1⟩ := HRY11.out.at (j := G.length - 1 - i) (by omega)
          subst hbe
          have hbg : b ≠ ga := by have := HGA.out; omega
          replace x0 := (HKi.out.cell hb hbg).trans x0
          replace x1 := (HKi.out.cell hb hbg).trans x1
          have hset := hr.setBoth r.1 r.2
          rw [hs3, show G.reverse.take i ++ (r.1, r.2) :: (G.drop (i + 1) ++ List.replicate 4 spareF) = revA G (i + 1) ++ List.replicate 4 spareF from hs2 r hrr] at hset
          have HSET := Lib.hid hset
          have HK2 := Lib.hid ((HKi.out.setCell (p := ⟨ga, i * 2, none⟩) (.inr (by simp)) (S r.1)).setCell (p := ⟨ga, i * 2 + 1, none⟩) (.inr (by simp)) (S r.2))
          have he1 : (G.length : Int) - 1 - (i : Int) = ((G.length - 1 - i : Nat) : Int) := by omega
          obtain ⟨z, hz⟩ : ∃ z, G.length - 1 - i = z := ⟨_, rfl⟩
          rw [hz] at he1 x0 x1 hrr
          have hzl : z < G.length := by omega
          have hz0 : (0 : Int) ≤ (z : Int) := by omega
          have hz1 : (z : Int) < (G.length : Int) := by omega
          have hi4 : (i : Int) < (G.length : Int) + 4 := by omega
          clear hr hset hrr hz hs1 hs2 hs3
          go_wp2
          go_roundg (G.length - (i + 1))
          case rel => exact ⟨i + 1, by go_num, rfl, by omega, HSET, HK2⟩
          case measure => omega
        · obtain rfl : i = G.length := by omega
          have hrz := HRi.out
          rw [rev_end] at hrz
          have HRZ := Lib.hid hrz
          clear hrz
          have HTZ := Lib.hid (HNX.out _ HRZ.out HKi.out)
          clear hlt2
          go_wp2
          go_roundg (2 - (t + 1))
          case rel => exact ⟨t + 1, F.reverse, G.reverse, _, _, by go_num, rfl, by omega, HTZ⟩
          case measure => omega
    · go_wp2
      go_ret
      exact ⟨rfl, HT.out.kp⟩
end Go.Proofs.YtaomhkgdbobpkaaGreatDoor
