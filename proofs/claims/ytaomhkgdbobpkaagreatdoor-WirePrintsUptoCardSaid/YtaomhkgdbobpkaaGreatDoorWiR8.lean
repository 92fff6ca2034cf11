/- Walks of the law of layer 5: headers that are handed in stay as they were. -/
import Derived.Test.YtaomhkgdbobpkaaGreatDoorWiR7
namespace Go.Proofs.YtaomhkgdbobpkaaGreatDoor
open Go.RowKit Wi

theorem lentT_any (v : Value) (l : List Fl) (w : World) (hv : RowF (fun _ => True) w v l) (hl : l.length ≤ 68719476736) :
    Calls Tryz.prog 52 #[v] w fun e w' => e = .returned (.slice (some ⟨w.heap.size, 0, none⟩) (l.length + 4) (l.length + 4)) ∧ Kept (fun _ => True) w w' ∧ RowAt w.heap.size (l ++ List.replicate 4 spareF) w' :=
  (lent_any v l w hv hl).mono fun _ _ h => ⟨h.1, Kept.of_below h.2.1 (Nat.le_refl _), h.2.2⟩
theorem RowAt.front {g : Nat} {l : List Fl} {w : World} (h : RowAt g (l ++ List.replicate 4 spareF) w) : RowF (fun _ => True) w (.slice (some ⟨g, 0, none⟩) l.length (l.length + 4)) l := by
  have := h.rowf l.length (l.length + 4) (by simp) (by omega)
  rwa [List.take_left' rfl] at this
set_option maxHeartbeats 8000000 in
set_option maxRecDepth 100000 in
theorem held_any (x : Msg) (y : Ans) (vm va : Value) (w : World) (hE : WE w.heap.size w) (hvm : RowF (fun _ => True) w vm x.hs) (hva : RowF (fun _ => True) w va y.hs) (h1 : SmlF x.hs) (h2 : Sml x.m ∧ Sml x.p ∧ Sml x.body) (h3 : SmlF y.hs) (h4 : Sml y.body) (hl : x.hs.length ≤ 68719476736 ∧ y.hs.length ≤ 68719476736) :
    Calls Tryz.prog 26 #[.agg #[S x.m, S x.p, vm, S x.body], .agg #[.int .i64 y.st, va, S y.body]] w fun e w' => e = .returned (.bool true) ∧ Kept (fun _ => True) w w' := by
  obtain ⟨m, p, fs, mb⟩ := x
  obtain ⟨st, gs, ab⟩ := y
  simp only at hvm hva h1 h2 h3 h4 hl ⊢
  obtain ⟨l1, l2⟩ := hl
  obtain ⟨ma, mc, rfl⟩ := hvm.slice
  obtain ⟨aa, ac, rfl⟩ := hva.slice
  obtain ⟨W1, hW1⟩ : ∃ W1, w.alloc (.cells #[S m, S p, .slice ma fs.length mc, S mb] 50) = W1 := ⟨_, rfl⟩
  obtain ⟨W2, hW2⟩ : ∃ W2, W1.alloc (.cells #[.int .i64 st, .slice aa gs.length ac, S ab] 56) = W2 := ⟨_, rfl⟩
  have hk1 : Kept (fun _ => True) w W1 := by rw [← hW1]; exact (Kept.refl _ w).alloc _
  have hk12 : Kept (fun _ => True) W1 W2 := by rw [← hW2]; exact (Kept.refl _ W1).alloc _
  have hbm : four w.heap.size m p (.slice ma fs.length mc) mb W2 := four.kept (by rw [← hW1]; exact heap_alloc_new w _) hk12 trivial
  have hba : three W1.heap.size st (.slice aa gs.length ac) ab W2 := by rw [← hW2]; exact heap_alloc_new W1 _
  have HEW := Lib.hid hE
  have HVM := Lib.hid hvm
  have HVA := Lib.hid hva
  have HK2 := Lib.hid (hk1.tr hk12)
  have HBM := Lib.hid hbm
  have HBA := Lib.hid hba
  have HSM := Lib.hid (And.intro h1 (And.intro h2 (And.intro h3 h4)))
  have LM := Lib.hid (lentT_any (.slice ma fs.length mc) fs W2 (HVM.out.kept HK2.out fun _ _ _ => trivial) l1)
  obtain ⟨c0, c1, c2, c3⟩ := hbm.facts
  obtain ⟨d0, d1, d2⟩ := hba.facts
  clear hE hvm hva hk1 hk12 hbm hba h1 h2 h3 h4
  go_enter Tryz.func26, Tryz.ntmps26
  go_wp2_with fail
  refine LM.out.mono ?_
  rintro e w3 ⟨rfl, hk3, hr3⟩
  have HK3 := Lib.hid (HK2.out.tr hk3)
  have HBM3 := Lib.hid (HBM.out.kept hk3 trivial)
  have HBA3 := Lib.hid (HBA.out.kept hk3 trivial)
  have HR3 := Lib.hid hr3
  have LA := Lib.hid (lentT_any (.slice aa gs.length ac) gs w3 (HVA.out.kept HK3.out fun _ _ _ => trivial) l2)
  clear c0 c1 c2 c3 d0 d1 d2 hk3 hr3 LM hW1 hW2
  obtain ⟨c0, c1, c2, c3⟩ := HBM3.out.facts
  obtain ⟨d0, d1, d2⟩ := HBA3.out.facts
  go_wp2_with fail
  refine LA.out.mono ?_
  rintro e w4 ⟨rfl, hk4, hr4⟩
  have HK4 := Lib.hid (HK3.out.tr hk4)
  have HBM4 := Lib.hid (HBM3.out.kept hk4 trivial)
  have HBA4 := Lib.hid (HBA3.out.kept hk4 trivial)
  have HRM4 := Lib.hid (HR3.out.kept hk4 trivial)
  have HRA4 := Lib.hid hr4
  have HGE : Hid (W2.heap.size < w3.heap.size) := Lib.hid HR3.out.lt
  obtain ⟨gm, hgm⟩ : ∃ g, W2.heap.size = g := ⟨_, rfl⟩
  obtain ⟨ga, hga⟩ : ∃ g, w3.heap.size = g := ⟨_, rfl⟩
  have HG := Lib.hid (And.intro hgm hga)
  rw [hgm] at HRM4 HGE ⊢
  rw [hga] at HRA4 HGE ⊢
  clear c0 c1 c2 c3 d0 d1 d2 hk4 hr4 LA hgm hga
  obtain ⟨c0, c1, c2, c3⟩ := HBM4.out.facts
  obtain ⟨d0, d1, d2⟩ := HBA4.out.facts
  have PM := Lib.hid (fun W (hk : Kept (fun _ => True) w4 W) => printM_any ⟨m, p, fs, mb⟩ (.slice (some ⟨gm, 0, none⟩) fs.length (fs.length + 4)) W ((HEW.out.kept (HK4.out.tr hk) fun _ _ => trivial).le (HK4.out.tr hk).size) ((HRM4.out.kept hk trivial).front) HSM.out.1 HSM.out.2.1.1 HSM.out.2.1.2.1 HSM.out.2.1.2.2)
  have PA := Lib.hid (fun W (hk : Kept (fun _ => True) w4 W) => printA_any ⟨st, gs, ab⟩ (.slice (some ⟨ga, 0, none⟩) gs.length (gs.length + 4)) W ((HEW.out.kept (HK4.out.tr hk) fun _ _ => trivial).le (HK4.out.tr hk).size) ((HRA4.out.kept hk trivial).front) HSM.out.2.2.1 HSM.out.2.2.2)
  have AL := Lib.hid (fun W (hk : Kept (fun _ => True) w4 W) => wAll_any fs (.slice (some ⟨gm, 0, none⟩) fs.length (fs.length + 4)) ab W ((HRM4.out.kept hk trivial).front) HSM.out.1 HSM.out.2.2.2)
  have b1 : (0 : Int) ≤ (fs.length : Int) := by omega
  have b2 : (fs.length : Int) ≤ (fs.length : Int) + 4 := by omega
  have b3 : fs.length ≤ fs.length + 4 := by omega
  have b4 : (0 : Int) ≤ (gs.length : Int) := by omega
  have b5 : (gs.length : Int) ≤ (gs.length : Int) + 4 := by omega
  have b6 : gs.length ≤ gs.length + 4 := by omega
  have b7 : (fs.length : Int) ≤ ((fs.length + 4 : Nat) : Int) := by omega
  have b8 : (gs.length : Int) ≤ ((gs.length + 4 : Nat) : Int) := by omega
  have HSW : Hid (∀ W, Kept (fun _ => True) w4 W → AM W1.heap.size w.heap.size st (.slice aa gs.length ac) ab m p (.slice ma fs.length mc) mb W) := Lib.hid fun W hk => AM.of (HBA4.out.kept hk trivial) (HBM4.out.kept hk trivial)
  have HKD : Hid (Kept (fun _ => True) w4 w4.drew) := Lib.hid (Kept.refl _ _).drew
  have hss := HSW.out _ HKD.out
  go_wp2_with fail
  go_region_held3 (fun wz => AM W1.heap.size w.heap.size st (.slice aa gs.length ac) ab m p (.slice ma fs.length mc) mb wz) (first | exact hss | go_keep)
    (first
      | (go_at_call 22; refine (PM.out _ HKD.out).mono ?_; rintro e w5 ⟨rfl, hk5⟩; have HK5 := Lib.hid (HKD.out.tr hk5); have hss := HSW.out _ HK5.out; clear hk5))
  have HKD : Hid (Kept (fun _ => True) w4 w5.drew) := Lib.hid HK5.out.drew
  have hss := HSW.out _ HKD.out
  clear c0 c1 c2 c3 d0 d1 d2
  obtain ⟨d0, d1, d2, c0, c1, c2, c3⟩ := HSW.out _ HK5.out
  go_wp2_with fail
  go_region_held3 (fun wz => AM W1.heap.size w.heap.size st (.slice aa gs.length ac) ab m p (.slice ma fs.length mc) mb wz) (first | exact hss | go_keep)
    (first
      | (go_at_call 32; refine (PA.out _ HKD.out).mono ?_; rintro e w6 ⟨rfl, hk6⟩; have HK6 := Lib.hid (HKD.out.tr hk6); have hss := HSW.out _ HK6.out; clear hk6))
  have HKD : Hid (Kept (fun _ => True) w4 w6.drew) := Lib.hid HK6.out.drew
  have hss := HSW.out _ HKD.out
  clear c0 c1 c2 c3 d0 d1 d2
  obtain ⟨d0, d1, d2, c0, c1, c2, c3⟩ := HSW.out _ HK6.out
  go_wp2_with fail
  go_region_held3 (fun wz => AM W1.heap.size w.heap.size st (.slice aa gs.length ac) ab m p (.slice ma fs.length mc) mb wz) (first | exact hss | go_keep)
    (first
      | (go_at_call 27; refine (AL.out _ HKD.out).mono ?_; rintro e w7 ⟨⟨v7, rfl, ho7⟩, hk7⟩; have HK7 := Lib.hid (HKD.out.tr hk7); have hss := HSW.out _ HK7.out; clear hk7 ho7))
  have HKZ7 := Lib.hid (HK4.out.tr HK7.out)
  have hgm : w.heap.size ≤ gm := by have := HG.out.1; have := HK2.out.size; omega
  have hga : w.heap.size ≤ ga := by have := HGE.out; omega
  have KM := Lib.hid (kept_any fs (.slice ma fs.length mc) gm w7 (((HVM.out.mono (ok2 := (· < w.heap.size)) fun b hb _ => hb).kept HKZ7.out fun _ _ _ => trivial).mono fun b _ hb => by omega) (HRM4.out.kept HK7.out trivial) l1)
  clear c0 c1 c2 c3 d0 d1 d2
  obtain ⟨d0, d1, d2, c0, c1, c2, c3⟩ := HSW.out _ HK7.out
  go_wp2_with fail
  refine KM.out.mono ?_
  rintro e w8 ⟨rfl, hk8⟩
  have HK8 : Hid (Kept (· ≠ gm) w4 w8) := Lib.hid ((HK7.out.mono fun _ _ _ => trivial).tr hk8)
  have HBA8 := Lib.hid (HBA4.out.kept HK8.out (by have h1 := HBA.out.lt; have h2 := HG.out.1; omega))
  have HBM8 := Lib.hid (HBM4.out.kept HK8.out (by have h1 := HBM.out.lt; have h2 := HG.out.1; omega))
  have HKZ8 : Hid (Kept (fun _ => True) w w8) := Lib.hid (HK4.out.trans HK8.out fun i hi _ => by omega)
  have KA := Lib.hid (kept_any gs (.slice aa gs.length ac) ga w8 (((HVA.out.mono (ok2 := (· < w.heap.size)) fun b hb _ => hb).kept HKZ8.out fun _ _ _ => trivial).mono fun b _ hb => by omega) (HRA4.out.kept HK8.out (by have := HGE.out; omega)) l2)
  clear c0 c1 c2 c3 d0 d1 d2 hk8
  obtain ⟨c0, c1, c2, c3⟩ := HBM8.out.facts
  obtain ⟨d0, d1, d2⟩ := HBA8.out.facts
  go_wp2_with fail
  refine KA.out.mono ?_
  rintro e w9 ⟨rfl, hk9⟩
  have HKZ9 : Hid (Kept (fun _ => True) w w9) := Lib.hid (HKZ8.out.trans hk9 fun i hi _ => by omega)
  clear hk9
  go_wp2
  go_ret
  exact ⟨rfl, HKZ9.out⟩
end Go.Proofs.YtaomhkgdbobpkaaGreatDoor
