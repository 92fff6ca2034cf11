/- Walks of layer 5: All, of the program and of the reference. -/
import Derived.Test.YtaomhkgdbobpkaaGreatDoorWiR6
namespace Go.Proofs.YtaomhkgdbobpkaaGreatDoor
open Go.RowKit Wi

def allP (fs : List Fl) (n : List UInt8) : List (List UInt8) := (fs.filter fun f => low f.1 == low n).map (·.2)
theorem allP_take {fs : List Fl} {j : Nat} {f : Fl} (n : List UInt8) (h : fs[j]? = some f) : allP (fs.take (j + 1)) n = if (low f.1 == low n) = true then allP (fs.take j) n ++ [f.2] else allP (fs.take j) n := by
  unfold allP
  rw [List.take_add_one, h, List.filter_append, List.map_append]
  by_cases hq : (low f.1 == low n) = true
  · rw [if_pos hq]; simp [List.filter, hq]
  · rw [if_neg hq]; simp [List.filter, hq]
theorem allP_len (fs : List Fl) (n : List UInt8) (j : Nat) : (allP (fs.take j) n).length ≤ j := by
  unfold allP
  rw [List.length_map]
  exact Nat.le_trans (List.length_filter_le _ _) (by rw [List.length_take]; omega)
theorem infoStr : (Tryz.prog.info? 9).map (fun i => (i.zero, i.size, i.bytes)) = some (some (S []), 1, 16) := by kernel_rfl
/-- A row of texts of its own. -/
def OwnS (B : Nat) (v : Value) (l : List (List UInt8)) (w : World) : Prop := w.ownsRow B 9 1 v l.length (l.map S)
set_option maxHeartbeats 8000000 in
set_option maxRecDepth 100000 in
theorem refAll_any (fs : List Fl) (v : Value) (n : List UInt8) (w : World) (hv : RowF (fun _ => True) w v fs) (hf : SmlF fs) (hn : Sml n) :
    Calls Tryz.prog 28 #[v, S n] w fun e w' => (∃ v', e = .returned v' ∧ OwnS w.heap.size v' (allP fs n) w') ∧ Kept (fun _ => True) w w' := by
  obtain ⟨a, c, rfl⟩ := hv.slice
  obtain ⟨hfl, hfs⟩ := hf
  have HV := Lib.hid hv
  have HF := Lib.hid hfs
  have SN := Lib.hid (fun W => Small_any n W (by unfold Sml at hn; omega))
  clear hv hfs hn
  go_enter Tryz.func28, Tryz.ntmps28
  go_wp2_with fail
  go_loopg [5, 6] fs.length (fun q ov iv wr => ∃ j : Nat, iv = .int .i64 j ∧ q = fs.length - j ∧ j ≤ fs.length ∧ Hid (OwnS w.heap.size ov (allP (fs.take j) n) wr) ∧ Hid (Kept (fun _ => True) w wr))
  case atStart => exact ⟨0, rfl, rfl, Nat.zero_le _, Lib.hid (World.ownsRow_nil _ _ _ _), Lib.hid (Kept.refl _ _)⟩
  case round =>
    obtain ⟨j, rfl, rfl, hj, HO, HK⟩ := hrel
    by_cases hlt : j < fs.length
    · obtain ⟨b, off, rfl, hb, -, f, hfi, x0, x1⟩ := HV.out.at hlt
      obtain ⟨l1, l2⟩ := HF.out f (List.mem_of_getElem? hfi)
      have SF := Lib.hid (fun W => Small_any f.1 W (by unfold Sml at l1; omega))
      have HAT := Lib.hid (allP_take n hfi)
      have hln := allP_len fs n j
      replace x0 := (HK.out.cell hb trivial).trans x0
      replace x1 := (HK.out.cell hb trivial).trans x1
      obtain ⟨f1, f2⟩ := f
      simp only at x0 x1 SF HAT
      clear hfi l1 l2
      have HX1 : Hid (∀ W, Kept (fun _ => True) wr W → W.cell? ⟨b, off + j * 2 + 1, none⟩ = some (S f2)) := Lib.hid fun W hk => (hk.cell (by have := HK.out.size; omega) trivial).trans x1
      obtain ⟨La, hLa⟩ : ∃ l, low f1 = l := ⟨_, rfl⟩
      obtain ⟨Lb, hLb⟩ : ∃ l, low n = l := ⟨_, rfl⟩
      rw [hLa] at SF
      have SN2 := Lib.hid (fun W => SN.out W)
      rw [hLb] at SN2
      rw [hLa, hLb] at HAT
      clear x1 hLa hLb
      go_wp2_with fail
      refine (SF.out _).mono ?_
      rintro e w1 ⟨rfl, hk1⟩
      have HK1 := Lib.hid hk1
      clear hk1 x0
      go_wp2_with fail
      refine (SN2.out _).mono ?_
      rintro e w2 ⟨rfl, hk2⟩
      have HK2 := Lib.hid (HK1.out.tr hk2)
      clear hk2
      have x1 := HX1.out _ HK2.out
      have HO2 : Hid (OwnS w.heap.size u5 (allP (fs.take j) n) w2) := Lib.hid (ownsRow_kept HO.out HK2.out fun _ _ => trivial)
      by_cases hq : (La == Lb) = true
      · have HNX : Hid (allP (fs.take (j + 1)) n = allP (fs.take j) n ++ [f2]) := Lib.hid (by rw [HAT.out, if_pos hq])
        obtain ⟨L, hL⟩ : ∃ L, allP (fs.take j) n = L := ⟨_, rfl⟩
        rw [hL] at HO2 HNX hln
        obtain ⟨oa, oc, rfl⟩ := row_slice HO2.out
        have hL1 : L.length + 1 ≤ 1099511627776 := by omega
        have hwz : w.heap.size ≤ w2.heap.size := (HK.out.tr HK2.out).size
        clear hL
        go_wp2_with (at_builtin; refine wpList_pushOne' 62 9 Tryz.underlying62 infoStr rfl (by decide) rfl _ _ rfl w.heap.size (.slice oa L.length oc) L.length (L.map S) [S f2] w2 _ rfl rfl rfl (by intro u hu; simp at hu; rw [hu]; rfl) 1 _ rfl rfl rfl HO2.out hL1 (by decide) hwz ?_; intro v' w3 k1 k2 k3; have HO3 : Hid (OwnS w.heap.size v' (allP (fs.take (j + 1)) n) w3) := Lib.hid (by unfold OwnS; rw [HNX.out, List.length_append, List.map_append]; exact k1); have HK3 : Hid (Kept (fun _ => True) w w3) := Lib.hid ((HK.out.tr HK2.out).trans (Kept.of_belowB k2) fun i hi _ => hi); clear k1 k2 k3)
        go_roundg (fs.length - (j + 1))
        case rel => exact ⟨j + 1, by go_num, rfl, by omega, HO3, HK3⟩
        case measure => omega
      · have HNX : Hid (allP (fs.take (j + 1)) n = allP (fs.take j) n) := Lib.hid (by rw [HAT.out, if_neg hq])
        have hq2 : (La == Lb) = false := by simpa using hq
        clear hq
        go_wp2
        go_roundg (fs.length - (j + 1))
        case rel => exact ⟨j + 1, by go_num, rfl, by omega, Lib.hid (by rw [HNX.out]; exact HO2.out), Lib.hid (HK.out.tr HK2.out)⟩
        case measure => omega
    · obtain rfl : j = fs.length := by omega
      have HOZ : Hid (OwnS w.heap.size u5 (allP fs n) wr) := Lib.hid (by have h := HO.out; rw [List.take_length] at h; exact h)
      obtain ⟨oa, oc, ho⟩ := row_slice HOZ.out
      subst ho
      clear hlt
      go_wp2
      go_ret
      exact ⟨⟨_, rfl, HOZ.out⟩, HK.out⟩
set_option maxHeartbeats 8000000 in
set_option maxRecDepth 100000 in
theorem wAll_any (fs : List Fl) (v : Value) (n : List UInt8) (w : World) (hv : RowF (fun _ => True) w v fs) (hf : SmlF fs) (hn : Sml n) :
    Calls Tryz.prog 27 #[v, S n] w fun e w' => (∃ v', e = .returned v' ∧ OwnS w.heap.size v' (allP fs n) w') ∧ Kept (fun _ => True) w w' := by
  obtain ⟨a, c, rfl⟩ := hv.slice
  obtain ⟨hfl, hfs⟩ := hf
  have HV := Lib.hid hv
  have HF := Lib.hid hfs
  have SN := Lib.hid (fun W => lower_any n W (by unfold Sml at hn; omega))
  clear hv hfs hn
  go_enter Tryz.func27, Tryz.ntmps27
  go_wp2_with fail
  go_loopg [5, 10] fs.length (fun q ov iv wr => ∃ j : Nat, iv = .int .i64 j ∧ q = fs.length - j ∧ j ≤ fs.length ∧ Hid (OwnS w.heap.size ov (allP (fs.take j) n) wr) ∧ Hid (Kept (fun _ => True) w wr))
  case atStart => exact ⟨0, rfl, rfl, Nat.zero_le _, Lib.hid (World.ownsRow_nil _ _ _ _), Lib.hid (Kept.refl _ _)⟩
  case round =>
    obtain ⟨j, rfl, rfl, hj, HO, HK⟩ := hrel
    by_cases hlt : j < fs.length
    · obtain ⟨b, off, rfl, hb, -, f, hfi, x0, x1⟩ := HV.out.at hlt
      obtain ⟨l1, l2⟩ := HF.out f (List.mem_of_getElem? hfi)
      have SF := Lib.hid (fun W => lower_any f.1 W (by unfold Sml at l1; omega))
      have HAT := Lib.hid (allP_take n hfi)
      have hln := allP_len fs n j
      replace x0 := (HK.out.cell hb trivial).trans x0
      replace x1 := (HK.out.cell hb trivial).trans x1
      obtain ⟨f1, f2⟩ := f
      simp only at x0 x1 SF HAT
      clear hfi l1 l2
      obtain ⟨W2, hW2⟩ : ∃ W2, wr.alloc (.cells #[S f1, S f2] 61) = W2 := ⟨_, rfl⟩
      have hkr2 : Kept (fun _ => True) wr W2 := by rw [← hW2]; exact (Kept.refl _ wr).alloc _
      have hbox : FAt wr.heap.size (f1, f2) W2 := by rw [← hW2]; exact heap_alloc_new wr _
      have HBX := Lib.hid hbox
      have HKR := Lib.hid hkr2
      obtain ⟨La, hLa⟩ : ∃ l, low f1 = l := ⟨_, rfl⟩
      obtain ⟨Lb, hLb⟩ : ∃ l, low n = l := ⟨_, rfl⟩
      rw [hLa] at SF
      have SN2 := Lib.hid (fun W => SN.out W)
      rw [hLb] at SN2
      rw [hLa, hLb] at HAT
      obtain ⟨o0, o1⟩ := hbox.facts
      simp only at o0 o1
      clear hLa hLb hbox hkr2
      go_wp2_with fail
      refine (SF.out _).mono ?_
      rintro e w1 ⟨rfl, hk1⟩
      have HK1 := Lib.hid hk1
      clear hk1 x0 x1 o0 o1
      obtain ⟨o0, o1⟩ := (HBX.out.kept HK1.out trivial).facts
      simp only at o0 o1
      go_wp2_with fail
      refine (SN2.out _).mono ?_
      rintro e w2 ⟨rfl, hk2⟩
      have HK2 := Lib.hid (HK1.out.tr hk2)
      clear hk2 o0 o1 hW2
      obtain ⟨o0, o1⟩ := (HBX.out.kept HK2.out trivial).facts
      simp only at o0 o1
      have HKW := Lib.hid (HKR.out.tr HK2.out)
      have HO2 : Hid (OwnS w.heap.size u5 (allP (fs.take j) n) w2) := Lib.hid (ownsRow_kept HO.out HKW.out fun _ _ => trivial)
      by_cases hq : (La == Lb) = true
      · have HNX : Hid (allP (fs.take (j + 1)) n = allP (fs.take j) n ++ [f2]) := Lib.hid (by rw [HAT.out, if_pos hq])
        obtain ⟨L, hL⟩ : ∃ L, allP (fs.take j) n = L := ⟨_, rfl⟩
        rw [hL] at HO2 HNX hln
        obtain ⟨oa, oc, rfl⟩ := row_slice HO2.out
        have hL1 : L.length + 1 ≤ 1099511627776 := by omega
        have hwz : w.heap.size ≤ w2.heap.size := (HK.out.tr HKW.out).size
        clear hL
        go_wp2_with (at_builtin; refine wpList_pushOne' 62 9 Tryz.underlying62 infoStr rfl (by decide) rfl _ _ rfl w.heap.size (.slice oa L.length oc) L.length (L.map S) [S f2] w2 _ rfl rfl rfl (by intro u hu; simp at hu; rw [hu]; rfl) 1 _ rfl rfl rfl HO2.out hL1 (by decide) hwz ?_; intro v' w3 k1 k2 k3; have HO3 : Hid (OwnS w.heap.size v' (allP (fs.take (j + 1)) n) w3) := Lib.hid (by unfold OwnS; rw [HNX.out, List.length_append, List.map_append]; exact k1); have HK3 : Hid (Kept (fun _ => True) w w3) := Lib.hid ((HK.out.tr HKW.out).trans (Kept.of_belowB k2) fun i hi _ => hi); clear k1 k2 k3)
        go_roundg (fs.length - (j + 1))
        case rel => exact ⟨j + 1, by go_num, rfl, by omega, HO3, HK3⟩
        case measure => omega
      · have HNX : Hid (allP (fs.take (j + 1)) n = allP (fs.take j) n) := Lib.hid (by rw [HAT.out, if_neg hq])
        have hq2 : (La == Lb) = false := by simpa using hq
        clear hq
        go_wp2
        go_roundg (fs.length - (j + 1))
        case rel => exact ⟨j + 1, by go_num, rfl, by omega, Lib.hid (by rw [HNX.out]; exact HO2.out), Lib.hid (HK.out.tr HKW.out)⟩
        case measure => omega
    · obtain rfl : j = fs.length := by omega
      have HOZ : Hid (OwnS w.heap.size u5 (allP fs n) wr) := Lib.hid (by have h := HO.out; rw [List.take_length] at h; exact h)
      obtain ⟨oa, oc, ho⟩ := row_slice HOZ.out
      subst ho
      clear hlt
      go_wp2
      go_ret
      exact ⟨⟨_, rfl, HOZ.out⟩, HK.out⟩
end Go.Proofs.YtaomhkgdbobpkaaGreatDoor
