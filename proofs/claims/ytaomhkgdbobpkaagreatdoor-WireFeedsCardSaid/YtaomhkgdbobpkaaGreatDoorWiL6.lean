/- Walks of the law of layer 5, sixth part: headers, a message and an answer made that may be. -/
import Derived.Test.YtaomhkgdbobpkaaGreatDoorWiL5
namespace Go.Proofs.YtaomhkgdbobpkaaGreatDoor
open Go.RowKit Wi

theorem rowf_slice {e : TypeId} {B size n : Nat} {v : Value} {xs : List Value} {w : World} (h : w.ownsRow B e size v n xs) : ∃ a c, v = .slice a n c := by
  rcases h.2 with ⟨rfl, rfl⟩ | ⟨g, cap, cur, rfl, _⟩
  · exact ⟨_, _, rfl⟩
  · exact ⟨_, _, rfl⟩
theorem Kept.of_belowB {B : Nat} {w w' : World} (h : Below B w w') : Kept (fun i => i < B) w w' := ⟨h.os, h.tape, h.output, h.size, fun k _ hk => h.block k hk⟩
set_option maxHeartbeats 8000000 in
set_option maxRecDepth 100000 in
theorem headers_any (fs : List Fl) (v : Value) (w : World) (hv : RowF (fun _ => True) w v fs) (hl : SmlF fs) :
    Calls Tryz.prog 47 #[v] w fun e w' => (∃ v' hs, e = .returned v' ∧ w'.ownsRow w.heap.size 61 2 v' hs.length (fieldCells hs) ∧ hs.length = min fs.length 32 ∧ hs.all isHeaderP = true) ∧ Kept (fun _ => True) w w' := by
  obtain ⟨a, c, rfl⟩ := hv.slice
  have hlen : fs.length ≤ 1099511627776 := hl.1
  have HV := Lib.hid hv
  have HL := Lib.hid hl
  clear hv hl
  go_enter Tryz.func47, Tryz.ntmps47
  go_wp2_with fail
  go_loopg [3, 4] fs.length (fun q o n wr => ∃ (j : Nat) (hs : List Fl), n = .int .i64 j ∧ q = fs.length - j ∧ j ≤ fs.length ∧ j ≤ 32 ∧ Hid (hs.length = j) ∧ Hid (hs.all isHeaderP = true) ∧ Hid (wr.ownsRow w.heap.size 61 2 o hs.length (fieldCells hs)) ∧ Hid (Kept (fun _ => True) w wr))
  case atStart => exact ⟨0, [], rfl, rfl, Nat.zero_le _, Nat.zero_le _, Lib.hid rfl, Lib.hid rfl, Lib.hid (World.ownsRow_nil _ _ _ _), Lib.hid (Kept.refl _ _)⟩
  case round =>
    obtain ⟨j, hs, rfl, rfl, hj, hj32, HJ, HA, HO, HK⟩ := hrel
    obtain ⟨oa, oc, rfl⟩ := rowf_slice HO.out
    by_cases hlt : j < fs.length ∧ j < 32
    · obtain ⟨h1, h2⟩ := hlt
      obtain ⟨b, off, rfl, hb, -, f, hf, x0, x1⟩ := HV.out.at h1
      replace x0 := (HK.out.cell hb trivial).trans x0
      replace x1 := (HK.out.cell hb trivial).trans x1
      obtain ⟨f1, f2⟩ := f
      have hsm := HL.out.2 _ (List.mem_of_getElem? hf)
      simp only at x0 x1 hsm
      have LH := Lib.hid (fun W => lheader_any f1 f2 W hsm)
      clear hf hsm
      have hwz := HK.out.size
      have hjs : hs.length ≤ 32 := by have := HJ.out; omega
      go_wp2_with fail
      refine (LH.out _).mono ?_
      rintro e w2 ⟨⟨g, rfl, hg⟩, hk2⟩
      have HO2 := Lib.hid (ownsRow_kept HO.out hk2 fun _ _ => trivial)
      have HA2 : Hid ((hs ++ [g]).all isHeaderP = true) := Lib.hid (by rw [List.all_append, HA.out]; simp [hg])
      have HK2 := Lib.hid (HK.out.tr hk2)
      have hwz2 : w.heap.size ≤ w2.heap.size := HK2.out.size
      clear hk2 hg HA HO x0 x1
      go_wp2_with (at_builtin; refine wpList_pushOne' 48 61 Tryz.underlying48 infoField rfl (by decide) rfl _ _ rfl w.heap.size (.slice oa hs.length oc) hs.length (fieldCells hs) [S g.1, S g.2] w2 _ rfl rfl rfl (by intro u hu; simp at hu; rcases hu with rfl | rfl <;> rfl) 1 _ rfl rfl rfl HO2.out (by omega) (by decide) hwz2 ?_; intro v' w3 k1 k2 k3; have HO3 : Hid (w3.ownsRow w.heap.size 61 2 v' (hs ++ [g]).length (fieldCells (hs ++ [g]))) := (Lib.hid (by rw [fieldCells_snoc, List.length_append]; exact k1)); have HK3 := Lib.hid (HK2.out.trans (Kept.of_belowB k2) fun i hi _ => hi); clear k1 k2 k3)
      go_roundg (fs.length - (j + 1))
      case rel => exact ⟨j + 1, hs ++ [g], by go_num, rfl, by omega, by omega, Lib.hid (by rw [List.length_append, HJ.out]; rfl), HA2, HO3, HK3⟩
      case measure => omega
    · have hcs : j = fs.length ∨ (j < fs.length ∧ j = 32) := by omega
      have hmn : Hid (hs.length = min fs.length 32) := Lib.hid (by rw [HJ.out]; omega)
      rcases hcs with h1 | ⟨h1, h2⟩
      all_goals
        have HOZ := Lib.hid HO.out
        clear hlt HO
        go_wp2
        go_ret
        exact ⟨⟨_, hs, rfl, HOZ.out, hmn.out, HA.out⟩, HK.out⟩
end Go.Proofs.YtaomhkgdbobpkaaGreatDoor
