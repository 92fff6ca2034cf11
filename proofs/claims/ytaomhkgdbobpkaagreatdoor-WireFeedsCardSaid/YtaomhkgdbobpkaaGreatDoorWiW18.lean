/- Walks of wire (layer 5), eighteenth part: a reader made; one that is over; what it waits for. -/
import Derived.Test.YtaomhkgdbobpkaaGreatDoorWiW17
namespace Go.Proofs.YtaomhkgdbobpkaaGreatDoor
open Go.RowKit Wi

/-- A reader that has read nothing, in blocks of its own. -/
def NewQ (w : World) (e : Ending) (w' : World) : Prop := ∃ p fp, e = .returned (.pointer (some ⟨p, 0, none⟩)) ∧ RrAt p (begin' false) fp w' ∧ (∀ b ∈ fp, w.heap.size ≤ b) ∧ Kept (fun _ => True) w w'
set_option maxHeartbeats 2000000 in
theorem NewReader_any (w : World) : Calls Tryz.prog 10 #[] w (NewQ w) := by
  have BG := Lib.hid (begin_any false w)
  go_enter Tryz.func10, Tryz.ntmps10
  go_wp2_with fail
  refine BG.out.mono ?_
  rintro e w1 ⟨g, fp, rfl, hr, hf, hk⟩
  have hk2 : Kept (fun _ => True) w1 (w1.alloc (.cells #[.pointer (some ⟨g, 0, none⟩), .bool false] 76)) := (Kept.refl _ w1).alloc _
  have HZ : Hid (NewQ w (.returned (.pointer (some ⟨w1.heap.size, 0, none⟩))) (w1.alloc (.cells #[.pointer (some ⟨g, 0, none⟩), .bool false] 76))) := Lib.hid ⟨w1.heap.size, w1.heap.size :: fp, rfl, ⟨g, fp, heap_alloc_new w1 _, hr.kept hk2 fun _ _ => trivial, fun hm => by have := hr.lt _ hm; omega, rfl⟩, fun b hb => by
    rcases List.mem_cons.1 hb with rfl | hb
    · exact hk.size
    · exact hf b hb, hk.tr hk2⟩
  clear hr hf hk hk2
  go_wp2
  go_ret
  exact HZ.out
set_option maxHeartbeats 2000000 in
theorem Waiting_any (p : Nat) (r : R) (fp : List Nat) (w : World) (h : RrAt p r fp w) : Calls Tryz.prog 17 #[.pointer (some ⟨p, 0, none⟩)] w fun e w' => e = .returned (.int .i64 r.cnt) ∧ Kept (fun _ => True) w w' := by
  obtain ⟨g, fp0, hb, hrd, hnp, rfl⟩ := h
  obtain ⟨bx, lv, fv, hv, bv, hc, rfl⟩ := hrd
  have c0 : w.cell? ⟨p, 0, none⟩ = some (.pointer (some ⟨g, 0, none⟩)) := by rw [cell_of_row w p _ _ _ (0, 0) hb]; rfl
  have c1 : w.cell? ⟨p, 1, none⟩ = some (.bool false) := by rw [cell_of_row w p _ _ _ (0, 0) hb]; rfl
  have c3 := hc.facts.2.2.2.1
  clear hb hnp hc
  go_enter Tryz.func17, Tryz.ntmps17
  go_wp2
  go_ret
  exact ⟨rfl, Kept.refl _ _⟩
set_option maxHeartbeats 2000000 in
theorem Waiting_over (p : Nat) (w : World) (h : OvAt p w) : Calls Tryz.prog 17 #[.pointer (some ⟨p, 0, none⟩)] w fun e w' => e = .returned (.int .i64 0) ∧ Kept (fun _ => True) w w' := by
  obtain ⟨g, hb⟩ := h
  have c1 : w.cell? ⟨p, 1, none⟩ = some (.bool true) := by rw [cell_of_row w p _ _ _ (0, 0) hb]; rfl
  clear hb
  go_enter Tryz.func17, Tryz.ntmps17
  go_wp2
  go_ret
  exact ⟨rfl, Kept.refl _ _⟩
set_option maxHeartbeats 2000000 in
theorem Feed_over (p : Nat) (s : List UInt8) (w : World) (h : OvAt p w) : Calls Tryz.prog 13 #[.pointer (some ⟨p, 0, none⟩), S s] w fun e w' => e = .returned (.tuple #[.slice none 0 0, .int .i64 54]) ∧ Kept (fun _ => True) w w' := by
  obtain ⟨g, hb⟩ := h
  have c1 : w.cell? ⟨p, 1, none⟩ = some (.bool true) := by rw [cell_of_row w p _ _ _ (0, 0) hb]; rfl
  clear hb
  go_enter Tryz.func13, Tryz.ntmps13
  go_wp2
  refine bodyPost_ret (v := .tuple #[.slice none 0 0, .int .i64 54]) (by simp [results, Tryz.results13, go_sem]) rfl ?_
  exact ⟨rfl, Kept.refl _ _⟩
end Go.Proofs.YtaomhkgdbobpkaaGreatDoor
