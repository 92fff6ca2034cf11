/- Walks of wire (layer 5), eighth part: a reading begun; how long a body is. -/
import Derived.Test.YtaomhkgdbobpkaaGreatDoorWiW7
import Derived.Laws.EntriesVeiled
namespace Go.Proofs.YtaomhkgdbobpkaaGreatDoor
open Go.RowKit Wi

set_option maxHeartbeats 1000000 in
theorem inLine_is (g : Nat) (w : World) : Calls Tryz.prog 65 #[.pointer (some ⟨g, 0, none⟩)] w fun e w' => e = .returned (.func (.func 87) #[] #[.pointer (some ⟨w.heap.size, 0, none⟩)]) ∧ w' = w.alloc (.cells #[.pointer (some ⟨g, 0, none⟩)] 73) := by
  have hmf : ∀ (fn : Fn) (first cap : Array Value) (w : World), (Instr.makeFunc fn first cap).run Tryz.prog w = .ok (.func fn first cap) w := fun _ _ _ _ => rfl
  go_enter Tryz.func65, Tryz.ntmps65
  go_wp2
  go_ret
  exact ⟨rfl, rfl⟩
set_option maxHeartbeats 1000000 in
theorem inBody_is (g : Nat) (w : World) : Calls Tryz.prog 102 #[.pointer (some ⟨g, 0, none⟩)] w fun e w' => e = .returned (.func (.func 117) #[] #[.pointer (some ⟨w.heap.size, 0, none⟩)]) ∧ w' = w.alloc (.cells #[.pointer (some ⟨g, 0, none⟩)] 73) := by
  have hmf : ∀ (fn : Fn) (first cap : Array Value) (w : World), (Instr.makeFunc fn first cap).run Tryz.prog w = .ok (.func fn first cap) w := fun _ _ _ _ => rfl
  go_enter Tryz.func102, Tryz.ntmps102
  go_wp2
  go_ret
  exact ⟨rfl, rfl⟩
/-- A reading that has just begun, in blocks of its own. -/
def BeginQ (ans : Bool) (w : World) (e : Ending) (w' : World) : Prop := ∃ g fp, e = .returned (.pointer (some ⟨g, 0, none⟩)) ∧ RdAt g (begin' ans) fp w' ∧ (∀ b ∈ fp, w.heap.size ≤ b) ∧ Kept (fun _ => True) w w'
set_option maxHeartbeats 2000000 in
theorem begin_any (ans : Bool) (w : World) : Calls Tryz.prog 35 #[.bool ans] w (BeginQ ans w) := by
  obtain ⟨g, hg⟩ : ∃ g, w.heap.size = g := ⟨_, rfl⟩
  have HQ : Hid (∀ e, e = Ending.returned (.pointer (some ⟨g, 0, none⟩)) → BeginQ ans w e ((w.alloc (.cells #[.int .i64 0, .bool ans, .func (.func 87) #[] #[.pointer (some ⟨g + 1, 0, none⟩)], .int .i64 0, .slice none 0 0, .slice none 0 0, .slice none 0 0, .int .i64 (-1), .slice none 0 0] 83)).alloc (.cells #[.pointer (some ⟨g, 0, none⟩)] 73))) := Lib.hid fun e he => by
    subst he
    have h1 := heap_alloc_new w (.cells #[.int .i64 0, .bool ans, .func (.func 87) #[] #[.pointer (some ⟨g + 1, 0, none⟩)], .int .i64 0, .slice none 0 0, .slice none 0 0, .slice none 0 0, .int .i64 (-1), .slice none 0 0] 83)
    obtain ⟨w1, hw1⟩ : ∃ w1, w.alloc (.cells #[.int .i64 0, .bool ans, .func (.func 87) #[] #[.pointer (some ⟨g + 1, 0, none⟩)], .int .i64 0, .slice none 0 0, .slice none 0 0, .slice none 0 0, .int .i64 (-1), .slice none 0 0] 83) = w1 := ⟨_, rfl⟩
    have hz1 : w1.heap.size = g + 1 := by rw [← hw1, ← hg]; simp
    have hk1 : Kept (fun _ => True) w w1 := by rw [← hw1]; exact (Kept.refl _ w).alloc _
    rw [hg] at h1
    rw [hw1] at h1 ⊢
    have h2 := heap_alloc_new w1 (.cells #[.pointer (some ⟨g, 0, none⟩)] 73)
    rw [hz1] at h2
    have hk2 : Kept (fun _ => True) w1 (w1.alloc (.cells #[.pointer (some ⟨g, 0, none⟩)] 73)) := (Kept.refl _ w1).alloc _
    have h3 := (hk2.block g (by omega) trivial).trans h1
    refine ⟨g, [g, g + 1], rfl, ⟨g + 1, .slice none 0 0, .slice none 0 0, .slice none 0 0, .slice none 0 0, ⟨h3, h2, World.ownsRow_nil _ _ _ _, .inl ⟨rfl, rfl⟩, World.ownsRow_nil _ _ _ _, World.ownsRow_nil _ _ _ _, .inr ⟨by simp [begin'], rfl⟩⟩, rfl⟩, ?_, hk1.tr hk2⟩
    intro b hb
    simp at hb
    omega
  have IL := Lib.hid (fun W => inLine_is g W)
  go_enter Tryz.func35, Tryz.ntmps35
  go_wp2_with fail
  refine (IL.out _).mono ?_
  rintro e w1 ⟨rfl, rfl⟩
  go_wp2
  go_ret
  exact HQ.out _ rfl
end Go.Proofs.YtaomhkgdbobpkaaGreatDoor
