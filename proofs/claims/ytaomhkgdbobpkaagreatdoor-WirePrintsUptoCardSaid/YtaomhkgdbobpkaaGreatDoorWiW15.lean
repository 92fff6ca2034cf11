/- Walks of wire (layer 5), fifteenth part: a byte of a body; a byte. -/
import Derived.Test.YtaomhkgdbobpkaaGreatDoorWiW14
namespace Go.Proofs.YtaomhkgdbobpkaaGreatDoor
open Go.RowKit Wi

set_option maxHeartbeats 8000000 in
set_option maxRecDepth 100000 in
theorem inBody_any (g bx : Nat) (lv fv hv bv : Value) (r : R) (c : UInt8) (w : World) (h : RdC g bx lv fv hv bv r w) (hp : r.ph = 2) (hl : r.body.length ≤ 100000) :
    Calls Tryz.prog 117 #[.int .u8 c.toNat, .pointer (some ⟨bx, 0, none⟩)] w (StepQ g (fpC g bx lv fv hv bv) (nextP r c) w) := by
  obtain ⟨la, lc, rfl⟩ := row_slice h.body
  have HN : Hid (nextP r c = ({ r with body := r.body ++ [c] }, decide (((r.body.length + 1 : Nat) : Int) = r.len), 0)) := Lib.hid (by unfold nextP; rw [if_pos hp])
  have hd : Kept (fun _ => True) w w.drew := (Kept.refl _ w).drew
  have HCD := Lib.hid (h.kept hd fun _ _ => trivial)
  obtain ⟨-, -, -, -, -, -, -, -, c8, f9, c10⟩ := h.facts
  have f8 := f9 8
  have HPP := Lib.hid hp
  have hgl : g < w.heap.size := h.lt g (by simp [fpC])
  have hgne : g ≠ w.heap.size := by omega
  have hbl : bx < w.heap.size := h.lt bx (by simp [fpC])
  have hbne : bx ≠ w.heap.size := by omega
  have hbg : bx ≠ g := h.bx_ne
  clear h hp f9
  go_enter Tryz.func117, Tryz.ntmps117
  go_wp2_with fail
  go_region_law (
    (refine step_pushOne 81 5 Tryz.underlying81 infoByteS rfl (by decide) rfl _ _ rfl 0 (.slice la r.body.length lc) r.body.length (Lib.byteCells r.body) [.int .u8 c.toNat] w.drew _ rfl rfl rfl (by intro u hu; simp at hu; subst hu; rfl) 1 _ rfl rfl rfl HCD.out.body (by omega) (by decide) (Nat.zero_le _) ?_; intro v' w1 k1 k2 k3; obtain ⟨hr1, hk1, x4, x5, x10⟩ := HCD.out.addBody HPP.out c k1 k2 k3; obtain ⟨va, vc, rfl⟩ := row_slice k1; have HR1 := Lib.hid (And.intro hr1 (And.intro hk1 k3.where)); clear k1 k2 k3 hr1 hk1))
  all_goals
    obtain ⟨hr1, hk1, hwh⟩ := HR1.out
    obtain ⟨-, -, -, -, -, -, -, d7, d8, -, d10⟩ := hr1.facts
    have HKF : Hid (Kept (· ∉ fpC g bx lv fv hv (.slice la r.body.length lc)) w (w1.setCell ⟨g, 8, none⟩ (.slice va (r.body.length + 1) vc))) := Lib.hid ((((Kept.refl (fun _ => True) w).drew).mono fun _ _ _ => trivial).tr (hk1.mono fun b _ hb => ⟨fun e => hb (fpC_mem.2 (.inl e)), fun e => hb (fpC_mem.2 (.inr (.inr (.inr (.inr (.inr e))))))⟩))
    have HFW : Hid (∀ b ∈ fpC g bx lv fv hv (.slice va (r.body.length + 1) vc), b ∈ fpC g bx lv fv hv (.slice la r.body.length lc) ∨ w.heap.size ≤ b) := Lib.hid (by
      intro b hb
      rcases fpC_mem.1 hb with e | e | e | e | e | e
      · exact .inl (fpC_mem.2 (.inl e))
      · exact .inl (fpC_mem.2 (.inr (.inl e)))
      · exact .inl (fpC_mem.2 (.inr (.inr (.inl e))))
      · exact .inl (fpC_mem.2 (.inr (.inr (.inr (.inl e)))))
      · exact .inl (fpC_mem.2 (.inr (.inr (.inr (.inr (.inl e))))))
      · rcases hwh b e with e | e
        · exact .inl (fpC_mem.2 (.inr (.inr (.inr (.inr (.inr e))))))
        · exact .inr e)
    obtain ⟨q, hq⟩ : ∃ q, (((r.body.length : Int) + 1) == r.len) = q := ⟨_, rfl⟩
    have HZ : Hid (∀ m, StepQ g (fpC g bx lv fv hv (.slice la r.body.length lc)) (nextP r c) w (.returned (.tuple #[.bool q, .int .i64 0])) ((w1.setCell ⟨g, 8, none⟩ (.slice va (r.body.length + 1) vc)).drewN m)) := Lib.hid fun m => (by
      have hkm : Kept (fun _ => True) (w1.setCell ⟨g, 8, none⟩ (.slice va (r.body.length + 1) vc)) ((w1.setCell ⟨g, 8, none⟩ (.slice va (r.body.length + 1) vc)).drewN m) := (Kept.refl _ _).drewN m
      rw [HN.out]
      refine ⟨?_, fun _ => ⟨_, ⟨bx, _, fv, hv, _, hr1.kept hkm fun _ _ => trivial, rfl⟩, HFW.out⟩, HKF.out.drewN m⟩
      rw [← hq, show (((r.body.length : Int) + 1) == r.len) = decide ((((r.body.length + 1 : Nat) : Int)) = r.len) from by rw [show ((r.body.length + 1 : Nat) : Int) = (r.body.length : Int) + 1 by omega]; rfl])
    clear hr1 hk1 hwh HR1 x4 x5 x10 c8 f8 c10 HN
    go_wp2
    go_quiet (fail)
    go_wp2
    refine bodyPost_ret (v := .tuple #[.bool q, .int .i64 0]) (by simp [results, Tryz.results117, go_sem, ← hq]) rfl ?_
    exact HZ.out _
end Go.Proofs.YtaomhkgdbobpkaaGreatDoor
