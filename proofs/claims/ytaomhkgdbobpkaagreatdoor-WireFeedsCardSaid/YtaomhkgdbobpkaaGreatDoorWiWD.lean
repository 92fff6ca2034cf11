/- Walks of wire (layer 5): a line's bytes, a body's bytes, a byte. -/
import Derived.Test.YtaomhkgdbobpkaaGreatDoorWiW13
namespace Go.Proofs.YtaomhkgdbobpkaaGreatDoor
open Go.RowKit Wi

theorem row_slice {e : TypeId} {size B n : Nat} {v : Value} {xs : List Value} {w : World} (h : w.ownsRow B e size v n xs) : ∃ a c, v = .slice a n c := by
  rcases h.2 with ⟨rfl, rfl⟩ | ⟨b, cap, cur, rfl, _⟩ <;> exact ⟨_, _, rfl⟩
theorem StepQ.of {g : Nat} {fp fp' : List Nat} {x : R × Bool × Int} {w w1 w' : World} {e : Ending} (h : StepQ g fp' x w1 e w') (hs : ∀ b ∈ fp', b ∈ fp) (hg : g ∈ fp) (hk : Kept (· ≠ g) w w1) : StepQ g fp x w e w' := by
  obtain ⟨h1, h2, h3⟩ := h
  refine ⟨h1, fun h0 => ?_, (hk.mono fun b _ hb => fun e => hb (e ▸ hg)).trans h3 fun b _ hb => fun hb' => hb (hs b hb')⟩
  obtain ⟨fq, h4, h5⟩ := h2 h0
  exact ⟨fq, h4, fun b hb => (h5 b hb).imp (hs b) fun h => Nat.le_trans hk.size h⟩
theorem infoByteS : (Tryz.prog.info? 5).map (fun i => (i.zero, i.size, i.bytes)) = some (some (.int .u8 0), 1, 1) := by kernel_rfl
set_option maxHeartbeats 8000000 in
set_option maxRecDepth 100000 in
theorem inLine_any (g bx : Nat) (lv fv hv bv : Value) (r : R) (c : UInt8) (w : World) (B : Nat) (hE : WE B w) (h : RdC g bx lv fv hv bv r w) (hp : r.ph < 2) (hl : r.line.length ≤ 100000) (hh : r.hs.length ≤ 1000000) (hB : B ≤ g) :
    Calls Tryz.prog 87 #[.int .u8 c.toNat, .pointer (some ⟨bx, 0, none⟩)] w (StepQ g (fpC g bx lv fv hv bv) (nextP r c) w) := by
  obtain ⟨la, lc, rfl⟩ := row_slice h.line
  have hb := byte_is c 10 10 rfl
  by_cases hc : c = 10
  · have HN : Hid (nextP r c = judgeP { r with line := [] } r.line) := Lib.hid (by unfold nextP; rw [if_neg (by omega), if_pos hc])
    obtain ⟨-, -, -, -, c4, -, -, -, -, f9, c10⟩ := h.facts
    have f4 := f9 4
    have hcv := OwnB.string (src := 81) (dst := 9) Tryz.underlying81 Tryz.underlying5 Tryz.underlying9 h.line
    have h1 := h.noLine
    have hk1 : Kept (· ≠ g) w (w.setCell ⟨g, 4, none⟩ (.slice none 0 0)) := (Kept.refl _ w).setCell (.inr (by simp)) _
    have hbg := h.bx_ne
    have c10b : (w.setCell ⟨g, 4, none⟩ (.slice none 0 0)).cell? ⟨bx, 0, none⟩ = some (.pointer (some ⟨g, 0, none⟩)) := (hk1.cell (cell_isLt c10) hbg).trans c10
    obtain ⟨W1, hW1⟩ : ∃ W1, w.setCell ⟨g, 4, none⟩ (.slice none 0 0) = W1 := ⟨_, rfl⟩
    rw [hW1] at h1 hk1 c10b
    have JD := Lib.hid (judge_any g bx fv hv bv { r with line := [] } r.line W1 B (hE.kept hk1 fun k hk => by omega) h1 hp hl hh)
    have HZ : Hid (∀ e w', StepQ g (fpC g bx (.slice none 0 0) fv hv bv) (judgeP { r with line := [] } r.line) W1 e w' → StepQ g (fpC g bx (.slice la r.line.length lc) fv hv bv) (nextP r c) w e w') := Lib.hid fun e w' hq => by
      rw [HN.out]
      refine hq.of (fun b hb => fpC_mem.2 ?_) (by simp [fpC]) hk1
      rcases fpC_mem.1 hb with e | e | e | e | e | e
      · exact .inl e
      · exact .inr (.inl e)
      · cases e
      · exact .inr (.inr (.inr (.inl e)))
      · exact .inr (.inr (.inr (.inr (.inl e))))
      · exact .inr (.inr (.inr (.inr (.inr e))))
    have hq : ((c.toNat : Int) == 10) = true := by rw [hb]; exact decide_eq_true hc
    subst hc
    clear hb h hE h1 hk1 hp hl hh hB f9 hq
    go_enter Tryz.func87, Tryz.ntmps87
    go_wp2_with fail
    refine JD.out.mono ?_
    intro e w2 hq
    obtain ⟨h1, h2, h3⟩ := hq
    subst h1
    have HQ := Lib.hid (HZ.out _ w2 ⟨rfl, h2, h3⟩)
    obtain ⟨x, hx⟩ : ∃ x, judgeP { r with line := [] } r.line = x := ⟨_, rfl⟩
    rw [hx] at HQ ⊢
    obtain ⟨x1, x2, x3⟩ := x
    clear h2 h3 hx HZ HN
    go_wp2
    refine bodyPost_ret (v := .tuple #[.bool x2, .int .i64 x3]) (by simp [results, Tryz.results87, go_sem]) rfl ?_
    exact HQ.out
  · have hq : ((c.toNat : Int) == 10) = false := by rw [hb]; exact decide_eq_false hc
    have HN : Hid (nextP r c = ({ r with line := r.line ++ [c] }, false, if 1002 ≤ r.line.length + 1 then 53 else 0)) := Lib.hid (by unfold nextP; rw [if_neg (by omega), if_neg hc])
    have hd : Kept (fun _ => True) w w.drew := (Kept.refl _ w).drew
    have HCD := Lib.hid (h.kept hd fun _ _ => trivial)
    have HC := Lib.hid h
    obtain ⟨-, -, -, -, c4, -, -, -, -, f9, c10⟩ := h.facts
    have f4 := f9 4
    have HPP := Lib.hid hp
    have hgl : g < w.heap.size := h.lt g (by simp [fpC])
    have hgne : g ≠ w.heap.size := by omega
    have hbl : bx < w.heap.size := h.lt bx (by simp [fpC])
    have hbne : bx ≠ w.heap.size := by omega
    have hbg : bx ≠ g := h.bx_ne
    clear h hE hp hh hB hb hc f9
    go_enter Tryz.func87, Tryz.ntmps87
    go_wp2_with fail
    go_region_law (
      (refine step_pushOne 81 5 Tryz.underlying81 infoByteS rfl (by decide) rfl _ _ rfl 0 (.slice la r.line.length lc) r.line.length (Lib.byteCells r.line) [.int .u8 c.toNat] w.drew _ rfl rfl rfl (by intro u hu; simp at hu; subst hu; rfl) 1 _ rfl rfl rfl HCD.out.line (by omega) (by decide) (Nat.zero_le _) ?_; intro v' w1 k1 k2 k3; obtain ⟨hr1, hk1, x4, x5, x10⟩ := HCD.out.addLine HPP.out c k1 k2 k3; obtain ⟨va, vc, rfl⟩ := row_slice k1; have HR1 := Lib.hid (And.intro hr1 (And.intro hk1 k3.where)); clear k1 k2 k3 hr1 hk1))
    all_goals
      obtain ⟨hr1, hk1, hwh⟩ := HR1.out
      obtain ⟨-, -, -, -, d4, -, -, -, -, -, d10⟩ := hr1.facts
      have HKF : Hid (Kept (· ∉ fpC g bx (.slice la r.line.length lc) fv hv bv) w (w1.setCell ⟨g, 4, none⟩ (.slice va (r.line.length + 1) vc))) := Lib.hid ((((Kept.refl (fun _ => True) w).drew).mono fun _ _ _ => trivial).tr (hk1.mono fun b _ hb => ⟨fun e => hb (fpC_mem.2 (.inl e)), fun e => hb (fpC_mem.2 (.inr (.inr (.inl e))))⟩))
      have HFW : Hid (∀ b ∈ fpC g bx (.slice va (r.line.length + 1) vc) fv hv bv, b ∈ fpC g bx (.slice la r.line.length lc) fv hv bv ∨ w.heap.size ≤ b) := Lib.hid (by
        intro b hb
        rcases fpC_mem.1 hb with e | e | e | e
        · exact .inl (fpC_mem.2 (.inl e))
        · exact .inl (fpC_mem.2 (.inr (.inl e)))
        · rcases hwh b e with e | e
          · exact .inl (fpC_mem.2 (.inr (.inr (.inl e))))
          · exact .inr e
        · exact .inl (fpC_mem.2 (.inr (.inr (.inr e)))))
      have HR := Lib.hid hr1
      clear hr1 hk1 hwh HR1 x4 x5 x10 c4 f4 c10
      by_cases h2 : 1002 ≤ r.line.length + 1
      · have h2' : (1002 : Int) ≤ ((r.line.length + 1 : Nat) : Int) := by omega
        have HZ : Hid (StepQ g (fpC g bx (.slice la r.line.length lc) fv hv bv) (nextP r c) w (.returned (.tuple #[.bool false, .int .i64 53])) (w1.setCell ⟨g, 4, none⟩ (.slice va (r.line.length + 1) vc))) := Lib.hid (by
          rw [HN.out, if_pos h2]
          exact ⟨rfl, fun h => absurd h (show ¬ (53 : Int) = 0 by decide), HKF.out⟩)
        clear h2 HN
        go_wp2
        refine bodyPost_ret (v := .tuple #[.bool false, .int .i64 53]) (by simp [results, Tryz.results87, go_sem]) rfl ?_
        exact HZ.out
      · have h2' : ¬ (1002 : Int) ≤ ((r.line.length + 1 : Nat) : Int) := by omega
        have HZ : Hid (StepQ g (fpC g bx (.slice la r.line.length lc) fv hv bv) (nextP r c) w (.returned (.tuple #[.bool false, .int .i64 0])) (w1.setCell ⟨g, 4, none⟩ (.slice va (r.line.length + 1) vc))) := Lib.hid (by
          rw [HN.out, if_neg h2]
          exact ⟨rfl, fun _ => ⟨_, ⟨bx, _, fv, hv, bv, HR.out, rfl⟩, HFW.out⟩, HKF.out⟩)
        clear h2 HN
        go_wp2
        refine bodyPost_ret (v := .tuple #[.bool false, .int .i64 0]) (by simp [results, Tryz.results87, go_sem]) rfl ?_
        exact HZ.out
end Go.Proofs.YtaomhkgdbobpkaaGreatDoor

namespace Go.Proofs.YtaomhkgdbobpkaaGreatDoor
open Go.RowKit Wi

set_option maxHeartbeats 8000000 in
set_option maxRecDepth 100000 in
theorem inBody_any (g bx : Nat) (lv fv hv bv : Value) (r : R) (c : UInt8) (w : World) (h : RdC g bx lv fv hv bv r w) (hp : r.ph = 2) (hl : r.body.length ≤ 100000) :
    Calls Tryz.prog 117 #[.int .u8 c.toNat, .pointer (some ⟨bx, 0, none⟩)] w (StepQ g (fpC g bx lv fv hv bv) (nextP r c) w) := by
  obtain ⟨la, lc, rfl⟩ := row_slice h.body
  have HN : Hid (nextP r c = ({ r with body := r.body ++ [c] }, decide (((r.body.length + 1 : Nat) : Int) = r.len), 0)) := Lib.hid (by unfold nextP; rw [if_pos hp])
  have hd : Kept (fun _ => True) w w.drew := (Kept.refl _ w).drew
  have HCD := Lib.hid (h.kept hd fun _ _ => trivial)
  obtain ⟨-, -, -, -, -, -, -, -, c8, f9, c10⟩ := h.facts
  have f8 := f9 8
  have HPP := Lib.hid hp
  have hgl : g < w.heap.size := h.lt g (by simp [fpC])
  have hgne : g ≠ w.heap.size := by omega
  have hbl : bx < w.heap.size := h.lt bx (by simp [fpC])
  have hbne : bx ≠ w.heap.size := by omega
  have hbg : bx ≠ g := h.bx_ne
  clear h hp f9
  go_enter Tryz.func117, Tryz.ntmps117
  go_wp2_with fail
  go_region_law (
    (refine step_pushOne 81 5 Tryz.underlying81 infoByteS rfl (by decide) rfl _ _ rfl 0 (.slice la r.body.length lc) r.body.length (Lib.byteCells r.body) [.int .u8 c.toNat] w.drew _ rfl rfl rfl (by intro u hu; simp at hu; subst hu; rfl) 1 _ rfl rfl rfl HCD.out.body (by omega) (by decide) (Nat.zero_le _) ?_; intro v' w1 k1 k2 k3; obtain ⟨hr1, hk1, x4, x5, x10⟩ := HCD.out.addBody HPP.out c k1 k2 k3; obtain ⟨va, vc, rfl⟩ := row_slice k1; have HR1 := Lib.hid (And.intro hr1 (And.intro hk1 k3.where)); clear k1 k2 k3 hr1 hk1))
  all_goals
    obtain ⟨hr1, hk1, hwh⟩ := HR1.out
    obtain ⟨-, -, -, -, -, -, -, d7, d8, -, d10⟩ := hr1.facts
    have HKF : Hid (Kept (· ∉ fpC g bx lv fv hv (.slice la r.body.length lc)) w (w1.setCell ⟨g, 8, none⟩ (.slice va (r.body.length + 1) vc))) := Lib.hid ((((Kept.refl (fun _ => True) w).drew).mono fun _ _ _ => trivial).tr (hk1.mono fun b _ hb => ⟨fun e => hb (fpC_mem.2 (.inl e)), fun e => hb (fpC_mem.2 (.inr (.inr (.inr (.inr (.inr e))))))⟩))
    have HFW : Hid (∀ b ∈ fpC g bx lv fv hv (.slice va (r.body.length + 1) vc), b ∈ fpC g bx lv fv hv (.slice la r.body.length lc) ∨ w.heap.size ≤ b) := Lib.hid (by
      intro b hb
      rcases fpC_mem.1 hb with e | e | e | e | e | e
      · exact .inl (fpC_mem.2 (.inl e))
      · exact .inl (fpC_mem.2 (.inr (.inl e)))
      · exact .inl (fpC_mem.2 (.inr (.inr (.inl e))))
      · exact .inl (fpC_mem.2 (.inr (.inr (.inr (.inl e)))))
      · exact .inl (fpC_mem.2 (.inr (.inr (.inr (.inr (.inl e))))))
      · rcases hwh b e with e | e
        · exact .inl (fpC_mem.2 (.inr (.inr (.inr (.inr (.inr e))))))
        · exact .inr e)
    obtain ⟨q, hq⟩ : ∃ q, (((r.body.length : Int) + 1) == r.len) = q := ⟨_, rfl⟩
    have HZ : Hid (∀ m, StepQ g (fpC g bx lv fv hv (.slice la r.body.length lc)) (nextP r c) w (.returned (.tuple #[.bool q, .int .i64 0])) ((w1.setCell ⟨g, 8, none⟩ (.slice va (r.body.length + 1) vc)).drewN m)) := Lib.hid fun m => (by
      have hkm : Kept (fun _ => True) (w1.setCell ⟨g, 8, none⟩ (.slice va (r.body.length + 1) vc)) ((w1.setCell ⟨g, 8, none⟩ (.slice va (r.body.length + 1) vc)).drewN m) := (Kept.refl _ _).drewN m
      rw [HN.out]
      refine ⟨?_, fun _ => ⟨_, ⟨bx, _, fv, hv, _, hr1.kept hkm fun _ _ => trivial, rfl⟩, HFW.out⟩, HKF.out.drewN m⟩
      rw [← hq, show (((r.body.length : Int) + 1) == r.len) = decide ((((r.body.length + 1 : Nat) : Int)) = r.len) from by rw [show ((r.body.length + 1 : Nat) : Int) = (r.body.length : Int) + 1 by omega]; rfl])
    clear hr1 hk1 hwh HR1 x4 x5 x10 c8 f8 c10 HN
    go_wp2
    go_quiet (fail)
    go_wp2
    refine bodyPost_ret (v := .tuple #[.bool q, .int .i64 0]) (by simp [results, Tryz.results117, go_sem, ← hq]) rfl ?_
    exact HZ.out _
end Go.Proofs.YtaomhkgdbobpkaaGreatDoor

namespace Go.Proofs.YtaomhkgdbobpkaaGreatDoor
open Go.RowKit Wi

set_option maxHeartbeats 8000000 in
set_option maxRecDepth 100000 in
theorem takes_any (g : Nat) (fp : List Nat) (r : R) (c : UInt8) (w : World) (B : Nat) (hE : WE B w) (h : RdAt g r fp w) (hc : r.cnt ≤ 1099511627776) (hl : r.line.length ≤ 100000) (hb : r.body.length ≤ 100000) (hh : r.hs.length ≤ 1000000) (hB : B ≤ g) :
    Calls Tryz.prog 36 #[.pointer (some ⟨g, 0, none⟩), .int .u8 c.toNat] w (StepQ g fp (takesP r c) w) := by
  obtain ⟨bx, lv, fv, hv, bv, h, rfl⟩ := h
  obtain ⟨-, -, c2, c3, -, -, -, -, -, f9, -⟩ := h.facts
  have f3 := f9 3
  have h1 := h.setCnt (r.cnt + 1)
  have hk1 : Kept (· ≠ g) w (w.setCell ⟨g, 3, none⟩ (.int .i64 ((r.cnt + 1 : Nat) : Int))) := (Kept.refl _ w).setCell (.inr (by simp)) _
  obtain ⟨-, -, d2, -, -, -, -, -, -, -, -⟩ := h1.facts
  have he : ((r.cnt + 1 : Nat) : Int) = (r.cnt : Int) + 1 := by omega
  rw [he] at h1 hk1 d2
  obtain ⟨W1, hW1⟩ : ∃ W1, w.setCell ⟨g, 3, none⟩ (.int .i64 ((r.cnt : Int) + 1)) = W1 := ⟨_, rfl⟩
  rw [hW1] at h1 hk1 d2
  have hE1 := hE.kept hk1 fun k hk => by omega
  have HZ : Hid (∀ e w', StepQ g (fpC g bx lv fv hv bv) (nextP { r with cnt := r.cnt + 1 } c) W1 e w' → StepQ g (fpC g bx lv fv hv bv) (takesP r c) w e w') := Lib.hid fun e w' hq => hq.of (fun b hb => hb) (by simp [fpC]) hk1
  have hret : ∀ e w', StepQ g (fpC g bx lv fv hv bv) (nextP { r with cnt := r.cnt + 1 } c) W1 e w' → ∃ q n, e = .returned (.tuple #[.bool q, .int .i64 n]) := fun e w' hq => ⟨_, _, hq.1⟩
  have HRT := Lib.hid hret
  by_cases hp : r.ph = 2
  · have NX := Lib.hid (inBody_any g bx lv fv hv bv { r with cnt := r.cnt + 1 } c W1 h1 hp hb)
    simp only [hp, if_true] at d2 c2
    clear h h1 hk1 hE hE1 hret he f9 hp
    go_enter Tryz.func36, Tryz.ntmps36
    go_wp2_with fail
    refine NX.out.mono ?_
    intro e w2 hq
    have HQ := Lib.hid (HZ.out _ _ hq)
    obtain ⟨q, n, rfl⟩ := HRT.out _ _ hq
    clear hq
    go_wp2
    refine bodyPost_ret (v := .tuple #[.bool q, .int .i64 n]) (by simp [results, Tryz.results36, go_sem]) rfl ?_
    exact HQ.out
  · have hp2 : r.ph < 2 := by
      rcases h.one with ⟨e, _⟩ | ⟨e, _⟩
      · exact absurd e hp
      · exact e
    have NX := Lib.hid (inLine_any g bx lv fv hv bv { r with cnt := r.cnt + 1 } c W1 B hE1 h1 hp2 hl hh hB)
    simp only [hp, if_false] at d2 c2
    clear h h1 hk1 hE hE1 hret he f9 hp hp2
    go_enter Tryz.func36, Tryz.ntmps36
    go_wp2_with fail
    refine NX.out.mono ?_
    intro e w2 hq
    have HQ := Lib.hid (HZ.out _ _ hq)
    obtain ⟨q, n, rfl⟩ := HRT.out _ _ hq
    clear hq
    go_wp2
    refine bodyPost_ret (v := .tuple #[.bool q, .int .i64 n]) (by simp [results, Tryz.results36, go_sem]) rfl ?_
    exact HQ.out
end Go.Proofs.YtaomhkgdbobpkaaGreatDoor
