/- Walks of wire (layer 5), sixteenth part: a byte. -/
import Derived.Test.YtaomhkgdbobpkaaGreatDoorWiW15
namespace Go.Proofs.YtaomhkgdbobpkaaGreatDoor
open Go.RowKit Wi

set_option maxHeartbeats 8000000 in
set_option maxRecDepth 100000 in
theorem takes_any (g : Nat) (fp : List Nat) (r : R) (c : UInt8) (w : World) (B : Nat) (hE : WE B w) (h : RdAt g r fp w) (hc : r.cnt ≤ 1099511627776) (hl : r.line.length ≤ 100000) (hb : r.body.length ≤ 100000) (hh : r.hs.length ≤ 1000000) (hB : B ≤ g) :
    Calls Tryz.prog 36 #[.pointer (some ⟨g, 0, none⟩), .int .u8 c.toNat] w (StepQ g fp (takesP r c) w) := by
  obtain ⟨bx, lv, fv, hv, bv, h, rfl⟩ := h
  obtain ⟨-, -, c2, c3, -, -, -, -, -, f9, -⟩ := h.facts
  have f3 := f9 3
  have h1 := h.setCnt (r.cnt + 1)
  have hk1 : Kept (· ≠ g) w (w.setCell ⟨g, 3, none⟩ (.int .i64 ((r.cnt + 1 : Nat) : Int))) := (Kept.refl _ w).setCell (.inr (by simp)) _
  obtain ⟨-, -, d2, -, -, -, -, -, -, -, -⟩ := h1.facts
  have he : ((r.cnt + 1 : Nat) : Int) = (r.cnt : Int) + 1 := by omega
  rw [he] at h1 hk1 d2
  obtain ⟨W1, hW1⟩ : ∃ W1, w.setCell ⟨g, 3, none⟩ (.int .i64 ((r.cnt : Int) + 1)) = W1 := ⟨_, rfl⟩
  rw [hW1] at h1 hk1 d2
  have hE1 := hE.kept hk1 fun k hk => by omega
  have HZ : Hid (∀ e w', StepQ g (fpC g bx lv fv hv bv) (nextP { r with cnt := r.cnt + 1 } c) W1 e w' → StepQ g (fpC g bx lv fv hv bv) (takesP r c) w e w') := Lib.hid fun e w' hq => hq.of (fun b hb => hb) (by simp [fpC]) hk1
  have hret : ∀ e w', StepQ g (fpC g bx lv fv hv bv) (nextP { r with cnt := r.cnt + 1 } c) W1 e w' → ∃ q n, e = .returned (.tuple #[.bool q, .int .i64 n]) := fun e w' hq => ⟨_, _, hq.1⟩
  have HRT := Lib.hid hret
  by_cases hp : r.ph = 2
  · have NX := Lib.hid (inBody_any g bx lv fv hv bv { r with cnt := r.cnt + 1 } c W1 h1 hp hb)
    simp only [hp, if_true] at d2 c2
    clear h h1 hk1 hE hE1 hret he f9 hp
    go_enter Tryz.func36, Tryz.ntmps36
    go_wp2_with fail
    refine NX.out.mono ?_
    intro e w2 hq
    have HQ := Lib.hid (HZ.out _ _ hq)
    obtain ⟨q, n, rfl⟩ := HRT.out _ _ hq
    clear hq
    go_wp2
    refine bodyPost_ret (v := .tuple #[.bool q, .int .i64 n]) (by simp [results, Tryz.results36, go_sem]) rfl ?_
    exact HQ.out
  · have hp2 : r.ph < 2 := by
      rcases h.one with ⟨e, _⟩ | ⟨e, _⟩
      · exact absurd e hp
      · exact e
    have NX := Lib.hid (inLine_any g bx lv fv hv bv { r with cnt := r.cnt + 1 } c W1 B hE1 h1 hp2 hl hh hB)
    simp only [hp, if_false] at d2 c2
    clear h h1 hk1 hE hE1 hret he f9 hp hp2
    go_enter Tryz.func36, Tryz.ntmps36
    go_wp2_with fail
    refine NX.out.mono ?_
    intro e w2 hq
    have HQ := Lib.hid (HZ.out _ _ hq)
    obtain ⟨q, n, rfl⟩ := HRT.out _ _ hq
    clear hq
    go_wp2
    refine bodyPost_ret (v := .tuple #[.bool q, .int .i64 n]) (by simp [results, Tryz.results36, go_sem]) rfl ?_
    exact HQ.out
end Go.Proofs.YtaomhkgdbobpkaaGreatDoor
