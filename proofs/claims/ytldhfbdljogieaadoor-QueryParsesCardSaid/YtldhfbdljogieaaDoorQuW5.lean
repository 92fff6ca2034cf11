/- Walks of query's stays and Escape (layer 3): Escape computes esc. -/
import Derived.Test.YtldhfbdljogieaaDoorQuW4
import Derived.Test.YtldhfbdljogieaaDoorShelf
namespace Go.Proofs.YtldhfbdljogieaaDoor
open Go.RowKit
open Qu

/-- What the library's own variables hold: unicode/utf8's two tables as its text lays them, internal/bytealg.MaxLen some number. -/
def Env (w : World) : Prop := Lib.Utf8Tabs 0 1 w ∧ ∃ m : Int, w.cell? ⟨2, 0, none⟩ = some (.int .i64 m)
def EnvB (B : Nat) : Prop := 0 < B ∧ 1 < B ∧ 2 < B
theorem cell_lt {w : World} {b o : Nat} {v : Value} (h : w.cell? ⟨b, o, none⟩ = some v) : b < w.heap.size := by
  by_cases hb : b < w.heap.size
  · exact hb
  · simp [World.cell?, Array.getElem?_eq_none (by omega : w.heap.size ≤ b)] at h
theorem Env.size {w : World} (h : Env w) : EnvB w.heap.size := by
  obtain ⟨⟨h1, h2⟩, m, h3⟩ := h
  exact ⟨cell_lt (h1 0 (by decide)), cell_lt (h2 0 (by decide)).1, cell_lt h3⟩
theorem EnvB.le {B C : Nat} (h : EnvB B) (hC : B ≤ C) : EnvB C := ⟨by have := h.1; omega, by have := h.2.1; omega, by have := h.2.2; omega⟩
theorem Env.on {w w' : World} {B : Nat} (h : Env w) (hB : EnvB B) (hb : Below B w w') : Env w' := by
  obtain ⟨⟨h1, h2⟩, m, h3⟩ := h
  have hc := (bcell hb).1
  exact ⟨⟨fun c hc' => (hc _ _ hB.1).trans (h1 c hc'), fun i hi => ⟨(hc _ _ hB.2.1).trans (h2 i hi).1, (hc _ _ hB.2.1).trans (h2 i hi).2⟩⟩, m, (hc _ _ hB.2.2).trans h3⟩

def punctI (n : Int) : Bool := decide (n = 45 ∨ n = 46 ∨ n = 95 ∨ n = 42)
theorem punct_tab : ∀ x : Fin 128, decide (0 ≤ Lib.indexByte [45, 46, 95, 42] x.val.toUInt8) = decide (x.val = 45 ∨ x.val = 46 ∨ x.val = 95 ∨ x.val = 42) := by decide
theorem punct_any (n : Int) (h0 : 0 ≤ n) (h1 : n < 128) (w : World) :
    Calls Tryd.prog 39 #[.string ⟨#[45, 46, 95, 42]⟩, .int .i32 n] w fun e w' => e = .returned (.bool (punctI n)) ∧ w = w' := by
  refine (Tryd.strings_ContainsRune_ascii ⟨#[45, 46, 95, 42]⟩ n w h0 h1).mono ?_
  rintro e w' ⟨rfl, hw⟩
  refine ⟨ret_bool ?_, hw.symm⟩
  have := punct_tab ⟨n.toNat, by omega⟩
  simp only at this
  unfold punctI
  refine this.trans ?_
  rw [Bool.eq_iff_iff]
  simp only [decide_eq_true_eq]
  omega

set_option maxHeartbeats 1000000 in
theorem stays_any (n : Int) (h0 : 0 ≤ n) (h1 : n < 128) (w : World) :
    Calls Tryd.prog 29 #[.int .i32 n] w fun e w' => e = .returned (.bool (stayI n)) ∧ w = w' := by
  go_enter Tryd.func29, Tryd.ntmps29
  go_wp2_with (go_at_call 39; refine (punct_any n h0 h1 _).mono ?_; rintro e w' ⟨rfl, rfl⟩)
  all_goals
    go_ret
    refine ⟨ret_bool ?_, rfl⟩
    unfold stayI
    rw [Bool.eq_iff_iff]
    simp [punctI]
    try omega
end Go.Proofs.YtldhfbdljogieaaDoor
