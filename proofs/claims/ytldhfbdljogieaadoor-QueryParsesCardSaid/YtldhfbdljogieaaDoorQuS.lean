/- Walk of the law's own 'same' (layer 3): it compares fields. -/
import Derived.Test.YtldhfbdljogieaaDoorQuW11
namespace Go.Proofs.YtldhfbdljogieaaDoor
open Go.RowKit Qu

theorem fldIn_len {w : World} {v : Value} {l : List Fld} (h : FldIn w v l) : ∃ a cap, v = .slice a l.length cap := by
  rcases h with ⟨a, rfl, rfl⟩ | ⟨b, o, cap, rfl, _⟩
  · exact ⟨a, 0, rfl⟩
  · exact ⟨_, cap, rfl⟩
set_option maxHeartbeats 4000000 in
set_option maxRecDepth 100000 in
/-- 'same' of two slices that read as the same fields: true. -/
theorem same_yes (v u : Value) (l : List Fld) (w : World) (hv : FldIn w v l) (hu : FldIn w u l) (hl : l.length ≤ 68719476736) :
    Calls Tryd.prog 16 #[v, u] w fun e w' => e = .returned (.bool true) ∧ Below w.heap.size w w' := by
  rcases hv with ⟨a0, rfl, rfl⟩ | ⟨b, o, cap, rfl, h1, h2, h3⟩
  · obtain ⟨a, cap, rfl⟩ := fldIn_len hu
    go_enter Tryd.func16, Tryd.ntmps16
    go_wp2
    go_loopw [5] (fun i wr => i = .int .i64 0 ∧ Below w.heap.size w wr) (fun _ _ => 0)
    case atStart => exact ⟨rfl, Below.refl _ _⟩
    case round =>
      obtain ⟨rfl, hbw⟩ := hrel
      go_wp2
      go_ret
      exact ⟨rfl, hbw⟩
  · rcases hu with ⟨a0, rfl, rfl⟩ | ⟨b', o', cap', rfl, h1', h2', h3'⟩
    · go_enter Tryd.func16, Tryd.ntmps16
      go_wp2
      go_loopw [5] (fun i wr => i = .int .i64 0 ∧ Below w.heap.size w wr) (fun _ _ => 0)
      case atStart => exact ⟨rfl, Below.refl _ _⟩
      case round =>
        obtain ⟨rfl, hbw⟩ := hrel
        go_wp2
        go_ret
        exact ⟨rfl, hbw⟩
    · have H3 := Lib.hid h3
      have H3' := Lib.hid h3'
      clear h3 h3'
      go_enter Tryd.func16, Tryd.ntmps16
      go_wp2
      go_loopw [5] (fun i wr => ∃ k : Nat, k ≤ l.length ∧ i = .int .i64 k ∧ Below w.heap.size w wr) (fun i _ => l.length - (intOf i).toNat)
      case atStart => exact ⟨0, Nat.zero_le _, rfl, Below.refl _ _⟩
      case round =>
        obtain ⟨k, hk, rfl, hbw⟩ := hrel
        by_cases hlt : k < l.length
        · obtain ⟨f, hf⟩ : ∃ f, l[k]? = some f := ⟨l[k]'hlt, List.getElem?_eq_getElem hlt⟩
          obtain ⟨c0, c1⟩ := H3.out k f hf
          obtain ⟨c2, c3⟩ := H3'.out k f hf
          have d0 : wr.cell? ⟨b, o + k * 2, none⟩ = some (S f.1) := ((bcell hbw).1 _ _ h2).trans c0
          have d1 : wr.cell? ⟨b, o + k * 2 + 1, none⟩ = some (S f.2) := ((bcell hbw).1 _ _ h2).trans c1
          have d2 : wr.cell? ⟨b', o' + k * 2, none⟩ = some (S f.1) := ((bcell hbw).1 _ _ h2').trans c2
          have d3 : wr.cell? ⟨b', o' + k * 2 + 1, none⟩ = some (S f.2) := ((bcell hbw).1 _ _ h2').trans c3
          have hk0 : (0 : Int) ≤ (k : Int) := Int.natCast_nonneg _
          have hk1 : (k : Int) < (l.length : Int) := by omega
          clear c0 c1 c2 c3 hf
          go_wp2
          go_quiet (fail)
          go_wp2
          go_roundw
          case rel => exact ⟨k + 1, by omega, by go_num, below_drewN hbw _⟩
          case measure => simp [intOf]; omega
        · go_wp2
          go_ret
          exact ⟨rfl, hbw⟩
end Go.Proofs.YtldhfbdljogieaaDoor
