/- Walks of query's and the reference's small functions (layer 3): what each computes, on bytes. -/
import Derived.Test.YtldhfbdljogieaaDoorRows
import Derived.Test.YtldhfbdljogieaaDoorKit
import Derived.Test.YtldhfbdljogieaaDoorQuPlain
import Derived.StillTailTactics
import Derived.BigQuiet
import Derived.Deep.QuietTactic
import Derived.Deep.RegionLaw
namespace Go.Proofs.YtldhfbdljogieaaDoor
open Go.RowKit
open Qu

theorem infoByte : (Tryd.prog.info? 5).map (fun i => (i.zero, i.size, i.bytes)) = some (some (.int .u8 0), 1, 1) := by kernel_rfl

def capitals : ByteArray := ⟨#[48, 49, 50, 51, 52, 53, 54, 55, 56, 57, 65, 66, 67, 68, 69, 70]⟩
theorem hex_tab : ∀ x : Fin 16, capitals.data[x.val]? = some (hexUp x.val) := by decide
theorem hex_at (n : Nat) (hn : n < 16) (h : n < capitals.size) : capitals[n]'h = hexUp n := by
  have := hex_tab ⟨n, hn⟩
  obtain ⟨h', e⟩ := Array.getElem?_eq_some_iff.1 this
  exact e
theorem and15 : ∀ x : Fin 256, bits .and .u8 ((x.val : Nat) : Int) 15 = ((x.val % 16 : Nat) : Int) := by decide +kernel
theorem pct_cells (b : UInt8) (c : Int) (hc : c = b.toNat) (h1 : (c / 16).toNat < capitals.size) (h2 : (c % 16).toNat < capitals.size) :
    (#[.int .u8 37, .int .u8 ((capitals[(c / 16).toNat]'h1).toNat : Nat), .int .u8 ((capitals[(c % 16).toNat]'h2).toNat : Nat)] : Array Value) = (Lib.byteCells (pct b)).toArray := by
  have hb := b.toNat_lt
  have e1 : (c / 16).toNat = b.toNat / 16 := by omega
  have e2 : (c % 16).toNat = b.toNat % 16 := by omega
  have g1 := hex_at _ (by omega) h1
  have g2 := hex_at _ (by omega) h2
  rw [g1, g2, e1, e2]
  simp [Lib.byteCells, pct]

set_option maxHeartbeats 400000 in
theorem escaped_any (B : Nat) (l : List UInt8) (v : Value) (b : UInt8) (c : Int) (hc : c = b.toNat) (w : World) (hown : OwnB 5 B v l w) (hl : l.length + 3 ≤ 140737488355328) (hB : B ≤ w.heap.size) :
    Calls Tryd.prog 28 #[v, .int .u8 c] w fun e w' => ∃ v', e = .returned v' ∧ OwnB 5 B v' (l ++ pct b) w' ∧ Below B w w' ∧ Lib.OthersKept 5 none w w' := by
  have h0 : 0 ≤ c := by omega
  have h1 : c < 256 := by have := b.toNat_lt; omega
  have h2 : 0 ≤ c / 16 := by omega
  have h3 : c / 16 < 16 := by omega
  have h4 : 0 ≤ c % 16 := by omega
  have h5 : c % 16 < 16 := by omega
  have h6 : bits .and .u8 c 15 = c % 16 := by have := and15 ⟨c.toNat, by omega⟩; simp only [Int.toNat_of_nonneg h0] at this; rw [this]; omega
  have HC := Lib.hid hc
  clear hc
  go_enter Tryd.func28, Tryd.ntmps28
  go_wp2
  go_region_law (refine step_pushes 47 5 Tryd.underlying47 infoByte rfl (.tmp 5) (.tmp 12) rfl B l v (pct b) w.drew _ (by exact pct_cells b c HC.out _ _) rfl 3 3 rfl _ rfl rfl rfl hown.drew (by simpa [pct] using hl) hB ?_; intro v' w' g1 g2 g3)
  all_goals (go_wp2; go_ret; exact ⟨v', rfl, g1, (Below.refl B w).drew.trans g2, g3⟩)

def digB (c : UInt8) : Bool := decide (0 ≤ hexV c)
def digV (c : UInt8) : Int := if 0 ≤ hexV c then hexV c else 0
theorem digV_rng (c : UInt8) : 0 ≤ digV c ∧ digV c ≤ 15 := by have := hexV_rng c; unfold digV; split <;> omega
theorem dig_yes {b : UInt8} {x : Int} (h : hexV b = x) (h0 : 0 ≤ x) : Ending.returned (.tuple #[.int .u8 x, .bool true]) = Ending.returned (.tuple #[.int .u8 (digV b), .bool (digB b)]) := by
  unfold digV digB; rw [h, if_pos h0, decide_eq_true h0]
theorem dig_no {b : UInt8} (h : hexV b = -1) : Ending.returned (.tuple #[.int .u8 0, .bool false]) = Ending.returned (.tuple #[.int .u8 (digV b), .bool (digB b)]) := by
  unfold digV digB; rw [h]; rfl
theorem ret_int {k : IntKind} {a b : Int} (h : a = b) : Ending.returned (.int k a) = .returned (.int k b) := by rw [h]
theorem ret_bool {a b : Bool} (h : a = b) : Ending.returned (.bool a) = .returned (.bool b) := by rw [h]

set_option maxHeartbeats 400000 in
theorem digit_any (b : UInt8) (c : Int) (hc : c = b.toNat) (w : World) :
    Calls Tryd.prog 45 #[.int .u8 c] w fun e w' => e = .returned (.tuple #[.int .u8 (digV b), .bool (digB b)]) ∧ w = w' := by
  have h0 : 0 ≤ c := by omega
  have h1 : c < 256 := by have := b.toNat_lt; omega
  have HC := Lib.hid hc
  clear hc
  go_enter Tryd.func45, Tryd.ntmps45
  go_wp2
  all_goals
    go_ret2
    refine ⟨?_, rfl⟩
    have hc := HC.out
    first
      | exact dig_yes (by unfold hexV; (repeat' split) <;> omega) (by omega)
      | exact dig_no (by unfold hexV; (repeat' split) <;> omega)

set_option maxHeartbeats 400000 in
theorem refdigit_any (b : UInt8) (c : Int) (hc : c = b.toNat) (w : World) :
    Calls Tryd.prog 37 #[.int .u8 c] w fun e w' => e = .returned (.int .i64 (hexV b)) ∧ w = w' := by
  have h0 : 0 ≤ c := by omega
  have h1 : c < 256 := by have := b.toNat_lt; omega
  have HC := Lib.hid hc
  clear hc
  go_enter Tryd.func37, Tryd.ntmps37
  go_wp2
  all_goals
    go_ret
    refine ⟨ret_int ?_, rfl⟩
    have hc := HC.out
    unfold hexV
    (repeat' split) <;> omega

set_option maxHeartbeats 400000 in
theorem refplain_any (b : UInt8) (c : Int) (hc : c = b.toNat) (w : World) :
    Calls Tryd.prog 30 #[.int .u8 c] w fun e w' => e = .returned (.bool (stayI b.toNat)) ∧ w = w' := by
  have h0 : 0 ≤ c := by omega
  have h1 : c < 256 := by have := b.toNat_lt; omega
  have HC := Lib.hid hc
  clear hc
  go_enter Tryd.func30, Tryd.ntmps30
  go_wp2
  all_goals
    go_ret
    refine ⟨ret_bool ?_, rfl⟩
    have hc := HC.out
    rw [← hc]
    unfold stayI
    rw [Bool.eq_iff_iff]
    simp
    try omega

/-- What the two digits at the front of a text say. -/
def saidV (a b : UInt8) : Int := 16 * digV a + digV b
theorem or_dig : ∀ x y : Fin 16, bits .or .u8 (((x.val : Nat) : Int) * 16) ((y.val : Nat) : Int) = 16 * ((x.val : Nat) : Int) + ((y.val : Nat) : Int) := by decide +kernel

set_option maxHeartbeats 400000 in
theorem said_short (s : ByteArray) (hs : s.size < 2) (w : World) :
    Calls Tryd.prog 36 #[.string s] w fun e w' => e = .returned (.tuple #[.int .u8 0, .bool false]) ∧ w = w' := by
  go_enter Tryd.func36, Tryd.ntmps36
  go_wp2
  go_ret2
  exact ⟨rfl, rfl⟩

set_option maxHeartbeats 400000 in
theorem said_any (s : ByteArray) (a b : UInt8) (hs : 2 ≤ s.size) (ha : s[0]'(by omega) = a) (hb : s[1]'(by omega) = b) (hm : s.size ≤ maxLen) (w : World) :
    Calls Tryd.prog 36 #[.string s] w fun e w' => e = .returned (.tuple #[.int .u8 (saidV a b), .bool (digB a && digB b)]) ∧ w = w' := by
  unfold maxLen at hm
  have ra := digV_rng a
  have rb := digV_rng b
  obtain ⟨ra0, ra1⟩ := ra
  obtain ⟨rb0, rb1⟩ := rb
  have hor : bits .or .u8 (digV a * 16) (digV b) = saidV a b := by
    have := or_dig ⟨(digV a).toNat, by omega⟩ ⟨(digV b).toNat, by omega⟩
    simp only [Int.toNat_of_nonneg ra0, Int.toNat_of_nonneg rb0] at this
    exact this
  have HA := Lib.hid ha
  have HB := Lib.hid hb
  clear ha hb
  go_enter Tryd.func36, Tryd.ntmps36
  go_wp2_with fail
  rw [HA.out]
  refine (digit_any _ _ rfl _).mono ?_
  rintro e w' ⟨rfl, rfl⟩
  go_wp2_with fail
  rw [HB.out]
  refine (digit_any _ _ rfl _).mono ?_
  rintro e w' ⟨rfl, rfl⟩
  go_wp2
  all_goals go_ret2
  all_goals
    refine ⟨?_, rfl⟩
    first
      | (rw [show digB a = true by assumption]; rfl)
      | (rw [show digB a = false by simpa using ‹¬ digB a = true›]; rfl)
end Go.Proofs.YtldhfbdljogieaaDoor
