/- Walks of the law's writer (layer 4): raw numbers, blanks, digits, letters; how a text may stand. -/
import Derived.Test.YtmajpambfblhnaaGreatDoorJoParse
import Derived.Laws.BitsLemmas
import Derived.Deep.DeepCutAuto
import Derived.Deep.CutBlock
import Derived.Test.YtmajpambfblhnaaGreatDoorJoPlainB
namespace Go.Proofs.YtmajpambfblhnaaGreatDoor
open Go.RowKit Jo

theorem wret_i {a b : Int} (h : a = b) : Ending.returned (.int .i64 a) = .returned (.int .i64 b) := by rw [h]
/-- Some number below n. -/
def SomeLt (n : Nat) (e : Ending) : Prop := ∃ r : Nat, r < n ∧ e = .returned (.int .i64 r)
def pickZ (c : Int) (n : Nat) : Nat := ((if c < 0 then -(c + 1) else c) % (n : Int)).toNat
theorem pickZ_lt (c : Int) (n : Nat) (hn : 1 ≤ n) : pickZ c n < n := by
  unfold pickZ
  have h1 := Int.emod_lt_of_pos (if c < 0 then -(c + 1) else c) (by omega : (0 : Int) < n)
  have h2 := Int.emod_nonneg (if c < 0 then -(c + 1) else c) (by omega : (n : Int) ≠ 0)
  omega
theorem pickZ_int (c : Int) (n : Nat) (hn : 1 ≤ n) : (pickZ c n : Int) = (if c < 0 then -(c + 1) else c) % (n : Int) := by
  unfold pickZ
  have h2 := Int.emod_nonneg (if c < 0 then -(c + 1) else c) (by omega : (n : Int) ≠ 0)
  omega
set_option maxHeartbeats 1000000 in
theorem pick_is (c : Int) (n : Nat) (w : World) (hc : -9223372036854775808 ≤ c ∧ c ≤ 9223372036854775807) (hn : 1 ≤ n ∧ n ≤ 1000000) :
    Calls Tryz.prog 71 #[.int .i64 c, .int .i64 n] w fun e w' => e = .returned (.int .i64 (pickZ c n)) ∧ w' = w := by
  obtain ⟨c1, c2⟩ := hc
  obtain ⟨n1, n2⟩ := hn
  have hp := Lib.hid (pickZ_int c n n1)
  obtain ⟨p, hpe⟩ : ∃ p, pickZ c n = p := ⟨_, rfl⟩
  rw [hpe] at hp ⊢
  clear hpe
  have hn0 : (1 : Int) ≤ (n : Int) := by omega
  have hnz : ((n : Int) == 0) = false := by rw [beq_eq_false_iff_ne]; omega
  by_cases h : c < 0
  · have ht : Hid ((c + 1).tmod (n : Int) = -((-(c + 1)) % (n : Int))) := Lib.hid (by
      have h3 := Int.neg_tmod (-(c + 1)) (n : Int)
      rw [Int.neg_neg] at h3
      rw [h3, Int.tmod_eq_emod_of_nonneg (by omega)])
    have hq : Hid ((p : Int) = (-(c + 1)) % (n : Int)) := Lib.hid (by rw [hp.out, if_pos h])
    clear hp
    go_enter Tryz.func71, Tryz.ntmps71
    go_wp2
    go_ret
    exact ⟨wret_i (by rw [ht.out, hq.out]; omega), rfl⟩
  · have h2 : 0 ≤ c := by omega
    have hq : Hid ((p : Int) = c % (n : Int)) := Lib.hid (by rw [hp.out, if_neg h])
    clear hp
    go_enter Tryz.func71, Tryz.ntmps71
    go_wp2
    go_ret
    exact ⟨wret_i (by rw [hq.out]), rfl⟩

/-- The raw numbers at g, a of which are taken. -/
structure Ch (g : Nat) (ra : Option Addr) (rl rc a : Nat) (w : World) : Prop where
  box : w.heap[g]? = some (.cells #[.slice ra rl rc, .int .i64 a] 50 (0, 0))
  le : a ≤ rl
  max : rl ≤ 9223372036854775807
  rd : ∀ j, j < rl → ∃ b off z, ra = some ⟨b, off, none⟩ ∧ b ≠ g ∧ b < w.heap.size ∧ w.cell? ⟨b, off + j, none⟩ = some (.int .i64 z) ∧ -9223372036854775808 ≤ z ∧ z ≤ 9223372036854775807
section
variable {g rl rc a : Nat} {ra : Option Addr} {w w' : World}
theorem Ch.lt (h : Ch g ra rl rc a w) : g < w.heap.size := (Array.getElem?_eq_some_iff.1 h.box).1
theorem Ch.kept (h : Ch g ra rl rc a w) (hk : Kept (fun _ => True) w w') : Ch g ra rl rc a w' :=
  ⟨(hk.block g h.lt trivial).trans h.box, h.le, h.max, fun j hj => by
    obtain ⟨b, off, z, h1, h2, h3, h4, h5⟩ := h.rd j hj
    exact ⟨b, off, z, h1, h2, by have := hk.size; omega, (hk.cell h3 trivial).trans h4, h5⟩⟩
theorem Ch.facts (h : Ch g ra rl rc a w) : w.cell? ⟨g, 0, none⟩ = some (.slice ra rl rc) ∧ w.cell? ⟨g, 1, none⟩ = some (.int .i64 a) ∧ w.frozen? ⟨g, 1, none⟩ = false := by
  have hb := h.box
  refine ⟨?_, ?_, frozen_row hb 1⟩ <;> rw [cell_of_row w g _ _ _ (0, 0) hb] <;> rfl
theorem Ch.step (h : Ch g ra rl rc a w) (ha : a < rl) (v : Value) (hv : v = .int .i64 ((a + 1 : Nat) : Int)) : Ch g ra rl rc (a + 1) (w.setCell ⟨g, 1, none⟩ v) := by
  subst hv
  refine ⟨(setCell_heap h.box _).trans rfl, ha, h.max, fun j hj => ?_⟩
  obtain ⟨b, off, z, h1, h2, h3, h4, h5⟩ := h.rd j hj
  have hk : Kept (· ≠ g) w (w.setCell ⟨g, 1, none⟩ (.int .i64 ((a + 1 : Nat) : Int))) := (Kept.refl _ w).setCell (.inr (by simp)) _
  exact ⟨b, off, z, h1, h2, by have := hk.size; omega, (hk.cell h3 h2).trans h4, h5⟩
end
/-- What a method of the writer leaves: the raw numbers stay, some more are taken. -/
def ChQ (g : Nat) (ra : Option Addr) (rl rc : Nat) (w : World) (Q : Ending → World → Prop) (e : Ending) (w' : World) : Prop := Q e w' ∧ (∃ a', Ch g ra rl rc a' w') ∧ Kept (· ≠ g) w w'

set_option maxHeartbeats 2000000 in
theorem wnext_any (g : Nat) (ra : Option Addr) (rl rc a n : Nat) (w : World) (hc : Ch g ra rl rc a w) (hn : 1 ≤ n ∧ n ≤ 1000000) :
    Calls Tryz.prog 44 #[.pointer (some ⟨g, 0, none⟩), .int .i64 n] w (ChQ g ra rl rc w fun e _ => SomeLt n e) := by
  obtain ⟨c0, c1, c2⟩ := hc.facts
  have HC := Lib.hid hc
  have hle := hc.le
  have hmax := hc.max
  have hgl := hc.lt
  by_cases ha : a = rl
  · subst ha
    clear hc
    go_enter Tryz.func44, Tryz.ntmps44
    go_wp2
    go_quiet (fail)
    go_wp2
    go_ret
    exact ⟨⟨0, by omega, rfl⟩, ⟨_, HC.out.kept ((Kept.refl _ w).drewN _)⟩, (Kept.refl _ w).drewN _⟩
  · obtain ⟨b, off, z, rfl, hbg, hbl, hz, hz1, hz2⟩ := hc.rd a (by omega)
    have hq : ((a : Int) == (rl : Int)) = false := by rw [beq_eq_false_iff_ne]; omega
    have hS := Lib.hid (fun m => (hc.kept ((Kept.refl _ w).drewN m)).step (by omega) (.int .i64 ((a : Int) + 1)) rfl)
    have hK := Lib.hid (fun m => ((Kept.refl (· ≠ g) w).drewN m).setCell (p := ⟨g, 1, none⟩) (.inr (by simp)) (.int .i64 ((a : Int) + 1)))
    have hw : IntKind.i64.wrap ((a : Int) + 1 - 1) = (a : Int) := by rw [IntWalk.i64_in _ (by omega)]; omega
    have ha0 : (0 : Int) ≤ (a : Int) := by omega
    have ha1 : (a : Int) < (rl : Int) := by omega
    have PK := Lib.hid (fun W => pick_is z n W ⟨hz1, hz2⟩ hn)
    have hgb : g ≠ b := Ne.symm hbg
    clear hc ha
    go_enter Tryz.func44, Tryz.ntmps44
    go_wp2
    go_quiet (fail)
    go_wp2_with fail
    go_quiet ((go_at_call 71; exact Calls.quiet_of_same (PK.out _)))
    go_wp2
    go_ret
    exact ⟨⟨_, pickZ_lt z n hn.1, rfl⟩, ⟨_, (hS.out _).kept ((Kept.refl _ _).drewN _)⟩, (hK.out _).drewN _⟩
end Go.Proofs.YtmajpambfblhnaaGreatDoor

namespace Go.Proofs.YtmajpambfblhnaaGreatDoor
open Go.RowKit Jo

def Bls (l : List UInt8) : Prop := ∀ c ∈ l, isBl c = true
theorem Bls.nil : Bls [] := fun c h => by cases h
theorem Bls.snoc {l : List UInt8} {c : UInt8} (h : Bls l) (hc : isBl c = true) : Bls (l ++ [c]) := fun x hx => by
  rcases List.mem_append.1 hx with hx | hx
  · exact h x hx
  · obtain rfl : x = c := by simpa using hx
    exact hc
def BlsQ (e : Ending) (_ : World) : Prop := ∃ l, Bls l ∧ l.length ≤ 3 ∧ e = .returned (S l)
set_option maxHeartbeats 4000000 in
theorem wblanks_any (g : Nat) (ra : Option Addr) (rl rc a : Nat) (w : World) (hc : Ch g ra rl rc a w) :
    Calls Tryz.prog 45 #[.pointer (some ⟨g, 0, none⟩)] w (ChQ g ra rl rc w BlsQ) := by
  have N := Lib.hid (fun (a : Nat) (W : World) (h : Ch g ra rl rc a W) => wnext_any g ra rl rc a 4 W h (by omega))
  have HC := Lib.hid hc
  clear hc
  go_enter Tryz.func45, Tryz.ntmps45
  go_wp2_with fail
  refine (N.out _ _ HC.out).mono ?_
  rintro e w1 ⟨⟨r, hr, rfl⟩, ⟨a1, hc1⟩, hk1⟩
  have HC1 := Lib.hid hc1
  have HK1 := Lib.hid hk1
  clear hc1 hk1
  go_wp2_with fail
  go_loopg [3, 4] r (fun q s i wr => ∃ (l : List UInt8) (k : Nat), s = S l ∧ i = .int .i64 k ∧ q = k ∧ k ≤ 3 ∧ l.length + k ≤ 3 ∧ Hid (Bls l) ∧ Hid (∃ a', Ch g ra rl rc a' wr) ∧ Hid (Kept (· ≠ g) w wr))
  case atStart => exact ⟨[], r, rfl, rfl, rfl, by omega, by simp; omega, Lib.hid Bls.nil, Lib.hid ⟨_, HC1.out⟩, HK1⟩
  case round =>
    clear HC1 HK1
    obtain ⟨l, _, rfl, rfl, rfl, hk, hl, HB, HCH, HK⟩ := hrel
    by_cases h0 : gk = 0
    · subst h0
      go_wp2
      go_ret
      exact ⟨⟨l, HB.out, by omega, rfl⟩, HCH.out, HK.out⟩
    · have hk0 : (0 : Int) < (gk : Int) := by omega
      obtain ⟨a2, hc2⟩ := HCH.out
      have HC2 := Lib.hid hc2
      clear hc2 h0
      go_wp2_with fail
      refine (N.out _ _ HC2.out).mono ?_
      rintro e w2 ⟨⟨r2, hr2, rfl⟩, hch, hk2⟩
      have HCH2 := Lib.hid hch
      have HK2 := Lib.hid (HK.out.tr hk2)
      clear hch hk2 HC2
      have hcs : r2 = 0 ∨ r2 = 1 ∨ r2 = 2 ∨ r2 = 3 := by omega
      obtain ⟨j, rfl⟩ : ∃ j, gk = j + 1 := ⟨gk - 1, by omega⟩
      rcases hcs with rfl | rfl | rfl | rfl
      · have CT := run_cat (P := Tryz.prog) l [32] (l ++ [32]) rfl (by simp; omega)
        go_wp2
        go_roundg j
        case rel => exact ⟨l ++ [32], j, rfl, by go_num, rfl, by omega, by simp; omega, Lib.hid (HB.out.snoc rfl), HCH2, HK2⟩
        case measure => omega
      · have CT := run_cat (P := Tryz.prog) l [9] (l ++ [9]) rfl (by simp; omega)
        go_wp2
        go_roundg j
        case rel => exact ⟨l ++ [9], j, rfl, by go_num, rfl, by omega, by simp; omega, Lib.hid (HB.out.snoc rfl), HCH2, HK2⟩
        case measure => omega
      · have CT := run_cat (P := Tryz.prog) l [10] (l ++ [10]) rfl (by simp; omega)
        go_wp2
        go_roundg j
        case rel => exact ⟨l ++ [10], j, rfl, by go_num, rfl, by omega, by simp; omega, Lib.hid (HB.out.snoc rfl), HCH2, HK2⟩
        case measure => omega
      · have CT := run_cat (P := Tryz.prog) l [13] (l ++ [13]) rfl (by simp; omega)
        go_wp2
        go_roundg j
        case rel => exact ⟨l ++ [13], j, rfl, by go_num, rfl, by omega, by simp; omega, Lib.hid (HB.out.snoc rfl), HCH2, HK2⟩
        case measure => omega
end Go.Proofs.YtmajpambfblhnaaGreatDoor

namespace Go.Proofs.YtmajpambfblhnaaGreatDoor
open Go.RowKit Jo
abbrev hexU : ByteArray := ⟨#[48, 49, 50, 51, 52, 53, 54, 55, 56, 57, 65, 66, 67, 68, 69, 70]⟩
abbrev hexL : ByteArray := ⟨#[48, 49, 50, 51, 52, 53, 54, 55, 56, 57, 97, 98, 99, 100, 101, 102]⟩
theorem wpiece_fin : ∀ d : Fin 16, hexU.extract d.val (d.val + 1) = ⟨#[hexU.data.getD d.val 0]⟩ ∧ hexZ (hexU.data.getD d.val 0) = d.val := by decide
theorem wpieceL_fin : ∀ d : Fin 16, hexL.extract d.val (d.val + 1) = ⟨#[hexL.data.getD d.val 0]⟩ ∧ hexZ (hexL.data.getD d.val 0) = d.val := by decide
theorem wrun_sign (sg : ByteArray) (hs : sg = hexU ∨ sg = hexL) (d : Nat) (h : d < 16) : ∃ c, hexZ c = d ∧ ∀ w, (Instr.sliceAt 9 (.string sg) (some (.int .i64 d)) (some (.int .i64 ((d : Int) + 1))) none).run Tryz.prog w = .ok (S [c]) w := by
  have hsz : sg.size = 16 := by rcases hs with rfl | rfl <;> rfl
  obtain ⟨c, h1, h2⟩ : ∃ c : UInt8, sg.extract d (d + 1) = ⟨#[c]⟩ ∧ hexZ c = d := by
    rcases hs with rfl | rfl
    · exact ⟨_, wpiece_fin ⟨d, h⟩⟩
    · exact ⟨_, wpieceL_fin ⟨d, h⟩⟩
  refine ⟨c, h2, fun w => ?_⟩
  rw [run_sliceAt_string (h := Tryz.underlying9), run_slice_string w 9 sg .i64 .i64 d ((d : Int) + 1) Tryz.underlying9 (by omega) (by omega) (by rw [hsz]; omega)]
  have h3 : ((d : Int) + 1).toNat = d + 1 := by omega
  rw [Int.toNat_natCast, h3, h1]
theorem wwraps_i64 (n : Int) (h₀ : 0 ≤ n) (h₁ : n < 2 ^ 31) : IntKind.i64.wrap n = n := by rw [IntKind.wrap_i64]; omega
theorem wand15 (x : Int) (h₀ : 0 ≤ x) (h₁ : x < 65536) : bits .and .i64 x 15 = x % 16 := bits_mask .i64 31 (by decide) wwraps_i64 4 (by decide) x h₀ (by omega)
/-- Four digits that say n. -/
def Four (n : Nat) (l : List UInt8) : Prop := ∃ a b c d, l = [92, 117, a, b, c, d] ∧ hexZ a = (n / 4096 % 16 : Nat) ∧ hexZ b = (n / 256 % 16 : Nat) ∧ hexZ c = (n / 16 % 16 : Nat) ∧ hexZ d = (n % 16 : Nat)
def FourQ (n : Nat) (w : World) (e : Ending) (w' : World) : Prop := ∃ l, Four n l ∧ e = .returned (S l) ∧ w = w'
set_option maxHeartbeats 4000000 in
set_option maxRecDepth 100000 in
theorem wfour_any (n : Nat) (sg : ByteArray) (hs : sg = hexU ∨ sg = hexL) (hn : n < 65536) (w : World) :
    Calls Tryz.prog 95 #[.int .i64 n, .string sg] w (FourQ n w) := by
  obtain ⟨x0, hx0⟩ : ∃ x, n / 4096 % 16 = x := ⟨_, rfl⟩
  have hl0 : x0 < 16 := by omega
  have b0 : bits .and .i64 ((n : Int) / 4096) 15 = (x0 : Int) := by rw [wand15 _ (by omega) (by omega)]; omega
  have w0 : IntKind.i64.wrap ((x0 : Int) + 1) = (x0 : Int) + 1 := by rw [IntKind.wrap_i64]; omega
  obtain ⟨a, ha, Ra⟩ := wrun_sign sg hs x0 hl0
  obtain ⟨x1, hx1⟩ : ∃ x, n / 256 % 16 = x := ⟨_, rfl⟩
  have hl1 : x1 < 16 := by omega
  have b1 : bits .and .i64 ((n : Int) / 256) 15 = (x1 : Int) := by rw [wand15 _ (by omega) (by omega)]; omega
  have w1 : IntKind.i64.wrap ((x1 : Int) + 1) = (x1 : Int) + 1 := by rw [IntKind.wrap_i64]; omega
  obtain ⟨b, hb, Rb⟩ := wrun_sign sg hs x1 hl1
  obtain ⟨x2, hx2⟩ : ∃ x, n / 16 % 16 = x := ⟨_, rfl⟩
  have hl2 : x2 < 16 := by omega
  have b2 : bits .and .i64 ((n : Int) / 16) 15 = (x2 : Int) := by rw [wand15 _ (by omega) (by omega)]; omega
  have w2 : IntKind.i64.wrap ((x2 : Int) + 1) = (x2 : Int) + 1 := by rw [IntKind.wrap_i64]; omega
  obtain ⟨c, hc, Rc⟩ := wrun_sign sg hs x2 hl2
  obtain ⟨x3, hx3⟩ : ∃ x, n % 16 = x := ⟨_, rfl⟩
  have hl3 : x3 < 16 := by omega
  have b3 : bits .and .i64 ((n : Int)) 15 = (x3 : Int) := by rw [wand15 _ (by omega) (by omega)]; omega
  have w3 : IntKind.i64.wrap ((x3 : Int) + 1) = (x3 : Int) + 1 := by rw [IntKind.wrap_i64]; omega
  obtain ⟨d, hd, Rd⟩ := wrun_sign sg hs x3 hl3
  have HF : Hid (Four n [92, 117, a, b, c, d]) := Lib.hid ⟨a, b, c, d, rfl, by rw [ha, hx0], by rw [hb, hx1], by rw [hc, hx2], by rw [hd, hx3]⟩
  have b4 : bits .and .i64 ((n : Int) / 1) 15 = (x3 : Int) := by rw [Int.ediv_one]; exact b3
  clear ha hb hc hd hs hx0 hx1 hx2 hx3
  go_enter Tryz.func95, Tryz.ntmps95
  go_wp2
  go_loopg [5, 6] 4 (fun q s sh wr => ((q = 4 ∧ s = S [92, 117] ∧ sh = .int .i64 12) ∨ (q = 3 ∧ s = S [92, 117, a] ∧ sh = .int .i64 8) ∨ (q = 2 ∧ s = S [92, 117, a, b] ∧ sh = .int .i64 4) ∨ (q = 1 ∧ s = S [92, 117, a, b, c] ∧ sh = .int .i64 0) ∨ (q = 0 ∧ s = S [92, 117, a, b, c, d] ∧ sh = .int .i64 (-4))) ∧ w = wr)
  case atStart => exact ⟨.inl ⟨rfl, rfl, rfl⟩, rfl⟩
  case round =>
    obtain ⟨h, rfl⟩ := hrel
    rcases h with ⟨rfl, rfl, rfl⟩ | ⟨rfl, rfl, rfl⟩ | ⟨rfl, rfl, rfl⟩ | ⟨rfl, rfl, rfl⟩ | ⟨rfl, rfl, rfl⟩
    · have CT := run_cat (P := Tryz.prog) [92, 117] [a] [92, 117, a] rfl (by simp)
      go_wp2
      go_roundg 3
      case rel => exact ⟨.inr (.inl ⟨rfl, rfl, rfl⟩), rfl⟩
      case measure => omega
    · have CT := run_cat (P := Tryz.prog) [92, 117, a] [b] [92, 117, a, b] rfl (by simp)
      go_wp2
      go_roundg 2
      case rel => exact ⟨.inr (.inr (.inl ⟨rfl, rfl, rfl⟩)), rfl⟩
      case measure => omega
    · have CT := run_cat (P := Tryz.prog) [92, 117, a, b] [c] [92, 117, a, b, c] rfl (by simp)
      go_wp2
      go_roundg 1
      case rel => exact ⟨.inr (.inr (.inr (.inl ⟨rfl, rfl, rfl⟩))), rfl⟩
      case measure => omega
    · have CT := run_cat (P := Tryz.prog) [92, 117, a, b, c] [d] [92, 117, a, b, c, d] rfl (by simp)
      go_wp2
      go_roundg 0
      case rel => exact ⟨.inr (.inr (.inr (.inr ⟨rfl, rfl, rfl⟩))), rfl⟩
      case measure => omega
    · go_wp2
      go_ret
      exact ⟨_, HF.out, rfl, rfl⟩
end Go.Proofs.YtmajpambfblhnaaGreatDoor

namespace Go.Proofs.YtmajpambfblhnaaGreatDoor
open Go.RowKit Jo

theorem Four.len {n : Nat} {l : List UInt8} (h : Four n l) : l.length = 6 := by obtain ⟨_, _, _, _, rfl, _⟩ := h; rfl
/-- A letter's number, by one or two of four digits. -/
def Coded (n : Nat) (l : List UInt8) : Prop := (n < 65536 ∧ Four n l) ∨ (65536 ≤ n ∧ ∃ l1 l2, l = l1 ++ l2 ∧ Four (55296 + (n - 65536) / 1024) l1 ∧ Four (56320 + (n - 65536) % 1024) l2)
theorem Coded.len {n : Nat} {l : List UInt8} (h : Coded n l) : l.length ≤ 12 := by
  rcases h with ⟨_, h⟩ | ⟨_, l1, l2, rfl, h1, h2⟩
  · rw [h.len]; omega
  · rw [List.length_append, h1.len, h2.len]; omega
def CodedQ (n : Nat) (w : World) (e : Ending) (w' : World) : Prop := ∃ l, Coded n l ∧ e = .returned (S l) ∧ w = w'
set_option maxHeartbeats 4000000 in
set_option maxRecDepth 100000 in
theorem wcoded_any (n : Nat) (sg : ByteArray) (hs : sg = hexU ∨ sg = hexL) (hn : n < 2097152) (w : World) :
    Calls Tryz.prog 70 #[.int .i64 n, .string sg] w (CodedQ n w) := by
  by_cases h : n < 65536
  · have F := Lib.hid (wfour_any n sg hs h w)
    have hI : (n : Int) < 65536 := by omega
    have HH := Lib.hid h
    clear hs h
    go_enter Tryz.func70, Tryz.ntmps70
    go_wp2_with fail
    refine F.out.mono ?_
    rintro e w' ⟨l, hl, rfl, rfl⟩
    go_wp2
    go_ret
    exact ⟨l, .inl ⟨HH.out, hl⟩, rfl, rfl⟩
  · obtain ⟨m, rfl⟩ : ∃ m, n = m + 65536 := ⟨n - 65536, by omega⟩
    have F1 := Lib.hid (fun W => wfour_any (55296 + m / 1024) sg hs (by omega) W)
    have F2 := Lib.hid (fun W => wfour_any (56320 + m % 1024) sg hs (by omega) W)
    obtain ⟨x, hx⟩ : ∃ x, 55296 + m / 1024 = x := ⟨_, rfl⟩
    obtain ⟨y, hy⟩ : ∃ y, 56320 + m % 1024 = y := ⟨_, rfl⟩
    have HX := Lib.hid hx
    have HY := Lib.hid hy
    rw [hx] at F1
    rw [hy] at F2
    have hI : ¬ (((m + 65536 : Nat) : Int) < 65536) := by omega
    have hI2 : ¬ ((m : Int) + 65536 < 65536) := by omega
    have q1 : (55296 : Int) + (m : Int) / 1024 = (x : Int) := by omega
    have q2 : (56320 : Int) + (m : Int) % 1024 = (y : Int) := by omega
    have hxl : x < 57344 := by omega
    have hyl : y < 57344 := by omega
    have q3 : (m : Int) + 65536 - 65536 = (m : Int) := by omega
    clear hs h hx hy
    go_enter Tryz.func70, Tryz.ntmps70
    go_wp2_with fail
    refine (F1.out _).mono ?_
    rintro e w1 ⟨l1, h1, rfl, rfl⟩
    have H1 := Lib.hid h1
    have e1 := h1.len
    clear h1
    go_wp2_with fail
    refine (F2.out _).mono ?_
    rintro e w2 ⟨l2, h2, rfl, rfl⟩
    have H2 := Lib.hid h2
    have CT := run_cat (P := Tryz.prog) l1 l2 (l1 ++ l2) rfl (by rw [e1, h2.len]; omega)
    clear h2 e1
    go_wp2
    go_ret
    refine ⟨l1 ++ l2, .inr ⟨by omega, l1, l2, rfl, ?_, ?_⟩, rfl, rfl⟩
    · rw [Nat.add_sub_cancel, HX.out]; exact H1.out
    · rw [Nat.add_sub_cancel, HY.out]; exact H2.out

/-- The letter behind a backslash that says a byte; empty: there is none. -/
def shortP (c : Nat) : List UInt8 := if c = 34 then [34] else if c = 92 then [92] else if c = 47 then [47] else if c = 8 then [98] else if c = 12 then [102] else if c = 10 then [110] else if c = 13 then [114] else if c = 9 then [116] else []
set_option maxHeartbeats 4000000 in
theorem wshort_any (c : Nat) (hc : c < 2097152) (w : World) : Calls Tryz.prog 69 #[.int .i64 c] w fun e w' => e = .returned (S (shortP c)) ∧ w = w' := by
  have hcs : c = 34 ∨ c = 92 ∨ c = 47 ∨ c = 8 ∨ c = 12 ∨ c = 10 ∨ c = 13 ∨ c = 9 ∨ (c ≠ 34 ∧ c ≠ 92 ∧ c ≠ 47 ∧ c ≠ 8 ∧ c ≠ 12 ∧ c ≠ 10 ∧ c ≠ 13 ∧ c ≠ 9) := by omega
  rcases hcs with rfl | rfl | rfl | rfl | rfl | rfl | rfl | rfl | ⟨h1, h2, h3, h4, h5, h6, h7, h8⟩
  case inr.inr.inr.inr.inr.inr.inr.inr =>
    have hP : shortP c = [] := by unfold shortP; rw [if_neg h1, if_neg h2, if_neg h3, if_neg h4, if_neg h5, if_neg h6, if_neg h7, if_neg h8]
    have q1 : ((c : Int) == 34) = false := by rw [beq_eq_false_iff_ne]; omega
    have q2 : ((c : Int) == 92) = false := by rw [beq_eq_false_iff_ne]; omega
    have q3 : ((c : Int) == 47) = false := by rw [beq_eq_false_iff_ne]; omega
    have q4 : ((c : Int) == 8) = false := by rw [beq_eq_false_iff_ne]; omega
    have q5 : ((c : Int) == 12) = false := by rw [beq_eq_false_iff_ne]; omega
    have q6 : ((c : Int) == 10) = false := by rw [beq_eq_false_iff_ne]; omega
    have q7 : ((c : Int) == 13) = false := by rw [beq_eq_false_iff_ne]; omega
    have q8 : ((c : Int) == 9) = false := by rw [beq_eq_false_iff_ne]; omega
    rw [hP]
    clear hP h1 h2 h3 h4 h5 h6 h7 h8
    go_enter Tryz.func69, Tryz.ntmps69
    go_wp2
    go_ret
    exact ⟨rfl, rfl⟩
  all_goals
    go_enter Tryz.func69, Tryz.ntmps69
    go_wp2
    go_ret
    exact ⟨rfl, rfl⟩
end Go.Proofs.YtmajpambfblhnaaGreatDoor

namespace Go.Proofs.YtmajpambfblhnaaGreatDoor
open Go.RowKit Jo

/-- How many bytes a letter has, by its first one; what of the number that one says; the number. -/
def fstN (c : UInt8) : Nat := if 240 ≤ c.toNat then 4 else if 224 ≤ c.toNat then 3 else if 192 ≤ c.toNat then 2 else 1
def fstC (c : UInt8) : Nat := if 240 ≤ c.toNat then c.toNat % 8 else if 224 ≤ c.toNat then c.toNat % 16 else if 192 ≤ c.toNat then c.toNat % 32 else c.toNat
def fstF (c : UInt8) (r : List UInt8) (j : Nat) : Nat := (r.take j).foldl (fun a b => 64 * a + b.toNat % 64) (fstC c)
theorem fstF_succ {c b : UInt8} {r : List UInt8} {j : Nat} (h : r[j]? = some b) : fstF c r (j + 1) = 64 * fstF c r j + b.toNat % 64 := by
  unfold fstF
  rw [List.take_add_one, h]
  simp
theorem fstC_le (c : UInt8) : fstC c < 256 := by
  have := c.toNat_lt
  unfold fstC
  split
  · omega
  · split
    · omega
    · split <;> omega
theorem fstN_le (c : UInt8) : 1 ≤ fstN c ∧ fstN c ≤ 4 := by
  unfold fstN
  split
  · omega
  · split
    · omega
    · split <;> omega
theorem fstF_le (c : UInt8) (r : List UInt8) : ∀ j, j ≤ 3 → fstF c r j < 256 * 64 ^ j := by
  intro j
  induction j with
  | zero => intro _; have := fstC_le c; unfold fstF; simpa using this
  | succ j ih =>
    intro hj
    have h1 := ih (by omega)
    cases hb : r[j]? with
    | none =>
      have e : fstF c r (j + 1) = fstF c r j := by
        unfold fstF
        rw [List.take_add_one, hb]
        simp
      rw [e, Nat.pow_succ]
      have : 0 < 64 ^ j := Nat.pos_of_ne_zero (by simp)
      omega
    | some b =>
      rw [fstF_succ hb, Nat.pow_succ]
      omega
set_option maxHeartbeats 8000000 in
set_option maxRecDepth 100000 in
theorem wfirst_any (c : UInt8) (r : List UInt8) (hl : fstN c ≤ r.length + 1) (hm : r.length + 1 ≤ 9223372036854775807) (w : World) :
    Calls Tryz.prog 68 #[S (c :: r)] w fun e w' => e = .returned (.tuple #[.int .i64 (fstN c : Int), .int .i64 (fstF c r (fstN c - 1) : Int)]) ∧ w = w' := by
  have hsz : (⟨(c :: r).toArray⟩ : ByteArray).size = r.length + 1 := size_mk (c :: r)
  have hix := run_index_str (P := Tryz.prog) Tryz.underlying9 ⟨(c :: r).toArray⟩ 0 0 rfl (by rw [hsz]; omega) c rfl
  have hIX : Hid (∀ (j : Nat) (b : UInt8), r[j]? = some b → j + 1 < 9223372036854775807 → ∀ w, (Instr.index 9 (.string ⟨(c :: r).toArray⟩) (.int .i64 ((j : Int) + 1))).run Tryz.prog w = .ok (.int .u8 b.toNat) w) := Lib.hid fun j b hb _ => by
    have hj := (List.getElem?_eq_some_iff.1 hb).1
    intro w
    have := run_index_str (P := Tryz.prog) Tryz.underlying9 ⟨(c :: r).toArray⟩ (j + 1) (j + 1) rfl (by rw [hsz]; omega) b (List.getElem?_eq_some_iff.1 (show (c :: r)[j + 1]? = some b by simpa using hb)).2 w
    simpa using this
  have hc := c.toNat_lt
  have hcs : (240 ≤ c.toNat) ∨ (c.toNat < 240 ∧ 224 ≤ c.toNat) ∨ (c.toNat < 224 ∧ 192 ≤ c.toNat) ∨ c.toNat < 192 := by omega
  obtain ⟨N, hN⟩ : ∃ N, fstN c = N := ⟨_, rfl⟩
  obtain ⟨C, hC⟩ : ∃ C, fstC c = C := ⟨_, rfl⟩
  have hCN : (240 ≤ c.toNat ∧ N = 4 ∧ C = c.toNat % 8) ∨ (c.toNat < 240 ∧ 224 ≤ c.toNat ∧ N = 3 ∧ C = c.toNat % 16) ∨ (c.toNat < 224 ∧ 192 ≤ c.toNat ∧ N = 2 ∧ C = c.toNat % 32) ∨ (c.toNat < 192 ∧ N = 1 ∧ C = c.toNat) := by
    rw [← hN, ← hC]
    unfold fstN fstC
    rcases hcs with h | ⟨h, h'⟩ | ⟨h, h'⟩ | h
    · exact .inl ⟨h, by rw [if_pos h], by rw [if_pos h]⟩
    · exact .inr (.inl ⟨h, h', by rw [if_neg (by omega), if_pos h'], by rw [if_neg (by omega), if_pos h']⟩)
    · exact .inr (.inr (.inl ⟨h, h', by rw [if_neg (by omega), if_neg (by omega), if_pos h'], by rw [if_neg (by omega), if_neg (by omega), if_pos h']⟩))
    · exact .inr (.inr (.inr ⟨h, by rw [if_neg (by omega), if_neg (by omega), if_neg (by omega)], by rw [if_neg (by omega), if_neg (by omega), if_neg (by omega)]⟩))
  have H0 : Hid (fstF c r 0 = C) := Lib.hid (by unfold fstF; rw [← hC]; simp)
  rw [hN] at hl ⊢
  have HB := Lib.hid (fstF_le c r)
  clear hN hC hcs
  go_enter Tryz.func68, Tryz.ntmps68
  go_upto_block 0 with fail
  go_cut [4, 5] (fun x n wx => x = .int .i64 (C : Int) ∧ n = .int .i64 (N : Int) ∧ w = wx)
  case first =>
    rcases hCN with ⟨a1, rfl, rfl⟩ | ⟨a1, a2, rfl, rfl⟩ | ⟨a1, a2, rfl, rfl⟩ | ⟨a1, rfl, rfl⟩
    all_goals
      go_wp2
      go_meet
      exact ⟨rfl, rfl, rfl⟩
  case rest =>
    obtain ⟨rfl, rfl, rfl⟩ := hcut
    have hN1 : 1 ≤ N ∧ N ≤ 4 := by omega
    clear hCN hix
    go_wp2_with fail
    go_loopg [4, 6] N (fun q x i wx => ∃ j : Nat, x = .int .i64 (fstF c r j : Int) ∧ i = .int .i64 ((j + 1 : Nat) : Int) ∧ q = N - j ∧ j + 1 ≤ N ∧ w = wx)
    case atStart => exact ⟨0, by rw [H0.out], rfl, rfl, by omega, rfl⟩
    case round =>
      obtain ⟨j, rfl, rfl, rfl, hj, rfl⟩ := hrel
      by_cases hlt : j + 1 < N
      · obtain ⟨b, hb⟩ : ∃ b, r[j]? = some b := ⟨r[j]'(by omega), List.getElem?_eq_getElem _⟩
        have ix := hIX.out j b hb (by omega) w
        have hv : fstF c r j < 1048577 := by
          have h := HB.out j (by omega)
          have h3 : j = 0 ∨ j = 1 ∨ j = 2 := by omega
          rcases h3 with rfl | rfl | rfl <;> simp at h <;> omega
        have HS := Lib.hid (fstF_succ (c := c) hb)
        have hbt := b.toNat_lt
        obtain ⟨v, hve⟩ : ∃ v, fstF c r j = v := ⟨_, rfl⟩
        have HV := Lib.hid hve
        rw [hve] at hv HS ⊢
        have hI : ((j : Int) + 1) < (N : Int) := by omega
        clear hb hve
        go_wp2
        go_roundg (N - (j + 1))
        case rel => exact ⟨j + 1, by rw [HS.out]; rfl, by go_num, rfl, by omega, rfl⟩
        case measure => omega
      · obtain rfl : N = j + 1 := by omega
        have hI : ¬ (((j : Int) + 1) < (j : Int) + 1) := by omega
        go_wp2
        go_ret2
        exact ⟨rfl, rfl⟩
end Go.Proofs.YtmajpambfblhnaaGreatDoor

namespace Go.Proofs.YtmajpambfblhnaaGreatDoor
open Go.RowKit Jo

theorem fstF_lt2 (c : UInt8) (r : List UInt8) : ∀ j, fstF c r j < (fstC c + 1) * 64 ^ j := by
  intro j
  induction j with
  | zero => unfold fstF; simp
  | succ j ih =>
    have hp : 0 < 64 ^ j := Nat.pos_of_ne_zero (by simp)
    have he : (fstC c + 1) * 64 ^ (j + 1) = 64 * ((fstC c + 1) * 64 ^ j) := by rw [Nat.pow_succ, ← Nat.mul_assoc, Nat.mul_comm]
    rw [he]
    cases hb : r[j]? with
    | none =>
      have e : fstF c r (j + 1) = fstF c r j := by
        unfold fstF
        rw [List.take_add_one, hb]
        simp
      rw [e]
      omega
    | some b =>
      rw [fstF_succ hb]
      have := Nat.mod_lt b.toNat (show 0 < 64 by omega)
      omega
/-- The number of the letter at a text's front. -/
def codeAt (c : UInt8) (r : List UInt8) : Nat := fstF c r (fstN c - 1)
theorem codeAt_lt (c : UInt8) (r : List UInt8) : codeAt c r < 2097152 := by
  have h := fstF_lt2 c r (fstN c - 1)
  have hc := c.toNat_lt
  unfold codeAt
  by_cases h4 : 240 ≤ c.toNat
  · have e1 : fstN c = 4 := by unfold fstN; rw [if_pos h4]
    have e2 : fstC c = c.toNat % 8 := by unfold fstC; rw [if_pos h4]
    rw [e1] at h ⊢
    rw [e2] at h
    simp at h ⊢
    omega
  · by_cases h3 : 224 ≤ c.toNat
    · have e1 : fstN c = 3 := by unfold fstN; rw [if_neg h4, if_pos h3]
      have e2 : fstC c = c.toNat % 16 := by unfold fstC; rw [if_neg h4, if_pos h3]
      rw [e1] at h ⊢
      rw [e2] at h
      simp at h ⊢
      omega
    · by_cases h2 : 192 ≤ c.toNat
      · have e1 : fstN c = 2 := by unfold fstN; rw [if_neg h4, if_neg h3, if_pos h2]
        have e2 : fstC c = c.toNat % 32 := by unfold fstC; rw [if_neg h4, if_neg h3, if_pos h2]
        rw [e1] at h ⊢
        rw [e2] at h
        simp at h ⊢
        omega
      · have e1 : fstN c = 1 := by unfold fstN; rw [if_neg h4, if_neg h3, if_neg h2]
        have e2 : fstC c = c.toNat := by unfold fstC; rw [if_neg h4, if_neg h3, if_neg h2]
        rw [e1] at h ⊢
        rw [e2] at h
        simp at h ⊢
        omega
set_option maxRecDepth 100000 in
theorem fstN_tab : ∀ c : Fin 256, (c.val < 128 → fstN (UInt8.ofNat c.val) = 1) ∧ (128 ≤ c.val → (behindP (UInt8.ofNat c.val)).2.2 ≠ 0 → fstN (UInt8.ofNat c.val) = (behindP (UInt8.ofNat c.val)).2.2 + 1) := by decide
theorem letW_fst {c : UInt8} {r : List UInt8} {k : Nat} (h : letW (c :: r) = some k) : fstN c = k := by
  have ht := fstN_tab ⟨c.toNat, c.toNat_lt⟩
  simp only [UInt8.ofNat_toNat] at ht
  rw [letW_cons] at h
  split at h
  · rename_i h1
    cases h
    exact ht.1 (by rw [UInt8.lt_iff_toNat_lt] at h1; exact h1)
  · rename_i h1
    split at h
    · cases h
    · rename_i h2
      split at h
      · cases h
        exact ht.2 (by rw [UInt8.lt_iff_toNat_lt] at h1; simp at h1 ⊢; omega) h2
      · cases h
/-- How a letter may stand. -/
inductive LetS : List UInt8 → List UInt8 → Prop
  | raw (c : UInt8) (r : List UInt8) (h : 32 ≤ codeAt c r ∧ codeAt c r ≠ 34 ∧ codeAt c r ≠ 92) : LetS (c :: r) (c :: r)
  | back (c : UInt8) (r : List UInt8) (h : shortP (codeAt c r) ≠ []) : LetS (c :: r) (92 :: shortP (codeAt c r))
  | code (c : UInt8) (r l : List UInt8) (h : Coded (codeAt c r) l) : LetS (c :: r) l
theorem shortP_len (c : Nat) : (shortP c).length ≤ 1 := by
  unfold shortP
  repeat (split; · simp)
  simp
theorem LetS.len {u b : List UInt8} (h : LetS u b) (hu : u.length ≤ 4) : b.length ≤ 12 := by
  cases h with
  | raw c r h => omega
  | back c r h => have := shortP_len (codeAt c r); simp only [List.length_cons]; omega
  | code c r l h => exact h.len
/-- How a text may stand, between its quotes. -/
def TxS (t out : List UInt8) : Prop := ∃ L : List (List UInt8 × List UInt8), t = (L.map (·.1)).flatten ∧ out = (L.map (·.2)).flatten ∧ ∀ p ∈ L, LetS p.1 p.2 ∧ Letter p.1
theorem TxS.nil : TxS [] [] := ⟨[], rfl, rfl, fun p h => by cases h⟩
theorem TxS.snoc {t out u b : List UInt8} (h : TxS t out) (hb : LetS u b) (hu : Letter u) : TxS (t ++ u) (out ++ b) := by
  obtain ⟨L, rfl, rfl, h⟩ := h
  refine ⟨L ++ [(u, b)], by simp, by simp, fun p hp => ?_⟩
  rcases List.mem_append.1 hp with hp | hp
  · exact h p hp
  · obtain rfl : p = (u, b) := by simpa using hp
    exact ⟨hb, hu⟩
theorem codeAt_take (c : UInt8) (r : List UInt8) (m : Nat) (h : fstN c - 1 ≤ m) : codeAt c (r.take m) = codeAt c r := by
  unfold codeAt fstF
  rw [List.take_take, Nat.min_eq_left h]
theorem letter_take {t : List UInt8} {k : Nat} (h : letW t = some k) : Letter (t.take k) := by
  have hk := (letW_some h).2.1
  have e : (t.take k).length = k := by rw [List.length_take]; omega
  unfold Letter
  rw [e]
  exact letW_take h
end Go.Proofs.YtmajpambfblhnaaGreatDoor
