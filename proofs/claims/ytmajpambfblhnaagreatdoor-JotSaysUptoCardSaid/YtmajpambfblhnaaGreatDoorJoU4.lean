/- Walk of the reference's digits (layer 4). -/
import Derived.Test.YtmajpambfblhnaaGreatDoorJoU3
import Derived.Laws.BitsLemmas
namespace Go.Proofs.YtmajpambfblhnaaGreatDoor
open Go.RowKit Jo

abbrev hexA : ByteArray := ⟨#[48, 49, 50, 51, 52, 53, 54, 55, 56, 57, 97, 98, 99, 100, 101, 102]⟩
theorem hex_piece_fin : ∀ d : Fin 10, hexA.extract d.val (d.val + 1) = ⟨#[UInt8.ofNat (48 + d.val)]⟩ := by decide
theorem hex_piece (d : Nat) (h : d < 10) : hexA.extract d (d + 1) = ⟨#[UInt8.ofNat (48 + d)]⟩ := hex_piece_fin ⟨d, h⟩
theorem run_piece (d : Nat) (h : d < 10) (w : World) : (Instr.sliceAt 9 (.string hexA) (some (.int .i64 d)) (some (.int .i64 ((d : Int) + 1))) none).run Tryz.prog w = .ok (S [UInt8.ofNat (48 + d)]) w := by
  rw [run_sliceAt_string (h := Tryz.underlying9), run_slice_string w 9 hexA .i64 .i64 d ((d : Int) + 1) Tryz.underlying9 (by omega) (by omega) (by show (d : Int) + 1 ≤ 16; omega)]
  have h2 : ((d : Int) + 1).toNat = d + 1 := by omega
  rw [Int.toNat_natCast, h2, hex_piece d h]

set_option maxHeartbeats 4000000 in
set_option maxRecDepth 100000 in
theorem refdigits_nat : ∀ (u : Nat) (w : World), (u : Int) ≤ 9007199254740991 → Calls Tryz.prog 47 #[.int .i64 u] w fun e w' => e = .returned (S (Lib.decDigits u)) ∧ Kept (fun _ => True) w w' := by
  intro u
  induction u using Nat.strongRecOn with
  | _ u ih =>
  intro w hu
  have hn : ¬ ((u : Int) < 0) := by omega
  by_cases h : u < 10
  · have RP := run_piece u h
    have HD : Hid (Lib.decDigits u = [UInt8.ofNat (48 + u)]) := Lib.hid (by rw [Lib.decDigits, dif_pos h])
    have h10 : (u : Int) < 10 := by omega
    go_enter Tryz.func47, Tryz.ntmps47
    go_wp2
    refine bodyPost_ret (v := S [UInt8.ofNat (48 + u)]) (by simp [results, Tryz.results47, go_sem]) rfl ?_
    rw [HD.out]
    exact ⟨rfl, Kept.refl _ _⟩
  · obtain ⟨a, ha⟩ : ∃ a, u / 10 = a := ⟨_, rfl⟩
    obtain ⟨b, hb⟩ : ∃ a, u % 10 = a := ⟨_, rfl⟩
    have hb10 : b < 10 := by omega
    have RP := run_piece b hb10
    have HD : Hid (Lib.decDigits u = Lib.decDigits a ++ [UInt8.ofNat (48 + b)]) := Lib.hid (by rw [Lib.decDigits, dif_neg h, ha, hb])
    obtain ⟨c, hc⟩ : ∃ c, UInt8.ofNat (48 + b) = c := ⟨_, rfl⟩
    rw [hc] at RP HD
    have HI := Lib.hid (fun w => ih a (by omega) w (by omega))
    have hdl : (Lib.decDigits a).length ≤ 100 := by rw [Lib.decDigits_length]; have := nDigits_le 20 a (by simp only [Nat.reduceAdd, Nat.reducePow]; omega); omega
    have q1 : (u : Int).tdiv 10 = (a : Int) := by rw [Int.tdiv_eq_ediv_of_nonneg (by omega)]; omega
    have q2 : (u : Int).tmod 10 = (b : Int) := by rw [Int.tmod_eq_emod_of_nonneg (by omega)]; omega
    have q3 : (u : Int) / 10 = (a : Int) := by omega
    have q4 : (u : Int) % 10 = (b : Int) := by omega
    have q5 : IntKind.i64.wrap (a : Int) = a := by rw [IntKind.wrap_i64]; omega
    have q6 : IntKind.i64.wrap (b : Int) = b := by rw [IntKind.wrap_i64]; omega
    have q7 : IntKind.i64.wrap ((b : Int) + 1) = (b : Int) + 1 := by rw [IntKind.wrap_i64]; omega
    have h10 : ¬ ((u : Int) < 10) := by omega
    have ha9 : (a : Int) ≤ 9007199254740991 := by omega
    have CT := run_cat (P := Tryz.prog) (Lib.decDigits a) [c] _ HD.out.symm (by simp only [List.length_cons, List.length_nil]; omega)
    clear ih ha hb h hdl hc
    go_enter Tryz.func47, Tryz.ntmps47
    go_wp2
    go_region_held3 (fun _ => True) (go_keep)
      (first | (go_at_call 47; (with_reducible refine (HI.out _).mono ?_); rintro e w2 ⟨rfl, hk2⟩))
    go_wp2
    refine bodyPost_ret (v := S (Lib.decDigits u)) (by simp [results, Tryz.results47, go_sem]) rfl ?_
    exact ⟨rfl, ((Kept.refl _ w).drew).tr hk2⟩
set_option maxHeartbeats 4000000 in
set_option maxRecDepth 100000 in
theorem refdigits_any (n : Int) (w : World) (h1 : -9007199254740991 ≤ n) (h2 : n ≤ 9007199254740991) : Calls Tryz.prog 47 #[.int .i64 n] w fun e w' => e = .returned (S (Lib.itoa n)) ∧ Kept (fun _ => True) w w' := by
  by_cases hn : n < 0
  · obtain ⟨u, hu⟩ : ∃ u : Nat, -n = u := ⟨n.natAbs, by omega⟩
    have HD : Hid (Lib.itoa n = [45] ++ Lib.decDigits u) := Lib.hid (by unfold Lib.itoa; rw [if_pos hn, show n.natAbs = u by omega]; rfl)
    have hdl : (Lib.decDigits u).length ≤ 100 := by rw [Lib.decDigits_length]; have := nDigits_le 20 u (by simp only [Nat.reduceAdd, Nat.reducePow]; omega); omega
    have HI := Lib.hid (fun w => refdigits_nat u w (by omega))
    have CT := run_cat (P := Tryz.prog) [45] (Lib.decDigits u) _ HD.out.symm (by simp only [List.length_cons, List.length_nil]; omega)
    have q1 : IntKind.i64.wrap (-n) = u := by rw [IntKind.wrap_i64]; omega
    clear hdl
    go_enter Tryz.func47, Tryz.ntmps47
    go_wp2_with (refine (HI.out _).mono ?_; rintro e w2 ⟨rfl, hk2⟩)
    refine bodyPost_ret (v := S (Lib.itoa n)) (by simp [results, Tryz.results47, go_sem]) rfl ?_
    exact ⟨rfl, hk2⟩
  · obtain ⟨u, rfl⟩ : ∃ u : Nat, n = u := ⟨n.toNat, by omega⟩
    have e : Lib.itoa (u : Int) = Lib.decDigits u := by unfold Lib.itoa; rw [if_neg (by omega)]; rfl
    rw [e]
    exact refdigits_nat u w h2
end Go.Proofs.YtmajpambfblhnaaGreatDoor
