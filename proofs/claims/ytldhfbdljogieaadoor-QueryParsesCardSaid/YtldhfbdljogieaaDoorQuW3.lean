/- Walk of the reference's read (layer 3): it computes rd. -/
import Derived.Test.YtldhfbdljogieaaDoorQuW2
namespace Go.Proofs.YtldhfbdljogieaaDoor
open Go.RowKit
open Qu

theorem u8n {a : Nat} (h : a < 256) : (a.toUInt8).toNat = a := by simp [Nat.toUInt8, UInt8.toNat_ofNat']; omega
theorem ret_rd {R : List UInt8 × Int × Nat} {a : List UInt8} {e : Int} {n : Nat} (h : R = (a, e, n)) :
    Ending.returned (.tuple #[.string ⟨a.toArray⟩, .int .i64 e, .int .i64 (n : Int)]) = Ending.returned (.tuple #[.string ⟨R.1.toArray⟩, .int .i64 R.2.1, .int .i64 (R.2.2 : Int)]) := by rw [h]

/-- The five ways of a byte that is neither a plus nor a percent sign, with each test's outcome as the walk asks for it. -/
theorem byte_ways (c : UInt8) : ((c.toNat : Int) < 33) ∨ (33 ≤ (c.toNat : Int) ∧ 126 < (c.toNat : Int)) ∨ (33 ≤ (c.toNat : Int) ∧ (c.toNat : Int) ≤ 126 ∧ ((c.toNat : Int) == 38) = true) ∨
    (33 ≤ (c.toNat : Int) ∧ (c.toNat : Int) ≤ 126 ∧ ((c.toNat : Int) == 38) = false ∧ ((c.toNat : Int) == 61) = true) ∨
    (33 ≤ (c.toNat : Int) ∧ (c.toNat : Int) ≤ 126 ∧ ((c.toNat : Int) == 38) = false ∧ ((c.toNat : Int) == 61) = false) := by
  simp only [beq_iff_eq, beq_eq_false_iff_ne]
  omega

set_option maxHeartbeats 4000000 in
set_option maxRecDepth 100000 in
theorem refread_any (s : ByteArray) (w : World) (hs : s.size ≤ 68719476736) :
    Calls Tryd.prog 26 #[.string s] w fun e w' => e = .returned (.tuple #[.string ⟨(rd [] 0 s.data.toList).1.toArray⟩, .int .i64 (rd [] 0 s.data.toList).2.1, .int .i64 ((rd [] 0 s.data.toList).2.2 : Int)]) ∧ Below w.heap.size w w' := by
  obtain ⟨R, HR0⟩ : ∃ R, Hid (rd [] 0 s.data.toList = R) := ⟨_, Lib.hid rfl⟩
  rw [HR0.out]
  go_enter Tryd.func26, Tryd.ntmps26
  go_wp2
  go_loopw [5, 6] (fun v i wr => ∃ (k : Nat) (acc : List UInt8), k ≤ s.size ∧ i = .int .i64 k ∧ OwnB 5 w.heap.size v acc wr ∧ acc.length ≤ k ∧ Hid (rd acc k (s.data.toList.drop k) = R) ∧ Below w.heap.size w wr) (fun _ i _ => s.size - (intOf i).toNat)
  case atStart => exact ⟨0, [], Nat.zero_le _, rfl, OwnB.nil _ _ _, Nat.le_refl _, HR0, Below.refl _ _⟩
  case round =>
    obtain ⟨k, acc, hk, rfl, hown, hal, HR, hbw⟩ := hrel
    have hz : w.heap.size ≤ wr.heap.size := hbw.size
    by_cases hlt : k < s.size
    · have HD := Lib.hid (drop_cons s k hlt)
      obtain ⟨c, hc⟩ : ∃ c, s[k]'hlt = c := ⟨_, rfl⟩
      rw [hc] at HD
      have hix := run_index_str (P := Tryd.prog) Tryd.underlying9 s k k rfl hlt c hc
      clear hc
      have hc0 : c.toNat < 256 := c.toNat_lt
      by_cases h43 : c.toNat = 43
      · have b43 : ((c.toNat : Int) == 43) = true := by rw [h43]; rfl
        have HN : Hid (rd (acc ++ [32]) (k + 1) (s.data.toList.drop (k + 1)) = R) := Lib.hid (by rw [← HR.out, HD.out, rd_plus _ _ _ _ h43])
        clear h43
        go_wp2_with (at_builtin; refine wpList_pushes 47 5 Tryd.underlying47 infoByte rfl _ _ rfl w.heap.size _ _ [32] _ _ rfl rfl 1 1 rfl _ rfl rfl rfl hown (by simp; omega) hz ?_)
        intro v' w' g1 g2 g3
        go_wp2
        go_roundw
        case rel => exact ⟨k + 1, _, by omega, by go_num, g1, by simp; omega, HN, hbw.trans g2⟩
        case measure => simp [intOf]; omega
      · have b43 : ((c.toNat : Int) == 43) = false := by simp; omega
        by_cases h37 : c.toNat = 37
        · have b37 : ((c.toNat : Int) == 37) = true := by rw [h37]; rfl
          by_cases hsh : k + 2 < s.size
          · have HD1 := Lib.hid (drop_cons s (k + 1) (by omega))
            have HD2 := Lib.hid (drop_cons s (k + 2) hsh)
            obtain ⟨x, hx⟩ : ∃ x, s[k + 1]'(by omega) = x := ⟨_, rfl⟩
            obtain ⟨y, hy⟩ : ∃ y, s[k + 2]'hsh = y := ⟨_, rfl⟩
            rw [hx] at HD1
            rw [hy] at HD2
            have hix1 := run_index_str (P := Tryd.prog) Tryd.underlying9 s ((k : Int) + 1) (k + 1) (by omega) (by omega) x hx
            have hix2 := run_index_str (P := Tryd.prog) Tryd.underlying9 s ((k : Int) + 2) (k + 2) (by omega) hsh y hy
            clear hx hy
            have rx := hexV_rng x
            have ry := hexV_rng y
            obtain ⟨rx0, rx1⟩ := rx
            obtain ⟨ry0, ry1⟩ := ry
            by_cases hbad : hexV x < 0 ∨ hexV y < 0
            · have HN : Hid (R = ([], 30, k)) := Lib.hid (by rw [← HR.out, HD.out, HD1.out, HD2.out, rd_none _ _ _ _ _ _ h37 hbad])
              clear h37 h43
              have hways : hexV x < 0 ∨ (0 ≤ hexV x ∧ hexV y < 0) := by omega
              clear hbad
              rcases hways with hb1 | ⟨hb0, hb1⟩
              · go_wp2_with (first | (go_at_call 37; refine (refdigit_any _ _ rfl _).mono ?_; rintro e w' ⟨rfl, rfl⟩))
                go_ret3
                exact ⟨ret_rd HN.out, hbw⟩
              · go_wp2_with (first | (go_at_call 37; refine (refdigit_any _ _ rfl _).mono ?_; rintro e w' ⟨rfl, rfl⟩))
                go_ret3
                exact ⟨ret_rd HN.out, hbw⟩
            · have hx0 : 0 ≤ hexV x := by omega
              have hy0 : 0 ≤ hexV y := by omega
              have HN : Hid (rd (acc ++ [(16 * hexV x + hexV y).toNat.toUInt8]) (k + 3) (s.data.toList.drop (k + 3)) = R) := Lib.hid (by rw [← HR.out, HD.out, HD1.out, HD2.out, rd_hex _ _ _ _ _ _ h37 hbad])
              clear h37 h43 hbad
              have q1 : IntKind.u8.wrap (16 * hexV x + hexV y) = 16 * hexV x + hexV y := IntWalk.u8_in _ (by omega)
              have q2 : (16 * hexV x + hexV y) = (((16 * hexV x + hexV y).toNat.toUInt8).toNat : Int) := by
                rw [u8n (by omega)]; omega
              have HQ := Lib.hid q2
              clear q2
              go_wp2_with (first | (go_at_call 37; refine (refdigit_any _ _ rfl _).mono ?_; rintro e w' ⟨rfl, rfl⟩) | (at_builtin; refine wpList_pushes 47 5 Tryd.underlying47 infoByte rfl _ _ rfl w.heap.size _ _ [(16 * hexV x + hexV y).toNat.toUInt8] _ _ (by simp only [Lib.byteCells, List.map]; rw [← HQ.out]) rfl 1 1 rfl _ rfl rfl rfl hown (by simp; omega) hz ?_))
              intro v' w' g1 g2 g3
              go_wp2
              go_roundw
              case rel => exact ⟨k + 3, _, by omega, by go_num, g1, by simp; omega, HN, hbw.trans g2⟩
              case measure => simp [intOf]; omega
          · have HN : Hid (R = ([], 30, k)) := Lib.hid (by rw [← HR.out, HD.out, rd_short _ _ _ _ h37 (by simp; omega)])
            clear h37 h43
            go_wp2
            go_ret3
            exact ⟨ret_rd HN.out, hbw⟩
        · have b37 : ((c.toNat : Int) == 37) = false := by simp; omega
          by_cases hbad : c.toNat < 33 ∨ 126 < c.toNat ∨ c.toNat = 38 ∨ c.toNat = 61
          · have HN : Hid (R = ([], 31, k)) := Lib.hid (by rw [← HR.out, HD.out, rd_bad _ _ _ _ h43 h37 hbad])
            have HB := Lib.hid hbad
            clear h37 h43 hbad
            rcases byte_ways c with p1 | ⟨p1, p2⟩ | ⟨p1, p2, p3⟩ | ⟨p1, p2, p3, p4⟩ | ⟨p1, p2, p3, p4⟩
            · go_wp2
              go_ret3
              exact ⟨ret_rd HN.out, hbw⟩
            · go_wp2
              go_ret3
              exact ⟨ret_rd HN.out, hbw⟩
            · go_wp2
              go_ret3
              exact ⟨ret_rd HN.out, hbw⟩
            · go_wp2
              go_ret3
              exact ⟨ret_rd HN.out, hbw⟩
            · exfalso
              have := HB.out
              simp only [beq_eq_false_iff_ne] at p3 p4
              omega
          · have HN : Hid (rd (acc ++ [c]) (k + 1) (s.data.toList.drop (k + 1)) = R) := Lib.hid (by rw [← HR.out, HD.out, rd_self _ _ _ _ h43 h37 hbad])
            have p1 : 33 ≤ (c.toNat : Int) := by omega
            have p2 : (c.toNat : Int) ≤ 126 := by omega
            have p3 : ((c.toNat : Int) == 38) = false := by simp; omega
            have p4 : ((c.toNat : Int) == 61) = false := by simp; omega
            clear h37 h43 hbad
            go_wp2_with (at_builtin; refine wpList_pushes 47 5 Tryd.underlying47 infoByte rfl _ _ rfl w.heap.size _ _ [c] _ _ rfl rfl 1 1 rfl _ rfl rfl rfl hown (by simp; omega) hz ?_)
            intro v' w' g1 g2 g3
            go_wp2
            go_roundw
            case rel => exact ⟨k + 1, _, by omega, by go_num, g1, by simp; omega, HN, hbw.trans g2⟩
            case measure => simp [intOf]; omega
    · have HN : Hid (R = (acc, 0, 0)) := Lib.hid (by rw [← HR.out, drop_end s k (by omega)]; rfl)
      have hcv := hown.string (P := Tryd.prog) (src := 47) (dst := 9) Tryd.underlying47 Tryd.underlying5 Tryd.underlying9
      go_wp2
      go_ret3
      exact ⟨ret_rd HN.out, hbw⟩
end Go.Proofs.YtldhfbdljogieaaDoor
