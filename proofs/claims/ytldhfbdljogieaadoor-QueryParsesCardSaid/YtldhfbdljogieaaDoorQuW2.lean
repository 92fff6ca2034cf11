/- Walks of the reference's Escape and read, and of query's Escape and unescape (layer 3). -/
import Derived.Test.YtldhfbdljogieaaDoorQuW1
import Derived.LoopTactic
namespace Go.Proofs.YtldhfbdljogieaaDoor
open Go.RowKit
open Qu

theorem ret_str {a b : List UInt8} (h : a = b) : Ending.returned (.string ⟨a.toArray⟩) = .returned (.string ⟨b.toArray⟩) := by rw [h]
theorem esc_step (s : ByteArray) (k : Nat) (h : k < s.size) : esc (s.data.toList.take (k + 1)) = esc (s.data.toList.take k) ++ escB (s[k]'h) := by
  rw [take_snoc s k h, esc_snoc]
theorem esc_take_le (s : ByteArray) (k : Nat) (_h : k ≤ s.size) : (esc (s.data.toList.take k)).length ≤ 3 * k := by
  have := esc_le (s.data.toList.take k)
  have h2 : (s.data.toList.take k).length ≤ k := List.length_take_le _ _
  omega

set_option maxHeartbeats 1000000 in
theorem refEscape_any (s : ByteArray) (w : World) (hs : s.size ≤ 68719476736) :
    Calls Tryd.prog 13 #[.string s] w fun e w' => e = .returned (.string ⟨(esc s.data.toList).toArray⟩) ∧ Below w.heap.size w w' := by
  go_enter Tryd.func13, Tryd.ntmps13
  go_wp2
  go_loopw [3, 4] (fun v i wr => ∃ k : Nat, k ≤ s.size ∧ i = .int .i64 k ∧ OwnB 5 w.heap.size v (esc (s.data.toList.take k)) wr ∧ Below w.heap.size w wr) (fun _ i _ => s.size - (intOf i).toNat)
  case atStart => exact ⟨0, Nat.zero_le _, rfl, OwnB.nil _ _ _, Below.refl _ _⟩
  case round =>
    obtain ⟨k, hk, rfl, hown, hbw⟩ := hrel
    have hz : w.heap.size ≤ wr.heap.size := hbw.size
    have hle := esc_take_le s k hk
    by_cases hlt : k < s.size
    · have HE := Lib.hid (esc_step s k hlt)
      obtain ⟨b, hb⟩ : ∃ b, s[k]'hlt = b := ⟨_, rfl⟩
      rw [hb] at HE
      have HB := Lib.hid hb
      clear hb
      have hb0 := b.toNat_lt
      by_cases hst : stayI b.toNat = true
      · go_wp2_with fail
        rw [HB.out]
        refine (refplain_any _ _ rfl _).mono ?_
        rintro e w' ⟨rfl, rfl⟩
        go_wp2_with (at_builtin; refine wpList_pushes 47 5 Tryd.underlying47 infoByte rfl _ _ rfl w.heap.size _ _ [b] _ _ rfl rfl 1 1 rfl _ rfl rfl rfl hown (by simp; omega) hz ?_)
        intro v' w' g1 g2 g3
        go_wp2
        go_roundw
        case rel => exact ⟨k + 1, by omega, by go_num, by rw [HE.out, escB, if_neg (by intro h; rw [h] at hst; revert hst; decide), if_pos hst]; exact g1, hbw.trans g2⟩
        case measure => simp [intOf]; omega
      · by_cases h32 : b.toNat = 32
        · have hst' : stayI b.toNat = false := by rw [h32]; decide
          have h32' : ((b.toNat : Int) == 32) = true := by rw [h32]; rfl
          have H32 := Lib.hid h32
          clear h32 hst
          go_wp2_with fail
          rw [HB.out]
          refine (refplain_any _ _ rfl _).mono ?_
          rintro e w' ⟨rfl, rfl⟩
          go_wp2_with (at_builtin; refine wpList_pushes 47 5 Tryd.underlying47 infoByte rfl _ _ rfl w.heap.size _ _ [43] _ _ rfl rfl 1 1 rfl _ rfl rfl rfl hown (by simp; omega) hz ?_)
          intro v' w' g1 g2 g3
          go_wp2
          go_roundw
          case rel => exact ⟨k + 1, by omega, by go_num, by rw [HE.out, escB, if_pos H32.out]; exact g1, hbw.trans g2⟩
          case measure => simp [intOf]; omega
        · have h32' : ((b.toNat : Int) == 32) = false := by simp; omega
          have H32 := Lib.hid h32
          have hst' : stayI b.toNat = false := by simpa using hst
          have h1 : (b.toNat : Int) < 256 := by omega
          have h3 : (b.toNat : Int) / 16 < 16 := by omega
          have h5 : (b.toNat : Int) % 16 < 16 := by omega
          have h2 : 0 ≤ (b.toNat : Int) / 16 := by omega
          have h4 : 0 ≤ (b.toNat : Int) % 16 := by omega
          clear h32 hst
          have q1 : IntKind.u8.wrap ((b.toNat : Int) / 16) = (b.toNat : Int) / 16 := IntWalk.u8_in _ (by omega)
          have q2 : (b.toNat : Int).tmod 16 = (b.toNat : Int) % 16 := Int.tmod_eq_emod_of_nonneg (by omega)
          go_wp2_with fail
          rw [HB.out]
          refine (refplain_any _ _ rfl _).mono ?_
          rintro e w' ⟨rfl, rfl⟩
          go_wp2
          go_region_law (refine step_pushes 47 5 Tryd.underlying47 infoByte rfl (.tmp 18) (.tmp 25) rfl w.heap.size _ _ (pct b) wr.drew _ (by exact pct_cells b _ rfl _ _) rfl 3 3 rfl _ rfl rfl rfl hown.drew (by simp [pct]; omega) hz ?_; intro v' w' g1 g2 g3)
          all_goals
            go_wp2
            go_roundw
            case rel => exact ⟨k + 1, by omega, by go_num, by rw [HE.out, escB, if_neg H32.out, if_neg (by rw [hst']; simp)]; exact g1, (hbw.trans (Below.refl _ wr).drew).trans g2⟩
            case measure => simp [intOf]; omega
    · have HF : Hid (esc (s.data.toList.take k) = esc s.data.toList) := Lib.hid (by rw [List.take_of_length_le (by simpa using hlt)])
      have hcv := hown.string (P := Tryd.prog) (src := 47) (dst := 9) Tryd.underlying47 Tryd.underlying5 Tryd.underlying9
      go_wp2
      go_ret
      exact ⟨ret_str HF.out, hbw⟩
end Go.Proofs.YtldhfbdljogieaaDoor
