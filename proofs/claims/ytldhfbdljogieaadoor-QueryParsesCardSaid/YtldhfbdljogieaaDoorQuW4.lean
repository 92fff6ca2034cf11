/- Walk of query's unescape (layer 3): it computes rd. -/
import Derived.Test.YtldhfbdljogieaaDoorQuW3
import Derived.BigCall
namespace Go.Proofs.YtldhfbdljogieaaDoor
open Go.RowKit
open Qu

/-- The bytes from p up to q are there, and below 128. -/
def AsciiTo (s : ByteArray) (p q : Nat) : Prop := ∀ j, p ≤ j → j < q → ∃ h : j < s.size, (s[j]'h).toNat < 128
theorem AsciiTo.nil (s : ByteArray) (p : Nat) : AsciiTo s p p := fun j h1 h2 => by omega
theorem hexV_ascii {c : UInt8} (h : ¬ hexV c < 0) : c.toNat < 128 := by
  unfold hexV at h
  split at h
  · omega
  · split at h
    · omega
    · split at h
      · omega
      · omega
theorem dig_both {x y : UInt8} (h : ¬ (hexV x < 0 ∨ hexV y < 0)) : digB x = true ∧ digB y = true ∧ saidV x y = 16 * hexV x + hexV y := by
  have h1 : 0 ≤ hexV x := by omega
  have h2 : 0 ≤ hexV y := by omega
  refine ⟨decide_eq_true h1, decide_eq_true h2, ?_⟩
  unfold saidV digV
  rw [if_pos h1, if_pos h2]
theorem dig_not {x y : UInt8} (h : hexV x < 0 ∨ hexV y < 0) : (digB x && digB y) = false := by
  unfold digB
  rcases h with h | h
  · rw [decide_eq_false (by omega)]; rfl
  · rw [decide_eq_false (p := 0 ≤ hexV y) (by omega)]; simp

set_option maxHeartbeats 4000000 in
set_option maxRecDepth 100000 in
theorem unescape_any (s : ByteArray) (w : World) (hs : s.size ≤ 68719476736) :
    Calls Tryd.prog 25 #[.string s] w fun e w' => e = .returned (.tuple #[.string ⟨(rd [] 0 s.data.toList).1.toArray⟩, .int .i64 (rd [] 0 s.data.toList).2.1, .int .i64 ((rd [] 0 s.data.toList).2.2 : Int)]) ∧ Below w.heap.size w w' := by
  obtain ⟨R, HR0⟩ : ∃ R, Hid (rd [] 0 s.data.toList = R) := ⟨_, Lib.hid rfl⟩
  rw [HR0.out]
  go_enter Tryd.func25, Tryd.ntmps25
  go_wp2_with (at_make; refine wpList_makeB 47 5 Tryd.underlying47 infoByte rfl _ _ rfl w.heap.size .i64 .i64 _ s.size rfl rfl rfl (by omega) (Nat.le_refl _) ?_)
  intro w0 hown0 hbw0 hsz0
  have HZ := Lib.hid hsz0
  clear hsz0
  go_wp2
  go_loopw [5, 6] (fun v i wr => ∃ (p sk : Nat) (acc : List UInt8), i = .int .i64 sk ∧ wr.heap[w0.heap.size]? = some (.stringIter s p) ∧ sk ≤ 2 ∧ p + sk ≤ s.size ∧ AsciiTo s p (p + sk) ∧ OwnB 5 w.heap.size v acc wr ∧ acc.length ≤ p + sk ∧ Hid (rd acc (p + sk) (s.data.toList.drop (p + sk)) = R) ∧ Below w.heap.size w wr) (fun _ _ wr => s.size - wr.iterPos w0.heap.size)
  case atStart => exact ⟨0, 0, [], rfl, World.iter_heap w0 s 0, by omega, by omega, AsciiTo.nil s 0, hown0.alloc _, Nat.le_refl _, HR0, hbw0.alloc (by have := HZ.out; omega) _⟩
  case round =>
    obtain ⟨p, sk, acc, rfl, hit, hsk, hps, hasc, hown, hal, HR, hbw⟩ := hrel
    have hz : w.heap.size ≤ wr.heap.size := hbw.size
    have hz0 : w.heap.size ≤ w0.heap.size := by have := HZ.out; omega
    have HPos : Hid (wr.iterPos w0.heap.size = p) := Lib.hid (by simp [World.iterPos, hit])
    by_cases hlt : p < s.size
    · by_cases hk : 0 < sk
      · -- a digit that was read already
        obtain ⟨_, ha⟩ := hasc p (Nat.le_refl _) (by omega)
        have hnx : ∀ ty, (Instr.next (.pointer (some ⟨w0.heap.size, 0, none⟩)) true ty).run Tryd.prog wr = _ := fun ty => Lib.run_next_ascii_at wr w0.heap.size s p ty hit hlt ha
        have hit2 := Lib.iterAt_heap wr w0.heap.size s p (p + 1) hit
        have hown2 := hown.iterAt hit (p + 1)
        have hbw2 := Lib.below_iterAt hbw (k := w0.heap.size) hz0 s (p + 1)
        have hk' : (0 : Int) < sk := by omega
        have HIt := Lib.hid hit
        have HIt2 := Lib.hid hit2
        clear hit hit2 ha
        go_wp2
        go_roundw
        case rel => exact ⟨p + 1, sk - 1, acc, by go_num, HIt2.out, by omega, by omega, fun j h1 h2 => hasc j (by omega) (by omega), hown2, by omega, by rw [show p + 1 + (sk - 1) = p + sk from by omega]; exact HR, hbw2⟩
        case measure => simp only [World.iterPos, HIt2.out, HIt.out]; omega
      · obtain rfl : sk = 0 := by omega
        have HD := Lib.hid (drop_cons s p hlt)
        obtain ⟨c, hc⟩ : ∃ c, s[p]'hlt = c := ⟨_, rfl⟩
        rw [hc] at HD
        have hc0 : c.toNat < 256 := c.toNat_lt
        rw [Nat.add_zero] at HR hal
        by_cases ha : c.toNat < 128
        · have hnx : ∀ ty, (Instr.next (.pointer (some ⟨w0.heap.size, 0, none⟩)) true ty).run Tryd.prog wr = .ok (.tuple #[.bool true, .int .i64 p, .int .i32 c.toNat]) (wr.iterAt w0.heap.size s (p + 1)) := by
            intro ty
            rw [← hc]
            exact Lib.run_next_ascii_at wr w0.heap.size s p ty hit hlt (by rw [hc]; exact ha)
          have hit2 := Lib.iterAt_heap wr w0.heap.size s p (p + 1) hit
          have hown2 := hown.iterAt hit (p + 1)
          have hbw2 := Lib.below_iterAt hbw (k := w0.heap.size) hz0 s (p + 1)
          have hz2 : w.heap.size ≤ (wr.iterAt w0.heap.size s (p + 1)).heap.size := by rw [Lib.iterAt_size]; exact hz
          have HIt := Lib.hid hit
          have HIt2 := Lib.hid hit2
          clear hit hit2 hc
          by_cases h43 : c.toNat = 43
          · have b43 : ((c.toNat : Int) == 43) = true := by rw [h43]; rfl
            have HN : Hid (rd (acc ++ [32]) (p + 1) (s.data.toList.drop (p + 1)) = R) := Lib.hid (by rw [← HR.out, HD.out, rd_plus _ _ _ _ h43])
            clear h43 ha
            go_wp2_with (at_builtin; refine wpList_pushes 47 5 Tryd.underlying47 infoByte rfl _ _ rfl w.heap.size _ _ [32] (wr.iterAt w0.heap.size s (p + 1)) _ rfl rfl 1 1 rfl _ rfl rfl rfl hown2 (by simp; omega) hz2 ?_)
            intro v' w' g1 g2 g3
            have HIt3 := Lib.hid (keptIter g3 HIt2.out)
            go_wp2
            go_roundw
            case rel => exact ⟨p + 1, 0, _, rfl, HIt3.out, by omega, by omega, AsciiTo.nil s _, g1, by simp; omega, HN, hbw2.trans g2⟩
            case measure => simp only [World.iterPos, HIt3.out, HIt.out]; omega
          · have b43 : ((c.toNat : Int) == 43) = false := by simp; omega
            by_cases h37 : c.toNat = 37
            · have b37 : ((c.toNat : Int) == 37) = true := by rw [h37]; rfl
              by_cases hsh : p + 2 < s.size
              · have HD1 := Lib.hid (drop_cons s (p + 1) (by omega))
                have HD2 := Lib.hid (drop_cons s (p + 2) hsh)
                obtain ⟨x, hx⟩ : ∃ x, s[p + 1]'(by omega) = x := ⟨_, rfl⟩
                obtain ⟨y, hy⟩ : ∃ y, s[p + 2]'hsh = y := ⟨_, rfl⟩
                rw [hx] at HD1
                rw [hy] at HD2
                have hes : (s.extract (p + 1) s.size).size = s.size - (p + 1) := extract_size s (p + 1)
                have ex0 : (s.extract (p + 1) s.size)[0]'(by omega) = x := by rw [extract_at s (p + 1) 0 (by omega) (by omega)]; exact hx
                have ex1 : (s.extract (p + 1) s.size)[1]'(by omega) = y := by rw [extract_at s (p + 1) 1 (by omega) (by omega)]; exact hy
                have CS := said_any (s.extract (p + 1) s.size) x y (by omega) ex0 ex1 (by unfold maxLen; omega)
                have HX := Lib.hid hx
                have HY := Lib.hid hy
                clear hx hy hes ex0 ex1
                by_cases hbad : hexV x < 0 ∨ hexV y < 0
                · have HN : Hid (R = ([], 30, p)) := Lib.hid (by rw [← HR.out, HD.out, HD1.out, HD2.out, rd_none _ _ _ _ _ _ h37 hbad])
                  rw [dig_not hbad] at CS
                  have HCS := Lib.hid CS
                  clear h37 h43 ha hbad CS
                  go_wp2_with (go_at_call 36; refine (HCS.out _).mono ?_; rintro e w' ⟨rfl, rfl⟩)
                  go_ret3
                  exact ⟨ret_rd HN.out, hbw2⟩
                · have HN : Hid (rd (acc ++ [(16 * hexV x + hexV y).toNat.toUInt8]) (p + 3) (s.data.toList.drop (p + 3)) = R) := Lib.hid (by rw [← HR.out, HD.out, HD1.out, HD2.out, rd_hex _ _ _ _ _ _ h37 hbad])
                  obtain ⟨d1, d2, d3⟩ := dig_both hbad
                  have rx := hexV_rng x
                  have ry := hexV_rng y
                  have HQ : Hid (saidV x y = (((16 * hexV x + hexV y).toNat.toUInt8).toNat : Int)) := Lib.hid (by rw [d3, u8n (by omega)]; omega)
                  have HA : Hid (AsciiTo s (p + 1) (p + 1 + 2)) := by
                    refine Lib.hid fun j h1 h2 => ?_
                    rcases (by omega : j = p + 1 ∨ j = p + 2) with rfl | rfl
                    · exact ⟨by omega, by rw [HX.out]; exact hexV_ascii (by omega)⟩
                    · exact ⟨hsh, by rw [HY.out]; exact hexV_ascii (by omega)⟩
                  rw [d1, d2] at CS
                  have HCS := Lib.hid CS
                  clear h37 h43 ha hbad CS d1 d2 d3 rx ry
                  go_wp2_with (first | (go_at_call 36; refine (HCS.out _).mono ?_; rintro e w' ⟨rfl, rfl⟩) | (at_builtin; refine wpList_pushes 47 5 Tryd.underlying47 infoByte rfl _ _ rfl w.heap.size _ _ [(16 * hexV x + hexV y).toNat.toUInt8] (wr.iterAt w0.heap.size s (p + 1)) _ (by simp only [Lib.byteCells, List.map]; rw [← HQ.out]) rfl 1 1 rfl _ rfl rfl rfl hown2 (by simp; omega) hz2 ?_))
                  intro v' w' g1 g2 g3
                  have HIt3 := Lib.hid (keptIter g3 HIt2.out)
                  go_wp2
                  go_roundw
                  case rel => exact ⟨p + 1, 2, _, rfl, HIt3.out, by omega, by omega, HA.out, g1, by simp; omega, HN, hbw2.trans g2⟩
                  case measure => simp only [World.iterPos, HIt3.out, HIt.out]; omega
              · have HN : Hid (R = ([], 30, p)) := Lib.hid (by rw [← HR.out, HD.out, rd_short _ _ _ _ h37 (by simp; omega)])
                have HCS := Lib.hid (said_short (s.extract (p + 1) s.size) (by rw [extract_size]; omega))
                clear h37 h43 ha
                go_wp2_with (go_at_call 36; refine (HCS.out _).mono ?_; rintro e w' ⟨rfl, rfl⟩)
                go_ret3
                exact ⟨ret_rd HN.out, hbw2⟩
            · have b37 : ((c.toNat : Int) == 37) = false := by simp; omega
              by_cases hbad : c.toNat < 33 ∨ 126 < c.toNat ∨ c.toNat = 38 ∨ c.toNat = 61
              · have HN : Hid (R = ([], 31, p)) := Lib.hid (by rw [← HR.out, HD.out, rd_bad _ _ _ _ h43 h37 hbad])
                have HB := Lib.hid hbad
                clear h37 h43 hbad ha
                rcases byte_ways c with p1 | ⟨p1, p2⟩ | ⟨p1, p2, p3⟩ | ⟨p1, p2, p3, p4⟩ | ⟨p1, p2, p3, p4⟩
                · go_wp2
                  go_ret3
                  exact ⟨ret_rd HN.out, hbw2⟩
                · go_wp2
                  go_ret3
                  exact ⟨ret_rd HN.out, hbw2⟩
                · go_wp2
                  go_ret3
                  exact ⟨ret_rd HN.out, hbw2⟩
                · go_wp2
                  go_ret3
                  exact ⟨ret_rd HN.out, hbw2⟩
                · exfalso
                  have := HB.out
                  simp only [beq_eq_false_iff_ne] at p3 p4
                  omega
              · have HN : Hid (rd (acc ++ [c]) (p + 1) (s.data.toList.drop (p + 1)) = R) := Lib.hid (by rw [← HR.out, HD.out, rd_self _ _ _ _ h43 h37 hbad])
                have p1 : 33 ≤ (c.toNat : Int) := by omega
                have p2 : (c.toNat : Int) ≤ 126 := by omega
                have p3 : ((c.toNat : Int) == 38) = false := by simp; omega
                have p4 : ((c.toNat : Int) == 61) = false := by simp; omega
                clear h37 h43 hbad ha
                go_wp2_with (at_builtin; refine wpList_pushes 47 5 Tryd.underlying47 infoByte rfl _ _ rfl w.heap.size _ _ [c] (wr.iterAt w0.heap.size s (p + 1)) _ rfl rfl 1 1 rfl _ rfl rfl rfl hown2 (by simp; omega) hz2 ?_)
                intro v' w' g1 g2 g3
                have HIt3 := Lib.hid (keptIter g3 HIt2.out)
                go_wp2
                go_roundw
                case rel => exact ⟨p + 1, 0, _, rfl, HIt3.out, by omega, by omega, AsciiTo.nil s _, g1, by simp; omega, HN, hbw2.trans g2⟩
                case measure => simp only [World.iterPos, HIt3.out, HIt.out]; omega
        · -- a byte from 128 on
          have hdh := decode_high s p hlt (by rw [hc]; omega)
          have hdl := decode_le s p
          have HN : Hid (R = ([], 31, p)) := Lib.hid (by rw [← HR.out, HD.out, rd_bad _ _ _ _ (by omega) (by omega) (by omega)])
          have hnx : ∀ ty, (Instr.next (.pointer (some ⟨w0.heap.size, 0, none⟩)) true ty).run Tryd.prog wr = _ := fun ty => Lib.run_next_any_at wr w0.heap.size s p ty hit hlt
          have hbw2 := Lib.below_iterAt hbw (k := w0.heap.size) hz0 s (p + (Utf8.decode s p).2)
          obtain ⟨r, hr⟩ : ∃ r, (Utf8.decode s p).1 = r := ⟨_, rfl⟩
          obtain ⟨q, hq⟩ : ∃ q, p + (Utf8.decode s p).2 = q := ⟨_, rfl⟩
          simp only [hr, hq] at hnx hbw2 hdh hdl
          have hr1 : 126 < (r : Int) := by omega
          have hr2 : ((r : Int) == 43) = false := by simp; omega
          have hr3 : ((r : Int) == 37) = false := by simp; omega
          have hr4 : (33 : Int) ≤ (r : Int) := by omega
          clear hit hr hq hdh hdl hc ha
          go_wp2
          go_ret3
          exact ⟨ret_rd HN.out, hbw2⟩
    · obtain rfl : sk = 0 := by omega
      have hnx : ∀ ty, (Instr.next (.pointer (some ⟨w0.heap.size, 0, none⟩)) true ty).run Tryd.prog wr = _ := fun ty => Lib.run_next_end_at wr w0.heap.size s p ty hit hlt
      have HN : Hid (R = (acc, 0, 0)) := Lib.hid (by rw [← HR.out, drop_end s _ (by omega)]; rfl)
      have hcv := hown.string (P := Tryd.prog) (src := 47) (dst := 9) Tryd.underlying47 Tryd.underlying5 Tryd.underlying9
      clear hit
      go_wp2
      go_ret3
      exact ⟨ret_rd HN.out, hbw⟩

theorem ret_un {R : List UInt8 × Int × Nat} : Ending.returned (.tuple #[.string ⟨R.1.toArray⟩, .int .i64 R.2.1]) = Ending.returned (.tuple #[.string ⟨R.1.toArray⟩, .int .i64 R.2.1]) := rfl

set_option maxHeartbeats 400000 in
theorem Unescape_any (s : ByteArray) (w : World) (hs : s.size ≤ 68719476736) :
    Calls Tryd.prog 10 #[.string s] w fun e w' => e = .returned (.tuple #[.string ⟨(rd [] 0 s.data.toList).1.toArray⟩, .int .i64 (rd [] 0 s.data.toList).2.1]) ∧ Below w.heap.size w w' := by
  have C := unescape_any s w hs
  obtain ⟨R, hR⟩ : ∃ R, rd [] 0 s.data.toList = R := ⟨_, rfl⟩
  rw [hR] at C ⊢
  clear hR
  have HC := Lib.hid C
  clear C
  go_enter Tryd.func10, Tryd.ntmps10
  go_wp2_with fail
  refine HC.out.mono ?_
  rintro e w' ⟨rfl, hb⟩
  go_wp2
  go_ret2
  exact ⟨rfl, hb⟩

set_option maxHeartbeats 400000 in
theorem refUnescape_any (s : ByteArray) (w : World) (hs : s.size ≤ 68719476736) :
    Calls Tryd.prog 11 #[.string s] w fun e w' => e = .returned (.tuple #[.string ⟨(rd [] 0 s.data.toList).1.toArray⟩, .int .i64 (rd [] 0 s.data.toList).2.1]) ∧ Below w.heap.size w w' := by
  have C := refread_any s w hs
  obtain ⟨R, hR⟩ : ∃ R, rd [] 0 s.data.toList = R := ⟨_, rfl⟩
  rw [hR] at C ⊢
  clear hR
  have HC := Lib.hid C
  clear C
  go_enter Tryd.func11, Tryd.ntmps11
  go_wp2_with fail
  refine HC.out.mono ?_
  rintro e w' ⟨rfl, hb⟩
  go_wp2
  go_ret2
  exact ⟨rfl, hb⟩
end Go.Proofs.YtldhfbdljogieaaDoor
