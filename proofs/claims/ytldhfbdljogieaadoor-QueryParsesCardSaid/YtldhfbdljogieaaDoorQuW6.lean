/- Walk of query's Escape (layer 3): it computes esc. -/
import Derived.Test.YtldhfbdljogieaaDoorQuW5
import Derived.BigCall
namespace Go.Proofs.YtldhfbdljogieaaDoor
open Go.RowKit
open Qu

set_option maxHeartbeats 4000000 in
set_option maxRecDepth 100000 in
theorem Escape_any (s : ByteArray) (w : World) (hE : Env w) (hs : s.size ≤ 68719476736) :
    Calls Tryd.prog 12 #[.string s] w fun e w' => e = .returned (.string ⟨(esc s.data.toList).toArray⟩) ∧ Below w.heap.size w w' := by
  have HE := Lib.hid hE
  clear hE
  go_enter Tryd.func12, Tryd.ntmps12
  go_wp2_with (at_make; refine wpList_makeB 47 5 Tryd.underlying47 infoByte rfl _ _ rfl w.heap.size .i64 .i64 _ s.size rfl rfl rfl (by omega) (Nat.le_refl _) ?_)
  intro w0 hown0 hbw0 hsz0
  have HZ := Lib.hid hsz0
  clear hsz0
  go_wp2
  go_loopw [3] (fun v wr => ∃ p : Nat, wr.heap[w0.heap.size]? = some (.stringIter s p) ∧ p ≤ s.size ∧ OwnB 5 w.heap.size v (esc (s.data.toList.take p)) wr ∧ Below w.heap.size w wr) (fun _ wr => s.size - wr.iterPos w0.heap.size)
  case atStart => exact ⟨0, World.iter_heap w0 s 0, Nat.zero_le _, hown0.alloc _, hbw0.alloc (by have := HZ.out; omega) _⟩
  case round =>
    obtain ⟨p, hit, hps, hown, hbw⟩ := hrel
    have hz : w.heap.size ≤ wr.heap.size := hbw.size
    have hz0 : w.heap.size ≤ w0.heap.size := by have := HZ.out; omega
    have hle := esc_take_le s p hps
    by_cases hlt : p < s.size
    · have HS := Lib.hid (esc_step s p hlt)
      obtain ⟨c, hc⟩ : ∃ c, s[p]'hlt = c := ⟨_, rfl⟩
      rw [hc] at HS
      have hc0 : c.toNat < 256 := c.toNat_lt
      by_cases ha : c.toNat < 128
      · have hnx : ∀ ty, (Instr.next (.pointer (some ⟨w0.heap.size, 0, none⟩)) true ty).run Tryd.prog wr = .ok (.tuple #[.bool true, .int .i64 p, .int .i32 c.toNat]) (wr.iterAt w0.heap.size s (p + 1)) := by
          intro ty
          rw [← hc]
          exact Lib.run_next_ascii_at wr w0.heap.size s p ty hit hlt (by rw [hc]; exact ha)
        have hit2 := Lib.iterAt_heap wr w0.heap.size s p (p + 1) hit
        have hown2 := hown.iterAt hit (p + 1)
        have hbw2 := Lib.below_iterAt hbw (k := w0.heap.size) hz0 s (p + 1)
        have hz2 : w.heap.size ≤ (wr.iterAt w0.heap.size s (p + 1)).heap.size := by rw [Lib.iterAt_size]; exact hz
        have HIt := Lib.hid hit
        have HIt2 := Lib.hid hit2
        clear hit hit2 hc
        have q1 : IntKind.u8.wrap (c.toNat : Int) = (c.toNat : Int) := IntWalk.u8_in _ (by omega)
        have ha' : (c.toNat : Int) < 128 := by omega
        by_cases h32 : c.toNat = 32
        · have b32 : ((c.toNat : Int) == 32) = true := by rw [h32]; rfl
          have HN : Hid (esc (s.data.toList.take (p + 1)) = esc (s.data.toList.take p) ++ [43]) := Lib.hid (by rw [HS.out, escB, if_pos h32])
          clear h32 ha
          go_wp2_with (at_builtin; refine wpList_pushes 47 5 Tryd.underlying47 infoByte rfl _ _ rfl w.heap.size _ _ [43] (wr.iterAt w0.heap.size s (p + 1)) _ rfl rfl 1 1 rfl _ rfl rfl rfl hown2 (by simp; omega) hz2 ?_)
          intro v' w' g1 g2 g3
          have HIt3 := Lib.hid (keptIter g3 HIt2.out)
          go_wp2
          go_roundw
          case rel => exact ⟨p + 1, HIt3.out, by omega, by rw [HN.out]; exact g1, hbw2.trans g2⟩
          case measure => simp only [World.iterPos, HIt3.out, HIt.out]; omega
        · have b32 : ((c.toNat : Int) == 32) = false := by simp; omega
          by_cases hst : stayI c.toNat = true
          · have HN : Hid (esc (s.data.toList.take (p + 1)) = esc (s.data.toList.take p) ++ [c]) := Lib.hid (by rw [HS.out, escB, if_neg h32, if_pos hst])
            clear h32 ha
            go_wp2_with (first | (go_at_call 29; refine (stays_any _ (by omega) ha' _).mono ?_; rintro e w' ⟨rfl, rfl⟩) | (at_builtin; refine wpList_pushes 47 5 Tryd.underlying47 infoByte rfl _ _ rfl w.heap.size _ _ [c] (wr.iterAt w0.heap.size s (p + 1)) _ rfl rfl 1 1 rfl _ rfl rfl rfl hown2 (by simp; omega) hz2 ?_))
            intro v' w' g1 g2 g3
            have HIt3 := Lib.hid (keptIter g3 HIt2.out)
            go_wp2
            go_roundw
            case rel => exact ⟨p + 1, HIt3.out, by omega, by rw [HN.out]; exact g1, hbw2.trans g2⟩
            case measure => simp only [World.iterPos, HIt3.out, HIt.out]; omega
          · have HN : Hid (esc (s.data.toList.take (p + 1)) = esc (s.data.toList.take p) ++ pct c) := Lib.hid (by rw [HS.out, escB, if_neg h32, if_neg hst])
            have hst' : stayI c.toNat = false := by simpa using hst
            clear h32 ha hst
            go_wp2_with (first | (go_at_call 29; refine (stays_any _ (by omega) ha' _).mono ?_; rintro e w' ⟨rfl, rfl⟩) | (go_at_call 28; refine (escaped_any w.heap.size _ _ c _ rfl _ hown2 (by omega) hz2).mono ?_; rintro e w' ⟨v', rfl, g1, g2, g3⟩))
            have HIt3 := Lib.hid (keptIter g3 HIt2.out)
            go_roundw
            case rel => exact ⟨p + 1, HIt3.out, by omega, by rw [HN.out]; exact g1, hbw2.trans g2⟩
            case measure => simp only [World.iterPos, HIt3.out, HIt.out]; omega
      · -- a byte from 128 on: all bytes of its rune
        obtain ⟨hr1, hr2⟩ := rune_high s p hlt (by rw [hc]; omega)
        have hdh := decode_high s p hlt (by rw [hc]; omega)
        have hdl := decode_le s p
        have hnx : ∀ ty, (Instr.next (.pointer (some ⟨w0.heap.size, 0, none⟩)) true ty).run Tryd.prog wr = _ := fun ty => Lib.run_next_any_at wr w0.heap.size s p ty hit hlt
        have hit2 := Lib.iterAt_heap wr w0.heap.size s p (p + (Utf8.decode s p).2) hit
        have hown2 := hown.iterAt hit (p + (Utf8.decode s p).2)
        have hbw2 := Lib.below_iterAt hbw (k := w0.heap.size) hz0 s (p + (Utf8.decode s p).2)
        have hdg : Lib.decodeGo (s.extract p s.size) = Utf8.decode s p := by
          unfold Lib.decodeGo
          rw [if_neg (by rw [extract_size]; omega), Lib.tail_decode]
          rfl
        have CD := Tryd.utf8_DecodeRuneInString (s.extract p s.size)
        rw [hdg] at CD
        obtain ⟨r, hr⟩ : ∃ r, (Utf8.decode s p).1 = r := ⟨_, rfl⟩
        obtain ⟨n, hn⟩ : ∃ n, (Utf8.decode s p).2 = n := ⟨_, rfl⟩
        rw [hr, hn] at hnx CD
        rw [hr, hn] at hdh
        rw [hr] at hdl
        rw [hn] at hr1 hr2 hit2 hown2 hbw2
        obtain ⟨W2, hW2⟩ : ∃ W2, wr.iterAt w0.heap.size s (p + n) = W2 := ⟨_, rfl⟩
        rw [hW2] at hit2 hown2 hbw2 hnx
        have hra : 128 ≤ (r : Int) := by omega
        have hz2 : w.heap.size ≤ W2.heap.size := hbw2.size
        have hlt2 : w0.heap.size < W2.heap.size := (Array.getElem?_eq_some_iff.1 hit2).1
        have HCD := Lib.hid (CD W2 (HE.out.on HE.out.size hbw2).1)
        have HIt := Lib.hid hit
        have HIt2 := Lib.hid hit2
        have HR2 := Lib.hid hr2
        have hp0 : (p : Int) ≤ s.size := by omega
        clear hit hit2 hc hdg CD hr hn hW2 hr2 HS
        go_wp2_with (go_at_call 27; refine HCD.out.mono ?_; rintro e W3 ⟨rfl, hb3⟩)
        have hown3 := hown2.below hb3
        have HIt3 := Lib.hid ((heap_below hb3 hlt2).trans HIt2.out)
        have hbw3 := hbw2.trans (hb3.mono hz2)
        clear hb3 hown2 hown hbw
        go_loopw [3, 33] (fun v i wi => ∃ k : Nat, i = .int .i64 k ∧ k ≤ n ∧ wi.heap[w0.heap.size]? = some (.stringIter s (p + n)) ∧ OwnB 5 w.heap.size v (esc (s.data.toList.take (p + k))) wi ∧ Below w.heap.size w wi) (fun _ i _ => n - (intOf i).toNat)
        case atStart => exact ⟨0, rfl, Nat.zero_le _, HIt3.out, hown3, hbw3⟩
        case round =>
          obtain ⟨k, rfl, hkn, hiti, howni, hbwi⟩ := hrel
          have HIti := Lib.hid hiti
          clear hiti HIt3 hown3 hbw3
          have hzi : w.heap.size ≤ wr.heap.size := hbwi.size
          have hlei := esc_take_le s (p + k) (by omega)
          by_cases hk : k < n
          · obtain ⟨hkk, hb128⟩ := HR2.out k hk
            have HSk := Lib.hid (esc_step s (p + k) hkk)
            obtain ⟨b, hb⟩ : ∃ b, s[p + k]'hkk = b := ⟨_, rfl⟩
            rw [hb] at HSk hb128
            rw [escB_high b hb128] at HSk
            have hix := run_index_str (P := Tryd.prog) Tryd.underlying9 s ((p : Int) + k) (p + k) (by omega) hkk b hb
            have hb0 : b.toNat < 256 := b.toNat_lt
            have hk1 : (k : Int) < n := by omega
            have hk2 : (p : Int) + k < s.size := by omega
            clear hb hb128
            go_wp2_with (go_at_call 28; refine (escaped_any w.heap.size _ _ b _ rfl _ howni (by omega) hzi).mono ?_; rintro e w' ⟨v', rfl, g1, g2, g3⟩)
            have HIt4 := Lib.hid (keptIter g3 HIti.out)
            go_roundw
            case rel => exact ⟨k + 1, by go_num, by omega, HIt4.out, by rw [show p + (k + 1) = p + k + 1 from by omega, HSk.out]; exact g1, hbwi.trans g2⟩
            case measure => simp [intOf]; omega
          · obtain rfl : k = n := by omega
            have hk1 : ¬ (k : Int) < k := by omega
            go_wp2
            go_roundw
            case rel => exact ⟨p + k, HIti.out, hr1, howni, hbwi⟩
            case measure => simp only [World.iterPos, HIti.out, HIt.out]; omega
    · have HF : Hid (esc (s.data.toList.take p) = esc s.data.toList) := Lib.hid (by rw [List.take_of_length_le (by simpa using hlt)])
      have hnx : ∀ ty, (Instr.next (.pointer (some ⟨w0.heap.size, 0, none⟩)) true ty).run Tryd.prog wr = _ := fun ty => Lib.run_next_end_at wr w0.heap.size s p ty hit hlt
      have hcv := hown.string (P := Tryd.prog) (src := 47) (dst := 9) Tryd.underlying47 Tryd.underlying5 Tryd.underlying9
      clear hit
      go_wp2
      go_ret
      exact ⟨ret_str HF.out, hbw⟩
end Go.Proofs.YtldhfbdljogieaaDoor
