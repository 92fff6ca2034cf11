/- Walks of the reference's quoted and digits (layer 4). Printed by gen_refquoted.py. -/
import Derived.Test.YtmajpambfblhnaaGreatDoorJoQ1
import Derived.Test.YtmajpambfblhnaaGreatDoorJoU1
import Derived.Test.YtmajpambfblhnaaGreatDoorKit9
import Derived.Lib.SlBytesConst
import Derived.Laws.BitsAllLaws
namespace Go.Proofs.YtmajpambfblhnaaGreatDoor
open Go.RowKit Jo

theorem run_index_u8 {P : Program} {T : TypeId} (hT : P.underlying T = some .string) (s : ByteArray) (i : Int) (k : Nat) (hi : i = k) (h : k < s.size) (c : UInt8) (hc : s[k]'h = c) (w : World) :
    (Instr.index T (.string s) (.int .u8 i)).run P w = .ok (.int .u8 c.toNat) w := by
  subst hi hc
  rw [run_index_string (P := P) (w := w) T s .u8 k hT]
  have h1 : 0 ≤ (k : Int) ∧ (k : Int) < s.size := by omega
  simp [h1.2]
theorem byteTypes : Tryz.prog.underlying 5 = some (.int .u8) := by kernel_rfl
theorem dig_fin' : ∀ k : Fin 16, (⟨#[48, 49, 50, 51, 52, 53, 54, 55, 56, 57, 97, 98, 99, 100, 101, 102]⟩ : ByteArray).data[k.val]'k.2 = hexD.getD k.val 0 := by decide
theorem dig_at' (k : Nat) (h : k < 16) : (#[48, 49, 50, 51, 52, 53, 54, 55, 56, 57, 97, 98, 99, 100, 101, 102] : Array UInt8).toList[k]'h = hexD.getD k 0 := dig_fin' ⟨k, h⟩
theorem ret_S {a b : List UInt8} (h : a = b) : Ending.returned (S a) = .returned (S b) := by rw [h]
set_option maxHeartbeats 16000000 in
set_option maxRecDepth 100000 in
theorem refquoted_any (s : List UInt8) (w : World) (hl : (quoteP s).length ≤ 35184372088832) : Calls Tryz.prog 48 #[S s] w fun e w' => e = .returned (S (quoteP s)) ∧ Kept (fun _ => True) w w' := by
  have hsz : (⟨s.toArray⟩ : ByteArray).size = s.length := size_mk s
  have hqs := quote_len s
  have hq2 : (quoteP s).length = (s.flatMap quoteC).length + 2 := by unfold quoteP; simp
  have HL := Lib.hid hl
  have hs9 : s.length ≤ 35184372088832 := by omega
  obtain ⟨W0, hW0⟩ : ∃ W0, w.alloc (.cells #[.int .u8 34] 5 (1, 2)) = W0 := ⟨_, rfl⟩
  have HO0 : Hid (OwnX 5 w.heap.size (.slice (some ⟨w.heap.size, 0, none⟩) 1 1) [34] W0) := Lib.hid (by rw [← hW0]; exact .inr ⟨w.heap.size, (1, 2), rfl, heap_alloc_new w _⟩)
  have HB0 : Hid (Below w.heap.size w W0) := Lib.hid (by rw [← hW0]; exact (Below.refl _ w).alloc (Nat.le_refl _) _)
  have HQ2 := Lib.hid hq2
  clear hl hqs hq2
  go_enter Tryz.func48, Tryz.ntmps48
  have CV := Lib.run_convert_bytes_const (P := Tryz.prog) w 55 5 #[.int .u8 34] 1 1 Tryz.underlying55 byteTypes
  go_wp2
  clear CV
  go_loopg [3, 4] s.length (fun q v i wr => ∃ j : Nat, i = .int .i64 j ∧ q = s.length - j ∧ j ≤ s.length ∧ Hid (OwnX 5 w.heap.size v (34 :: (s.take j).flatMap quoteC) wr) ∧ Hid (Below w.heap.size w wr))
  case atStart => exact ⟨0, rfl, by omega, Nat.zero_le _, Lib.hid (by simpa using HO0.out), HB0⟩
  case round =>
    clear HO0 HB0 hW0
    obtain ⟨j, rfl, rfl, hj, ho, hb⟩ := hrel
    obtain ⟨va, vl, vc, rfl⟩ := ho.out.slice
    have hwb : w.heap.size ≤ wr.heap.size := hb.out.size
    by_cases hlt : j < s.length
    · obtain ⟨c, hc⟩ : ∃ c, s[j]? = some c := ⟨s[j]'hlt, List.getElem?_eq_getElem hlt⟩
      have hix := run_index_str (P := Tryz.prog) Tryz.underlying9 ⟨s.toArray⟩ j j rfl (by rw [hsz]; exact hlt) c (List.getElem?_eq_some_iff.1 hc).2
      have HN : Hid (34 :: (s.take (j + 1)).flatMap quoteC = (34 :: (s.take j).flatMap quoteC) ++ quoteC c) := Lib.hid (by rw [List.take_add_one, hc]; simp)
      obtain ⟨L, hL⟩ : ∃ L, 34 :: (s.take j).flatMap quoteC = L := ⟨_, rfl⟩
      have hLL : L.length + (quoteC c).length ≤ 35184372088832 := by have h1 := quote_room s j c hc; have h2 := HL.out; rw [← hL]; simp only [List.length_cons]; omega
      have hq1 := quoteC_le c
      have hLs : L.length + 6 ≤ 35184372088838 := by omega
      rw [hL] at ho HN
      have HO := ho
      clear hc hL ho hLL hq1
      rcases sign_eq c with ⟨rfl, -⟩ | ⟨rfl, -⟩ | ⟨rfl, -⟩ | ⟨rfl, -⟩ | ⟨rfl, -⟩ | ⟨rfl, -⟩ | ⟨rfl, -⟩ | ⟨n1, n2, n3, n4, n5, n6, n7, hs0⟩
      · have HQ : Hid (quoteC 34 = [92, 34]) := Lib.hid (by decide)
        go_wp2_with (at_builtin; refine wpList_pushX 55 5 Tryz.underlying55 infoByte rfl _ _ rfl w.heap.size L _ [92, 34] wr _ rfl rfl 2 2 rfl (by decide) _ rfl rfl rfl HO.out (by simp only [List.length_cons, List.length_nil]; omega) hwb ?_)
        intro v' w2 k1 k2
        have HO2 : Hid (OwnX _ _ _ _ _) := Lib.hid (.inl k1)
        have HB2 := Lib.hid (hb.out.trans k2)
        clear k1 k2
        go_wp2
        go_roundg (s.length - (j + 1))
        case rel => exact ⟨j + 1, by go_num, rfl, by omega, Lib.hid (by rw [HN.out, HQ.out]; exact HO2.out), HB2⟩
        case measure => omega
      · have HQ : Hid (quoteC 92 = [92, 92]) := Lib.hid (by decide)
        go_wp2_with (at_builtin; refine wpList_pushX 55 5 Tryz.underlying55 infoByte rfl _ _ rfl w.heap.size L _ [92, 92] wr _ rfl rfl 2 2 rfl (by decide) _ rfl rfl rfl HO.out (by simp only [List.length_cons, List.length_nil]; omega) hwb ?_)
        intro v' w2 k1 k2
        have HO2 : Hid (OwnX _ _ _ _ _) := Lib.hid (.inl k1)
        have HB2 := Lib.hid (hb.out.trans k2)
        clear k1 k2
        go_wp2
        go_roundg (s.length - (j + 1))
        case rel => exact ⟨j + 1, by go_num, rfl, by omega, Lib.hid (by rw [HN.out, HQ.out]; exact HO2.out), HB2⟩
        case measure => omega
      · have HQ : Hid (quoteC 8 = [92, 98]) := Lib.hid (by decide)
        go_wp2_with (at_builtin; refine wpList_pushX 55 5 Tryz.underlying55 infoByte rfl _ _ rfl w.heap.size L _ [92, 98] wr _ rfl rfl 2 2 rfl (by decide) _ rfl rfl rfl HO.out (by simp only [List.length_cons, List.length_nil]; omega) hwb ?_)
        intro v' w2 k1 k2
        have HO2 : Hid (OwnX _ _ _ _ _) := Lib.hid (.inl k1)
        have HB2 := Lib.hid (hb.out.trans k2)
        clear k1 k2
        go_wp2
        go_roundg (s.length - (j + 1))
        case rel => exact ⟨j + 1, by go_num, rfl, by omega, Lib.hid (by rw [HN.out, HQ.out]; exact HO2.out), HB2⟩
        case measure => omega
      · have HQ : Hid (quoteC 9 = [92, 116]) := Lib.hid (by decide)
        go_wp2_with (at_builtin; refine wpList_pushX 55 5 Tryz.underlying55 infoByte rfl _ _ rfl w.heap.size L _ [92, 116] wr _ rfl rfl 2 2 rfl (by decide) _ rfl rfl rfl HO.out (by simp only [List.length_cons, List.length_nil]; omega) hwb ?_)
        intro v' w2 k1 k2
        have HO2 : Hid (OwnX _ _ _ _ _) := Lib.hid (.inl k1)
        have HB2 := Lib.hid (hb.out.trans k2)
        clear k1 k2
        go_wp2
        go_roundg (s.length - (j + 1))
        case rel => exact ⟨j + 1, by go_num, rfl, by omega, Lib.hid (by rw [HN.out, HQ.out]; exact HO2.out), HB2⟩
        case measure => omega
      · have HQ : Hid (quoteC 10 = [92, 110]) := Lib.hid (by decide)
        go_wp2_with (at_builtin; refine wpList_pushX 55 5 Tryz.underlying55 infoByte rfl _ _ rfl w.heap.size L _ [92, 110] wr _ rfl rfl 2 2 rfl (by decide) _ rfl rfl rfl HO.out (by simp only [List.length_cons, List.length_nil]; omega) hwb ?_)
        intro v' w2 k1 k2
        have HO2 : Hid (OwnX _ _ _ _ _) := Lib.hid (.inl k1)
        have HB2 := Lib.hid (hb.out.trans k2)
        clear k1 k2
        go_wp2
        go_roundg (s.length - (j + 1))
        case rel => exact ⟨j + 1, by go_num, rfl, by omega, Lib.hid (by rw [HN.out, HQ.out]; exact HO2.out), HB2⟩
        case measure => omega
      · have HQ : Hid (quoteC 12 = [92, 102]) := Lib.hid (by decide)
        go_wp2_with (at_builtin; refine wpList_pushX 55 5 Tryz.underlying55 infoByte rfl _ _ rfl w.heap.size L _ [92, 102] wr _ rfl rfl 2 2 rfl (by decide) _ rfl rfl rfl HO.out (by simp only [List.length_cons, List.length_nil]; omega) hwb ?_)
        intro v' w2 k1 k2
        have HO2 : Hid (OwnX _ _ _ _ _) := Lib.hid (.inl k1)
        have HB2 := Lib.hid (hb.out.trans k2)
        clear k1 k2
        go_wp2
        go_roundg (s.length - (j + 1))
        case rel => exact ⟨j + 1, by go_num, rfl, by omega, Lib.hid (by rw [HN.out, HQ.out]; exact HO2.out), HB2⟩
        case measure => omega
      · have HQ : Hid (quoteC 13 = [92, 114]) := Lib.hid (by decide)
        go_wp2_with (at_builtin; refine wpList_pushX 55 5 Tryz.underlying55 infoByte rfl _ _ rfl w.heap.size L _ [92, 114] wr _ rfl rfl 2 2 rfl (by decide) _ rfl rfl rfl HO.out (by simp only [List.length_cons, List.length_nil]; omega) hwb ?_)
        intro v' w2 k1 k2
        have HO2 : Hid (OwnX _ _ _ _ _) := Lib.hid (.inl k1)
        have HB2 := Lib.hid (hb.out.trans k2)
        clear k1 k2
        go_wp2
        go_roundg (s.length - (j + 1))
        case rel => exact ⟨j + 1, by go_num, rfl, by omega, Lib.hid (by rw [HN.out, HQ.out]; exact HO2.out), HB2⟩
        case measure => omega
      · have q1 := (byte_is c 34 34 rfl).trans (decide_eq_false n1)
        have q2 := (byte_is c 92 92 rfl).trans (decide_eq_false n2)
        have q3 := (byte_is c 8 8 rfl).trans (decide_eq_false n3)
        have q4 := (byte_is c 9 9 rfl).trans (decide_eq_false n4)
        have q5 := (byte_is c 10 10 rfl).trans (decide_eq_false n5)
        have q6 := (byte_is c 12 12 rfl).trans (decide_eq_false n6)
        have q7 := (byte_is c 13 13 rfl).trans (decide_eq_false n7)
        by_cases hc32 : c < 32
        · have HQ : Hid (quoteC c = [92, 117, 48, 48, hexD.getD (c.toNat / 16) 0, hexD.getD (c.toNat % 16) 0]) := Lib.hid (by unfold quoteC; rw [if_neg (by simp [hs0]), if_pos hc32])
          have hcn : c.toNat < 32 := UInt8.lt_iff_toNat_lt.1 hc32
          have q32 : decide ((c.toNat : Int) < 32) = true := by simp; omega
          have hw1 : IntKind.u8.wrap ((c.toNat : Int) / 16) = (c.toNat : Int) / 16 := by rw [IntKind.wrap_u8']; omega
          have hw2 : IntKind.u8.wrap ((c.toNat : Int) % 16) = (c.toNat : Int) % 16 := by rw [IntKind.wrap_u8']; omega
          rw [← dig_at (c.toNat / 16) (h' := by show c.toNat / 16 < 16; omega) (by omega), ← dig_at (c.toNat % 16) (h' := by show c.toNat % 16 < 16; omega) (by omega)] at HQ
          have i1 := run_index_u8 (P := Tryz.prog) Tryz.underlying9 ⟨#[48, 49, 50, 51, 52, 53, 54, 55, 56, 57, 97, 98, 99, 100, 101, 102]⟩ ((c.toNat : Int) / 16) (c.toNat / 16) (by omega) (by show c.toNat / 16 < 16; omega) _ rfl
          have i2 := run_index_u8 (P := Tryz.prog) Tryz.underlying9 ⟨#[48, 49, 50, 51, 52, 53, 54, 55, 56, 57, 97, 98, 99, 100, 101, 102]⟩ ((c.toNat : Int).tmod 16) (c.toNat % 16) (by rw [Int.tmod_eq_emod_of_nonneg (by omega)]; omega) (by show c.toNat % 16 < 16; omega) _ rfl
          clear n1 n2 n3 n4 n5 n6 n7 hs0 hc32
          go_wp2
          go_region_law (refine step_pushX 55 5 Tryz.underlying55 infoByte rfl (.tmp 65) (.tmp 72) rfl w.heap.size L (.slice va vl vc) [92, 117, 48, 48, (⟨#[48, 49, 50, 51, 52, 53, 54, 55, 56, 57, 97, 98, 99, 100, 101, 102]⟩ : ByteArray)[c.toNat / 16]'(by show c.toNat / 16 < 16; omega), (⟨#[48, 49, 50, 51, 52, 53, 54, 55, 56, 57, 97, 98, 99, 100, 101, 102]⟩ : ByteArray)[c.toNat % 16]'(by show c.toNat % 16 < 16; omega)] wr.drew _ rfl rfl 6 6 rfl (by simp) _ rfl rfl rfl HO.out.drew (by simp only [List.length_cons, List.length_nil]; omega) hwb ?_; intro v' w2 k1 k2)
          all_goals
            have HO2 : Hid (OwnX _ _ _ _ _) := Lib.hid (.inl k1)
            have HB2 := Lib.hid (hb.out.drew.trans k2)
            clear k1 k2
            go_wp2
            go_roundg (s.length - (j + 1))
            case rel => exact ⟨j + 1, by go_num, rfl, by omega, Lib.hid (by rw [HN.out, HQ.out]; exact HO2.out), HB2⟩
            case measure => omega
        · have HQ : Hid (quoteC c = [c]) := Lib.hid (by unfold quoteC; rw [if_neg (by simp [hs0]), if_neg hc32])
          have q32 : decide ((c.toNat : Int) < 32) = false := by
            have : ¬ c.toNat < 32 := fun e => hc32 (UInt8.lt_iff_toNat_lt.2 e)
            simp; omega
          clear n1 n2 n3 n4 n5 n6 n7 hs0 hc32
          go_wp2_with (at_builtin; refine wpList_pushX 55 5 Tryz.underlying55 infoByte rfl _ _ rfl w.heap.size L _ [c] wr _ rfl rfl 1 1 rfl (by simp) _ rfl rfl rfl HO.out (by simp only [List.length_cons, List.length_nil]; omega) hwb ?_)
          intro v' w2 k1 k2
          have HO2 : Hid (OwnX _ _ _ _ _) := Lib.hid (.inl k1)
          have HB2 := Lib.hid (hb.out.trans k2)
          clear k1 k2
          go_wp2
          go_roundg (s.length - (j + 1))
          case rel => exact ⟨j + 1, by go_num, rfl, by omega, Lib.hid (by rw [HN.out, HQ.out]; exact HO2.out), HB2⟩
          case measure => omega
    · obtain rfl : s.length = j := by omega
      have HO := Lib.hid (show OwnX 5 w.heap.size (.slice va vl vc) (34 :: s.flatMap quoteC) wr by have := ho.out; rwa [List.take_of_length_le (Nat.le_refl _)] at this)
      have hlen : (34 :: s.flatMap quoteC).length + 1 ≤ 35184372088832 := by have h1 := HL.out; have h2 := HQ2.out; simp only [List.length_cons]; omega
      clear ho
      go_wp2_with (at_builtin; refine wpList_pushX 55 5 Tryz.underlying55 infoByte rfl _ _ rfl w.heap.size (34 :: s.flatMap quoteC) _ [34] wr _ rfl rfl 1 1 rfl (by simp) _ rfl rfl rfl HO.out (by simp only [List.length_cons, List.length_nil] at hlen ⊢; omega) hwb ?_)
      intro v' w2 k1 k2
      have hcv := k1.string Tryz.underlying55 byteTypes Tryz.underlying9
      have HB2 := Lib.hid (hb.out.trans k2)
      clear k1 k2
      go_wp2
      refine bodyPost_ret (v := S ((34 :: s.flatMap quoteC) ++ [34])) (by simp [results, Tryz.results48, go_sem]) rfl ?_
      exact ⟨ret_S (by simp [quoteP]), ⟨HB2.out.os, HB2.out.tape, HB2.out.output, HB2.out.size, fun k hk _ => HB2.out.block k hk⟩⟩
end Go.Proofs.YtmajpambfblhnaaGreatDoor
