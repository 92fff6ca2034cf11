/- Walks of query's field and Parse (layer 3): they compute fieldP and parse. -/
import Derived.Test.YtldhfbdljogieaaDoorQuLib
namespace Go.Proofs.YtldhfbdljogieaaDoor
open Go.RowKit
open Qu

theorem tdw_le (p : List UInt8) : (tw p).length + (dw p).length ≤ p.length := by
  have := congrArg List.length (List.takeWhile_append_dropWhile (p := fun c : UInt8 => decide (c ≠ 61)) (l := p))
  rw [List.length_append] at this
  unfold tw dw
  rw [List.length_tail]
  omega
theorem tw_le (p : List UInt8) : (tw p).length ≤ p.length := by have := tdw_le p; omega
theorem dw_le (p : List UInt8) : (dw p).length ≤ p.length := by have := tdw_le p; omega

theorem ret_field {F : Fld × Int × Nat} {n v : List UInt8} {e : Int} {k : Nat} (h : F = ((n, v), e, k)) :
    Ending.returned (.tuple #[.agg #[S n, S v], .int .i64 e, .int .i64 (k : Int)]) = Ending.returned (.tuple #[.agg #[S F.1.1, S F.1.2], .int .i64 F.2.1, .int .i64 (F.2.2 : Int)]) := by rw [h]

set_option maxHeartbeats 1000000 in
set_option maxRecDepth 100000 in
theorem field_any (p : List UInt8) (w : World) (hp : p.length ≤ 68719476736) :
    Calls Tryd.prog 32 #[S p] w fun e w' => e = .returned (.tuple #[.agg #[S (fieldP p).1.1, S (fieldP p).1.2], .int .i64 (fieldP p).2.1, .int .i64 ((fieldP p).2.2 : Int)]) ∧ Below w.heap.size w w' := by
  have h1 := tw_le p
  have h2 := dw_le p
  have C1 := fun w => unescape_any ⟨(tw p).toArray⟩ w (by rw [size_mk]; omega)
  have C2 := fun w => unescape_any ⟨(dw p).toArray⟩ w (by rw [size_mk]; omega)
  have HF : Hid (fieldP p = if (rd [] 0 (tw p)).2.1 ≠ 0 then (([], []), (rd [] 0 (tw p)).2.1, (rd [] 0 (tw p)).2.2)
    else if (rd [] 0 (dw p)).2.1 ≠ 0 then (([], []), (rd [] 0 (dw p)).2.1, (tw p).length + 1 + (rd [] 0 (dw p)).2.2)
    else (((rd [] 0 (tw p)).1, (rd [] 0 (dw p)).1), 0, 0)) := Lib.hid rfl
  have hsz : (⟨(tw p).toArray⟩ : ByteArray).size = (tw p).length := size_mk _
  have HT := Lib.hid (fun w => cut_any p hp w)
  obtain ⟨a, ha⟩ : ∃ a, tw p = a := ⟨_, rfl⟩
  obtain ⟨b, hb⟩ : ∃ b, dw p = b := ⟨_, rfl⟩
  rw [ha, hb] at HF HT
  rw [ha] at C1 hsz h1
  rw [hb] at C2 h2
  simp only at C1 C2
  have hat := rd_at b
  obtain ⟨R1, hR1⟩ : ∃ R, rd [] 0 a = R := ⟨_, rfl⟩
  obtain ⟨R2, hR2⟩ : ∃ R, rd [] 0 b = R := ⟨_, rfl⟩
  rw [hR1, hR2] at HF
  rw [hR1] at C1
  rw [hR2] at C2 hat
  obtain ⟨F, hF⟩ : ∃ F, fieldP p = F := ⟨_, rfl⟩
  rw [hF] at HF ⊢
  have HC1 := Lib.hid C1
  have HC2 := Lib.hid C2
  have HS := Lib.hid hsz
  clear C1 C2 hR1 hR2 hF ha hb hsz
  go_enter Tryd.func32, Tryd.ntmps32
  go_wp2_with fail
  refine (HT.out _).mono ?_
  rintro e w1 ⟨⟨b1, rfl⟩, hb1⟩
  go_wp2_with fail
  refine (HC1.out _).mono ?_
  rintro e w2 ⟨rfl, hb2⟩
  have hz1 := hb1.size
  simp only [World.size_alloc] at hz1
  have hb12 : Below w.heap.size w w2 := (((Below.refl _ w).alloc (Nat.le_refl _) _).trans (hb1.mono (by simp))).trans (hb2.mono (by omega))
  have hbox : w2.heap[w.heap.size]? = some (.cells #[.string ⟨#[]⟩, .string ⟨#[]⟩] 44 (0, 0)) := by
    rw [heap_below hb2 (by omega), heap_below hb1 (by simp)]
    exact heap_alloc_new w _
  obtain ⟨hc0, hc1, hf0, hf1⟩ := box2 hbox
  have hz2 : w.heap.size < w2.heap.size := by have := hb2.size; omega
  clear hb1 hb2 hz1
  by_cases hr1 : R1.2.1 ≠ 0
  · have hN : Hid (F = (([], []), R1.2.1, R1.2.2)) := Lib.hid (by rw [HF.out, if_pos hr1])
    have hq1 : (R1.2.1 != 0) = true := by simpa using hr1
    clear hr1 hbox
    go_wp2
    have hl0 := World.cell?_setCell_same _ _ (Value.string ⟨#[]⟩) hc0
    exact bodyPost_ret (v := .tuple #[.agg #[S [], S []], .int .i64 R1.2.1, .int .i64 R1.2.2]) (by simp [results, Tryd.results32, go_sem, hl0, hc1]) rfl ⟨ret_field hN.out, (hb12.setCell (by simp) _).setCell (by simp) _⟩
  · have hq1 : (R1.2.1 != 0) = false := by simpa using hr1
    have HBox := Lib.hid hbox
    clear hbox hc0 hc1 hf0 hf1
    go_wp2_with fail
    refine (HC2.out _).mono ?_
    rintro e w3 ⟨rfl, hb3⟩
    obtain ⟨hc0, hc1, hf0, hf1⟩ := box2 ((heap_below hb3 hz2).trans HBox.out)
    have hb13 : Below w.heap.size w w3 := hb12.trans (hb3.mono (by omega))
    have hz3 := hb3.size
    clear hb3
    by_cases hr2 : R2.2.1 ≠ 0
    · have hN : Hid (F = (([], []), R2.2.1, a.length + 1 + R2.2.2)) := Lib.hid (by rw [HF.out, if_neg hr1, if_pos hr2])
      have hq2 : (R2.2.1 != 0) = true := by simpa using hr2
      clear hr1 hr2
      go_wp2
      have hl0 := World.cell?_setCell_same _ _ (Value.string ⟨#[]⟩) hc0
      have hs : wrap64 ((a.length : Int) + 1 + (R2.2.2 : Int)) = (a.length : Int) + 1 + (R2.2.2 : Int) := by unfold wrap64; omega
      refine bodyPost_ret (v := .tuple #[.agg #[S [], S []], .int .i64 R2.2.1, .int .i64 (a.length + 1 + R2.2.2 : Nat)]) (by simp [results, Tryd.results32, go_sem, hl0, hc1]) rfl ⟨ret_field hN.out, (hb13.setCell (by simp) _).setCell (by simp) _⟩
    · have hN : Hid (F = ((R1.1, R2.1), 0, 0)) := Lib.hid (by rw [HF.out, if_neg hr1, if_neg hr2])
      have hq2 : (R2.2.1 != 0) = false := by simpa using hr2
      clear hr1 hr2
      go_wp2
      have hl0 := World.cell?_setCell_same _ _ (Value.string ⟨R1.1.toArray⟩) hc0
      exact bodyPost_ret (v := .tuple #[.agg #[S R1.1, S R2.1], .int .i64 0, .int .i64 (0 : Nat)]) (by simp [results, Tryd.results32, go_sem, hl0, hc1]) rfl ⟨ret_field hN.out, (hb13.setCell (by simp) _).setCell (by simp) _⟩
end Go.Proofs.YtldhfbdljogieaaDoor
