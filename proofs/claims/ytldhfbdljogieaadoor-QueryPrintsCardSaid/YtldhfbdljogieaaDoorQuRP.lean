/- Walk of the reference's Print (layer 3): it computes printP. -/
import Derived.Test.YtldhfbdljogieaaDoorQuS
import Derived.Test.YtldhfbdljogieaaDoorQuPlain3
namespace Go.Proofs.YtldhfbdljogieaaDoor
open Go.RowKit
open Qu

set_option maxHeartbeats 8000000 in
set_option maxRecDepth 100000 in
theorem refPrint_any (v : Value) (l : List Fld) (w : World) (hv : FldIn w v l) (hl : wt l ≤ 68719476736) :
    Calls Tryd.prog 24 #[v] w fun e w' => e = .returned (S (printP l)) ∧ Below w.heap.size w w' := by
  have hlen := wt_len l
  rcases hv with ⟨a, rfl, rfl⟩ | ⟨b, o, cap, rfl, h1, h2, h3⟩
  · go_enter Tryd.func24, Tryd.ntmps24
    go_wp2
    go_loopw [3, 4] (fun x i wr => x = S [] ∧ i = .int .i64 0 ∧ Below w.heap.size w wr) (fun _ _ _ => 0)
    case atStart => exact ⟨rfl, rfl, Below.refl _ _⟩
    case round =>
      obtain ⟨rfl, rfl, hbw⟩ := hrel
      go_wp2
      go_ret
      exact ⟨rfl, hbw⟩
  · have H3 := Lib.hid h3
    clear h3
    go_enter Tryd.func24, Tryd.ntmps24
    go_wp2
    go_loopw [3, 4] (fun x i wr => ∃ k : Nat, k ≤ l.length ∧ x = S (printP (l.take k)) ∧ i = .int .i64 k ∧ Below w.heap.size w wr) (fun _ i _ => l.length - (intOf i).toNat)
    case atStart => exact ⟨0, Nat.zero_le _, rfl, rfl, Below.refl _ _⟩
    case round =>
      obtain ⟨k, hk, rfl, rfl, hbw⟩ := hrel
      have hpl := printP_le (l.take k)
      have hwl := wt_take_le l k
      by_cases hlt : k < l.length
      · obtain ⟨f, hf⟩ : ∃ f, l[k]? = some f := ⟨l[k]'hlt, List.getElem?_eq_getElem hlt⟩
        have hwt := wt_get hf
        obtain ⟨c0, c1⟩ := H3.out k f hf
        have d0 : wr.cell? ⟨b, o + k * 2, none⟩ = some (S f.1) := ((bcell hbw).1 _ _ h2).trans c0
        have d1 : wr.cell? ⟨b, o + k * 2 + 1, none⟩ = some (S f.2) := ((bcell hbw).1 _ _ h2).trans c1
        have htk : l.take (k + 1) = l.take k ++ [f] := by
          rw [List.take_succ_eq_append_getElem hlt]
          rw [List.getElem?_eq_getElem hlt] at hf
          rw [Option.some.inj hf]
        clear c0 c1 hf
        by_cases hk00 : k = 0
        · have hpp : printP (l.take k) = [] := by rw [hk00]; rfl
          have hsn0 : printP (l.take (k + 1)) = fldP f := by rw [htk, hk00]; exact printP_one f
          obtain ⟨p0, hp0⟩ : ∃ p0 : List UInt8, printP (l.take k) = p0 := ⟨_, rfl⟩
          rw [hp0] at hpp ⊢
          have hsn : printP (l.take (k + 1)) = p0 ++ fldP f := by rw [hsn0, hpp]; rfl
          have hp0l : p0.length = 0 := by rw [hpp]; rfl
          have qk : ¬ (k : Int) > 0 := by omega
          clear hk00 hpp hp0 htk hsn0
          have E0 := Lib.hid hsn
          have hl1 : f.1.length ≤ 68719476736 := by omega
          have hl2 : f.2.length ≤ 68719476736 := by omega
          have ce1 := fun w => refEscape_S f.1 w hl1
          have ce2 := fun w => refEscape_S f.2 w hl2
          have hx1 := esc_le f.1
          have hx2 := esc_le f.2
          have hf0 : fldP f = esc f.1 ++ [61] ++ esc f.2 := rfl
          obtain ⟨e1, he1⟩ : ∃ e1, esc f.1 = e1 := ⟨_, rfl⟩
          obtain ⟨e2, he2⟩ : ∃ e2, esc f.2 = e2 := ⟨_, rfl⟩
          rw [he1] at ce1 hx1 hf0
          rw [he2] at ce2 hx2 hf0
          obtain ⟨q1, hq1⟩ : ∃ q, p0 ++ e1 = q := ⟨_, rfl⟩
          obtain ⟨q2, hq2⟩ : ∃ q, q1 ++ [61] = q := ⟨_, rfl⟩
          obtain ⟨q3, hq3⟩ : ∃ q, q2 ++ e2 = q := ⟨_, rfl⟩
          have hq1l : q1.length = p0.length + e1.length := by rw [← hq1, List.length_append]
          have hq2l : q2.length = q1.length + 1 := by rw [← hq2]; simp
          have cat1 := run_cat (P := Tryd.prog) p0 e1 q1 hq1 (by omega)
          have cat2 := run_cat (P := Tryd.prog) q1 [61] q2 hq2 (by simp; omega)
          have cat3 := run_cat (P := Tryd.prog) q2 e2 q3 hq3 (by omega)
          have HN : Hid (printP (l.take (k + 1)) = q3) := Lib.hid (by rw [E0.out, hf0, ← hq3, ← hq2, ← hq1]; simp)
          have HC1 := Lib.hid ce1
          have HC2 := Lib.hid ce2
          have hk1 : (k : Int) < (l.length : Int) := by omega
          have hk0 : (0 : Int) ≤ (k : Int) := by omega
          have HB := Lib.hid hbw
          have HH := Lib.hid h2
          clear ce1 ce2 he1 he2 hf0 hq1 hq2 hq3 hq1l hq2l hx1 hx2 hsn hp0l hpl hwl hwt hl1 hl2
          go_wp2
          go_region_held3 (fun w' => w'.cell? ⟨b, o + k * 2, none⟩ = some (S f.1) ∧ w'.cell? ⟨b, o + k * 2 + 1, none⟩ = some (S f.2)) (go_keep)
            (first
              | (go_at_call 13; (with_reducible refine (HC1.out _).mono ?_); rintro e W1 ⟨rfl, hb1⟩; have y0 := ((bcell hb1).1 b (o + k * 2) (by have := HB.out.size; have := HH.out; simp only [World.size_drew]; omega)).trans d0; have y1 := ((bcell hb1).1 b (o + k * 2 + 1) (by have := HB.out.size; have := HH.out; simp only [World.size_drew]; omega)).trans d1)
              | (go_at_call 13; (with_reducible refine (HC2.out _).mono ?_); rintro e W2 ⟨rfl, hb2⟩; have z0 := ((bcell hb2).1 b (o + k * 2) (by have := HB.out.size; have := HH.out; have := hb1.size; simp only [World.size_drew] at *; omega)).trans y0; have z1 := ((bcell hb2).1 b (o + k * 2 + 1) (by have := HB.out.size; have := HH.out; have := hb1.size; simp only [World.size_drew] at *; omega)).trans y1))
          go_wp2
          go_roundw
          case rel => exact ⟨k + 1, by omega, by rw [HN.out], by go_num, (HB.out.drew.trans (hb1.mono (by have := HB.out.size; simp only [World.size_drew]; omega))).trans (hb2.mono (by have := HB.out.size; have := hb1.size; simp only [World.size_drew] at *; omega))⟩
          case measure => simp [intOf]; omega
        · have hne : l.take k ≠ [] := by
            intro e
            have := congrArg List.length e
            rw [List.length_take, List.length_nil] at this
            omega
          have hsn0 : printP (l.take (k + 1)) = printP (l.take k) ++ [38] ++ fldP f := by rw [htk, printP_snoc _ _ hne]
          obtain ⟨pp, hpp⟩ : ∃ pp, printP (l.take k) = pp := ⟨_, rfl⟩
          rw [hpp] at hsn0 hpl ⊢
          obtain ⟨p0, hp0⟩ : ∃ p0, pp ++ [38] = p0 := ⟨_, rfl⟩
          have hsn : printP (l.take (k + 1)) = p0 ++ fldP f := by rw [hsn0, hp0]
          have hp0l : p0.length = pp.length + 1 := by rw [← hp0]; simp
          have cat0 := run_cat (P := Tryd.prog) pp [38] p0 hp0 (by simp; omega)
          have qk : (0 : Int) < (k : Int) := by omega
          clear hk00 hpp hp0 htk hne hsn0
          have E0 := Lib.hid hsn
          have hl1 : f.1.length ≤ 68719476736 := by omega
          have hl2 : f.2.length ≤ 68719476736 := by omega
          have ce1 := fun w => refEscape_S f.1 w hl1
          have ce2 := fun w => refEscape_S f.2 w hl2
          have hx1 := esc_le f.1
          have hx2 := esc_le f.2
          have hf0 : fldP f = esc f.1 ++ [61] ++ esc f.2 := rfl
          obtain ⟨e1, he1⟩ : ∃ e1, esc f.1 = e1 := ⟨_, rfl⟩
          obtain ⟨e2, he2⟩ : ∃ e2, esc f.2 = e2 := ⟨_, rfl⟩
          rw [he1] at ce1 hx1 hf0
          rw [he2] at ce2 hx2 hf0
          obtain ⟨q1, hq1⟩ : ∃ q, p0 ++ e1 = q := ⟨_, rfl⟩
          obtain ⟨q2, hq2⟩ : ∃ q, q1 ++ [61] = q := ⟨_, rfl⟩
          obtain ⟨q3, hq3⟩ : ∃ q, q2 ++ e2 = q := ⟨_, rfl⟩
          have hq1l : q1.length = p0.length + e1.length := by rw [← hq1, List.length_append]
          have hq2l : q2.length = q1.length + 1 := by rw [← hq2]; simp
          have cat1 := run_cat (P := Tryd.prog) p0 e1 q1 hq1 (by omega)
          have cat2 := run_cat (P := Tryd.prog) q1 [61] q2 hq2 (by simp; omega)
          have cat3 := run_cat (P := Tryd.prog) q2 e2 q3 hq3 (by omega)
          have HN : Hid (printP (l.take (k + 1)) = q3) := Lib.hid (by rw [E0.out, hf0, ← hq3, ← hq2, ← hq1]; simp)
          have HC1 := Lib.hid ce1
          have HC2 := Lib.hid ce2
          have hk1 : (k : Int) < (l.length : Int) := by omega
          have hk0 : (0 : Int) ≤ (k : Int) := by omega
          have HB := Lib.hid hbw
          have HH := Lib.hid h2
          clear ce1 ce2 he1 he2 hf0 hq1 hq2 hq3 hq1l hq2l hx1 hx2 hsn hp0l hpl hwl hwt hl1 hl2
          go_wp2
          go_region_held3 (fun w' => w'.cell? ⟨b, o + k * 2, none⟩ = some (S f.1) ∧ w'.cell? ⟨b, o + k * 2 + 1, none⟩ = some (S f.2)) (go_keep)
            (first
              | (go_at_call 13; (with_reducible refine (HC1.out _).mono ?_); rintro e W1 ⟨rfl, hb1⟩; have y0 := ((bcell hb1).1 b (o + k * 2) (by have := HB.out.size; have := HH.out; simp only [World.size_drew]; omega)).trans d0; have y1 := ((bcell hb1).1 b (o + k * 2 + 1) (by have := HB.out.size; have := HH.out; simp only [World.size_drew]; omega)).trans d1)
              | (go_at_call 13; (with_reducible refine (HC2.out _).mono ?_); rintro e W2 ⟨rfl, hb2⟩; have z0 := ((bcell hb2).1 b (o + k * 2) (by have := HB.out.size; have := HH.out; have := hb1.size; simp only [World.size_drew] at *; omega)).trans y0; have z1 := ((bcell hb2).1 b (o + k * 2 + 1) (by have := HB.out.size; have := HH.out; have := hb1.size; simp only [World.size_drew] at *; omega)).trans y1))
          go_wp2
          go_roundw
          case rel => exact ⟨k + 1, by omega, by rw [HN.out], by go_num, (HB.out.drew.trans (hb1.mono (by have := HB.out.size; simp only [World.size_drew]; omega))).trans (hb2.mono (by have := HB.out.size; have := hb1.size; simp only [World.size_drew] at *; omega))⟩
          case measure => simp [intOf]; omega
      · rw [List.take_of_length_le (by omega)]
        go_wp2
        go_ret
        exact ⟨rfl, hbw⟩
end Go.Proofs.YtldhfbdljogieaaDoor
