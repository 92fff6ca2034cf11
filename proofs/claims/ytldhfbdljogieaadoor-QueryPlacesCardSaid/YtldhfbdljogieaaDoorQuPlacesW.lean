/- Walk of the law QueryPlaces (layer 3). -/
import Derived.Test.YtldhfbdljogieaaDoorQuW11
import Derived.Test.YtldhfbdljogieaaDoorQuPlain3
namespace Go.Proofs.YtldhfbdljogieaaDoor
open Go.RowKit Qu

theorem extract_take (l : List UInt8) (n : Nat) : (⟨l.toArray⟩ : ByteArray).extract 0 n = ⟨(l.take n).toArray⟩ := by
  apply ByteArray.ext
  apply Array.ext'
  rw [Lib.extract_data]
  simp
theorem FldIn.len {w : World} {v : Value} {l : List Fld} (h : FldIn w v l) : ∃ a cap, v = .slice a l.length cap := by
  rcases h with ⟨rfl, rfl⟩ | ⟨b, o, cap, rfl, _⟩
  · exact ⟨none, 0, rfl⟩
  · exact ⟨_, cap, rfl⟩

set_option maxHeartbeats 4000000 in
set_option maxRecDepth 100000 in
theorem placesLaw (l : List UInt8) (w : World) (hE : Env w) (hs : l.length ≤ maxLen) :
    Calls Tryd.prog 7 #[S l] w fun e w' => e = .returned (.bool true) ∧ Below w.heap.size w w' := by
  unfold maxLen at hs
  have hzs : (⟨l.toArray⟩ : ByteArray).size = l.length := size_mk l
  have HE := Lib.hid hE
  clear hE
  by_cases hbig : (l.length : Int) > 2147483647
  · go_enter Tryd.func7, Tryd.ntmps7
    go_wp2
    go_ret
    exact ⟨rfl, Below.refl _ _⟩
  · have C1 := Lib.hid (fun w hE => Parse_any l w hE (by omega))
    have hcutl : (l.take (parse l).2.2 ++ [120]).length ≤ 4294967200 := by
      rw [List.length_append, List.length_take]
      simp only [List.length_cons, List.length_nil]
      omega
    have C2 := Lib.hid (fun w hE => Parse_any (l.take (parse l).2.2 ++ [120]) w hE hcutl)
    clear hcutl
    have P0 := parse_ok_at l
    have P1 := parse_cut l
    obtain ⟨R, hR⟩ : ∃ R, parse l = R := ⟨_, rfl⟩
    rw [hR] at C1 C2 P0 P1
    clear hR
    by_cases he : R.2.1 = 0
    · have qe : (R.2.1 == 0) = true := by rw [he]; rfl
      have qn : ((R.2.2 : Int) == 0) = true := by rw [P0 he]; rfl
      clear P0 P1 he C2
      go_enter Tryd.func7, Tryd.ntmps7
      go_wp2_with fail
      refine (awake_any _ HE.out).mono ?_
      rintro e w1 ⟨rfl, hb1⟩
      go_wp2_with fail
      refine (C1.out _ (HE.out.on HE.out.size hb1)).mono ?_
      rintro e w2 ⟨⟨v, rfl, hown⟩, hb2⟩
      go_wp2
      go_ret
      exact ⟨rfl, hb1.trans (hb2.mono hb1.size)⟩
    · have qe : (R.2.1 == 0) = false := by simpa using he
      obtain ⟨g1, g2, g3⟩ := P1 he
      obtain ⟨m, hm⟩ : ∃ m, l.take R.2.2 ++ [120] = m := ⟨_, rfl⟩
      rw [hm] at C2 g3
      have hext : (⟨l.toArray⟩ : ByteArray).extract 0 R.2.2 ++ ⟨#[120]⟩ = ⟨m.toArray⟩ := by
        rw [extract_take, ← hm]
        exact ByteArray.mk_append_mk _ _
      have HX := Lib.hid hext
      clear hext
      obtain ⟨Q, hQ⟩ : ∃ Q, parse m = Q := ⟨_, rfl⟩
      rw [hQ] at C2 g3
      have G2 := Lib.hid g2
      have G3 := Lib.hid g3
      clear P0 P1 he hm hQ g2 g3
      have qr : (R.2.1 == 32) = true ∧ ((R.2.1 != 30) = true ∧ (R.2.1 != 31) = true ∧ (R.2.1 != 32) = false) ∨ (R.2.1 == 32) = false ∧ ((R.2.1 != 30) = false ∨ ((R.2.1 != 30) = true ∧ (R.2.1 != 31) = false)) := by
        have := G3.out
        simp only [beq_iff_eq, bne_iff_ne, beq_eq_false_iff_ne, bne_eq_false_iff_eq]
        omega
      have hn0 : 0 ≤ (R.2.2 : Int) := by omega
      have hn1 : (R.2.2 : Int) ≤ l.length := by omega
      rcases qr with ⟨q1, q2, q3, q4⟩ | ⟨q1, q2 | ⟨q2, q3⟩⟩
      · have qf : (Q.2.1 == 32) = true := by
          rcases G3.out with ⟨_, h⟩ | ⟨h, _⟩
          · rw [h]; rfl
          · simp only [beq_iff_eq] at q1; omega
        have qm : ((Q.2.2 : Int) == (R.2.2 : Int)) = true := by
          rcases G3.out with ⟨_, h⟩ | ⟨h, _⟩
          · rw [h]; simp
          · simp only [beq_iff_eq] at q1; omega
        go_enter Tryd.func7, Tryd.ntmps7
        go_wp2_with fail
        refine (awake_any _ HE.out).mono ?_
        rintro e w1 ⟨rfl, hb1⟩
        go_wp2_with fail
        refine (C1.out _ (HE.out.on HE.out.size hb1)).mono ?_
        rintro e w2 ⟨⟨v, rfl, hown⟩, hb2⟩
        have hb02 := hb1.trans (hb2.mono hb1.size)
        obtain ⟨a, cap, rfl⟩ := hown.fldIn.len
        rw [G2.out]
        clear hown hb1 hb2
        go_wp2_with fail
        rw [HX.out]
        refine (C2.out _ (HE.out.on HE.out.size hb02)).mono ?_
        rintro e w3 ⟨⟨v3, rfl, hown3⟩, hb3⟩
        obtain ⟨a3, cap3, rfl⟩ := hown3.fldIn.len
        clear hown3
        go_wp2
        go_ret
        exact ⟨rfl, hb02.trans (hb3.mono hb02.size)⟩
      · have qf : (Q.2.1 == 0) = true ∧ 0 < (Q.1.length : Int) := by
          rcases G3.out with ⟨h, _⟩ | ⟨_, h, h2⟩
          · rw [h] at q1; exact absurd q1 (by decide)
          · exact ⟨by rw [h]; rfl, by have := List.length_pos_iff.2 h2; omega⟩
        obtain ⟨qf1, qf2⟩ := qf
        go_enter Tryd.func7, Tryd.ntmps7
        go_wp2_with fail
        refine (awake_any _ HE.out).mono ?_
        rintro e w1 ⟨rfl, hb1⟩
        go_wp2_with fail
        refine (C1.out _ (HE.out.on HE.out.size hb1)).mono ?_
        rintro e w2 ⟨⟨v, rfl, hown⟩, hb2⟩
        have hb02 := hb1.trans (hb2.mono hb1.size)
        obtain ⟨a, cap, rfl⟩ := hown.fldIn.len
        rw [G2.out]
        clear hown hb1 hb2
        go_wp2_with fail
        rw [HX.out]
        refine (C2.out _ (HE.out.on HE.out.size hb02)).mono ?_
        rintro e w3 ⟨⟨v3, rfl, hown3⟩, hb3⟩
        obtain ⟨a3, cap3, rfl⟩ := hown3.fldIn.len
        clear hown3
        go_wp2
        go_ret
        exact ⟨ret_bool (decide_eq_true (by omega)), hb02.trans (hb3.mono hb02.size)⟩
      · have qf : (Q.2.1 == 0) = true ∧ 0 < (Q.1.length : Int) := by
          rcases G3.out with ⟨h, _⟩ | ⟨_, h, h2⟩
          · rw [h] at q1; exact absurd q1 (by decide)
          · exact ⟨by rw [h]; rfl, by have := List.length_pos_iff.2 h2; omega⟩
        obtain ⟨qf1, qf2⟩ := qf
        go_enter Tryd.func7, Tryd.ntmps7
        go_wp2_with fail
        refine (awake_any _ HE.out).mono ?_
        rintro e w1 ⟨rfl, hb1⟩
        go_wp2_with fail
        refine (C1.out _ (HE.out.on HE.out.size hb1)).mono ?_
        rintro e w2 ⟨⟨v, rfl, hown⟩, hb2⟩
        have hb02 := hb1.trans (hb2.mono hb1.size)
        obtain ⟨a, cap, rfl⟩ := hown.fldIn.len
        rw [G2.out]
        clear hown hb1 hb2
        go_wp2_with fail
        rw [HX.out]
        refine (C2.out _ (HE.out.on HE.out.size hb02)).mono ?_
        rintro e w3 ⟨⟨v3, rfl, hown3⟩, hb3⟩
        obtain ⟨a3, cap3, rfl⟩ := hown3.fldIn.len
        clear hown3
        go_wp2
        go_ret
        exact ⟨ret_bool (decide_eq_true (by omega)), hb02.trans (hb3.mono hb02.size)⟩
end Go.Proofs.YtldhfbdljogieaaDoor
