/- Walks of the law of layer 5, second part: are fields the same? -/
import Derived.Test.YtaomhkgdbobpkaaGreatDoorWiL1
namespace Go.Proofs.YtaomhkgdbobpkaaGreatDoor
open Go.RowKit Wi

set_option maxHeartbeats 4000000 in
set_option maxRecDepth 100000 in
theorem fields_any (fs gs : List Fl) (va vb : Value) (w : World) (h1 : RowF (fun _ => True) w va fs) (h2 : RowF (fun _ => True) w vb gs) (hl : fs.length ≤ 1099511627776) (_hl2 : gs.length ≤ 1099511627776) :
    Calls Tryz.prog 41 #[va, vb] w fun e w' => (∃ q, e = .returned (.bool q) ∧ (q = true ↔ fs = gs)) ∧ Kept (fun _ => True) w w' := by
  obtain ⟨a, c, rfl⟩ := h1.slice
  obtain ⟨a2, c2, rfl⟩ := h2.slice
  by_cases hn : fs.length = gs.length
  case neg =>
    have q1 : ((fs.length : Int) != (gs.length : Int)) = true := by rw [bne_iff_ne]; omega
    have q2 : ¬ (fs.length : Int) = (gs.length : Int) := by omega
    have HE : Hid (¬ fs = gs) := Lib.hid fun e => hn (by rw [e])
    clear hn h1 h2
    go_enter Tryz.func41, Tryz.ntmps41
    go_wp2
    go_ret
    exact ⟨⟨false, rfl, by simp [HE.out]⟩, Kept.refl _ _⟩
  have HN := Lib.hid hn
  have H1 := Lib.hid h1
  have H2 := Lib.hid h2
  rw [← hn] at H2 ⊢
  clear hn h1 h2
  go_enter Tryz.func41, Tryz.ntmps41
  go_wp2_with fail
  go_loopg [5] fs.length (fun q n wr => ∃ j : Nat, n = .int .i64 j ∧ q = fs.length - j ∧ j ≤ fs.length ∧ Hid (fs.take j = gs.take j) ∧ Hid (Kept (fun _ => True) w wr))
  case atStart => exact ⟨0, rfl, rfl, Nat.zero_le _, Lib.hid (by simp), Lib.hid (Kept.refl _ _)⟩
  case round =>
    obtain ⟨j, rfl, rfl, hj, HT, HK⟩ := hrel
    by_cases hlt : j < fs.length
    · obtain ⟨b, off, rfl, hb, -, f, hf, x0, x1⟩ := H1.out.at hlt
      obtain ⟨b', off', rfl, hb', -, f', hf', y0, y1⟩ := H2.out.at (j := j) (by rw [← HN.out]; exact hlt)
      replace x0 := (HK.out.cell hb trivial).trans x0
      replace x1 := (HK.out.cell hb trivial).trans x1
      replace y0 := (HK.out.cell hb' trivial).trans y0
      replace y1 := (HK.out.cell hb' trivial).trans y1
      obtain ⟨f1, f2⟩ := f
      obtain ⟨g1, g2⟩ := f'
      simp only at x0 x1 y0 y1
      by_cases he : f1 = g1 ∧ f2 = g2
      · obtain ⟨rfl, rfl⟩ := he
        have HT2 : Hid (fs.take (j + 1) = gs.take (j + 1)) := Lib.hid (by rw [List.take_add_one, List.take_add_one, HT.out, hf, hf'])
        clear hf hf' HT
        go_wp2
        go_quiet (fail)
        go_wp2
        go_roundg (fs.length - (j + 1))
        case rel => exact ⟨j + 1, by go_num, rfl, by omega, HT2, Lib.hid (HK.out.drewN _)⟩
        case measure => omega
      · have HE : Hid (¬ fs = gs) := Lib.hid fun e => he (by
          rw [e] at hf
          rw [hf] at hf'
          have := Option.some.inj hf'
          exact ⟨congrArg Prod.fst this, congrArg Prod.snd this⟩)
        have hcs : (f1 == g1) = false ∨ ((f1 == g1) = true ∧ (f2 == g2) = false) := by
          by_cases h1 : f1 = g1
          · exact .inr ⟨beq_iff_eq.2 h1, beq_eq_false_iff_ne.2 fun h2 => he ⟨h1, h2⟩⟩
          · exact .inl (beq_eq_false_iff_ne.2 h1)
        clear hf hf' HT he
        rcases hcs with q1 | ⟨q1, q2⟩
        all_goals
          go_wp2
          go_quiet (fail)
          go_wp2
          go_ret
          exact ⟨⟨false, rfl, by simp [HE.out]⟩, HK.out.drewN _⟩
    · obtain rfl : j = fs.length := by omega
      have HE : Hid (fs = gs) := Lib.hid (by have := HT.out; rw [List.take_length] at this; rw [this, HN.out, List.take_length])
      clear HT
      go_wp2
      go_ret
      exact ⟨⟨true, rfl, by simp [HE.out]⟩, HK.out⟩
end Go.Proofs.YtaomhkgdbobpkaaGreatDoor
