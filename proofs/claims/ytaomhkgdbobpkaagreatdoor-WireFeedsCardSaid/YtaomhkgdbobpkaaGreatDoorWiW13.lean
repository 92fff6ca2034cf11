/- Walks of wire (layer 5), thirteenth part: a line is judged. -/
import Derived.Test.YtaomhkgdbobpkaaGreatDoorWiW12
namespace Go.Proofs.YtaomhkgdbobpkaaGreatDoor
open Go.RowKit Wi

theorem begins_any (g bx : Nat) (lv fv hv bv : Value) (r : R) (s : List UInt8) (w : World) (B : Nat) (hE : WE B w) (h : RdC g bx lv fv hv bv r w) (hl : s.length ≤ 100000) :
    Calls Tryz.prog 101 #[.pointer (some ⟨g, 0, none⟩), S s] w (BegQ g bx lv hv bv (beginsP r s) w) := by
  cases ha : r.ans with
  | false => exact begins_ask g bx lv fv hv bv r s w B hE h hl ha
  | true => exact begins_stat g bx lv fv hv bv r s w h hl ha
/-- What a byte leaves: is all there, what is wrong; if nothing is wrong, the reading. -/
def StepQ (g : Nat) (fp : List Nat) (x : R × Bool × Int) (w : World) (e : Ending) (w' : World) : Prop := e = .returned (.tuple #[.bool x.2.1, .int .i64 x.2.2]) ∧ (x.2.2 = 0 → ∃ fp', RdAt g x.1 fp' w' ∧ ∀ b ∈ fp', b ∈ fp ∨ w.heap.size ≤ b) ∧ Kept (· ∉ fp) w w'
theorem fpC_mem {g bx : Nat} {lv fv hv bv : Value} {b : Nat} : b ∈ fpC g bx lv fv hv bv ↔ b = g ∨ b = bx ∨ lv.ownBlock = some b ∨ fv.ownBlock = some b ∨ hv.ownBlock = some b ∨ bv.ownBlock = some b := by
  simp [fpC, Option.mem_toList]
/-- The last header is behind it: the body comes. -/
theorem RdC.toBody {g bx : Nat} {fv hv bv : Value} {r : R} {w : World} (h : RdC g bx (.slice none 0 0) fv hv bv r w) (W : World)
    (hW : W = ((w.setCell ⟨g, 0, none⟩ (.int .i64 2)).alloc (.cells #[.pointer (some ⟨g, 0, none⟩)] 73)).setCell ⟨g, 2, none⟩ (.func (.func 117) #[] #[.pointer (some ⟨w.heap.size, 0, none⟩)])) :
    RdC g w.heap.size (.slice none 0 0) fv hv bv { r with ph := 2 } W ∧ Kept (· ≠ g) w W := by
  have hgl := (Array.getElem?_eq_some_iff.1 h.box).1
  have hk1 : Kept (· ≠ g) w (w.setCell ⟨g, 0, none⟩ (.int .i64 2)) := (Kept.refl _ w).setCell (.inr (by simp)) _
  have hb1 := setCell_heap (o := 0) h.box (.int .i64 2)
  obtain ⟨w1, hw1⟩ : ∃ w1, w.setCell ⟨g, 0, none⟩ (.int .i64 2) = w1 := ⟨_, rfl⟩
  rw [hw1] at hk1 hb1 hW
  have hz1 : w1.heap.size = w.heap.size := by rw [← hw1]; simp [World.setCell]
  have hk2 : Kept (fun _ => True) w1 (w1.alloc (.cells #[.pointer (some ⟨g, 0, none⟩)] 73)) := (Kept.refl _ w1).alloc _
  have hp2 := heap_alloc_new w1 (.cells #[.pointer (some ⟨g, 0, none⟩)] 73)
  rw [hz1] at hp2
  obtain ⟨w2, hw2⟩ : ∃ w2, w1.alloc (.cells #[.pointer (some ⟨g, 0, none⟩)] 73) = w2 := ⟨_, rfl⟩
  rw [hw2] at hk2 hp2 hW
  have hb2 := (hk2.block g (by omega) trivial).trans hb1
  have hk3 : Kept (· ≠ g) w2 W := by rw [hW]; exact (Kept.refl _ w2).setCell (.inr (by simp)) _
  have hkW : Kept (· ≠ g) w W := (hk1.tr (hk2.mono fun _ _ _ => trivial)).tr hk3
  refine ⟨⟨?_, ?_, ?_, h.first.kept hkW fun b hb => (h.fv_ne b hb).1, ownsRow_kept h.hs hkW fun b hb => (h.hv_ne b hb).1, ownsRow_kept h.body hkW fun b hb => (h.bv_ne b hb).1, .inl ⟨rfl, rfl⟩⟩, hkW⟩
  · rw [hW, setCell_heap hb2]; rfl
  · exact (hk3.block w.heap.size (Array.getElem?_eq_some_iff.1 hp2).1 (by omega)).trans hp2
  · exact ownsRow_kept h.line hkW fun b hb => by cases hb
set_option maxHeartbeats 8000000 in
set_option maxRecDepth 100000 in
theorem judge_any (g bx : Nat) (fv hv bv : Value) (r : R) (line : List UInt8) (w : World) (B : Nat) (hE : WE B w) (h : RdC g bx (.slice none 0 0) fv hv bv r w) (hp : r.ph < 2) (hl : line.length ≤ 100000) (hh : r.hs.length ≤ 1000000) :
    Calls Tryz.prog 88 #[.pointer (some ⟨g, 0, none⟩), S line] w (StepQ g (fpC g bx (.slice none 0 0) fv hv bv) (judgeP r line) w) := by
  have CS := Lib.hid (Tryz.strings_CutSuffix ⟨line.toArray⟩ ⟨#[13]⟩ w (by rw [size_mk]; omega))
  obtain ⟨ed, hed⟩ : ∃ ed, Lib.hasSuffix line [13] = ed := ⟨_, rfl⟩
  obtain ⟨bare, hba⟩ : ∃ bare, Lib.trimSuffix line [13] = bare := ⟨_, rfl⟩
  have CS2 : Hid (Calls Tryz.prog 100 #[S line, .string ⟨#[13]⟩] w fun e w' => e = .returned (.tuple #[S bare, .bool ed]) ∧ w' = w) := Lib.hid (by rw [← hed, ← hba]; exact CS.out)
  have hbl : bare.length ≤ 100000 := by
    rw [← hba]
    unfold Lib.trimSuffix
    split
    · rw [List.length_take]; omega
    · exact hl
  have HJ : Hid (judgeP r line = if r.ph = 0 then (match (if ed then beginsP r bare else none) with | none => (r, false, 50) | some r' => ({ r' with ph := 1 }, false, 0)) else if ed = false then (r, false, 51) else if bare = [] then ({ r with ph := 2 }, decide (r.len ≤ 0), 0) else ((headerP r bare).1, false, (headerP r bare).2)) := Lib.hid (by unfold judgeP; rw [hed, hba]; rfl)
  have HC := Lib.hid h
  have HE := Lib.hid hE
  obtain ⟨c0, -, c2, -, -, -, -, c7, -, f9, -⟩ := h.facts
  have HFP : Hid (∀ b, b ∉ fpC g bx (.slice none 0 0) fv hv bv → b ≠ g ∧ hv.ownBlock ≠ some b) := Lib.hid fun b hb => ⟨fun e => hb (fpC_mem.2 (.inl e)), fun e => hb (fpC_mem.2 (.inr (.inr (.inr (.inr (.inl e))))))⟩
  have HBAD : Hid (∀ (n : Int) W, judgeP r line = (r, false, n) → n ≠ 0 → Kept (· ≠ g) w W → StepQ g (fpC g bx (.slice none 0 0) fv hv bv) (judgeP r line) w (.returned (.tuple #[.bool false, .int .i64 n])) W) := Lib.hid fun n W he hn hk => by
    rw [he]
    exact ⟨rfl, fun h0 => absurd h0 hn, hk.mono fun b _ hb => (HFP.out b hb).1⟩
  clear h hE CS hed hba
  by_cases hp0 : r.ph = 0
  · rw [hp0] at c0
    have q0 : r.ph = 0 := hp0
    cases ed with
    | false =>
      have HZ := Lib.hid (HBAD.out 50 w (by rw [HJ.out, if_pos hp0]; rfl) (by decide) (Kept.refl _ w))
      clear hp0 q0 hp
      go_enter Tryz.func88, Tryz.ntmps88
      go_wp2_with (refine CS2.out.mono ?_; rintro e w1 ⟨rfl, rfl⟩)
      refine bodyPost_ret (v := .tuple #[.bool false, .int .i64 50]) (by simp [results, Tryz.results88, go_sem]) rfl ?_
      exact HZ.out
    | true =>
      have BG := Lib.hid (begins_any g bx _ fv hv bv r bare w B HE.out HC.out hbl)
      have HJ2 : Hid (judgeP r line = match beginsP r bare with | none => (r, false, 50) | some r' => ({ r' with ph := 1 }, false, 0)) := Lib.hid (by rw [HJ.out, if_pos hp0]; rfl)
      clear hp0 HJ
      obtain ⟨x, hx⟩ : ∃ x, beginsP r bare = x := ⟨_, rfl⟩
      rw [hx] at BG HJ2
      cases x with
      | none =>
        have HZ := Lib.hid (fun W hk => HBAD.out 50 W HJ2.out (by decide) hk)
        clear hx q0 hp
        go_enter Tryz.func88, Tryz.ntmps88
        go_wp2_with (first
          | (go_at_call 100; refine CS2.out.mono ?_; rintro e w1 ⟨rfl, rfl⟩)
          | (go_at_call 101; refine BG.out.mono ?_; rintro e w2 ⟨rfl, -, hk2⟩))
        refine bodyPost_ret (v := .tuple #[.bool false, .int .i64 50]) (by simp [results, Tryz.results88, go_sem]) rfl ?_
        exact HZ.out _ hk2
      | some r' =>
        clear q0 HBAD
        go_enter Tryz.func88, Tryz.ntmps88
        go_wp2_with fail
        refine CS2.out.mono ?_
        rintro e w1 ⟨rfl, rfl⟩
        go_wp2_with fail
        refine BG.out.mono ?_
        rintro e w2 ⟨rfl, hr2, hk2⟩
        obtain ⟨fv', h2, hfv⟩ := hr2 r' rfl
        have f0 := h2.facts.2.2.2.2.2.2.2.2.2.1 0
        have c3 := h2.facts.1
        have hpr : r'.ph < 2 := by
          have hh : r'.ph = r.ph := by
            unfold beginsP at hx
            split at hx
            · obtain ⟨d, _, rfl⟩ := Option.map_eq_some_iff.1 hx; rfl
            · obtain ⟨d, _, rfl⟩ := Option.map_eq_some_iff.1 hx; rfl
          omega
        have HS := Lib.hid (h2.setPh1 hpr)
        have HKS := Lib.hid (hk2.setCell (p := ⟨g, 0, none⟩) (.inr (by simp)) (.int .i64 1))
        have HZ : Hid (StepQ g (fpC g bx (.slice none 0 0) fv hv bv) (judgeP r line) w1 (.returned (.tuple #[.bool false, .int .i64 0])) (w2.setCell ⟨g, 0, none⟩ (.int .i64 1))) := Lib.hid (by
          rw [HJ2.out]
          refine ⟨rfl, fun _ => ⟨_, ⟨bx, _, fv', hv, bv, HS.out, rfl⟩, fun b hb => ?_⟩, HKS.out.mono fun b _ hb => (HFP.out b hb).1⟩
          rcases fpC_mem.1 hb with e | e | e | e | e | e
          · exact .inl (fpC_mem.2 (.inl e))
          · exact .inl (fpC_mem.2 (.inr (.inl e)))
          · cases e
          · exact .inr (hfv b e)
          · exact .inl (fpC_mem.2 (.inr (.inr (.inr (.inr (.inl e))))))
          · exact .inl (fpC_mem.2 (.inr (.inr (.inr (.inr (.inr e)))))))
        clear h2 hfv hk2 hpr hx hr2 hp
        go_wp2
        refine bodyPost_ret (v := .tuple #[.bool false, .int .i64 0]) (by simp [results, Tryz.results88, go_sem]) rfl ?_
        exact HZ.out
  · have hp1 : r.ph = 1 := by omega
    rw [hp1] at c0
    cases ed with
    | false =>
      have HZ := Lib.hid (HBAD.out 51 w (by rw [HJ.out, if_neg hp0, if_pos rfl]) (by decide) (Kept.refl _ w))
      clear hp0 hp hp1
      go_enter Tryz.func88, Tryz.ntmps88
      go_wp2_with (refine CS2.out.mono ?_; rintro e w1 ⟨rfl, rfl⟩)
      refine bodyPost_ret (v := .tuple #[.bool false, .int .i64 51]) (by simp [results, Tryz.results88, go_sem]) rfl ?_
      exact HZ.out
    | true =>
      by_cases hbe : bare = []
      · have HJ2 : Hid (judgeP r line = ({ r with ph := 2 }, decide (r.len ≤ 0), 0)) := Lib.hid (by rw [HJ.out, if_neg hp0, if_neg (by simp), if_pos hbe])
        subst hbe
        have IB := Lib.hid (fun W => inBody_is g W)
        have hgl := HC.out.lt g (by simp [fpC])
        have f0 := f9 0
        obtain ⟨W2, hW2⟩ : ∃ W2, ((w.setCell ⟨g, 0, none⟩ (.int .i64 2)).alloc (.cells #[.pointer (some ⟨g, 0, none⟩)] 73)).setCell ⟨g, 2, none⟩ (.func (.func 117) #[] #[.pointer (some ⟨w.heap.size, 0, none⟩)]) = W2 := ⟨_, rfl⟩
        obtain ⟨h2, hk2⟩ := HC.out.toBody W2 hW2.symm
        obtain ⟨-, -, -, -, -, -, -, d7, -, -, -⟩ := h2.facts
        have HZ : Hid (StepQ g (fpC g bx (.slice none 0 0) fv hv bv) (judgeP r line) w (.returned (.tuple #[.bool (decide (r.len ≤ 0)), .int .i64 0])) W2) := Lib.hid (by
          rw [HJ2.out]
          refine ⟨rfl, fun _ => ⟨_, ⟨w.heap.size, _, fv, hv, bv, h2, rfl⟩, fun b hb => ?_⟩, hk2.mono fun b _ hb => (HFP.out b hb).1⟩
          rcases fpC_mem.1 hb with e | e | e | e | e | e
          · exact .inl (fpC_mem.2 (.inl e))
          · exact .inr (by omega)
          · cases e
          · exact .inl (fpC_mem.2 (.inr (.inr (.inr (.inl e)))))
          · exact .inl (fpC_mem.2 (.inr (.inr (.inr (.inr (.inl e))))))
          · exact .inl (fpC_mem.2 (.inr (.inr (.inr (.inr (.inr e)))))))
        have hfz : ((w.setCell ⟨g, 0, none⟩ (.int .i64 2)).alloc (.cells #[.pointer (some ⟨g, 0, none⟩)] 73)).frozen? ⟨g, 2, none⟩ = false := by
          have hb1 := setCell_heap (o := 0) HC.out.box (.int .i64 2)
          have hk : Kept (fun _ => True) (w.setCell ⟨g, 0, none⟩ (.int .i64 2)) ((w.setCell ⟨g, 0, none⟩ (.int .i64 2)).alloc (.cells #[.pointer (some ⟨g, 0, none⟩)] 73)) := (Kept.refl _ _).alloc _
          exact frozen_row ((hk.block g (Array.getElem?_eq_some_iff.1 hb1).1 trivial).trans hb1) 2
        clear h2 hk2 hp0 hp hp1 HBAD HJ
        go_enter Tryz.func88, Tryz.ntmps88
        go_wp2_with (first
          | (go_at_call 100; refine CS2.out.mono ?_; rintro e w1 ⟨rfl, rfl⟩)
          | (go_at_call 102; refine (IB.out _).mono ?_; rintro e w2 ⟨rfl, rfl⟩))
        refine bodyPost_ret (v := .tuple #[.bool (decide (r.len ≤ 0)), .int .i64 0]) (by simp [results, Tryz.results88, go_sem]) rfl ?_
        exact HZ.out
      · have HJ2 : Hid (judgeP r line = ((headerP r bare).1, false, (headerP r bare).2)) := Lib.hid (by rw [HJ.out, if_neg hp0, if_neg (by simp), if_neg hbe])
        have HD := Lib.hid (header_any g bx _ fv hv bv r bare w B HE.out HC.out hbl hh)
        have q1 : (bare == []) = false := beq_eq_false_iff_ne.2 hbe
        have HFZ : Hid (∀ (x : R × Int) w', (∃ hv', RdC g bx (.slice none 0 0) fv hv' bv x.1 w' ∧ (∀ b, hv'.ownBlock = some b → hv.ownBlock = some b ∨ w.heap.size ≤ b) ∧ Kept (fun b => b ≠ g ∧ hv.ownBlock ≠ some b) w w') → x = headerP r bare → StepQ g (fpC g bx (.slice none 0 0) fv hv bv) (judgeP r line) w (.returned (.tuple #[.bool false, .int .i64 x.2])) w') := Lib.hid (by
          rintro x w' ⟨hv', h2, hw2, hk2⟩ rfl
          rw [HJ2.out]
          refine ⟨rfl, fun _ => ⟨_, ⟨bx, _, fv, hv', bv, h2, rfl⟩, fun b hb => ?_⟩, hk2.mono fun b _ hb => HFP.out b hb⟩
          rcases fpC_mem.1 hb with e | e | e | e | e | e
          · exact .inl (fpC_mem.2 (.inl e))
          · exact .inl (fpC_mem.2 (.inr (.inl e)))
          · cases e
          · exact .inl (fpC_mem.2 (.inr (.inr (.inr (.inl e)))))
          · rcases hw2 b e with e | e
            · exact .inl (fpC_mem.2 (.inr (.inr (.inr (.inr (.inl e))))))
            · exact .inr e
          · exact .inl (fpC_mem.2 (.inr (.inr (.inr (.inr (.inr e)))))))
        obtain ⟨x, hx⟩ : ∃ x, headerP r bare = x := ⟨_, rfl⟩
        rw [hx] at HD HFZ
        obtain ⟨x1, x2⟩ := x
        clear hp0 hp hp1 HBAD HJ HJ2 hbe hx
        go_enter Tryz.func88, Tryz.ntmps88
        go_wp2_with (first
          | (go_at_call 100; refine CS2.out.mono ?_; rintro e w1 ⟨rfl, rfl⟩)
          | (go_at_call 103; refine HD.out.mono ?_; rintro e w2 ⟨rfl, h2⟩))
        refine bodyPost_ret (v := .tuple #[.bool false, .int .i64 x2]) (by simp [results, Tryz.results88, go_sem]) rfl ?_
        exact HFZ.out (x1, x2) _ h2 rfl
end Go.Proofs.YtaomhkgdbobpkaaGreatDoor
