/- Walks of wire (layer 5), nineteenth part: a text as an answer. -/
import Derived.Test.YtaomhkgdbobpkaaGreatDoorWiW18
namespace Go.Proofs.YtaomhkgdbobpkaaGreatDoor
open Go.RowKit Wi

/-- What ParseAnswer leaves: an answer whose list of headers is a row of its own. -/
def PaQ (s : List UInt8) (w : World) (e : Ending) (w' : World) : Prop := ∃ hv, e = .returned (.tuple #[.agg #[.int .i64 (parseA s).1.st, hv, S (parseA s).1.body], S (parseA s).2.1, .int .i64 (parseA s).2.2]) ∧ OwnF hv (parseA s).1.hs w' ∧ (∀ b, hv.ownBlock = some b → w.heap.size ≤ b) ∧ Kept (fun _ => True) w w'
def anat (rb : Nat) (w : World) : Prop := w.heap[rb]? = some (.cells #[.int .i64 0, .slice none 0 0, S []] 56 (0, 0))
theorem anat.facts {rb : Nat} {w : World} (h : anat rb w) : w.cell? ⟨rb, 0, none⟩ = some (.int .i64 0) ∧ w.cell? ⟨rb, 1, none⟩ = some (.slice none 0 0) ∧ w.cell? ⟨rb, 2, none⟩ = some (S []) ∧ ∀ o, w.frozen? ⟨rb, o, none⟩ = false := by
  unfold anat at h
  refine ⟨?_, ?_, ?_, fun o => frozen_row h o⟩ <;> rw [cell_of_row w rb _ _ _ (0, 0) h] <;> rfl
theorem anat.set {rb : Nat} {w : World} (h : anat rb w) (x y z : Value) : ∃ W, ((w.setCell ⟨rb, 0, none⟩ x).setCell ⟨rb, 1, none⟩ y).setCell ⟨rb, 2, none⟩ z = W ∧ W.cell? ⟨rb, 0, none⟩ = some x ∧ W.cell? ⟨rb, 1, none⟩ = some y ∧ W.cell? ⟨rb, 2, none⟩ = some z ∧ Kept (· ≠ rb) w W := by
  have h3 := setCell_heap (o := 2) (setCell_heap (o := 1) (setCell_heap (o := 0) h x) y) z
  refine ⟨_, rfl, ?_, ?_, ?_, (((Kept.refl _ w).setCell (.inr (by simp)) _).setCell (.inr (by simp)) _).setCell (.inr (by simp)) _⟩ <;> rw [cell_of_row _ rb _ _ _ (0, 0) h3] <;> rfl
set_option maxHeartbeats 8000000 in
set_option maxRecDepth 100000 in
theorem ParseAnswer_any (s : List UInt8) (w : World) (hE : WE w.heap.size w) (hl : s.length ≤ 1099511627776) :
    Calls Tryz.prog 33 #[S s] w (PaQ s w) := by
  have hsz : (⟨s.toArray⟩ : ByteArray).size = s.length := size_mk s
  obtain ⟨W0, hW0⟩ : ∃ W0, w.alloc (.cells #[.int .i64 0, .slice none 0 0, S []] 56) = W0 := ⟨_, rfl⟩
  have hk0 : Kept (fun _ => True) w W0 := by rw [← hW0]; exact (Kept.refl _ w).alloc _
  have hb0 : anat w.heap.size W0 := by rw [← hW0]; exact heap_alloc_new w _
  have hz0 : W0.heap.size = w.heap.size + 1 := by rw [← hW0]; simp
  have BG := Lib.hid (begin_any true W0)
  have HE := Lib.hid hE
  have HK0 := Lib.hid hk0
  have HB0 := Lib.hid hb0
  have HZ0 := Lib.hid hz0
  clear hE hk0 hb0 hz0
  go_enter Tryz.func33, Tryz.ntmps33
  go_wp2_with fail
  refine BG.out.mono ?_
  rintro e w1 ⟨g, fp, rfl, hr, hf, hk⟩
  have HR := Lib.hid hr
  have HF := Lib.hid hf
  have HK1 := Lib.hid hk
  clear hr hf hk hW0
  go_wp2_with fail
  go_loopg [14] s.length (fun q n wr => ∃ (i : Nat) (rr : R) (fpw : List Nat), n = .int .i64 i ∧ q = s.length - i ∧ i ≤ s.length ∧ Hid (ansP (begin' true) s = ansP rr (s.drop i)) ∧ Hid (RdAt g rr fpw wr ∧ RI rr ∧ rr.ans = true ∧ rr.cnt ≤ i ∧ ∀ b ∈ fpw, w.heap.size + 1 ≤ b) ∧ Hid (Kept (fun b => b < w.heap.size + 1) W0 wr))
  case atStart => exact ⟨0, begin' true, fp, rfl, rfl, Nat.zero_le _, Lib.hid (by simp), Lib.hid ⟨HR.out, RI.begin true, rfl, Nat.zero_le _, fun b hb => by have := HF.out b hb; have := HZ0.out; omega⟩, Lib.hid (HK1.out.mono fun _ _ _ => trivial)⟩
  case round =>
    clear HR HF HK1
    obtain ⟨i, rr, fpw, rfl, rfl, hil, HP, HR, HK⟩ := hrel
    have hba : anat w.heap.size wr := (HK.out.block _ (by have := HZ0.out; omega) (by omega)).trans HB0.out
    obtain ⟨a0, a1, a2, a9⟩ := hba.facts
    have HKW : Hid (Kept (fun _ => True) w wr) := Lib.hid (HK0.out.trans HK.out fun b hb _ => by omega)
    by_cases hlt : i < s.length
    · obtain ⟨hrd, hri, hra, hrc, hfw⟩ := HR.out
      obtain ⟨c, hcc⟩ : ∃ c, s[i]? = some c := ⟨s[i], List.getElem?_eq_getElem hlt⟩
      have hIx := run_at s i c hcc
      have hdrop : s.drop i = c :: s.drop (i + 1) := by
        rw [List.drop_eq_getElem_cons hlt]
        congr 1
        rw [List.getElem?_eq_getElem hlt] at hcc
        simpa using hcc
      have HX : Hid (ansP rr (s.drop i) = if (takesP rr c).2.2 ≠ 0 then .inr (takesP rr c).2.2 else if (takesP rr c).2.1 = true then .inl ((takesP rr c).1, s.drop (i + 1)) else ansP (takesP rr c).1 (s.drop (i + 1))) := Lib.hid (by rw [hdrop]; exact ansP_cons _ _ _)
      have HINV := Lib.hid (fun h => takesP_inv (c := c) hri h)
      have HCNT := Lib.hid (takesP_cnt rr c)
      have hl3 := hri.line
      have hl4 := hri.hs
      have hl5 : rr.body.length ≤ 4000 := by
        by_cases hp : rr.ph < 2
        · rw [hri.nobody hp]; simp
        · have := hri.ph; have h6 := hri.inbody (by omega); have := hri.len; omega
      have HEr := Lib.hid (HE.out.kept HKW.out fun _ _ => trivial)
      have TK := Lib.hid (takes_any g fpw rr c wr w.heap.size HEr.out hrd (by omega) (by omega) (by omega) (by omega) (by have := hfw g hrd.mem; omega))
      obtain ⟨x, hx⟩ : ∃ x, takesP rr c = x := ⟨_, rfl⟩
      rw [hx] at TK HX HINV HCNT
      obtain ⟨r2, q, E⟩ := x
      simp only at HX HINV HCNT
      have HRI := Lib.hid (And.intro hra (And.intro hrc hfw))
      have HBA := Lib.hid hba
      clear hx hcc hdrop hrd hri hra hrc hfw hl3 hl4 hl5 hba a0 a1 a2 a9 HR
      go_wp2_with fail
      refine TK.out.mono ?_
      rintro e w2 ⟨rfl, hs2, hk2⟩
      have HS2 := Lib.hid hs2
      have hk2b : Kept (fun b => b < w.heap.size + 1) wr w2 := hk2.mono fun b _ hb hm => by have := HRI.out.2.2 b hm; omega
      have HK2 := Lib.hid (HK.out.tr hk2b)
      have HKW2 : Hid (Kept (fun _ => True) w w2) := Lib.hid (HK0.out.trans HK2.out fun b hb _ => by omega)
      have hwl : w.heap.size < wr.heap.size := (Array.getElem?_eq_some_iff.1 HBA.out).1
      have hba2 : anat w.heap.size w2 := (hk2b.block _ hwl (by omega)).trans HBA.out
      have HWZ : Hid (w.heap.size + 1 ≤ wr.heap.size) := Lib.hid (by omega)
      clear hs2 hk2 hk2b hwl TK
      obtain ⟨a0, a1, a2, a9⟩ := hba2.facts
      have f0 := a9 0
      have f1 := a9 1
      have f2 := a9 2
      by_cases hEz : E = 0
      case neg =>
        have q1 : (E != 0) = true := bne_iff_ne.2 hEz
        have HPE : Hid (parseA s = (⟨0, [], []⟩, [], E)) := Lib.hid (by unfold parseA; rw [HP.out, HX.out, if_pos hEz]; rfl)
        obtain ⟨W3, hW3, d0, d1, d2, hk3⟩ := hba2.set (.int .i64 0) (.slice none 0 0) (S [])
        have HZ : Hid (PaQ s w (.returned (.tuple #[.agg #[.int .i64 0, .slice none 0 0, S []], S [], .int .i64 E])) W3) := Lib.hid ⟨.slice none 0 0, by rw [HPE.out], by rw [HPE.out]; exact World.ownsRow_nil _ _ _ _, fun b hb => (by cases hb), HKW2.out.trans hk3 fun b hb _ => by omega⟩
        clear hEz HX HINV hba2 a9 hk3
        go_wp2
        refine bodyPost_ret (v := .tuple #[.agg #[.int .i64 0, .slice none 0 0, S []], S [], .int .i64 E]) (by simp [results, Tryz.results33, go_sem, d0, d1, d2]) rfl ?_
        exact HZ.out
      subst hEz
      have q1 : ((0 : Int) != 0) = false := rfl
      obtain ⟨hiF, hiT, hans⟩ := HINV.out rfl
      obtain ⟨fp', hr2, hf2⟩ := HS2.out rfl
      cases q with
      | false =>
        have HPN : Hid (ansP (begin' true) s = ansP r2 (s.drop (i + 1))) := Lib.hid (by rw [HP.out, HX.out, if_neg (by simp), if_neg (by simp)])
        have HR2 : Hid (RdAt g r2 fp' w2 ∧ RI r2 ∧ r2.ans = true ∧ r2.cnt ≤ i + 1 ∧ ∀ b ∈ fp', w.heap.size + 1 ≤ b) := Lib.hid ⟨hr2, hiF rfl, hans.trans HRI.out.1, by have := HCNT.out; have := HRI.out.2.1; omega, fun b hb => by
          rcases hf2 b hb with e | e
          · exact HRI.out.2.2 b e
          · have := HWZ.out; omega⟩
        clear hiF hiT hans hr2 hf2 HX HINV HS2 hba2 a9
        go_wp2
        go_roundg (s.length - (i + 1))
        case rel => exact ⟨i + 1, r2, fp', by go_num, rfl, by omega, HPN, HR2, HK2⟩
        case measure => omega
      | true =>
        have hrw := hiT rfl
        obtain ⟨d, hfst, hdg⟩ := hrw.code (hans.trans HRI.out.1)
        obtain ⟨bx, lv, fv, hv, bv, hc2, rfl⟩ := hr2
        have hfv := hc2.first
        rw [hfst] at hfv
        obtain ⟨fb, fcap, fcs, ffz, rfl, hfb, hfc, hfe⟩ : ∃ b cap cs fz, fv = .slice (some ⟨b, 0, none⟩) [d].length cap ∧ w2.heap[b]? = some (.cells cs 9 fz) ∧ [d].length ≤ cap ∧ ∀ (j : Nat) l, [d][j]? = some l → cs[j]? = some (S l) := by
          rcases hfv with ⟨_, h⟩ | h
          · cases h
          · exact h
        have e0 : w2.cell? ⟨fb, 0, none⟩ = some (S d) := by rw [cell_of_row w2 fb _ _ _ _ hfb]; exact hfe 0 d rfl
        obtain ⟨-, -, -, -, -, g5, g6, -, g8, -, -⟩ := hc2.facts
        have hdl : d.all digitP = true ∧ d.length = 3 := by
          unfold onlyP at hdg
          simp only [Bool.and_eq_true, decide_eq_true_eq] at hdg
          exact ⟨hdg.1.1, by omega⟩
        obtain ⟨hat, -⟩ := atoi_digits hdl.1 (fun e => by have := hdl.2; rw [e] at this; cases this)
        have AT := Lib.hid (fun W => Tryz.strconv_Atoi ⟨d.toArray⟩ (decP d) (by rw [size_mk, hdl.2]; omega) hat W)
        have HPE : Hid (parseA s = (⟨(decP d : Nat), r2.hs, r2.body⟩, s.drop (i + 1), 0)) := Lib.hid (by unfold parseA; rw [HP.out, HX.out, if_neg (by simp), if_pos rfl]; unfold ofAns; simp only; rw [hfst]; rfl)
        obtain ⟨n, hn⟩ : ∃ n, decP d = n := ⟨_, rfl⟩
        rw [hn] at AT HPE
        obtain ⟨ha1, hac, hhv⟩ := row_slice hc2.hs
        subst hhv
        obtain ⟨ba1, bac, hbv⟩ := row_slice hc2.body
        subst hbv
        have HC2 := Lib.hid hc2
        have HB2 := Lib.hid hba2
        have HOB : Hid (∀ b, (Value.slice ha1 r2.hs.length hac).ownBlock = some b → w.heap.size + 1 ≤ b) := Lib.hid fun b hb => by
          rcases hf2 b (fpC_mem.2 (.inr (.inr (.inr (.inr (.inl hb)))))) with e | e
          · exact HRI.out.2.2 b e
          · have := HWZ.out; omega
        have HFQ : Hid (∀ b ∈ fpC g bx lv (.slice (some ⟨fb, 0, none⟩) [d].length fcap) (.slice ha1 r2.hs.length hac) (.slice ba1 r2.body.length bac), b ≠ w.heap.size) := Lib.hid fun b hb => by
          rcases hf2 b hb with e | e
          · have := HRI.out.2.2 b e; omega
          · have := HWZ.out; omega
        have hi1 : (0 : Int) ≤ (i : Int) + 1 := by omega
        have hi2 : (i : Int) + 1 ≤ (s.length : Int) := by omega
        have hwr : IntKind.i64.wrap ((i : Int) + 1) = (i : Int) + 1 := by rw [IntKind.wrap_i64]; omega
        have SLI : ∀ W, (Instr.sliceAt 9 (S s) (some (.int .i64 ((i : Int) + 1))) none none).run Tryz.prog W = .ok (S (s.drop (i + 1))) W := fun W => by
          have e : ((i : Int) + 1).toNat = i + 1 := by omega
          rw [run_sliceAt_string (h := Tryz.underlying9), run_slice_string_l W 9 ⟨s.toArray⟩ Tryz.underlying9 .i64 ((i : Int) + 1) hi1 (by rw [hsz]; exact hi2), e, extract_ba, List.take_of_length_le (by rw [hsz, List.length_drop]; omega)]
        have EX : (⟨s.toArray⟩ : ByteArray).extract (i + 1) s.length = ⟨(s.drop (i + 1)).toArray⟩ := by rw [extract_ba, List.take_of_length_le (by rw [List.length_drop]; omega)]
        clear hiF hiT hans hfv hfb hfc hfe HX HINV HS2 hba2 a9 hrw hdg hdl hat hn hc2 hf2 f0 f1 f2 a0 a1 a2
        go_wp2_with fail
        refine (AT.out _).mono ?_
        rintro e w3 ⟨rfl, t3, hw3⟩
        have hk3 : Kept (fun _ => True) w2 w3 := by rw [hw3]; exact Kept.bytesW _ _ _
        have HK3 := Lib.hid hk3
        have HC3 := Lib.hid (HC2.out.kept hk3 fun _ _ => trivial)
        have hba3 : anat w.heap.size w3 := (hk3.block _ (Array.getElem?_eq_some_iff.1 HB2.out).1 trivial).trans HB2.out
        clear hw3 g5 g6 g8 e0 hk3
        obtain ⟨a0, a1, a2, a9⟩ := hba3.facts
        obtain ⟨-, -, -, -, -, -, g6, -, g8, -, -⟩ := HC3.out.facts
        have hcv := OwnB.string (src := 81) (dst := 9) Tryz.underlying81 Tryz.underlying5 Tryz.underlying9 HC3.out.body
        have HB3 := Lib.hid hba3
        have hk3d : Kept (fun _ => True) w3 w3.drew := (Kept.refl _ w3).drew
        have HC3D := Lib.hid (HC3.out.kept hk3d fun _ _ => trivial)
        have HSW : Hid (∀ W : World, RdC g bx lv (.slice (some ⟨fb, 0, none⟩) [d].length fcap) (.slice ha1 r2.hs.length hac) (.slice ba1 r2.body.length bac) r2 W → W.cell? ⟨g, 6, none⟩ = some (.slice ha1 r2.hs.length hac) ∧ W.cell? ⟨g, 8, none⟩ = some (.slice ba1 r2.body.length bac) ∧ (convert 81 9 (.slice ba1 r2.body.length bac)).run Tryz.prog W = .ok (.string ⟨r2.body.toArray⟩) W) := Lib.hid fun W hc => by
          obtain ⟨-, -, -, -, -, -, x6, -, x8, -, -⟩ := hc.facts
          exact ⟨x6, x8, OwnB.string (src := 81) (dst := 9) Tryz.underlying81 Tryz.underlying5 Tryz.underlying9 hc.body⟩
        have hss := HSW.out w3.drew HC3D.out
        obtain ⟨W4, hW4, d0, d1, d2, hk4⟩ := HB3.out.set (.int .i64 n) (.slice ha1 r2.hs.length hac) (S r2.body)
        have hk4d : Kept (fun _ => True) W4 W4.drew := (Kept.refl _ W4).drew
        have HC4 := Lib.hid ((HC3.out.kept hk4 HFQ.out).kept hk4d fun _ _ => trivial)
        have hss4 := HSW.out W4.drew HC4.out
        have HZ : Hid (PaQ s w (.returned (.tuple #[.agg #[.int .i64 n, .slice ha1 r2.hs.length hac, S r2.body], S (s.drop (i + 1)), .int .i64 0])) W4.drew) := Lib.hid ⟨.slice ha1 r2.hs.length hac, by rw [HPE.out], by rw [HPE.out]; exact HC4.out.hs, fun b hb => by have := HOB.out b hb; omega, ((HKW2.out.tr HK3.out).trans hk4 fun b hb _ => by omega).tr hk4d⟩
        have f0 := a9 0
        have f1 := a9 1
        have f2 := a9 2
        clear hk4 hk4d hk3d a9 hba3
        go_wp2_with fail
        go_region_held3 (fun wz => wz.cell? ⟨g, 6, none⟩ = some (.slice ha1 r2.hs.length hac) ∧ wz.cell? ⟨g, 8, none⟩ = some (.slice ba1 r2.body.length bac) ∧ (convert 81 9 (.slice ba1 r2.body.length bac)).run Tryz.prog wz = .ok (.string ⟨r2.body.toArray⟩) wz) (first | exact hss | (rw [hW4]; exact hss4) | exact hss4 | go_keep)
          (first
            | (go_at_call 64; fail))
        go_wp2
        refine bodyPost_ret (v := .tuple #[.agg #[.int .i64 n, .slice ha1 r2.hs.length hac, S r2.body], S (s.drop (i + 1)), .int .i64 0]) (by simp [results, Tryz.results33, go_sem, d0, d1, d2]) rfl ?_
        exact HZ.out
    · obtain rfl : i = s.length := by omega
      have HPE : Hid (parseA s = (⟨0, [], []⟩, [], 56)) := Lib.hid (by unfold parseA; rw [HP.out, List.drop_length]; rfl)
      have f0 := a9 0
      have f1 := a9 1
      have f2 := a9 2
      obtain ⟨W3, hW3, d0, d1, d2, hk3⟩ := hba.set (.int .i64 0) (.slice none 0 0) (S [])
      have HZ : Hid (PaQ s w (.returned (.tuple #[.agg #[.int .i64 0, .slice none 0 0, S []], S [], .int .i64 56])) W3) := Lib.hid ⟨.slice none 0 0, by rw [HPE.out], by rw [HPE.out]; exact World.ownsRow_nil _ _ _ _, fun b hb => (by cases hb), HKW.out.trans hk3 fun b hb _ => by omega⟩
      clear hba a9 hk3
      go_wp2
      refine bodyPost_ret (v := .tuple #[.agg #[.int .i64 0, .slice none 0 0, S []], S [], .int .i64 56]) (by simp [results, Tryz.results33, go_sem, d0, d1, d2]) rfl ?_
      exact HZ.out
end Go.Proofs.YtaomhkgdbobpkaaGreatDoor
