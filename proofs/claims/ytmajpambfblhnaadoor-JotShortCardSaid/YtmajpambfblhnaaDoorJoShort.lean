/- JotShort holds of the given program: for every text, where the library's tables are as its text lays them, the law's call returns true and its argument reads as before: what jot's Parse takes is printed in at most as many bytes, which are taken as the same value. Conditions: none but what the given row itself lists. -/
import Derived.Test.YtmajpambfblhnaaDoorJoRowKit
namespace Go.Proofs.YtmajpambfblhnaaDoor.jotShort
open Go.ChangeShapes Go.WideShapes Go.ChangeAt Go.RowKit Go.WideMaps Go.WideElems Jo
open Go.ChangeMaps (open_string shut_string)

set_option maxHeartbeats 8000000 in
set_option maxRecDepth 100000 in
theorem law (s : List UInt8) (w : World) (hE : JE w.heap.size w) (hs : s.length ≤ maxLen) :
    Calls Tryd.prog 4 #[S s] w fun e w' => e = .returned (.bool true) ∧ Kept (fun _ => True) w w' := by
  have hsz : (⟨s.toArray⟩ : ByteArray).size = s.length := size_mk s
  obtain ⟨X, E, A, hP⟩ : ∃ X E A, parseP s = (X, E, A) := ⟨_, _, _, rfl⟩
  have HE := Lib.hid hE
  have HP := Lib.hid hP
  have K := Lib.hid (known_any w hE)
  have P1 := Lib.hid (fun w => Parse_any s w hs)
  rw [hP] at P1
  have HSL := Lib.hid hs
  unfold maxLen at hs
  clear hE hP
  go_enter Tryd.func4, Tryd.ntmps4
  go_wp2_with fail
  refine K.out.mono ?_
  rintro e w1 ⟨rfl, hk1⟩
  go_wp2_with fail
  refine (P1.out w1).mono ?_
  rintro e w2 ⟨⟨v, fp, rfl, hown, hnd, hfp⟩, hk2⟩
  obtain ⟨na, nl, nc, ia, il, ic, rfl⟩ := hown.form2
  have hk02 := hk1.tr hk2
  by_cases hE0 : E = 0
  · subst hE0
    obtain ⟨m1, m2, m3, m4, rfl⟩ := parse_short HP.out
    have hfine := fine_of (may_of X m1) (by omega)
    have hin : JIn (fun _ => True) w2 X _ := hown.toIn hfine.1 _ (fun _ _ => trivial)
    obtain ⟨W2, hW2⟩ : ∃ W2, w2.alloc (.cells #[.int .i64 X.kind, .int .i64 X.num, S X.text, .slice na nl nc, .slice ia il ic] 25) = W2 := ⟨_, rfl⟩
    have hkW2 : Kept (fun _ => True) w2 W2 := by rw [← hW2]; exact (Kept.refl _ _).alloc _
    have hk0W := hk02.tr hkW2
    have hbox : OutAt w2.heap.size X.kind X.num X.text (.slice na nl nc) (.slice ia il ic) W2 := by rw [← hW2]; exact OutAt.new w2 _ _ _ _ _
    have hpr : printP X = (layP X, 0) := by
      unfold printP
      rw [if_neg (by simp [m1]), if_neg (by omega), if_neg (by omega)]
    have PR := Lib.hid (Print_any X _ W2 (hin.kept hkW2 fun _ _ _ => trivial) ((HE.out.kept hk0W fun _ _ => trivial).le hk0W.size) hfine.2 (by omega) (fun _ => by omega))
    rw [hpr] at PR
    have PL := parse_lay m1 m2 (by omega)
    obtain ⟨L, hL⟩ : ∃ L, layP X = L := ⟨_, rfl⟩
    rw [hL] at PR PL m3
    have HLL : Hid (L.length ≤ maxLen) := Lib.hid (by unfold maxLen; omega)
    have P2 := Lib.hid (fun w => Parse_any L w HLL.out)
    rw [PL] at P2
    have HF := Lib.hid hfine
    have HIN := Lib.hid hin
    have HBOX := Lib.hid hbox
    have HW2 := Lib.hid hW2
    have hLsz : (⟨L.toArray⟩ : ByteArray).size = L.length := size_mk L
    clear m1 m2 m4 hfine hin hW2 hbox hpr PL hL hown hnd hfp P1 K
    go_wp2_with fail
    rw [HW2.out]
    refine PR.out.mono ?_
    rintro e w3 ⟨rfl, hk3⟩
    go_wp2_with fail
    refine (P2.out w3).mono ?_
    rintro e w4 ⟨⟨v4, fp4, rfl, hown4, -, -⟩, hk4⟩
    obtain ⟨na4, nl4, nc4, ia4, il4, ic4, rfl⟩ := hown4.form2
    have hk24 : Kept (fun _ => True) W2 w4 := hk3.tr hk4
    obtain ⟨W4, hW4⟩ : ∃ W4, w4.alloc (.cells #[.int .i64 X.kind, .int .i64 X.num, S X.text, .slice na4 nl4 nc4, .slice ia4 il4 ic4] 25) = W4 := ⟨_, rfl⟩
    have hkW4 : Kept (fun _ => True) w4 W4 := by rw [← hW4]; exact (Kept.refl _ _).alloc _
    have hbox4 : OutAt w4.heap.size X.kind X.num X.text (.slice na4 nl4 nc4) (.slice ia4 il4 ic4) W4 := by rw [← hW4]; exact OutAt.new w4 _ _ _ _ _
    have hbox24 := HBOX.out.kept (hk24.tr hkW4) trivial
    have S1 := Lib.hid (same_any X X _ _ (fun _ => True) W4 ((hown4.toIn HF.out.1 _ (fun _ _ => trivial)).kept hkW4 fun _ _ _ => trivial) (HIN.out.kept ((hkW2.tr hk24).tr hkW4) fun _ _ _ => trivial))
    obtain ⟨o0, o1, o2, o3, o4, o5, o6⟩ := hbox24.facts
    obtain ⟨p0, p1, p2, p3, p4, p5, p6⟩ := hbox4.facts
    clear hown4 hbox4 hbox24
    go_wp2_with fail
    refine S1.out.mono ?_
    rintro e w5 ⟨⟨q, rfl, hq⟩, hk5⟩
    obtain rfl : q = true := by simpa using hq
    clear hq
    go_wp2
    go_ret
    exact ⟨rfl, ((hk0W.tr hk24).tr hkW4).tr hk5⟩
  · have h1 : ((E : Int) != 0) = true := by simpa using hE0
    clear hown hnd hfp P1 K HP
    go_wp2
    go_ret
    exact ⟨rfl, (hk02.tr ((Kept.refl _ _).alloc _))⟩

set_option maxRecDepth 100000 in
theorem contract (H : Type) (enc : TypeId × Value → H) (W : World) (base : Nat) (args : Array Value) (ds gs : List (DataW H)) (before : List MemPlace)
    (hval : ∀ (j : Nat) t v, Tryd.f4.params[j]? = some t → args[j]? = some v → Value.okWide Tryd.prog W .any base t v)
    (hW : DataW.Whole enc Tryd.prog Tryd.f4.params.toList Rows.jotShortSpec.vars false W args.toList ds gs before) (hL : laidMetH Tryd.prog Rows.jotShortRow.laid W) :
    Calls Tryd.prog 4 args W fun e W' => ∃ v, e = .returned v ∧ Rows.jotShortSpec.post enc Tryd.prog Tryd.f4 false true false false W args v W' := by
  have hE : JE W.heap.size W := env_of hL
  have hW' := hW
  obtain ⟨p, q, hA0, hV, rfl, hfz, hnd⟩ := hW
  have hA : DataW.TrodAll enc Tryd.prog W 0 (fun _ => true) true Tryd.f4.params.toList args.toList ds p := hA0
  rw [Tryd.params4] at hA hval
  obtain ⟨v0, d0, hargs, rfl, h0⟩ := trodAll_one hA
  obtain rfl : args = #[v0] := by cases args; simp_all
  obtain ⟨rfl, rfl⟩ := trodVars_none hV
  obtain ⟨s, rfl, rfl, rfl, hs⟩ := open_string Tryd.underlying9 (hval 0 9 v0 rfl rfl) h0
  clear hA0
  simp only [List.append_nil] at hW'
  obtain ⟨⟨ls⟩⟩ := s
  refine (law ls W hE (by simpa [size_mk] using hs)).mono fun e W' ⟨he, hk⟩ => ?_
  subst he
  exact ⟨_, rfl, post_of_below (pa := []) (pv := []) hW' (fun _ _ _ => trodAll_mk1 (shut_bool Tryd.underlying4 _)) (fun _ _ => trodAll_mk1 (shut_string Tryd.underlying9 hs)) (fun _ _ => rfl) rfl
    hk.toBelow (ok_one (by kernel_rfl) rfl (okWide_bool_mk Tryd.underlying4 _))⟩

theorem reads (os : Os) {H : Type} (enc : TypeId × Value → H) : ∃ places, DataW.whole enc Tryd.prog ((laidWorld os).forCall (fun _ _ => 0) ⟨#[], #[S []], []⟩).memory Tryd.f4.params.toList Rows.jotShortSpec.vars false #[S []].toList 8 = some ([.lit (.string [])], [], places) :=
  ⟨[], by kernel_rfl⟩
set_option maxRecDepth 100000 in
theorem lifted (os : Os) (started : os.Started) (H : Type) (enc : TypeId × Value → H) (F : Stop.Interp) :
    ReturnsInHanded {} Tryd.checked os 4 .any ((OpenSpec.ofChange Rows.jotShortSpec).preRow enc Tryd.prog Tryd.f4 Rows.jotShortRow.domain false Rows.jotShortRow.laid) (((OpenSpec.ofChange Rows.jotShortSpec).at F).post enc Tryd.prog Tryd.f4 false true false false) := by
  obtain ⟨places, hx⟩ := reads os enc
  refine returnsInHanded_of_row (C := Tryd.checked) (s := OpenSpec.ofChange Rows.jotShortSpec) own started (by kernel_rfl) Tryd.func4
    (witness_row (enc := enc) (C := Tryd.checked) (laidWorld os) #[S []] (World.laidAll_os _ _ _) (World.shaped_of_ZipB (by kernel_rfl) (by kernel_rfl)) (by kernel_rfl)
      (OpenSpec.preRow_of_cond 8 hx (by kernel_rfl) (fun k hk => by cases hk) (by kernel_rfl) (laid_met os _))) ?_
  intro W base args ds gs before hval hW _ _ _ hL _ _
  exact contract H enc W base args ds gs before hval hW hL

theorem said : Rows.JotShortSaid :=
  OpenClaim.holds_of_cond 4 Tryd.f4 rfl rfl rfl rfl rfl rfl rfl ⟨rfl, rfl, rfl, rfl, rfl⟩ rfl rfl rfl rfl rfl (by kernel_rfl) Tryd.func4 (by kernel_rfl)
    (of_decide_eq_true (by kernel_rfl)) (by unfold Func.isWrapper; first | (rw [if_pos (by decide +kernel)]; kernel_rfl) | (rw [if_neg (by decide +kernel)]; exact ⟨rfl, rfl⟩))
    (fun os started H enc _ F => by rw [OpenClaim.pre_eq_preRow]; exact lifted os started H enc F)

theorem plain (f : FuncId) (fn : Func) (hf : Tryd.pinned.checked.prog.funcNamed "latchkey/latchkeylaw04.JotShort" = some f) (hfn : Tryd.pinned.checked.prog.funcs[f]? = some fn) :
    true = Tryd.pinned.checked.prog.looks [] ∧ ∀ (j : Nat) t, fn.params[j]? = some t → Tryd.pinned.checked.prog.wantsStandIn t = false := by
  obtain rfl : f = 4 := Option.some.inj ((show Tryd.prog.funcNamed "latchkey/latchkeylaw04.JotShort" = some 4 by kernel_rfl).symm.trans hf) |>.symm
  obtain rfl : fn = Tryd.f4 := (Option.some.inj (Tryd.func4.symm.trans hfn)).symm
  refine ⟨by kernel_rfl, fun j t ht => ?_⟩
  rw [Tryd.params4] at ht
  have hm : t ∈ [9] := by have := Array.mem_of_getElem? ht; simpa using this
  have hall : ([9].all fun u => !Tryd.prog.wantsStandIn u) = true := by kernel_rfl
  exact (show Tryd.prog.wantsStandIn t = false by simpa using List.all_eq_true.1 hall t hm)

theorem card : Rows.JotShortCardSaid :=
  Claim7.holds_tied_plain_at .later [] _ _ _ _ said (fun _ h => by cases h) (by kernel_rfl) (fun _ h => by cases h) jotShort_row_tie rfl ⟨rfl, rfl⟩ (by kernel_rfl) rfl plain (by kernel_rfl)
end Go.Proofs.YtmajpambfblhnaaDoor.jotShort
