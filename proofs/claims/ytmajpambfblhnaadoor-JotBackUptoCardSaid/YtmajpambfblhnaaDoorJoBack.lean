/- JotBack holds of the given program where what it reads is of bulk at most 1048576: for every value, where the library's tables are as its text lays them, the law's call returns true and its argument reads as before: what jot's Print prints is taken by Parse as the same value, and printed alike. Conditions: none but what the given row itself lists. -/
import Derived.Test.YtmajpambfblhnaaDoorJoRowKit2
import Derived.Test.YtmajpambfblhnaaDoorJoL1
namespace Go.Proofs.YtmajpambfblhnaaDoor.jotBack
open Go.ChangeShapes Go.WideShapes Go.ChangeAt Go.RowKit Go.WideMaps Go.WideElems Jo
open Go.ChangeMaps (open_string shut_string)

set_option maxHeartbeats 8000000 in
set_option maxRecDepth 100000 in
theorem law (X : J) (v : Value) (w : World) (hE : JE w.heap.size w) (hx : JIn (fun _ => True) w X v) (hb : bulkJ X ≤ 1048576) :
    Calls Tryd.prog 3 #[v] w fun e w' => e = .returned (.bool true) ∧ Kept (fun _ => True) w w' := by
  have hfine := hx.fine
  obtain ⟨na, nc, ia, ic, us, rfl, -⟩ := hx.inv
  obtain ⟨W0, hW0⟩ : ∃ W0, w.alloc (.cells #[.int .i64 X.kind, .int .i64 X.num, S X.text, .slice na X.names.length nc, .slice ia X.items.length ic] 25) = W0 := ⟨_, rfl⟩
  have hk0 : Kept (fun _ => True) w W0 := by rw [← hW0]; exact (Kept.refl _ w).alloc _
  have hbox : OutAt w.heap.size X.kind X.num X.text (.slice na X.names.length nc) (.slice ia X.items.length ic) W0 := by rw [← hW0]; exact OutAt.new w _ _ _ _ _
  have HE := Lib.hid ((hE.kept hk0 fun _ _ => trivial).le hk0.size)
  have HX := Lib.hid (hx.kept hk0 fun _ _ _ => trivial)
  have HBOX := Lib.hid hbox
  have HB := Lib.hid hb
  have HF := Lib.hid hfine
  have HW0 := Lib.hid hW0
  have K := Lib.hid (known_any W0 HE.out)
  obtain ⟨xk, hxk⟩ : ∃ y, X.kind = y := ⟨_, rfl⟩
  obtain ⟨xn, hxn⟩ : ∃ y, X.num = y := ⟨_, rfl⟩
  obtain ⟨xt, hxt⟩ : ∃ y, X.text = y := ⟨_, rfl⟩
  obtain ⟨nl, hnl⟩ : ∃ y, X.names.length = y := ⟨_, rfl⟩
  obtain ⟨il, hil⟩ : ∃ y, X.items.length = y := ⟨_, rfl⟩
  rw [hxk, hxn, hxt, hnl, hil] at HX HBOX HW0 ⊢
  have HXF := Lib.hid (And.intro hxk (And.intro hxn hxt))
  clear hE hx hb hfine hW0 hbox hxk hxn hxt hnl hil
  go_enter Tryd.func3, Tryd.ntmps3
  go_wp2_with fail
  rw [HW0.out]
  refine K.out.mono ?_
  rintro e w1 ⟨rfl, hk1⟩
  have hk01 := hk0.tr hk1
  have HX1 := Lib.hid (HX.out.kept hk1 fun _ _ _ => trivial)
  have HBOX1 := Lib.hid (HBOX.out.kept hk1 trivial)
  obtain ⟨o0, o1, o2, o3, o4, o5, o6⟩ := HBOX1.out.facts
  have LF := Lib.hid (left_any X _ w1 10000 HX1.out (by omega) (by omega))
  obtain ⟨z, hz⟩ : ∃ z, leftP X 10000 = z := ⟨_, rfl⟩
  rw [hz] at LF
  have HZ := Lib.hid hz
  clear hz
  by_cases hz0 : z < 0
  · go_wp2_with (refine LF.out.mono ?_; rintro e w2 ⟨rfl, hk2⟩)
    go_ret
    exact ⟨rfl, hk01.tr hk2⟩
  · have HS := Lib.hid (left_small X 10000 (by omega) (by rw [HZ.out]; omega))
    have HZ0 := Lib.hid hz0
    obtain ⟨l, E, hP⟩ : ∃ l E, printP X = (l, E) := ⟨_, _, rfl⟩
    have HPP := Lib.hid hP
    go_wp2_with fail
    refine LF.out.mono ?_
    rintro e w2 ⟨rfl, hk2⟩
    have hk02 := hk01.tr hk2
    have HX2 := Lib.hid (HX1.out.kept hk2 fun _ _ _ => trivial)
    have HBOX2 := Lib.hid (HBOX1.out.kept hk2 trivial)
    have PR := Lib.hid (Print_any X _ w2 HX2.out ((HE.out.kept (hk1.tr hk2) fun _ _ => trivial).le (by have := (hk1.tr hk2).size; omega)) (HS.out.2.2.mono (by omega)) (by have := HS.out.2.1; have := HZ.out; omega) (fun h => by have := layP_le (may_of X h); have := HB.out; omega))
    rw [hP] at PR
    clear hP o0 o1 o2 o3 o4 o5 o6
    obtain ⟨o0, o1, o2, o3, o4, o5, o6⟩ := HBOX2.out.facts
    go_wp2_with fail
    refine PR.out.mono ?_
    rintro e w3 ⟨rfl, hk3⟩
    have hk03 := hk02.tr hk3
    clear o0 o1 o2 o3 o4 o5 o6
    by_cases hE0 : E = 0
    · subst hE0
      have hall : mayP X = true ∧ depthP X ≤ 16 ∧ (layP X).length ≤ 4000 ∧ l = layP X := by
        have h := HPP.out
        unfold printP at h
        split at h
        · simp at h
        · rename_i m1
          split at h
          · simp at h
          · rename_i m2
            split at h
            · simp at h
            · rename_i m3
              simp only [Prod.mk.injEq, and_true] at h
              exact ⟨by simpa using m1, by omega, by omega, h.symm⟩
      obtain ⟨m1, m2, m3, m4⟩ := hall
      have PL := parse_lay m1 m2 m3
      rw [← m4] at PL m3
      have HLL : Hid (l.length ≤ maxLen) := Lib.hid (by unfold maxLen; omega)
      have P2 := Lib.hid (fun w => Parse_any l w HLL.out)
      rw [PL] at P2
      have HF2 := Lib.hid (fine_of (may_of X m1) (by rw [← m4]; omega))
      have PP := Lib.hid HPP.out
      have hlsz : (⟨l.toArray⟩ : ByteArray).size = l.length := size_mk l
      clear m1 m2 m3 m4 PL
      go_wp2_with fail
      refine (P2.out w3).mono ?_
      rintro e w4 ⟨⟨v4, fp4, rfl, hown4, -, -⟩, hk4⟩
      obtain ⟨na4, nl4, nc4, ia4, il4, ic4, hv4⟩ := hown4.form2
      rw [HXF.out.1, HXF.out.2.1, HXF.out.2.2] at hv4
      subst hv4
      have hin4 : JIn (fun _ => True) w4 X _ := hown4.toIn HF2.out.1 _ (fun _ _ => trivial)
      obtain ⟨W4, hW4⟩ : ∃ W4, w4.alloc (.cells #[.int .i64 xk, .int .i64 xn, S xt, .slice na4 nl4 nc4, .slice ia4 il4 ic4] 25) = W4 := ⟨_, rfl⟩
      have hkW4 : Kept (fun _ => True) w4 W4 := by rw [← hW4]; exact (Kept.refl _ _).alloc _
      have hbox4 : OutAt w4.heap.size xk xn xt (.slice na4 nl4 nc4) (.slice ia4 il4 ic4) W4 := by rw [← hW4]; exact OutAt.new w4 _ _ _ _ _
      have hk0W := (hk03.tr hk4).tr hkW4
      have HX4 := Lib.hid (hin4.kept hkW4 fun _ _ _ => trivial)
      have hk24 := (hk3.tr hk4).tr hkW4
      have PR2 := Lib.hid (Print_any X _ W4 HX4.out ((HE.out.kept ((hk1.tr hk2).tr hk24) fun _ _ => trivial).le (((hk1.tr hk2).tr hk24).size)) HF2.out.2 (by have := HS.out.2.1; have := HZ.out; omega) (fun h => by have := layP_le (may_of X h); have := HB.out; omega))
      rw [PP.out] at PR2
      have HBOX4 := Lib.hid hbox4
      have HW4 := Lib.hid hW4
      clear hown4 hin4 hbox4 hW4
      go_wp2_with fail
      rw [HW4.out]
      refine PR2.out.mono ?_
      rintro e w5 ⟨rfl, hk5⟩
      have S1 := Lib.hid (same_any X X _ _ (fun _ => True) w5 (HX4.out.kept hk5 fun _ _ _ => trivial) (HX2.out.kept (hk24.tr hk5) fun _ _ _ => trivial))
      obtain ⟨o0, o1, o2, o3, o4, o5, o6⟩ := (HBOX2.out.kept (hk24.tr hk5) trivial).facts
      obtain ⟨p0, p1, p2, p3, p4, p5, p6⟩ := (HBOX4.out.kept hk5 trivial).facts
      go_wp2_with fail
      refine S1.out.mono ?_
      rintro e w6 ⟨⟨q, rfl, hq⟩, hk6⟩
      obtain rfl : q = true := by simpa using hq
      clear hq
      go_wp2
      go_ret
      exact ⟨rfl, (hk0W.tr hk5).tr hk6⟩
    · have h1 : ((E : Int) != 0) = true := by simpa using hE0
      have hl : l = [] := by
        have h := HPP.out
        unfold printP at h
        split at h
        · exact (congrArg Prod.fst h).symm
        · split at h
          · exact (congrArg Prod.fst h).symm
          · split at h
            · exact (congrArg Prod.fst h).symm
            · have := congrArg Prod.snd h
              exact absurd this.symm hE0
      subst hl
      go_wp2
      go_ret
      exact ⟨rfl, hk03⟩

set_option maxRecDepth 100000 in
theorem contract (H : Type) (enc : TypeId × Value → H) (W : World) (base : Nat) (args : Array Value) (ds gs : List (DataW H)) (before : List MemPlace)
    (hW : DataW.Whole enc Tryd.prog Tryd.f3.params.toList Rows.jotBackSpec.vars false W args.toList ds gs before) (hL : laidMetH Tryd.prog Rows.jotBackUptoRow.laid W) (hk : Rows.uptoSmall H (ds ++ gs) = true) :
    Calls Tryd.prog 3 args W fun e W' => ∃ v, e = .returned v ∧ Rows.jotBackSpec.post enc Tryd.prog Tryd.f3 false true false false W args v W' := by
  have hE : JE W.heap.size W := env_of hL
  have hW' := hW
  have hlt := hW.lt
  obtain ⟨p, q, hA0, hV, rfl, hfz, hnd⟩ := hW
  have hA : DataW.TrodAll enc Tryd.prog W 0 (fun _ => true) true Tryd.f3.params.toList args.toList ds p := hA0
  rw [Tryd.params3] at hA
  obtain ⟨v0, d0, hargs, rfl, h0⟩ := trodAll_one hA
  obtain rfl : args = #[v0] := by cases args; simp_all
  obtain ⟨rfl, rfl⟩ := trodVars_none hV
  obtain ⟨X, hX, hbulk⟩ := jot_arg h0
  have hb : bulkJ X ≤ 1048576 := by
    have h := of_decide_eq_true hk
    simp only [List.append_nil, Rows.uptoBulkAll] at h
    omega
  clear hA0
  simp only [List.append_nil] at hW' hlt
  refine (law X v0 W hE hX hb).mono fun e W' ⟨he, hkk⟩ => ?_
  subst he
  exact ⟨_, rfl, post_of_below (pa := p) (pv := []) hW' (fun _ _ _ => trodAll_mk1 (shut_bool Tryd.underlying4 _)) (fun sp hsp => by
      rw [Tryd.params3]
      exact trodAll_mk1 (trod_back laidOut (by kernel_rfl) (of_decide_eq_true (by kernel_rfl)) h0 hkk.toBelow hlt sp hsp)) (fun _ _ => rfl) (by simp)
    hkk.toBelow (ok_one (by kernel_rfl) rfl (okWide_bool_mk Tryd.underlying4 _))⟩

abbrev jz : Value := .agg #[.int .i64 0, .int .i64 0, S [], .slice none 0 0, .slice none 0 0]
abbrev dz {H : Type} : DataW H := .agg [.lit (.int .i64 0), .lit (.int .i64 0), .lit (.string []), .nil, .nil]
theorem reads (os : Os) {H : Type} (enc : TypeId × Value → H) : ∃ places, DataW.whole enc Tryd.prog ((laidWorld os).forCall (fun _ _ => 0) ⟨#[], #[jz], []⟩).memory Tryd.f3.params.toList Rows.jotBackSpec.vars false #[jz].toList 8 = some ([dz], [], places) :=
  ⟨[], by kernel_rfl⟩
set_option maxRecDepth 100000 in
theorem lifted (os : Os) (started : os.Started) (H : Type) (enc : TypeId × Value → H) (F : Stop.Interp) :
    ReturnsInHanded {} Tryd.checked os 3 .any ((Rows.OpenSpec.upto Rows.jotBackSpec).preRow enc Tryd.prog Tryd.f3 Rows.jotBackUptoRow.domain false Rows.jotBackUptoRow.laid) (((Rows.OpenSpec.upto Rows.jotBackSpec).at F).post enc Tryd.prog Tryd.f3 false true false false) := by
  obtain ⟨places, hx⟩ := reads os enc
  refine returnsInHanded_of_row (C := Tryd.checked) (s := Rows.OpenSpec.upto Rows.jotBackSpec) own started (by kernel_rfl) Tryd.func3
    (witness_row (enc := enc) (C := Tryd.checked) (laidWorld os) #[jz] (World.laidAll_os _ _ _) (World.shaped_of_ZipB (by kernel_rfl) (by kernel_rfl)) (by kernel_rfl)
      (OpenSpec.preRow_of_cond 8 hx (by kernel_rfl) (fun k hk => by cases hk; kernel_rfl) (by kernel_rfl) (laid_met os _))) ?_
  intro W base args ds gs before hval hW _ hcond _ hL _ _
  exact contract H enc W base args ds gs before hW hL (hcond _ rfl)

theorem said : Rows.JotBackUptoSaid :=
  OpenClaim.holds_of_cond 3 Tryd.f3 rfl rfl rfl rfl rfl rfl rfl ⟨rfl, rfl, rfl, rfl, rfl⟩ rfl rfl rfl rfl rfl (by kernel_rfl) Tryd.func3 (by kernel_rfl)
    (of_decide_eq_true (by kernel_rfl)) (by unfold Func.isWrapper; first | (rw [if_pos (by decide +kernel)]; kernel_rfl) | (rw [if_neg (by decide +kernel)]; exact ⟨rfl, rfl⟩))
    (fun os started H enc _ F => by rw [OpenClaim.pre_eq_preRow]; exact lifted os started H enc F)

theorem plain (f : FuncId) (fn : Func) (hf : Tryd.pinned.checked.prog.funcNamed "latchkey/latchkeylaw04.JotBack" = some f) (hfn : Tryd.pinned.checked.prog.funcs[f]? = some fn) :
    true = Tryd.pinned.checked.prog.looks [] ∧ ∀ (j : Nat) t, fn.params[j]? = some t → Tryd.pinned.checked.prog.wantsStandIn t = false := by
  obtain rfl : f = 3 := Option.some.inj ((show Tryd.prog.funcNamed "latchkey/latchkeylaw04.JotBack" = some 3 by kernel_rfl).symm.trans hf) |>.symm
  obtain rfl : fn = Tryd.f3 := (Option.some.inj (Tryd.func3.symm.trans hfn)).symm
  refine ⟨by kernel_rfl, fun j t ht => ?_⟩
  rw [Tryd.params3] at ht
  have hm : t ∈ [25] := by have := Array.mem_of_getElem? ht; simpa using this
  have hall : ([25].all fun u => !Tryd.prog.wantsStandIn u) = true := by kernel_rfl
  exact (show Tryd.prog.wantsStandIn t = false by simpa using List.all_eq_true.1 hall t hm)

theorem card : Rows.JotBackUptoCardSaid :=
  Claim7.holds_tied_plain_at .later [] _ _ _ _ said (fun _ h => by cases h) (by kernel_rfl) (fun _ h => by cases h) jotBackUpto_row_tie rfl ⟨rfl, rfl⟩ (by kernel_rfl) rfl plain (by kernel_rfl)
end Go.Proofs.YtmajpambfblhnaaDoor.jotBack
