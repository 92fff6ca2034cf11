/- JotPrints holds of the given program where what it reads is of bulk at most 1048576: for every value, where the library's tables are as its text lays them, the law's call returns true and its argument reads as before: what jot's Print answers is the document's, twice, and once more behind a writing over by its owner; what was lent stays. Conditions: none but what the given row itself lists. -/
import Derived.Test.YtmajpambfblhnaaGreatDoorJoRowKit2
import Derived.Test.YtmajpambfblhnaaGreatDoorJoM3
import Derived.Test.YtmajpambfblhnaaGreatDoorJoM4
import Derived.Test.YtmajpambfblhnaaGreatDoorJoM6
import Derived.Test.YtmajpambfblhnaaGreatDoorJoU6
import Derived.Test.YtmajpambfblhnaaGreatDoorJoSameR
namespace Go.Proofs.YtmajpambfblhnaaGreatDoor.jotPrints
open Go.ChangeShapes Go.WideShapes Go.ChangeAt Go.RowKit Go.WideMaps Go.WideElems Jo
open Go.ChangeMaps (open_string shut_string)

theorem book_new (w : World) : BookAt w.heap.size w.heap.size (.slice none 0 0) (.slice none 0 0) [] [] (w.alloc (.cells #[.slice none 0 0, .slice none 0 0] 32)) :=
  ⟨heap_alloc_new w _, Nat.le_refl _, World.ownsRow_nil _ _ _ _, World.ownsRow_nil _ _ _ _, fun u hu => (by cases hu), fun u hu => (by cases hu)⟩

set_option maxHeartbeats 16000000 in
set_option maxRecDepth 100000 in
theorem law (X : J) (v : Value) (w : World) (hE : JE w.heap.size w) (hx : JIn (fun _ => True) w X v) (hb : bulkJ X ≤ 1048576) :
    Calls Tryz.prog 3 #[v] w fun e w' => e = .returned (.bool true) ∧ Kept (fun _ => True) w w' := by
  have hfine := hx.fine
  obtain ⟨na, nc, ia, ic, us, rfl, -⟩ := hx.inv
  obtain ⟨W0, hW0⟩ : ∃ W0, w.alloc (.cells #[.int .i64 X.kind, .int .i64 X.num, S X.text, .slice na X.names.length nc, .slice ia X.items.length ic] 25) = W0 := ⟨_, rfl⟩
  have hk0 : Kept (fun _ => True) w W0 := by rw [← hW0]; exact (Kept.refl _ w).alloc _
  have hbox : OutAt w.heap.size X.kind X.num X.text (.slice na X.names.length nc) (.slice ia X.items.length ic) W0 := by rw [← hW0]; exact OutAt.new w _ _ _ _ _
  have HE := Lib.hid ((hE.kept hk0 fun _ _ => trivial).le hk0.size)
  have HX := Lib.hid (hx.kept hk0 fun _ _ _ => trivial)
  have HBOX := Lib.hid hbox
  have HB := Lib.hid hb
  have HF := Lib.hid hfine
  have HW0 := Lib.hid hW0
  have K := Lib.hid (known_any W0 HE.out)
  obtain ⟨xk, hxk⟩ : ∃ y, X.kind = y := ⟨_, rfl⟩
  obtain ⟨xn, hxn⟩ : ∃ y, X.num = y := ⟨_, rfl⟩
  obtain ⟨xt, hxt⟩ : ∃ y, X.text = y := ⟨_, rfl⟩
  obtain ⟨nl, hnl⟩ : ∃ y, X.names.length = y := ⟨_, rfl⟩
  obtain ⟨il, hil⟩ : ∃ y, X.items.length = y := ⟨_, rfl⟩
  rw [hxk, hxn, hxt, hnl, hil] at HX HBOX HW0 ⊢
  have HXF := Lib.hid (And.intro hxk (And.intro hxn hxt))
  clear hE hx hb hfine hW0 hbox hxk hxn hxt hnl hil
  go_enter Tryz.func3, Tryz.ntmps3
  go_wp2_with fail
  rw [HW0.out]
  refine K.out.mono ?_
  rintro e w1 ⟨rfl, hk1⟩
  have hk01 := hk0.tr hk1
  have HX1 := Lib.hid (HX.out.kept hk1 fun _ _ _ => trivial)
  have HBOX1 := Lib.hid (HBOX.out.kept hk1 trivial)
  obtain ⟨o0, o1, o2, o3, o4, o5, o6⟩ := HBOX1.out.facts
  have LF := Lib.hid (left_any X _ w1 10000 HX1.out (by omega) (by omega))
  obtain ⟨z, hz⟩ : ∃ z, leftP X 10000 = z := ⟨_, rfl⟩
  rw [hz] at LF
  have HZ := Lib.hid hz
  clear hz
  by_cases hz0 : z < 0
  · go_wp2_with (refine LF.out.mono ?_; rintro e w2 ⟨rfl, hk2⟩)
    go_ret
    exact ⟨rfl, hk01.tr hk2⟩
  · have HS := Lib.hid (left_small X 10000 (by omega) (by rw [HZ.out]; omega))
    have HPT := Lib.hid (left_parts X 10000 (by rw [HZ.out]; omega))
    have HZ0 := Lib.hid hz0
    obtain ⟨l, E, hP⟩ : ∃ l E, printP X = (l, E) := ⟨_, _, rfl⟩
    have HPP := Lib.hid hP
    go_wp2_with fail
    refine LF.out.mono ?_
    rintro e w2 ⟨rfl, hk2⟩
    have hk02 := hk01.tr hk2
    have HX2 := Lib.hid (HX1.out.kept hk2 fun _ _ _ => trivial)
    have HBOX2 := Lib.hid (HBOX1.out.kept hk2 trivial)
    clear o0 o1 o2 o3 o4 o5 o6
    obtain ⟨W3, hW3⟩ : ∃ W3, w2.alloc (.cells #[.slice none 0 0, .slice none 0 0] 32) = W3 := ⟨_, rfl⟩
    have hk23 : Kept (fun _ => True) w2 W3 := by rw [← hW3]; exact (Kept.refl _ _).alloc _
    have HBK := Lib.hid (show BookAt w2.heap.size w2.heap.size (.slice none 0 0) (.slice none 0 0) [] [] W3 by rw [← hW3]; exact book_new w2)
    have HX3 := Lib.hid ((HX2.out.mono (ok2 := (· < w2.heap.size)) fun b h _ => h).kept hk23 fun _ _ _ => trivial)
    have HBOX3 := Lib.hid (HBOX2.out.kept hk23 trivial)
    have hpx : partsJ X ≤ 10000 := by have := HPT.out; have := HZ.out; omega
    have LD := Lib.hid (lend_any X _ w2.heap.size w2.heap.size [] [] _ _ W3 HX3.out (HS.out.2.2.mono (by omega)) HBK.out (by simp only [List.length_nil]; omega) (by simp only [List.length_nil]; omega))
    have HW3 := Lib.hid hW3
    clear hW3
    obtain ⟨o0, o1, o2, o3, o4, o5, o6⟩ := HBOX3.out.facts
    rw [← HW3.out] at o0 o1 o2 o3 o4 o5 o6
    go_wp2_with fail
    rw [HW3.out]
    refine LD.out.mono ?_
    rintro e w4 ⟨u, fp, mn, mi, rfl, hown, hnd, hfp, ⟨nv4, iv4, hbk4⟩, hmn, hmi, hlow, hk4⟩
    obtain ⟨na4, nl4, nc4, ia4, il4, ic4, hv4⟩ := hown.form2
    rw [HXF.out.1, HXF.out.2.1, HXF.out.2.2] at hv4
    subst hv4
    have hz3 := hk23.size
    have hz4 := hk4.size
    have hzw : w.heap.size < w2.heap.size := HBOX2.out.lt
    have hk34 : Kept (fun _ => True) w w4 := (hk02.tr hk23).trans hk4 fun i hi _ => .inl (by omega)
    obtain ⟨W4, hW4⟩ : ∃ W4, w4.alloc (.cells #[.int .i64 xk, .int .i64 xn, S xt, .slice na4 nl4 nc4, .slice ia4 il4 ic4] 25) = W4 := ⟨_, rfl⟩
    have hkW4 : Kept (fun _ => True) w4 W4 := by rw [← hW4]; exact (Kept.refl _ _).alloc _
    have hbox4 : OutAt w4.heap.size xk xn xt (.slice na4 nl4 nc4) (.slice ia4 il4 ic4) W4 := by rw [← hW4]; exact OutAt.new w4 _ _ _ _ _
    have hk0W := hk34.tr hkW4
    have HXW := Lib.hid (((HX3.out.kept hk4 fun b _ hb => .inl hb).mono (ok2 := fun _ => True) fun _ _ _ => trivial).kept hkW4 fun _ _ _ => trivial)
    have HOW := Lib.hid (hown.kept hkW4.size fun b hb => hkW4.block b (hown.lt b hb) trivial)
    have HIW := Lib.hid (HOW.out.toIn HF.out (fun _ => True) fun _ _ => trivial)
    have HBW := Lib.hid (hbk4.keptT hkW4)
    have HVW := Lib.hid ((HBOX3.out.kept hk4 (.inl hzw)).kept hkW4 trivial)
    have HEW := Lib.hid ((HE.out.kept ((Kept.refl (fun _ => True) W0).tr ((hk1.tr hk2).tr hk23) |>.trans hk4 fun i hi _ => .inl (by have := hk1.size; have := hk2.size; omega)) fun _ _ => trivial))
    have hfpl := hown.lt
    have HFP := Lib.hid (And.intro hnd (And.intro hfp hfpl))
    have HBX4 := Lib.hid hbox4
    have HW4 := Lib.hid hW4
    have HS9 := Lib.hid (short_of_bulk X (by have := HB.out; omega))
    have RP := Lib.hid (refPrint_any X _ W4 HXW.out (HS.out.2.2.mono (by omega)) HS9.out (by have := HS.out.2.1; have := HZ.out; omega) (fun h => by have := layP_le (may_of X h); have := HB.out; omega))
    rw [hP] at RP
    clear o0 o1 o2 o3 o4 o5 o6 hown hnd hfp hbk4 hbox4 hW4 hfpl hP
    obtain ⟨o0, o1, o2, o3, o4, o5, o6⟩ := HVW.out.facts
    rw [← HW4.out] at o0 o1 o2 o3 o4 o5 o6
    go_wp2_with fail
    rw [HW4.out]
    refine RP.out.mono ?_
    rintro e w5 ⟨rfl, hk5⟩
    have HX5 := Lib.hid (HIW.out.kept hk5 fun _ _ _ => trivial)
    have HE5 := Lib.hid ((HEW.out.kept (hkW4.tr hk5) fun _ _ => trivial).le (by have := hk1.size; have := hk2.size; have := hkW4.size; have := hk5.size; omega : W0.heap.size ≤ w5.heap.size))
    have P1 := Lib.hid (Print_any X _ w5 HX5.out HE5.out (HS.out.2.2.mono (by omega)) (by have := HS.out.2.1; have := HZ.out; omega) (fun h => by have := layP_le (may_of X h); have := HB.out; omega))
    rw [HPP.out] at P1
    clear o0 o1 o2 o3 o4 o5 o6
    obtain ⟨o0, o1, o2, o3, o4, o5, o6⟩ := (HBX4.out.kept hk5 trivial).facts
    go_wp2_with fail
    refine P1.out.mono ?_
    rintro e w6 ⟨rfl, hk6⟩
    have HX6 := Lib.hid (HX5.out.kept hk6 fun _ _ _ => trivial)
    have HE6 := Lib.hid ((HE5.out.kept hk6 fun _ _ => trivial).le hk6.size)
    have P2 := Lib.hid (Print_any X _ w6 HX6.out HE6.out (HS.out.2.2.mono (by omega)) (by have := HS.out.2.1; have := HZ.out; omega) (fun h => by have := layP_le (may_of X h); have := HB.out; omega))
    rw [HPP.out] at P2
    clear o0 o1 o2 o3 o4 o5 o6
    obtain ⟨o0, o1, o2, o3, o4, o5, o6⟩ := (HBX4.out.kept (hk5.tr hk6) trivial).facts
    go_wp2_with fail
    refine P2.out.mono ?_
    rintro e w7 ⟨rfl, hk7⟩
    have hk57 := (hk5.tr hk6).tr hk7
    have SM := Lib.hid (refsame_any X X _ _ (fun _ => True) w7 (HIW.out.kept hk57 fun _ _ _ => trivial) (HXW.out.kept hk57 fun _ _ _ => trivial))
    clear o0 o1 o2 o3 o4 o5 o6
    obtain ⟨o0, o1, o2, o3, o4, o5, o6⟩ := (HBX4.out.kept hk57 trivial).facts
    obtain ⟨p0, p1, p2, p3, p4, p5, p6⟩ := (HVW.out.kept hk57 trivial).facts
    go_wp2_with fail
    refine SM.out.mono ?_
    rintro e w8 ⟨⟨q, rfl, hq⟩, hk8⟩
    obtain rfl : q = true := by simpa using hq
    clear hq o0 o1 o2 o3 o4 o5 o6 p0 p1 p2 p3 p4 p5 p6
    have hk58 := hk57.tr hk8
    have MK := Lib.hid (marked_any w2.heap.size w2.heap.size _ _ nv4 iv4 w8 (HBW.out.keptT hk58) (by simp only [List.nil_append]; omega) (by simp only [List.nil_append]; omega))
    go_wp2_with fail
    refine MK.out.mono ?_
    rintro e w9 ⟨rfl, hk9⟩
    have hk59 := hk58.tr hk9
    have TU := Lib.hid (turns_any X _ fp w9 (HOW.out.kept hk59.size fun b hb => hk59.block b (HOW.out.lt b hb) trivial) HFP.out.1 HF.out (HS.out.2.2.mono (by omega)) HS9.out)
    obtain ⟨o0, o1, o2, o3, o4, o5, o6⟩ := (HBX4.out.kept hk59 trivial).facts
    go_wp2_with fail
    refine TU.out.mono ?_
    rintro e w10 ⟨rfl, hin10, hk10⟩
    have HFT := Lib.hid (few_turn X (HS.out.2.2.mono (by omega : 10000 ≤ 1000000)))
    have HI10 := Lib.hid (hin10.mono (ok2 := fun _ => True) fun _ _ _ => trivial)
    have hbx10 : OutAt w4.heap.size xk xn xt (.slice na4 nl4 nc4) (.slice ia4 il4 ic4) w10 := (HBX4.out.kept hk59 trivial).kept hk10 (fun e => by have := HFP.out.2.2 _ e; omega)
    have hk0z : Kept (fun _ => True) w w10 := (hk0W.tr hk59).trans hk10 fun i hi _ e => by have := HFP.out.2.1 _ e; omega
    have CP := Lib.hid (copied_any (turnP X) _ (fun _ => True) w10 HI10.out HFT.out)
    clear o0 o1 o2 o3 o4 o5 o6
    obtain ⟨o0, o1, o2, o3, o4, o5, o6⟩ := hbx10.facts
    go_wp2_with fail
    refine CP.out.mono ?_
    rintro e w11 ⟨⟨u2, fp2, rfl, hown2, -, -⟩, hk11⟩
    obtain ⟨na5, nl5, nc5, ia5, il5, ic5, hv5⟩ := hown2.form2
    have HF2 := Lib.hid HI10.out.fine
    have hin11 : JIn (fun _ => True) w11 (turnP X) u2 := hown2.toIn HF2.out _ fun _ _ => trivial
    obtain ⟨tk, htk⟩ : ∃ y, (turnP X).kind = y := ⟨_, rfl⟩
    obtain ⟨tn, htn⟩ : ∃ y, (turnP X).num = y := ⟨_, rfl⟩
    obtain ⟨tt, htt⟩ : ∃ y, (turnP X).text = y := ⟨_, rfl⟩
    rw [htk, htn, htt] at hv5
    subst hv5
    obtain ⟨W5, hW5⟩ : ∃ W5, w11.alloc (.cells #[.int .i64 tk, .int .i64 tn, S tt, .slice na5 nl5 nc5, .slice ia5 il5 ic5] 25) = W5 := ⟨_, rfl⟩
    have hkW5 : Kept (fun _ => True) w11 W5 := by rw [← hW5]; exact (Kept.refl _ _).alloc _
    have hbn : OutAt w11.heap.size tk tn tt (.slice na5 nl5 nc5) (.slice ia5 il5 ic5) W5 := by rw [← hW5]; exact OutAt.new w11 _ _ _ _ _
    have HIN := Lib.hid (hin11.kept hkW5 fun _ _ _ => trivial)
    have hkT := hk11.tr hkW5
    have HIO := Lib.hid (HI10.out.kept hkT fun _ _ _ => trivial)
    have HBO := Lib.hid (hbx10.kept hkT trivial)
    have hbt : bulkJ (turnP X) ≤ 2097152 := by have := bulk_turn X; have := HB.out; omega
    have HBT := Lib.hid hbt
    have HS2 := Lib.hid (short_of_bulk (turnP X) (by omega))
    have hdt : depthP (turnP X) ≤ 10000 := by have := depth_turn X; have := HS.out.2.1; have := HZ.out; omega
    have HDT := Lib.hid hdt
    obtain ⟨l2, E2, hP2⟩ : ∃ l E, printP (turnP X) = (l, E) := ⟨_, _, rfl⟩
    have HP2 := Lib.hid hP2
    have HW5 := Lib.hid hW5
    have RP2 := Lib.hid (refPrint_any (turnP X) _ W5 HIN.out HFT.out HS2.out (by omega) (fun h => by have := layP_le (may_of _ h); have := HBT.out; omega))
    rw [hP2] at RP2
    clear hown2 hin11 hbn o0 o1 o2 o3 o4 o5 o6 hW5 hbt hdt hP2 htk htn htt hbx10 hin10
    go_wp2_with fail
    rw [HW5.out]
    refine RP2.out.mono ?_
    rintro e w12 ⟨rfl, hk12⟩
    have HE12 := Lib.hid ((((HEW.out.kept (hkW4.tr hk59) fun _ _ => trivial).kept hk10 fun i hi e => by have := HFP.out.2.1 _ e; have := hk1.size; have := hk2.size; omega).kept (hkT.tr hk12) fun _ _ => trivial).le (by have := hk1.size; have := hk2.size; have := hkW4.size; have := hk59.size; have := hk10.size; have := hkT.size; have := hk12.size; omega : W0.heap.size ≤ w12.heap.size))
    have P3 := Lib.hid (Print_any (turnP X) _ w12 (HIO.out.kept hk12 fun _ _ _ => trivial) HE12.out HFT.out (by have := HDT.out; omega) (fun h => by have := layP_le (may_of _ h); have := HBT.out; omega))
    rw [HP2.out] at P3
    obtain ⟨o0, o1, o2, o3, o4, o5, o6⟩ := (HBO.out.kept hk12 trivial).facts
    go_wp2_with fail
    refine P3.out.mono ?_
    rintro e w13 ⟨rfl, hk13⟩
    go_wp2
    go_ret
    exact ⟨rfl, ((hk0z.tr hkT).tr hk12).tr hk13⟩

set_option maxRecDepth 100000 in
theorem contract (H : Type) (enc : TypeId × Value → H) (W : World) (_base : Nat) (args : Array Value) (ds gs : List (DataW H)) (before : List MemPlace)
    (hW : DataW.Whole enc Tryz.prog Tryz.f3.params.toList Rows.jotPrintsSpec.vars false W args.toList ds gs before) (hL : laidMetH Tryz.prog Rows.jotPrintsUptoRow.laid W) (hk : Rows.uptoSmall H (ds ++ gs) = true) :
    Calls Tryz.prog 3 args W fun e W' => ∃ v, e = .returned v ∧ Rows.jotPrintsSpec.post enc Tryz.prog Tryz.f3 false true false false W args v W' := by
  have hE : JE W.heap.size W := env_of hL
  have hW' := hW
  have hlt := hW.lt
  obtain ⟨p, q, hA0, hV, rfl, hfz, hnd⟩ := hW
  have hA : DataW.TrodAll enc Tryz.prog W 0 (fun _ => true) true Tryz.f3.params.toList args.toList ds p := hA0
  rw [Tryz.params3] at hA
  obtain ⟨v0, d0, hargs, rfl, h0⟩ := trodAll_one hA
  obtain rfl : args = #[v0] := by cases args; simp_all
  obtain ⟨rfl, rfl⟩ := trodVars_none hV
  obtain ⟨X, hX, hbulk⟩ := jot_arg h0
  have hb : bulkJ X ≤ 1048576 := by
    have h := of_decide_eq_true hk
    simp only [List.append_nil, Rows.uptoBulkAll] at h
    omega
  clear hA0
  simp only [List.append_nil] at hW' hlt
  refine (law X v0 W hE hX hb).mono fun e W' ⟨he, hkk⟩ => ?_
  subst he
  exact ⟨_, rfl, post_of_below (pa := p) (pv := []) hW' (fun _ _ _ => trodAll_mk1 (shut_bool Tryz.underlying4 _)) (fun sp hsp => by
      rw [Tryz.params3]
      exact trodAll_mk1 (trod_back laidOut (by kernel_rfl) (of_decide_eq_true (by kernel_rfl)) h0 hkk.toBelow hlt sp hsp)) (fun _ _ => rfl) (by simp)
    hkk.toBelow (ok_one (by kernel_rfl) rfl (okWide_bool_mk Tryz.underlying4 _))⟩

abbrev jz : Value := .agg #[.int .i64 0, .int .i64 0, S [], .slice none 0 0, .slice none 0 0]
abbrev dz {H : Type} : DataW H := .agg [.lit (.int .i64 0), .lit (.int .i64 0), .lit (.string []), .nil, .nil]
theorem reads (os : Os) {H : Type} (enc : TypeId × Value → H) : ∃ places, DataW.whole enc Tryz.prog ((laidWorld os).forCall (fun _ _ => 0) ⟨#[], #[jz], []⟩).memory Tryz.f3.params.toList Rows.jotPrintsSpec.vars false #[jz].toList 8 = some ([dz], [], places) :=
  ⟨[], by kernel_rfl⟩
set_option maxRecDepth 100000 in
theorem lifted (os : Os) (started : os.Started) (H : Type) (enc : TypeId × Value → H) (F : Stop.Interp) :
    ReturnsInHanded {} Tryz.checked os 3 .any ((Rows.OpenSpec.upto Rows.jotPrintsSpec).preRow enc Tryz.prog Tryz.f3 Rows.jotPrintsUptoRow.domain false Rows.jotPrintsUptoRow.laid) (((Rows.OpenSpec.upto Rows.jotPrintsSpec).at F).post enc Tryz.prog Tryz.f3 false true false false) := by
  obtain ⟨places, hx⟩ := reads os enc
  refine returnsInHanded_of_row (C := Tryz.checked) (s := Rows.OpenSpec.upto Rows.jotPrintsSpec) own started (by kernel_rfl) Tryz.func3
    (witness_row (enc := enc) (C := Tryz.checked) (laidWorld os) #[jz] (World.laidAll_os _ _ _) (World.shaped_of_ZipB (by kernel_rfl) (by kernel_rfl)) (by kernel_rfl)
      (OpenSpec.preRow_of_cond 8 hx (by kernel_rfl) (fun k hk => by cases hk; kernel_rfl) (by kernel_rfl) (laid_met os _))) ?_
  intro W base args ds gs before hval hW _ hcond _ hL _ _
  exact contract H enc W base args ds gs before hW hL (hcond _ rfl)

theorem said : Rows.JotPrintsUptoSaid :=
  OpenClaim.holds_of_cond 3 Tryz.f3 rfl rfl rfl rfl rfl rfl rfl ⟨rfl, rfl, rfl, rfl, rfl⟩ rfl rfl rfl rfl rfl (by kernel_rfl) Tryz.func3 (by kernel_rfl)
    (of_decide_eq_true (by kernel_rfl)) (by unfold Func.isWrapper; first | (rw [if_pos (by decide +kernel)]; kernel_rfl) | (rw [if_neg (by decide +kernel)]; exact ⟨rfl, rfl⟩))
    (fun os started H enc _ F => by rw [OpenClaim.pre_eq_preRow]; exact lifted os started H enc F)

theorem plain (f : FuncId) (fn : Func) (hf : Tryz.pinned.checked.prog.funcNamed "latchkey/latchkeylaw04.JotPrints" = some f) (hfn : Tryz.pinned.checked.prog.funcs[f]? = some fn) :
    true = Tryz.pinned.checked.prog.looks [] ∧ ∀ (j : Nat) t, fn.params[j]? = some t → Tryz.pinned.checked.prog.wantsStandIn t = false := by
  obtain rfl : f = 3 := Option.some.inj ((show Tryz.prog.funcNamed "latchkey/latchkeylaw04.JotPrints" = some 3 by kernel_rfl).symm.trans hf) |>.symm
  obtain rfl : fn = Tryz.f3 := (Option.some.inj (Tryz.func3.symm.trans hfn)).symm
  refine ⟨by kernel_rfl, fun j t ht => ?_⟩
  rw [Tryz.params3] at ht
  have hm : t ∈ [25] := by have := Array.mem_of_getElem? ht; simpa using this
  have hall : ([25].all fun u => !Tryz.prog.wantsStandIn u) = true := by kernel_rfl
  exact (show Tryz.prog.wantsStandIn t = false by simpa using List.all_eq_true.1 hall t hm)

theorem card : Rows.JotPrintsUptoCardSaid :=
  Claim7.holds_tied_plain_at .later [] _ _ _ _ said (fun _ h => by cases h) (by kernel_rfl) (fun _ h => by cases h) jotPrintsUpto_row_tie rfl ⟨rfl, rfl⟩ (by kernel_rfl) rfl plain (by kernel_rfl)
end Go.Proofs.YtmajpambfblhnaaGreatDoor.jotPrints
