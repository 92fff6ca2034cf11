/- JotPlaces holds of the given program: for any two texts, where the library's tables are as its text lays them, the law's call returns true and its arguments read as before: the place of what is wrong is the place from which no text goes on, and up to which one does. Conditions: none but what the given row itself lists. -/
import Derived.Test.YtmajpambfblhnaaGreatDoorJoRowKit
import Derived.Test.YtmajpambfblhnaaGreatDoorJoRest
namespace Go.Proofs.YtmajpambfblhnaaGreatDoor.jotPlaces
open Go.ChangeShapes Go.WideShapes Go.ChangeAt Go.RowKit Go.WideMaps Go.WideElems Jo
open Go.ChangeMaps (open_string shut_string)

/-- What the law asks of a text that is not taken. -/
theorem places (s : List UInt8) (hs : s.length ≤ 4000) {v : J} {e : Int} {i : Nat} (h : readP s = (v, e, i)) (h0 : e ≠ 0) :
    v = J.null ∧ i ≤ s.length ∧ (i = s.length → e = 40) ∧ EndsR 300000 (s.take i) ∧ (i < s.length → ∀ y, readP (s.take (i + 1) ++ y) = (v, e, i)) := by
  have hf := read_form s
  rw [h] at hf
  obtain ⟨rfl, _, h2, h3⟩ := hf.resolve_left fun k => h0 k.1
  have h2 : i ≤ s.length := h2
  have h3 : i = s.length → e = 40 := h3
  refine ⟨rfl, h2, h3, ?_, fun hi y => ?_⟩
  · have hsp : s.take i ++ s.drop i = s := List.take_append_drop i s
    have hl : (s.take i).length = i := by rw [List.length_take]; omega
    rcases read_upto (s.take i) (s.drop i) (by rw [hsp, h]; exact h0) (by rw [hsp, h, hl]) with k | k
    · exact .fin k
    · exact read_ends (by omega) k
  · have hsp : s.take (i + 1) ++ s.drop (i + 1) = s := List.take_append_drop (i + 1) s
    have hl : (s.take (i + 1)).length = i + 1 := by rw [List.length_take]; omega
    rw [read_stays (s.take (i + 1)) y (s.drop (i + 1)) (by rw [hsp, h]; exact h0) (by rw [hsp, h, hl]), hsp, h]

theorem take_ex (s : List UInt8) (n : Nat) : (⟨s.toArray⟩ : ByteArray).extract 0 n = ⟨(s.take n).toArray⟩ := by
  have e := extract_mk s 0 n
  injection e

set_option maxHeartbeats 16000000 in
set_option maxRecDepth 100000 in
theorem law (s more : List UInt8) (w : World) (hE : JE w.heap.size w) (hs : s.length ≤ maxLen) (hm : more.length ≤ maxLen) :
    Calls Tryz.prog 7 #[S s, S more] w fun e w' => e = .returned (.bool true) ∧ Kept (fun _ => True) w w' := by
  have hsz : (⟨s.toArray⟩ : ByteArray).size = s.length := size_mk s
  have hsz2 : (⟨more.toArray⟩ : ByteArray).size = more.length := size_mk more
  by_cases hb1 : 2147483647 < s.length
  · go_enter Tryz.func7, Tryz.ntmps7
    go_wp2
    go_ret
    exact ⟨rfl, Kept.refl _ _⟩
  by_cases hb2 : 2147479646 < more.length
  · go_enter Tryz.func7, Tryz.ntmps7
    go_wp2
    go_ret
    exact ⟨rfl, Kept.refl _ _⟩
  have K := Lib.hid (known_any w hE)
  have P1 := Lib.hid (fun w => Parse_any s w hs)
  clear hE hm
  by_cases hl : 4000 < s.length
  · have hP : parseP s = (J.null, 44, 4000) := by unfold parseP; rw [if_pos hl]
    rw [hP] at P1
    clear hP hs
    go_enter Tryz.func7, Tryz.ntmps7
    go_wp2_with fail
    refine K.out.mono ?_
    rintro e w1 ⟨rfl, hk1⟩
    go_wp2_with fail
    refine (P1.out w1).mono ?_
    rintro e w2 ⟨⟨v, fp, rfl, hown, -, -⟩, hk2⟩
    obtain ⟨na, nl, nc, ia, il, ic, rfl⟩ := hown.null_form
    obtain ⟨W2, hW2⟩ : ∃ W2, w2.alloc (.cells #[.int .i64 0, .int .i64 0, S [], .slice na nl nc, .slice ia il ic] 25) = W2 := ⟨_, rfl⟩
    have hkW2 : Kept (fun _ => True) w2 W2 := by rw [← hW2]; exact (Kept.refl _ _).alloc _
    have HB : Hid (OutAt w2.heap.size 0 0 [] (.slice na nl nc) (.slice ia il ic) W2) := Lib.hid (by rw [← hW2]; exact OutAt.new w2 _ _ _ _ _)
    have HK := Lib.hid ((hk1.tr hk2).tr hkW2)
    obtain ⟨o0, o1, o2, o3, o4, o5, o6⟩ := HB.out.facts
    clear hown hk1 hk2 hkW2 K P1
    go_wp2_with fail
    go_wp2
    go_ret
    exact ⟨rfl, HK.out⟩
  obtain ⟨X, E, A, hR⟩ : ∃ X E A, readP s = (X, E, A) := ⟨_, _, _, rfl⟩
  have hP : parseP s = (X, E, A) := by unfold parseP; rw [if_neg (by omega)]; exact hR
  rw [hP] at P1
  clear hP hs
  by_cases h0 : E = 0
  · subst h0
    obtain rfl : A = 0 := by
      have hf := read_form s
      rw [hR] at hf
      rcases hf with ⟨_, h⟩ | ⟨_, h, _⟩
      · exact h
      · exact absurd rfl h
    clear hR
    go_enter Tryz.func7, Tryz.ntmps7
    go_wp2_with fail
    refine K.out.mono ?_
    rintro e w1 ⟨rfl, hk1⟩
    go_wp2_with fail
    refine (P1.out w1).mono ?_
    rintro e w2 ⟨⟨v, fp, rfl, hown, -, -⟩, hk2⟩
    obtain ⟨na, nl, nc, ia, il, ic, rfl⟩ := hown.form2
    have HK := Lib.hid ((hk1.tr hk2).tr ((Kept.refl _ _).alloc (.cells #[.int .i64 X.kind, .int .i64 X.num, S X.text, .slice na nl nc, .slice ia il ic] 25)))
    clear hown hk1 hk2 K P1
    go_wp2
    go_ret
    exact ⟨rfl, HK.out⟩
  obtain ⟨rfl, hA, hA40, hEnds, hStay⟩ := places s (by omega) hR h0
  obtain ⟨a, ha⟩ : ∃ a, s.take A = a := ⟨_, rfl⟩
  have hal : a.length = A := by rw [← ha, List.length_take]; omega
  have EX1 : (⟨s.toArray⟩ : ByteArray).extract 0 A = ⟨a.toArray⟩ := by rw [take_ex, ha]
  have EX2 : (⟨s.toArray⟩ : ByteArray).extract 0 (A + 1) = ⟨(s.take (A + 1)).toArray⟩ := take_ex s (A + 1)
  rw [ha] at hEnds
  have RS := Lib.hid (fun w => refRest_any a w (by omega) hEnds)
  have HSTAY := Lib.hid hStay
  have HA40 := Lib.hid hA40
  have HAL := Lib.hid hal
  have HR := Lib.hid hR
  clear hStay hEnds hal ha hA40 hR
  go_enter Tryz.func7, Tryz.ntmps7
  go_wp2_with fail
  refine K.out.mono ?_
  rintro e w1 ⟨rfl, hk1⟩
  go_wp2_with fail
  refine (P1.out w1).mono ?_
  rintro e w2 ⟨⟨v, fp, rfl, hown, -, -⟩, hk2⟩
  obtain ⟨na, nl, nc, ia, il, ic, rfl⟩ := hown.null_form
  obtain ⟨W2, hW2⟩ : ∃ W2, w2.alloc (.cells #[.int .i64 0, .int .i64 0, S [], .slice na nl nc, .slice ia il ic] 25) = W2 := ⟨_, rfl⟩
  have HK2 : Hid (Kept (fun _ => True) w W2) := Lib.hid ((hk1.tr hk2).tr (by rw [← hW2]; exact (Kept.refl _ _).alloc _))
  have HW2 := Lib.hid hW2
  clear hown hk1 hk2 K P1 hW2
  by_cases hAs : A = s.length
  · have hE40 : E = 40 := HA40.out hAs
    subst hE40
    subst hAs
    go_wp2_with fail
    rw [HW2.out]
    go_region_with (go_at_call 28; refine (RS.out _).mono ?_; rintro e w3 ⟨⟨t0, rfl, ht1, ht2⟩, hk3⟩; obtain ⟨u, hu⟩ : ∃ u, a ++ t0 = u := ⟨_, rfl⟩; have CT := run_cat (P := Tryz.prog) a t0 u hu (by have := HAL.out; omega))
    have hul : u.length ≤ 304000 := by rw [← hu, List.length_append, HAL.out]; omega
    have hzu : (⟨u.toArray⟩ : ByteArray).size = u.length := size_mk u
    have P2 := Lib.hid (fun w => Parse_any u w (by unfold maxLen; omega))
    obtain ⟨X2, E2, A2, hP2⟩ : ∃ X2 E2 A2, parseP u = (X2, E2, A2) := ⟨_, _, _, rfl⟩
    have hE2 : u.length ≤ 4000 → E2 = 0 := fun h => by
      unfold parseP at hP2
      rw [if_neg (by omega), ← hu] at hP2
      rw [hP2] at ht2
      exact ht2
    rw [hP2] at P2
    have HE2 := Lib.hid hE2
    have HK3 := Lib.hid (HK2.out.tr ((Kept.refl _ W2).drew.tr hk3))
    clear hE2 hP2 ht2 hu hk3 RS HK2 ht1
    go_wp2_with fail
    refine (P2.out w3).mono ?_
    rintro e w4 ⟨⟨v, fp, rfl, hown, -, -⟩, hk4⟩
    obtain ⟨na4, nl4, nc4, ia4, il4, ic4, rfl⟩ := hown.form2
    obtain ⟨W4, hW4⟩ : ∃ W4, w4.alloc (.cells #[.int .i64 X2.kind, .int .i64 X2.num, S X2.text, .slice na4 nl4 nc4, .slice ia4 il4 ic4] 25) = W4 := ⟨_, rfl⟩
    have HK4 : Hid (Kept (fun _ => True) w W4) := Lib.hid ((HK3.out.tr hk4).tr (by rw [← hW4]; exact (Kept.refl _ _).alloc _))
    have HW4 := Lib.hid hW4
    clear hown hk4 hW4 P2 HK3
    by_cases hu4 : u.length ≤ 4000
    · obtain rfl : E2 = 0 := HE2.out hu4
      go_wp2_with fail
      rw [HW4.out]
      go_wp2
      go_ret
      exact ⟨rfl, HK4.out⟩
    · go_wp2_with fail
      rw [HW4.out]
      go_wp2
      go_ret
      exact ⟨rfl, HK4.out⟩
  · have hAl : A < s.length := by omega
    obtain ⟨q, hq⟩ : ∃ q, s.take (A + 1) ++ more = q := ⟨_, rfl⟩
    have hql : q.length = A + 1 + more.length := by rw [← hq, List.length_append, List.length_take]; omega
    have hql2 : q.length ≤ 2147483647 := by omega
    have CT9 := run_cat (P := Tryz.prog) (s.take (A + 1)) more q hq (by rw [List.length_take]; omega)
    have hzq : (⟨q.toArray⟩ : ByteArray).size = q.length := size_mk q
    have P9 := Lib.hid (fun w => Parse_any q w (by unfold maxLen; omega))
    obtain ⟨X9, E9, A9, hP9⟩ : ∃ X9 E9 A9, parseP q = (X9, E9, A9) := ⟨_, _, _, rfl⟩
    have hE9 : q.length ≤ 4000 → E9 = E ∧ A9 = A := fun h => by
      have h1 := HSTAY.out hAl more
      unfold parseP at hP9
      rw [if_neg (by omega), ← hq, h1] at hP9
      simp only [Prod.mk.injEq] at hP9
      exact ⟨hP9.2.1.symm, hP9.2.2.symm⟩
    rw [hP9] at P9
    have HE9 := Lib.hid hE9
    obtain ⟨p, hp⟩ : ∃ p, s.take (A + 1) = p := ⟨_, rfl⟩
    rw [hp] at EX2 CT9
    clear hE9 hP9 hq hql hp
    go_wp2_with fail
    rw [HW2.out]
    go_region_with (go_at_call 28; refine (RS.out _).mono ?_; rintro e w3 ⟨⟨t0, rfl, ht1, ht2⟩, hk3⟩; obtain ⟨u, hu⟩ : ∃ u, a ++ t0 = u := ⟨_, rfl⟩; have CT := run_cat (P := Tryz.prog) a t0 u hu (by have := HAL.out; omega))
    have hul : u.length ≤ 304000 := by rw [← hu, List.length_append, HAL.out]; omega
    have hzu : (⟨u.toArray⟩ : ByteArray).size = u.length := size_mk u
    have P2 := Lib.hid (fun w => Parse_any u w (by unfold maxLen; omega))
    obtain ⟨X2, E2, A2, hP2⟩ : ∃ X2 E2 A2, parseP u = (X2, E2, A2) := ⟨_, _, _, rfl⟩
    have hE2 : u.length ≤ 4000 → E2 = 0 := fun h => by
      unfold parseP at hP2
      rw [if_neg (by omega), ← hu] at hP2
      rw [hP2] at ht2
      exact ht2
    rw [hP2] at P2
    have HE2 := Lib.hid hE2
    have HK3 := Lib.hid (HK2.out.tr ((Kept.refl _ W2).drew.tr hk3))
    clear hE2 hP2 ht2 hu hk3 RS HK2 ht1
    go_wp2_with fail
    refine (P2.out w3).mono ?_
    rintro e w4 ⟨⟨v, fp, rfl, hown, -, -⟩, hk4⟩
    obtain ⟨na4, nl4, nc4, ia4, il4, ic4, rfl⟩ := hown.form2
    obtain ⟨W4, hW4⟩ : ∃ W4, w4.alloc (.cells #[.int .i64 X2.kind, .int .i64 X2.num, S X2.text, .slice na4 nl4 nc4, .slice ia4 il4 ic4] 25) = W4 := ⟨_, rfl⟩
    have HK4 : Hid (Kept (fun _ => True) w W4) := Lib.hid ((HK3.out.tr hk4).tr (by rw [← hW4]; exact (Kept.refl _ _).alloc _))
    have HW4 := Lib.hid hW4
    clear hown hk4 hW4 P2 HK3
    by_cases hu4 : u.length ≤ 4000
    · obtain rfl : E2 = 0 := HE2.out hu4
      go_wp2_with fail
      rw [HW4.out]
      refine (P9.out W4).mono ?_
      rintro e w5 ⟨⟨v, fp, rfl, hown, -, -⟩, hk5⟩
      obtain ⟨na5, nl5, nc5, ia5, il5, ic5, rfl⟩ := hown.form2
      have HK5 := Lib.hid ((HK4.out.tr hk5).tr ((Kept.refl _ _).alloc (.cells #[.int .i64 X9.kind, .int .i64 X9.num, S X9.text, .slice na5 nl5 nc5, .slice ia5 il5 ic5] 25)))
      clear hown hk5
      by_cases hq4 : 4000 < q.length
      · go_wp2
        go_ret
        exact ⟨rfl, HK5.out⟩
      · obtain ⟨rfl, rfl⟩ := HE9.out (by omega)
        go_wp2
        go_ret
        exact ⟨rfl, HK5.out⟩
    · go_wp2_with fail
      rw [HW4.out]
      refine (P9.out W4).mono ?_
      rintro e w5 ⟨⟨v, fp, rfl, hown, -, -⟩, hk5⟩
      obtain ⟨na5, nl5, nc5, ia5, il5, ic5, rfl⟩ := hown.form2
      have HK5 := Lib.hid ((HK4.out.tr hk5).tr ((Kept.refl _ _).alloc (.cells #[.int .i64 X9.kind, .int .i64 X9.num, S X9.text, .slice na5 nl5 nc5, .slice ia5 il5 ic5] 25)))
      clear hown hk5
      by_cases hq4 : 4000 < q.length
      · go_wp2
        go_ret
        exact ⟨rfl, HK5.out⟩
      · obtain ⟨rfl, rfl⟩ := HE9.out (by omega)
        go_wp2
        go_ret
        exact ⟨rfl, HK5.out⟩

set_option maxRecDepth 100000 in
theorem contract (H : Type) (enc : TypeId × Value → H) (W : World) (base : Nat) (args : Array Value) (ds gs : List (DataW H)) (before : List MemPlace)
    (hval : ∀ (j : Nat) t v, Tryz.f7.params[j]? = some t → args[j]? = some v → Value.okWide Tryz.prog W .any base t v)
    (hW : DataW.Whole enc Tryz.prog Tryz.f7.params.toList Rows.jotPlacesSpec.vars false W args.toList ds gs before) (hL : laidMetH Tryz.prog Rows.jotPlacesRow.laid W) :
    Calls Tryz.prog 7 args W fun e W' => ∃ v, e = .returned v ∧ Rows.jotPlacesSpec.post enc Tryz.prog Tryz.f7 false true false false W args v W' := by
  have hE : JE W.heap.size W := env_of hL
  have hW' := hW
  obtain ⟨p, q, hA0, hV, rfl, hfz, hnd⟩ := hW
  have hA : DataW.TrodAll enc Tryz.prog W 0 (fun _ => true) true Tryz.f7.params.toList args.toList ds p := hA0
  rw [Tryz.params7] at hA hval
  obtain ⟨v0, v1, d0, d1, p0, p1, hargs, rfl, rfl, h0, h1⟩ := trodAll_two hA
  obtain rfl : args = #[v0, v1] := by cases args; simp_all
  obtain ⟨rfl, rfl⟩ := trodVars_none hV
  obtain ⟨s, rfl, rfl, rfl, hs⟩ := open_string Tryz.underlying9 (hval 0 9 v0 rfl rfl) h0
  obtain ⟨s1, rfl, rfl, rfl, hs1⟩ := open_string Tryz.underlying9 (hval 1 9 v1 rfl rfl) h1
  clear hA0
  simp only [List.append_nil] at hW'
  obtain ⟨⟨ls⟩⟩ := s
  obtain ⟨⟨lt⟩⟩ := s1
  refine (law ls lt W hE (by simpa [size_mk] using hs) (by simpa [size_mk] using hs1)).mono fun e W' ⟨he, hk⟩ => ?_
  subst he
  exact ⟨_, rfl, post_of_below (pa := []) (pv := []) hW' (fun _ _ _ => trodAll_mk1 (shut_bool Tryz.underlying4 _)) (fun _ _ => trodAll_mk2 (shut_string Tryz.underlying9 hs) (shut_string Tryz.underlying9 hs1)) (fun _ _ => rfl) rfl
    hk.toBelow (ok_one (by kernel_rfl) rfl (okWide_bool_mk Tryz.underlying4 _))⟩

theorem reads (os : Os) {H : Type} (enc : TypeId × Value → H) : ∃ places, DataW.whole enc Tryz.prog ((laidWorld os).forCall (fun _ _ => 0) ⟨#[], #[S [], S []], []⟩).memory Tryz.f7.params.toList Rows.jotPlacesSpec.vars false #[S [], S []].toList 8 = some ([.lit (.string []), .lit (.string [])], [], places) :=
  ⟨[], by kernel_rfl⟩
set_option maxRecDepth 100000 in
theorem lifted (os : Os) (started : os.Started) (H : Type) (enc : TypeId × Value → H) (F : Stop.Interp) :
    ReturnsInHanded {} Tryz.checked os 7 .any ((OpenSpec.ofChange Rows.jotPlacesSpec).preRow enc Tryz.prog Tryz.f7 Rows.jotPlacesRow.domain false Rows.jotPlacesRow.laid) (((OpenSpec.ofChange Rows.jotPlacesSpec).at F).post enc Tryz.prog Tryz.f7 false true false false) := by
  obtain ⟨places, hx⟩ := reads os enc
  refine returnsInHanded_of_row (C := Tryz.checked) (s := OpenSpec.ofChange Rows.jotPlacesSpec) own started (by kernel_rfl) Tryz.func7
    (witness_row (enc := enc) (C := Tryz.checked) (laidWorld os) #[S [], S []] (World.laidAll_os _ _ _) (World.shaped_of_ZipB (by kernel_rfl) (by kernel_rfl)) (by kernel_rfl)
      (OpenSpec.preRow_of_cond 8 hx (by kernel_rfl) (fun k hk => by cases hk) (by kernel_rfl) (laid_met os _))) ?_
  intro W base args ds gs before hval hW _ _ _ hL _ _
  exact contract H enc W base args ds gs before hval hW hL

theorem said : Rows.JotPlacesSaid :=
  OpenClaim.holds_of_cond 7 Tryz.f7 rfl rfl rfl rfl rfl rfl rfl ⟨rfl, rfl, rfl, rfl, rfl⟩ rfl rfl rfl rfl rfl (by kernel_rfl) Tryz.func7 (by kernel_rfl)
    (of_decide_eq_true (by kernel_rfl)) (by unfold Func.isWrapper; first | (rw [if_pos (by decide +kernel)]; kernel_rfl) | (rw [if_neg (by decide +kernel)]; exact ⟨rfl, rfl⟩))
    (fun os started H enc _ F => by rw [OpenClaim.pre_eq_preRow]; exact lifted os started H enc F)

theorem plain (f : FuncId) (fn : Func) (hf : Tryz.pinned.checked.prog.funcNamed "latchkey/latchkeylaw04.JotPlaces" = some f) (hfn : Tryz.pinned.checked.prog.funcs[f]? = some fn) :
    true = Tryz.pinned.checked.prog.looks [] ∧ ∀ (j : Nat) t, fn.params[j]? = some t → Tryz.pinned.checked.prog.wantsStandIn t = false := by
  obtain rfl : f = 7 := Option.some.inj ((show Tryz.prog.funcNamed "latchkey/latchkeylaw04.JotPlaces" = some 7 by kernel_rfl).symm.trans hf) |>.symm
  obtain rfl : fn = Tryz.f7 := (Option.some.inj (Tryz.func7.symm.trans hfn)).symm
  refine ⟨by kernel_rfl, fun j t ht => ?_⟩
  rw [Tryz.params7] at ht
  have hm : t ∈ [9] := by have := Array.mem_of_getElem? ht; simpa using this
  have hall : ([9].all fun u => !Tryz.prog.wantsStandIn u) = true := by kernel_rfl
  exact (show Tryz.prog.wantsStandIn t = false by simpa using List.all_eq_true.1 hall t hm)

theorem card : Rows.JotPlacesCardSaid :=
  Claim7.holds_tied_plain_at .later [] _ _ _ _ said (fun _ h => by cases h) (by kernel_rfl) (fun _ h => by cases h) jotPlaces_row_tie rfl ⟨rfl, rfl⟩ (by kernel_rfl) rfl plain (by kernel_rfl)
end Go.Proofs.YtmajpambfblhnaaGreatDoor.jotPlaces
