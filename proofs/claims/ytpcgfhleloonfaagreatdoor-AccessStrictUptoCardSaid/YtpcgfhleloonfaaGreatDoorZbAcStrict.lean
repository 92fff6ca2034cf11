/- AccessStrict holds of the given program where what it reads is of bulk at most 1048576: for every list of keys, issuer, text, time and other last part, where the library's tables are as its text lays them, the law's call returns true and its arguments read as before: whatever is taken is, byte for byte, what a key of the list signs for the claims that are told, and whatever else stands in the place of its last part is not taken. Conditions: none but what the given row itself lists. -/
import Derived.Test.YtpcgfhleloonfaaGreatDoorZb16
namespace Go.Proofs.YtpcgfhleloonfaaGreatDoor.accessStrict
open Go.ChangeShapes Go.WideShapes Go.ChangeAt Go.RowKit Go.WideMaps Go.WideElems Jo Ac
open Go.ChangeMaps (open_string shut_string)
set_option maxRecDepth 100000 in
theorem contract (H : Type) (enc : TypeId × Value → H) (W : World) (base : Nat) (args : Array Value) (ds gs : List (DataW H)) (before : List MemPlace)
    (hval : ∀ (j : Nat) t v, Tryz.f6.params[j]? = some t → args[j]? = some v → Value.okWide Tryz.prog W .any base t v)
    (hW : DataW.Whole enc Tryz.prog Tryz.f6.params.toList Rows.accessStrictSpec.vars false W args.toList ds gs before) (hL : laidMetH Tryz.prog Rows.accessStrictUptoRow.laid W) (hsh : W.ShapedOpen Tryz.prog) (hk : Rows.uptoSmall H (ds ++ gs) = true) :
    Calls Tryz.prog 6 args W fun e W' => ∃ v, e = .returned v ∧ Rows.accessStrictSpec.post enc Tryz.prog Tryz.f6 false true false false W args v W' := by
  have hE := env_of hL hsh
  have hW' := hW
  have hlt := hW.lt
  obtain ⟨p, q, hA0, hV, rfl, hfz, hnd⟩ := hW
  have hA : DataW.TrodAll enc Tryz.prog W 0 (fun _ => true) true Tryz.f6.params.toList args.toList ds p := hA0
  rw [Tryz.params6] at hA hval
  obtain ⟨v0, q0, d0, e0, p0, t0, hargs, rfl, rfl, h0, hrest⟩ := trodAll_cons hA
  obtain ⟨v1, q1, d1, e1, p1, t1, rfl, rfl, rfl, h1, hrest⟩ := trodAll_cons hrest
  obtain ⟨v2, q2, d2, e2, p2, t2, rfl, rfl, rfl, h2, hrest⟩ := trodAll_cons hrest
  obtain ⟨v3, q3, d3, e3, p3, t3, rfl, rfl, rfl, h3, hrest⟩ := trodAll_cons hrest
  obtain ⟨v4, q4, d4, e4, p4, t4, rfl, rfl, rfl, h4, hrest⟩ := trodAll_cons hrest
  obtain ⟨rfl, rfl, rfl⟩ := trodAll_nil hrest
  obtain rfl : args = #[v0, v1, v2, v3, v4] := Array.toList_inj.1 hargs
  obtain ⟨rfl, rfl⟩ := trodVars_none hV
  have hb := of_decide_eq_true hk
  simp only [List.append_nil, Rows.uptoBulkAll] at hb
  obtain ⟨ka, kn, kc, rfl⟩ := okWide_slice Tryz.underlying40 (hval 0 40 v0 rfl rfl)
  obtain ⟨keys, hkl, hkn, hks⟩ := keys_arg h0 ⟨_, _, _, rfl⟩
  obtain ⟨s1, rfl, rfl, rfl, hs1⟩ := open_string Tryz.underlying9 (hval 1 9 v1 rfl rfl) h1
  obtain ⟨s2, rfl, rfl, rfl, hs2⟩ := open_string Tryz.underlying9 (hval 2 9 v2 rfl rfl) h2
  obtain ⟨now, rfl, rfl, rfl, hnow⟩ := open_int Tryz.underlying3 (hval 3 3 v3 rfl rfl) h3
  obtain ⟨s4, rfl, rfl, rfl, hs4⟩ := open_string Tryz.underlying9 (hval 4 9 v4 rfl rfl) h4
  obtain ⟨⟨is⟩⟩ := s1
  obtain ⟨⟨s⟩⟩ := s2
  obtain ⟨⟨part⟩⟩ := s4
  have e1 : (ByteArray.mk ⟨is⟩).data.toList.length = is.length := rfl
  have e2 : (ByteArray.mk ⟨s⟩).data.toList.length = s.length := rfl
  have e4 : (ByteArray.mk ⟨part⟩).data.toList.length = part.length := rfl
  simp only [Rows.uptoBulk] at hb
  clear hA0
  simp only [List.append_nil] at hW' hlt
  refine (accStrict_law keys (.slice ka kn kc) is s now part W hE hkl (by omega) (fun k hk => by have := hks k hk; omega) (by omega) (by omega) (by omega)).mono fun e W' ⟨he, hkk⟩ => ?_
  subst he
  exact ⟨_, rfl, post_of_below (ds := [_, _, _, _, _]) (gs := []) (pa := (p0 ++ ([] ++ ([] ++ ([] ++ ([] ++ [])))))) (pv := []) (by simpa using hW') (fun _ _ _ => trodAll_mk1 (shut_bool Tryz.underlying4 _)) (fun sp hsp => by
      rw [Tryz.params6]
      exact ⟨p0, _, (trod_back laidOut (by kernel_rfl) (of_decide_eq_true (by kernel_rfl)) h0 hkk.toBelow (fun x hx => hlt x (by simp [hx])) sp (fun x hx => hsp x (by simp [hx]))), ⟨[], _, (trod_back laidOut (by kernel_rfl) (of_decide_eq_true (by kernel_rfl)) h1 hkk.toBelow (fun x hx => by cases hx) sp (fun x hx => by cases hx)), ⟨[], _, (trod_back laidOut (by kernel_rfl) (of_decide_eq_true (by kernel_rfl)) h2 hkk.toBelow (fun x hx => by cases hx) sp (fun x hx => by cases hx)), ⟨[], _, (trod_back laidOut (by kernel_rfl) (of_decide_eq_true (by kernel_rfl)) h3 hkk.toBelow (fun x hx => by cases hx) sp (fun x hx => by cases hx)), ⟨[], _, (trod_back laidOut (by kernel_rfl) (of_decide_eq_true (by kernel_rfl)) h4 hkk.toBelow (fun x hx => by cases hx) sp (fun x hx => by cases hx)), trodAll_mk0, rfl⟩, rfl⟩, rfl⟩, rfl⟩, rfl⟩) (fun _ _ => rfl) (by simp)
    hkk.toBelow (ok_one (by kernel_rfl) rfl (okWide_bool_mk Tryz.underlying4 _))⟩
abbrev zs : Array Value := #[.slice none 0 0, S [], S [], .int .i64 0, S []]
theorem reads (os : Os) {H : Type} (enc : TypeId × Value → H) : ∃ places, DataW.whole enc Tryz.prog ((laidWorld os).forCall (fun _ _ => 0) ⟨#[], zs, []⟩).memory Tryz.f6.params.toList Rows.accessStrictSpec.vars false zs.toList 8 = some ([.nil, .lit (.string []), .lit (.string []), .lit (.int .i64 0), .lit (.string [])], [], places) :=
  ⟨[], by kernel_rfl⟩
set_option maxRecDepth 100000 in
theorem lifted (os : Os) (started : os.Started) (H : Type) (enc : TypeId × Value → H) (F : Stop.Interp) :
    ReturnsInHanded {} Tryz.checked os 6 .any ((Rows.OpenSpec.upto Rows.accessStrictSpec).preRow enc Tryz.prog Tryz.f6 Rows.accessStrictUptoRow.domain false Rows.accessStrictUptoRow.laid) (((Rows.OpenSpec.upto Rows.accessStrictSpec).at F).post enc Tryz.prog Tryz.f6 false true false false) := by
  obtain ⟨places, hx⟩ := reads os enc
  refine returnsInHanded_of_row (C := Tryz.checked) (s := Rows.OpenSpec.upto Rows.accessStrictSpec) own started (by kernel_rfl) Tryz.func6
    (witness_row (enc := enc) (C := Tryz.checked) (laidWorld os) zs (World.laidAll_os _ _ _) (World.shaped_of_ZipB (by kernel_rfl) (by kernel_rfl)) (by kernel_rfl)
      (OpenSpec.preRow_of_cond 8 hx (by kernel_rfl) (fun k hk => by cases hk; kernel_rfl) (by kernel_rfl) (laid_met os _))) ?_
  intro W base args ds gs before hval hW _ hcond _ hL hsh _
  exact contract H enc W base args ds gs before hval hW hL hsh (hcond _ rfl)
theorem said : Rows.AccessStrictUptoSaid :=
  OpenClaim.holds_of_cond 6 Tryz.f6 rfl rfl rfl rfl rfl rfl rfl ⟨rfl, rfl, rfl, rfl, rfl⟩ rfl rfl rfl rfl rfl (by kernel_rfl) Tryz.func6 (by kernel_rfl)
    (of_decide_eq_true (by kernel_rfl)) (by unfold Func.isWrapper; first | (rw [if_pos (by decide +kernel)]; kernel_rfl) | (rw [if_neg (by decide +kernel)]; exact ⟨rfl, rfl⟩))
    (fun os started H enc _ F => by rw [OpenClaim.pre_eq_preRow]; exact lifted os started H enc F)
theorem plain (f : FuncId) (fn : Func) (hf : Tryz.pinned.checked.prog.funcNamed "latchkey/latchkeylaw23.AccessStrict" = some f) (hfn : Tryz.pinned.checked.prog.funcs[f]? = some fn) :
    true = Tryz.pinned.checked.prog.looks [] ∧ ∀ (j : Nat) t, fn.params[j]? = some t → Tryz.pinned.checked.prog.wantsStandIn t = false := by
  obtain rfl : f = 6 := Option.some.inj ((show Tryz.prog.funcNamed "latchkey/latchkeylaw23.AccessStrict" = some 6 by kernel_rfl).symm.trans hf) |>.symm
  obtain rfl : fn = Tryz.f6 := (Option.some.inj (Tryz.func6.symm.trans hfn)).symm
  refine ⟨by kernel_rfl, fun j t ht => ?_⟩
  rw [Tryz.params6] at ht
  have hm : t ∈ [40, 9, 9, 3, 9] := by have := Array.mem_of_getElem? ht; simpa using this
  have hall : ([40, 9, 9, 3, 9].all fun u => !Tryz.prog.wantsStandIn u) = true := by kernel_rfl
  exact (show Tryz.prog.wantsStandIn t = false by simpa using List.all_eq_true.1 hall t hm)
theorem card : Rows.AccessStrictUptoCardSaid :=
  Claim7.holds_tied_plain_at .later [] _ _ _ _ said (fun _ h => by cases h) (by kernel_rfl) (fun _ h => by cases h) accessStrictUpto_row_tie rfl ⟨rfl, rfl⟩ (by kernel_rfl) rfl plain (by kernel_rfl)
end Go.Proofs.YtpcgfhleloonfaaGreatDoor.accessStrict
