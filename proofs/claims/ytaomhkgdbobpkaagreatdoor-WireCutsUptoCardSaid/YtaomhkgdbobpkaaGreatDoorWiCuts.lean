/- WireCuts holds of the given program where what it reads is of bulk at most 1048576: for every messages, text behind them and raw numbers, where the library's tables are as its text lays them, the law's call returns true and its arguments read as before: however the printed bytes are cut, behind each piece the messages that were told and the error are those that one Feed of all that has come tells of a fresh reader; the first ones are those that were printed. Conditions: none but what the given row itself lists. -/
import Derived.Test.YtaomhkgdbobpkaaGreatDoorWiRow2
namespace Go.Proofs.YtaomhkgdbobpkaaGreatDoor.wireCuts
open Go.ChangeShapes Go.WideShapes Go.ChangeAt Go.RowKit Go.WideMaps Go.WideElems Wi
open Go.ChangeMaps (open_string shut_string)

set_option maxRecDepth 100000 in
theorem contract (H : Type) (enc : TypeId × Value → H) (W : World) (base : Nat) (args : Array Value) (ds gs : List (DataW H)) (before : List MemPlace)
    (hval : ∀ (j : Nat) t v, Tryz.f4.params[j]? = some t → args[j]? = some v → Value.okWide Tryz.prog W .any base t v)
    (hW : DataW.Whole enc Tryz.prog Tryz.f4.params.toList Rows.wireCutsSpec.vars false W args.toList ds gs before) (hL : laidMetH Tryz.prog Rows.wireCutsUptoRow.laid W) (hsh : W.ShapedOpen Tryz.prog) (hk : Rows.uptoSmall H (ds ++ gs) = true) :
    Calls Tryz.prog 4 args W fun e W' => ∃ v, e = .returned v ∧ Rows.wireCutsSpec.post enc Tryz.prog Tryz.f4 false true false false W args v W' := by
  have hE : WE W.heap.size W := env_of hL hsh
  have hW' := hW
  have hlt := hW.lt
  obtain ⟨p, q, hA0, hV, rfl, hfz, hnd⟩ := hW
  have hA : DataW.TrodAll enc Tryz.prog W 0 (fun _ => true) true Tryz.f4.params.toList args.toList ds p := hA0
  rw [Tryz.params4] at hA hval
  obtain ⟨v0, v1, v2, d0, d1, d2, p0, p1, p2, rfl, rfl, rfl, h0, h1, h2⟩ := trodAll_three hA
  obtain ⟨rfl, rfl⟩ := trodVars_none hV
  obtain ⟨ra, rl, rc, rfl⟩ := okWide_slice Tryz.underlying39 (hval 0 39 v0 rfl rfl)
  obtain ⟨s1, rfl, rfl, rfl, hs1⟩ := open_string Tryz.underlying9 (hval 1 9 v1 rfl rfl) h1
  obtain ⟨ca, cl, cc, rfl⟩ := okWide_slice Tryz.underlying35 (hval 2 35 v2 rfl rfl)
  obtain ⟨⟨tail⟩⟩ := s1
  obtain ⟨ms, rfl, hr, hsum⟩ := msgs_arg h0
  obtain ⟨hC, hcb⟩ := ints_arg h2
  have hb : Rows.uptoBulk d0 + Rows.uptoBulk d2 + tail.length ≤ 1048576 := by
    have h := of_decide_eq_true hk
    simp only [List.append_nil, Rows.uptoBulkAll, Rows.uptoBulk] at h
    have e : (ByteArray.mk ⟨tail⟩).data.toList.length = tail.length := rfl
    omega
  clear hA0
  simp only [List.append_nil] at hW' hlt
  refine (cuts_law ms _ tail ca cl cc W hE hr hC (by omega) (by omega)).mono fun e W' ⟨he, hkk⟩ => ?_
  subst he
  exact ⟨_, rfl, post_of_below (ds := [d0, _, d2]) (gs := []) (pa := p0 ++ ([] ++ p2)) (pv := []) (by simpa using hW') (fun _ _ _ => trodAll_mk1 (shut_bool Tryz.underlying4 _)) (fun sp hsp => by
      rw [Tryz.params4]
      exact trodAll_mk3 (trod_back laidOut (by kernel_rfl) (of_decide_eq_true (by kernel_rfl)) h0 hkk.toBelow (fun x hx => hlt x (by simp [hx])) sp (fun x hx => hsp x (by simp [hx])))
        (trod_back laidOut (by kernel_rfl) (of_decide_eq_true (by kernel_rfl)) h1 hkk.toBelow (fun x hx => by cases hx) sp (fun x hx => by cases hx))
        (trod_back laidOut (by kernel_rfl) (of_decide_eq_true (by kernel_rfl)) h2 hkk.toBelow (fun x hx => hlt x (by simp [hx])) sp (fun x hx => hsp x (by simp [hx])))) (fun _ _ => rfl) (by simp)
    hkk.toBelow (ok_one (by kernel_rfl) rfl (okWide_bool_mk Tryz.underlying4 _))⟩

abbrev sn : Value := .slice none 0 0
theorem reads (os : Os) {H : Type} (enc : TypeId × Value → H) : ∃ places, DataW.whole enc Tryz.prog ((laidWorld os).forCall (fun _ _ => 0) ⟨#[], #[sn, S [], sn], []⟩).memory Tryz.f4.params.toList Rows.wireCutsSpec.vars false #[sn, S [], sn].toList 8 = some ([.nil, .lit (.string []), .nil], [], places) :=
  ⟨[], by kernel_rfl⟩
set_option maxRecDepth 100000 in
theorem lifted (os : Os) (started : os.Started) (H : Type) (enc : TypeId × Value → H) (F : Stop.Interp) :
    ReturnsInHanded {} Tryz.checked os 4 .any ((Rows.OpenSpec.upto Rows.wireCutsSpec).preRow enc Tryz.prog Tryz.f4 Rows.wireCutsUptoRow.domain false Rows.wireCutsUptoRow.laid) (((Rows.OpenSpec.upto Rows.wireCutsSpec).at F).post enc Tryz.prog Tryz.f4 false true false false) := by
  obtain ⟨places, hx⟩ := reads os enc
  refine returnsInHanded_of_row (C := Tryz.checked) (s := Rows.OpenSpec.upto Rows.wireCutsSpec) own started (by kernel_rfl) Tryz.func4
    (witness_row (enc := enc) (C := Tryz.checked) (laidWorld os) #[sn, S [], sn] (World.laidAll_os _ _ _) (World.shaped_of_ZipB (by kernel_rfl) (by kernel_rfl)) (by kernel_rfl)
      (OpenSpec.preRow_of_cond 8 hx (by kernel_rfl) (fun k hk => by cases hk; kernel_rfl) (by kernel_rfl) (laid_met os _))) ?_
  intro W base args ds gs before hval hW _ hcond _ hL hsh _
  exact contract H enc W base args ds gs before hval hW hL hsh (hcond _ rfl)

theorem said : Rows.WireCutsUptoSaid :=
  OpenClaim.holds_of_cond 4 Tryz.f4 rfl rfl rfl rfl rfl rfl rfl ⟨rfl, rfl, rfl, rfl, rfl⟩ rfl rfl rfl rfl rfl (by kernel_rfl) Tryz.func4 (by kernel_rfl)
    (of_decide_eq_true (by kernel_rfl)) (by unfold Func.isWrapper; first | (rw [if_pos (by decide +kernel)]; kernel_rfl) | (rw [if_neg (by decide +kernel)]; exact ⟨rfl, rfl⟩))
    (fun os started H enc _ F => by rw [OpenClaim.pre_eq_preRow]; exact lifted os started H enc F)

theorem plain (f : FuncId) (fn : Func) (hf : Tryz.pinned.checked.prog.funcNamed "latchkey/latchkeylaw05.WireCuts" = some f) (hfn : Tryz.pinned.checked.prog.funcs[f]? = some fn) :
    true = Tryz.pinned.checked.prog.looks [] ∧ ∀ (j : Nat) t, fn.params[j]? = some t → Tryz.pinned.checked.prog.wantsStandIn t = false := by
  obtain rfl : f = 4 := Option.some.inj ((show Tryz.prog.funcNamed "latchkey/latchkeylaw05.WireCuts" = some 4 by kernel_rfl).symm.trans hf) |>.symm
  obtain rfl : fn = Tryz.f4 := (Option.some.inj (Tryz.func4.symm.trans hfn)).symm
  refine ⟨by kernel_rfl, fun j t ht => ?_⟩
  rw [Tryz.params4] at ht
  have hm : t ∈ [39, 9, 35] := by have := Array.mem_of_getElem? ht; simpa using this
  have hall : ([39, 9, 35].all fun u => !Tryz.prog.wantsStandIn u) = true := by kernel_rfl
  exact (show Tryz.prog.wantsStandIn t = false by simpa using List.all_eq_true.1 hall t hm)

theorem card : Rows.WireCutsUptoCardSaid :=
  Claim7.holds_tied_plain_at .later [] _ _ _ _ said (fun _ h => by cases h) (by kernel_rfl) (fun _ h => by cases h) wireCutsUpto_row_tie rfl ⟨rfl, rfl⟩ (by kernel_rfl) rfl plain (by kernel_rfl)
end Go.Proofs.YtaomhkgdbobpkaaGreatDoor.wireCuts
