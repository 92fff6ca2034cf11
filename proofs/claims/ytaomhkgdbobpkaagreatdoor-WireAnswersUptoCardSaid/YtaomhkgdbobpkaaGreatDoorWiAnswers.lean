/- WireAnswers holds of the given program where what it reads is of bulk at most 1048576: for every text, answer and two numbers, where the library's tables are as its text lays them, the law's call returns true and its arguments read as before: any text, and the printed form of an answer that may be, whole, with more behind it, cut, or with another byte, is read as the document reads it, twice, and the lists that come out are somebody's own. Conditions: none but what the given row itself lists. -/
import Derived.Test.YtaomhkgdbobpkaaGreatDoorWiRow
import Derived.Test.YtaomhkgdbobpkaaGreatDoorWiT8
namespace Go.Proofs.YtaomhkgdbobpkaaGreatDoor.wireAnswers
open Go.ChangeShapes Go.WideShapes Go.ChangeAt Go.RowKit Go.WideMaps Go.WideElems Wi
open Go.ChangeMaps (open_string shut_string)

set_option maxRecDepth 100000 in
theorem contract (H : Type) (enc : TypeId × Value → H) (W : World) (base : Nat) (args : Array Value) (ds gs : List (DataW H)) (before : List MemPlace)
    (hval : ∀ (j : Nat) t v, Tryz.f6.params[j]? = some t → args[j]? = some v → Value.okWide Tryz.prog W .any base t v)
    (hW : DataW.Whole enc Tryz.prog Tryz.f6.params.toList Rows.wireAnswersSpec.vars false W args.toList ds gs before) (hL : laidMetH Tryz.prog Rows.wireAnswersUptoRow.laid W) (hsh : W.ShapedOpen Tryz.prog) (hk : Rows.uptoSmall H (ds ++ gs) = true) :
    Calls Tryz.prog 6 args W fun e W' => ∃ v, e = .returned v ∧ Rows.wireAnswersSpec.post enc Tryz.prog Tryz.f6 false true false false W args v W' := by
  have hE : WE W.heap.size W := env_of hL hsh
  have hW' := hW
  have hlt := hW.lt
  obtain ⟨p, q, hA0, hV, rfl, hfz, hnd⟩ := hW
  have hA : DataW.TrodAll enc Tryz.prog W 0 (fun _ => true) true Tryz.f6.params.toList args.toList ds p := hA0
  rw [Tryz.params6] at hA hval
  obtain ⟨v0, v1, v2, v3, d0, d1, d2, d3, p0, p1, p2, p3, rfl, rfl, rfl, h0, h1, h2, h3⟩ := trodAll_four hA
  obtain ⟨rfl, rfl⟩ := trodVars_none hV
  obtain ⟨s0, rfl, rfl, rfl, hs0⟩ := open_string Tryz.underlying9 (hval 0 9 v0 rfl rfl) h0
  obtain ⟨x, va, rfl, hra, hst, hba⟩ := ans_arg h1
  obtain ⟨pl, rfl, rfl, rfl, hpl⟩ := open_int Tryz.underlying3 (hval 2 3 v2 rfl rfl) h2
  obtain ⟨bl, rfl, rfl, rfl, hbl⟩ := open_int Tryz.underlying3 (hval 3 3 v3 rfl rfl) h3
  obtain ⟨⟨tx⟩⟩ := s0
  have hplr : -9223372036854775808 ≤ pl ∧ pl ≤ 9223372036854775807 := by
    simp [Lit.wf] at hpl
    exact ⟨hpl.1, hpl.2⟩
  have hb : tx.length + Rows.uptoBulk d1 ≤ 1048576 := by
    have h := of_decide_eq_true hk
    simp only [List.append_nil, Rows.uptoBulkAll, Rows.uptoBulk] at h
    have e : (ByteArray.mk ⟨tx⟩).data.toList.length = tx.length := rfl
    omega
  have hsz : 2 * tx.length + 2 * toldNn x.hs x.body ≤ 2147483647 := by
    unfold toldNn
    omega
  clear hA0
  simp only [List.append_nil] at hW' hlt
  refine (answers_law tx x va pl bl W hE hra hst hplr hsz).mono fun e W' ⟨he, hkk⟩ => ?_
  subst he
  exact ⟨_, rfl, post_of_below (ds := [_, d1, _, _]) (gs := []) (pa := [] ++ (p1 ++ ([] ++ []))) (pv := []) (by simpa using hW') (fun _ _ _ => trodAll_mk1 (shut_bool Tryz.underlying4 _)) (fun sp hsp => by
      rw [Tryz.params6]
      exact trodAll_mk4 (trod_back laidOut (by kernel_rfl) (of_decide_eq_true (by kernel_rfl)) h0 hkk.toBelow (fun x hx => by cases hx) sp (fun x hx => by cases hx))
        (trod_back laidOut (by kernel_rfl) (of_decide_eq_true (by kernel_rfl)) h1 hkk.toBelow (fun x hx => hlt x (by simp [hx])) sp (fun x hx => hsp x (by simp [hx])))
        (trod_back laidOut (by kernel_rfl) (of_decide_eq_true (by kernel_rfl)) h2 hkk.toBelow (fun x hx => by cases hx) sp (fun x hx => by cases hx))
        (trod_back laidOut (by kernel_rfl) (of_decide_eq_true (by kernel_rfl)) h3 hkk.toBelow (fun x hx => by cases hx) sp (fun x hx => by cases hx))) (fun _ _ => rfl) (by simp)
    hkk.toBelow (ok_one (by kernel_rfl) rfl (okWide_bool_mk Tryz.underlying4 _))⟩

abbrev za : Value := .agg #[.int .i64 0, .slice none 0 0, S []]
abbrev da {H : Type} : DataW H := .agg [.lit (.int .i64 0), .nil, .lit (.string [])]
theorem reads (os : Os) {H : Type} (enc : TypeId × Value → H) : ∃ places, DataW.whole enc Tryz.prog ((laidWorld os).forCall (fun _ _ => 0) ⟨#[], #[S [], za, .int .i64 0, .int .i64 0], []⟩).memory Tryz.f6.params.toList Rows.wireAnswersSpec.vars false #[S [], za, .int .i64 0, .int .i64 0].toList 8 = some ([.lit (.string []), da, .lit (.int .i64 0), .lit (.int .i64 0)], [], places) :=
  ⟨[], by kernel_rfl⟩
set_option maxRecDepth 100000 in
theorem lifted (os : Os) (started : os.Started) (H : Type) (enc : TypeId × Value → H) (F : Stop.Interp) :
    ReturnsInHanded {} Tryz.checked os 6 .any ((Rows.OpenSpec.upto Rows.wireAnswersSpec).preRow enc Tryz.prog Tryz.f6 Rows.wireAnswersUptoRow.domain false Rows.wireAnswersUptoRow.laid) (((Rows.OpenSpec.upto Rows.wireAnswersSpec).at F).post enc Tryz.prog Tryz.f6 false true false false) := by
  obtain ⟨places, hx⟩ := reads os enc
  refine returnsInHanded_of_row (C := Tryz.checked) (s := Rows.OpenSpec.upto Rows.wireAnswersSpec) own started (by kernel_rfl) Tryz.func6
    (witness_row (enc := enc) (C := Tryz.checked) (laidWorld os) #[S [], za, .int .i64 0, .int .i64 0] (World.laidAll_os _ _ _) (World.shaped_of_ZipB (by kernel_rfl) (by kernel_rfl)) (by kernel_rfl)
      (OpenSpec.preRow_of_cond 8 hx (by kernel_rfl) (fun k hk => by cases hk; kernel_rfl) (by kernel_rfl) (laid_met os _))) ?_
  intro W base args ds gs before hval hW _ hcond _ hL hsh _
  exact contract H enc W base args ds gs before hval hW hL hsh (hcond _ rfl)

theorem said : Rows.WireAnswersUptoSaid :=
  OpenClaim.holds_of_cond 6 Tryz.f6 rfl rfl rfl rfl rfl rfl rfl ⟨rfl, rfl, rfl, rfl, rfl⟩ rfl rfl rfl rfl rfl (by kernel_rfl) Tryz.func6 (by kernel_rfl)
    (of_decide_eq_true (by kernel_rfl)) (by unfold Func.isWrapper; first | (rw [if_pos (by decide +kernel)]; kernel_rfl) | (rw [if_neg (by decide +kernel)]; exact ⟨rfl, rfl⟩))
    (fun os started H enc _ F => by rw [OpenClaim.pre_eq_preRow]; exact lifted os started H enc F)

theorem plain (f : FuncId) (fn : Func) (hf : Tryz.pinned.checked.prog.funcNamed "latchkey/latchkeylaw05.WireAnswers" = some f) (hfn : Tryz.pinned.checked.prog.funcs[f]? = some fn) :
    true = Tryz.pinned.checked.prog.looks [] ∧ ∀ (j : Nat) t, fn.params[j]? = some t → Tryz.pinned.checked.prog.wantsStandIn t = false := by
  obtain rfl : f = 6 := Option.some.inj ((show Tryz.prog.funcNamed "latchkey/latchkeylaw05.WireAnswers" = some 6 by kernel_rfl).symm.trans hf) |>.symm
  obtain rfl : fn = Tryz.f6 := (Option.some.inj (Tryz.func6.symm.trans hfn)).symm
  refine ⟨by kernel_rfl, fun j t ht => ?_⟩
  rw [Tryz.params6] at ht
  have hm : t ∈ [9, 56, 3] := by have := Array.mem_of_getElem? ht; simpa using this
  have hall : ([9, 56, 3].all fun u => !Tryz.prog.wantsStandIn u) = true := by kernel_rfl
  exact (show Tryz.prog.wantsStandIn t = false by simpa using List.all_eq_true.1 hall t hm)

theorem card : Rows.WireAnswersUptoCardSaid :=
  Claim7.holds_tied_plain_at .later [] _ _ _ _ said (fun _ h => by cases h) (by kernel_rfl) (fun _ h => by cases h) wireAnswersUpto_row_tie rfl ⟨rfl, rfl⟩ (by kernel_rfl) rfl plain (by kernel_rfl)
end Go.Proofs.YtaomhkgdbobpkaaGreatDoor.wireAnswers
