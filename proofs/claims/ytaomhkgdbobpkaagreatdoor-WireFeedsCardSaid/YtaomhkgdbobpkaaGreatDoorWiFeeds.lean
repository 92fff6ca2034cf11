/- WireFeeds holds of the given program: for every row of pieces, where the library's tables are as its text lays them, the law's call returns true and its argument reads as before: two readers, that any pieces come to in turns, tell the messages and the error that the document's readers tell, piece by piece, and what they wait for; the lists that come out are somebody's own. Conditions: none but what the given row itself lists. -/
import Derived.Test.YtaomhkgdbobpkaaGreatDoorWiRow
import Derived.Test.YtaomhkgdbobpkaaGreatDoorWiTE
namespace Go.Proofs.YtaomhkgdbobpkaaGreatDoor.wireFeeds
open Go.ChangeShapes Go.WideShapes Go.ChangeAt Go.RowKit Go.WideMaps Go.WideElems Go.Lib Go.Deep Wi
open Go.ChangeMaps (open_string shut_string)

theorem structPiece : ∃ f0 f1 : Field, Tryz.prog.underlying 25 = some (.struct #[f0, f1]) ∧ f0.type = 3 ∧ f1.type = 9 ∧ oneCellFields Tryz.prog #[f0, f1] = true :=
  ⟨_, _, Tryz.underlying25, rfl, rfl, by kernel_rfl⟩
theorem cellsPiece : Tryz.prog.cellsOf 25 = 2 := by kernel_rfl
section
variable {H : Type} {enc : TypeId × Value → H} {W : World} {sp : Nat → Bool}
set_option maxRecDepth 100000 in
theorem pcs_arg {ra : Option Addr} {rl rc : Nat} {d : DataW H} {p : List MemPlace} (h : DataW.Trod enc Tryz.prog W 0 sp true 22 (.slice ra rl rc) d p) : ∃ ps : List (Int × List UInt8), rl = ps.length ∧ PcIn ra ps W := by
  obtain ⟨fuel, hf⟩ := h
  obtain ⟨f0, f1, hst, t0, t1, hone⟩ := structPiece
  have hf : DataW.trod enc Tryz.prog W 0 sp true fuel 22 [.slice ra rl rc] = some (d, p) := hf
  rcases DataW.trod_slice Tryz.underlying22 hf with ⟨hc, -⟩ | ⟨a, len, cap, elems, rest, n, rfl, hc, -, _, hl, hm, hlen, hel, _, _⟩
  · obtain ⟨rfl, rfl, rfl⟩ : ra = none ∧ rl = 0 ∧ rc = 0 := by simpa using hc
    exact ⟨[], rfl, ⟨by simp, fun i x hx => by simp at hx⟩⟩
  · obtain ⟨rfl, rfl, rfl⟩ : ra = some a ∧ rl = len ∧ rc = cap := by simpa using hc
    rw [cellsPiece] at hel
    have hp : ∀ i, i < rl → ∃ f : Int × List UInt8, W.cell? (a.add (i * 2)) = some (.int .i64 f.1) ∧ W.cell? ((a.add (i * 2)).add 1) = some (S f.2) ∧ (-9223372036854775808 ≤ f.1 ∧ f.1 ≤ 9223372036854775807) ∧ f.2.length ≤ 9223372036854775807 := by
      intro i hi
      have h1 := hel i hi
      have he : elems[i]? = some (elems[i]'(by omega)) := List.getElem?_eq_getElem (by omega)
      rw [he] at h1
      obtain ⟨cs, hcs, ht⟩ := Option.bind_eq_some_iff.1 h1
      obtain ⟨_, hcl, hat⟩ := World.cells?_some hcs
      obtain ⟨xs, n', rfl, hx, hcl2, hxl, hf⟩ := DataW.trod_struct hst ht
      obtain ⟨c0, c1, rfl⟩ : ∃ c0 c1, cs = [c0, c1] := by
        match cs, (show cs.length = 2 from hcl) with
        | [a, b], _ => exact ⟨a, b, rfl⟩
      obtain ⟨x0, x1, rfl⟩ : ∃ c0 c1, xs = [c0, c1] := by
        match xs, (show xs.length = 2 from hxl) with
        | [a, b], _ => exact ⟨a, b, rfl⟩
      have g0 := hf 0 f0 rfl
      have g1 := hf 1 f1 rfl
      rw [(hone_of hone 0 f0 rfl).1, (hone_of hone 0 f0 rfl).2, t0] at g0
      rw [(hone_of hone 1 f1 rfl).1, (hone_of hone 1 f1 rfl).2, t1] at g1
      replace g0 : DataW.trod enc Tryz.prog W 0 sp true n' 3 [c0] = some x0 := g0
      replace g1 : DataW.trod enc Tryz.prog W 0 sp true n' 9 [c1] = some x1 := g1
      obtain ⟨k, e0, -, w0⟩ := DataW.trod_int Tryz.underlying3 g0
      obtain rfl : c0 = .int .i64 k := by simpa using e0
      obtain ⟨s1, e1, -, w1⟩ := DataW.trod_string Tryz.underlying9 g1
      obtain rfl : c1 = .string s1 := by simpa using e1
      have k0 := hat 0 (by omega)
      have k1 := hat 1 (by omega)
      have ha0 : (a.add (i * 2)).add 0 = a.add (i * 2) := by unfold Addr.add; split <;> simp_all
      rw [ha0] at k0
      refine ⟨(k, s1.data.toList), k0, k1, ?_, ?_⟩
      · simp [Lit.wf] at w0
        exact ⟨w0.1, w0.2⟩
      · unfold maxLen at w1
        have e : s1.size = s1.data.toList.length := by rw [Array.length_toList]; rfl
        show s1.data.toList.length ≤ _
        omega
    have : Inhabited (Int × List UInt8) := ⟨(0, [])⟩
    obtain ⟨f, hf⟩ := choose_lt hp
    have hnl : ((List.range rl).map f).length = rl := by rw [List.length_map, List.length_range]
    have hget : ∀ (j : Nat) l, ((List.range rl).map f)[j]? = some l → j < rl ∧ l = f j := by
      intro j l hj
      have hjl : j < rl := by have := (List.getElem?_eq_some_iff.1 hj).1; omega
      rw [List.getElem?_map, List.getElem?_range hjl] at hj
      exact ⟨hjl, by simpa using hj.symm⟩
    refine ⟨(List.range rl).map f, by rw [hnl], ⟨by rw [hnl]; unfold maxLen at hm; omega, fun i x hx => ?_⟩⟩
    obtain ⟨hi, rfl⟩ := hget i x hx
    obtain ⟨k0, k1, k2, k3⟩ := hf i hi
    obtain ⟨b, off, spot⟩ := a
    have c0 := (hf 0 (by omega)).1
    have hspot : spot = none := by simpa [Addr.add] using World.cell?_spot c0
    subst hspot
    rw [addr_add] at k0 k1
    rw [addr_add] at k1
    exact ⟨b, off, rfl, cell_isLt k0, k0, k1, k2, k3⟩
end
set_option maxRecDepth 100000 in
theorem contract (H : Type) (enc : TypeId × Value → H) (W : World) (base : Nat) (args : Array Value) (ds gs : List (DataW H)) (before : List MemPlace)
    (hval : ∀ (j : Nat) t v, Tryz.f3.params[j]? = some t → args[j]? = some v → Value.okWide Tryz.prog W .any base t v)
    (hW : DataW.Whole enc Tryz.prog Tryz.f3.params.toList Rows.wireFeedsSpec.vars false W args.toList ds gs before) (hL : laidMetH Tryz.prog Rows.wireFeedsRow.laid W) (hsh : W.ShapedOpen Tryz.prog) :
    Calls Tryz.prog 3 args W fun e W' => ∃ v, e = .returned v ∧ Rows.wireFeedsSpec.post enc Tryz.prog Tryz.f3 false true false false W args v W' := by
  have hE : WE W.heap.size W := env_of hL hsh
  have hW' := hW
  have hlt := hW.lt
  obtain ⟨p, q, hA0, hV, rfl, hfz, hnd⟩ := hW
  have hA : DataW.TrodAll enc Tryz.prog W 0 (fun _ => true) true Tryz.f3.params.toList args.toList ds p := hA0
  rw [Tryz.params3] at hA hval
  obtain ⟨v0, d0, rfl, rfl, h0⟩ := trodAll_one hA
  obtain ⟨rfl, rfl⟩ := trodVars_none hV
  obtain ⟨pa, pl, pc, rfl⟩ := okWide_slice Tryz.underlying22 (hval 0 22 v0 rfl rfl)
  obtain ⟨ps, rfl, hps⟩ := pcs_arg h0
  clear hA0
  simp only [List.append_nil] at hW' hlt
  refine (feeds_law pa pc ps W hE hps).mono fun e W' ⟨he, hkk⟩ => ?_
  subst he
  exact ⟨_, rfl, post_of_below (ds := [d0]) (gs := []) (pa := p) (pv := []) (by simpa using hW') (fun _ _ _ => trodAll_mk1 (shut_bool Tryz.underlying4 _)) (fun sp hsp => by
      rw [Tryz.params3]
      exact trodAll_mk1 (trod_back laidOut (by kernel_rfl) (of_decide_eq_true (by kernel_rfl)) h0 hkk.toBelow (fun x hx => hlt x (by simp [hx])) sp (fun x hx => hsp x (by simp [hx])))) (fun _ _ => rfl) (by simp)
    hkk.toBelow (ok_one (by kernel_rfl) rfl (okWide_bool_mk Tryz.underlying4 _))⟩

theorem reads (os : Os) {H : Type} (enc : TypeId × Value → H) : ∃ places, DataW.whole enc Tryz.prog ((laidWorld os).forCall (fun _ _ => 0) ⟨#[], #[.slice none 0 0], []⟩).memory Tryz.f3.params.toList Rows.wireFeedsSpec.vars false #[.slice none 0 0].toList 8 = some ([.nil], [], places) :=
  ⟨[], by kernel_rfl⟩
set_option maxRecDepth 100000 in
theorem lifted (os : Os) (started : os.Started) (H : Type) (enc : TypeId × Value → H) (F : Stop.Interp) :
    ReturnsInHanded {} Tryz.checked os 3 .any ((OpenSpec.ofChange Rows.wireFeedsSpec).preRow enc Tryz.prog Tryz.f3 Rows.wireFeedsRow.domain false Rows.wireFeedsRow.laid) (((OpenSpec.ofChange Rows.wireFeedsSpec).at F).post enc Tryz.prog Tryz.f3 false true false false) := by
  obtain ⟨places, hx⟩ := reads os enc
  refine returnsInHanded_of_row (C := Tryz.checked) (s := OpenSpec.ofChange Rows.wireFeedsSpec) own started (by kernel_rfl) Tryz.func3
    (witness_row (enc := enc) (C := Tryz.checked) (laidWorld os) #[.slice none 0 0] (World.laidAll_os _ _ _) (World.shaped_of_ZipB (by kernel_rfl) (by kernel_rfl)) (by kernel_rfl)
      (OpenSpec.preRow_of_cond 8 hx (by kernel_rfl) (fun k hk => by cases hk) (by kernel_rfl) (laid_met os _))) ?_
  intro W base args ds gs before hval hW _ _ _ hL hsh _
  exact contract H enc W base args ds gs before hval hW hL hsh

theorem said : Rows.WireFeedsSaid :=
  OpenClaim.holds_of_cond 3 Tryz.f3 rfl rfl rfl rfl rfl rfl rfl ⟨rfl, rfl, rfl, rfl, rfl⟩ rfl rfl rfl rfl rfl (by kernel_rfl) Tryz.func3 (by kernel_rfl)
    (of_decide_eq_true (by kernel_rfl)) (by unfold Func.isWrapper; first | (rw [if_pos (by decide +kernel)]; kernel_rfl) | (rw [if_neg (by decide +kernel)]; exact ⟨rfl, rfl⟩))
    (fun os started H enc _ F => by rw [OpenClaim.pre_eq_preRow]; exact lifted os started H enc F)

theorem plain (f : FuncId) (fn : Func) (hf : Tryz.pinned.checked.prog.funcNamed "latchkey/latchkeylaw05.WireFeeds" = some f) (hfn : Tryz.pinned.checked.prog.funcs[f]? = some fn) :
    true = Tryz.pinned.checked.prog.looks [] ∧ ∀ (j : Nat) t, fn.params[j]? = some t → Tryz.pinned.checked.prog.wantsStandIn t = false := by
  obtain rfl : f = 3 := Option.some.inj ((show Tryz.prog.funcNamed "latchkey/latchkeylaw05.WireFeeds" = some 3 by kernel_rfl).symm.trans hf) |>.symm
  obtain rfl : fn = Tryz.f3 := (Option.some.inj (Tryz.func3.symm.trans hfn)).symm
  refine ⟨by kernel_rfl, fun j t ht => ?_⟩
  rw [Tryz.params3] at ht
  have hm : t ∈ [22] := by have := Array.mem_of_getElem? ht; simpa using this
  have hall : ([22].all fun u => !Tryz.prog.wantsStandIn u) = true := by kernel_rfl
  exact (show Tryz.prog.wantsStandIn t = false by simpa using List.all_eq_true.1 hall t hm)

theorem card : Rows.WireFeedsCardSaid :=
  Claim7.holds_tied_plain_at .later [] _ _ _ _ said (fun _ h => by cases h) (by kernel_rfl) (fun _ h => by cases h) wireFeeds_row_tie rfl ⟨rfl, rfl⟩ (by kernel_rfl) rfl plain (by kernel_rfl)
end Go.Proofs.YtaomhkgdbobpkaaGreatDoor.wireFeeds
