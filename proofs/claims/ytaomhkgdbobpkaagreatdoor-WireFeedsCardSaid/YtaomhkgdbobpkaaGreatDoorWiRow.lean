/- What every wire law's proof shares: the witness, the library's variables out of what the row lists, the row's last step behind 'Below'; arguments that are answers and messages. -/
import Derived.Test.YtaomhkgdbobpkaaGreatDoorCards
import Derived.Test.YtaomhkgdbobpkaaGreatDoorTie
import Derived.WalkKit
import Derived.ProofKit
import Derived.OpenShut
import Derived.Deep.DeepHandedRow
import Derived.Lib.LaidTab
import Derived.PinnedBridge
import Derived.Lay
import Derived.Deep.Slices
import Derived.Deep.Fields
import Derived.ChangeSame
import Derived.Carry
import Derived.Test.YtaomhkgdbobpkaaGreatDoorWiLX
namespace Go.Proofs.YtaomhkgdbobpkaaGreatDoor
open Go.ChangeShapes Go.WideShapes Go.ChangeAt Go.RowKit Go.Lib Go.Deep Wi

section
variable {H : Type} {enc : TypeId × Value → H}
theorem witness_row {C : Checked} {os : Os} {f : FuncId} {fn : Func} {s : OpenSpec} {conds : List PathCond} {apart : Bool} {laid : List (String × DataW Unit)} (w0 : World) (args : Array Value) (hos : w0.os = os)
    (hsh : (w0.forCall (fun _ _ => 0) ⟨#[], args, []⟩).Shaped C.prog)
    (hok : Input.okWideB C.prog (w0.forCall (fun _ _ => 0) ⟨#[], args, []⟩) f ⟨#[], args, []⟩ = true)
    (hrow : s.preRow enc C.prog fn conds apart laid (w0.forCall (fun _ _ => 0) ⟨#[], args, []⟩).memory args) :
    ∃ (w : World) (tape : Tape) (i : Input), w.os = os ∧ (w.forCall tape i).Shaped C.prog ∧ i.vars = [] ∧ Input.okWide C.prog (w.forCall tape i) .any w.heap.size f i ∧
      s.preRow enc C.prog fn conds apart laid (w.forCall tape i).memory i.args ∧ ({ modest := false } : Assume).holds C.prog (lone (Frame.enter C.prog f i.args .normal) [] (w.forCall tape i)) :=
  ⟨w0, fun _ _ => 0, ⟨#[], args, []⟩, hos, hsh, (Input.okWide_of_okWideB (base := 0) hok).1, (Input.okWide_of_okWideB hok).2, hrow, by
    simp only [Assume.holds]
    exact ⟨by simp, by simp, fun _ => Modest.zero, by simp, by simp⟩⟩
end

section
variable {H : Type} {enc : TypeId × Value → H} {P : Program}
/-- The row's last step where of the call's world 'Below' alone is known. -/
theorem post_of_below {f : Func} {s : ChangeSpec} {apart fresh handsOn again : Bool} {W W' : World} {args : Array Value} {v : Value} {ds gs : List (DataW H)} {before pa pv : List MemPlace}
    (hW : DataW.Whole enc P f.params.toList s.vars apart W args.toList ds gs before)
    (hres : ∀ (b : Nat) (sp : Nat → Bool) (hd : Bool), DataW.TrodAll enc P W' b sp hd f.resultTypes.toList (v.resultList f.resultTypes.size) (s.fn H (ds ++ gs)).results [])
    (hargs : ∀ sp : Nat → Bool, (∀ p ∈ before, sp p.block = true) → DataW.TrodAll enc P W' 0 sp true f.params.toList args.toList (s.fn H (ds ++ gs)).args pa)
    (hvars : ∀ sp : Nat → Bool, (∀ p ∈ before, sp p.block = true) → DataW.TrodVars enc P W' sp s.vars (s.fn H (ds ++ gs)).vars pv)
    (hps : before = pa ++ pv) (hb : Below W.heap.size W W')
    (hok : ∀ (j : Nat) (t : TypeId) (r : Value), f.resultTypes[j]? = some t → (v.resultList f.resultTypes.size)[j]? = some r → Value.okWide P W' .any 0 t r) :
    s.post enc P f apart fresh handsOn again W args v W' := by
  have hlt : ∀ p ∈ before, p.block < W.heap.size := fun p hp => hW.lt p hp
  have hold : ∀ p ∈ before, (fun b => decide (b < W.heap.size)) p.block = true := fun p hp => by simpa using hlt p hp
  refine ⟨ds, gs, before, [], pa, pv, hW, hres _ _ _, hargs _ hold, hvars _ hold, World.keptBut_mono (fun p hp => ⟨hp, ?_⟩) (hb.frame (· ∈ before)), fun _ => ?_⟩
  · rw [hps, List.mem_append] at hp
    exact Or.inr hp
  · obtain ⟨_, _, _, _, _, hz, hn⟩ := hW
    refine ⟨hok, _, _, ([] ++ pa) ++ pv, ⟨[] ++ pa, pv, trodAll_append (hargs _ (fun _ _ => rfl)) (hres _ _ _), hvars _ (fun _ _ => rfl), rfl, ?_, ?_⟩, ?_⟩
    · intro b off hp
      have hin : MemPlace.cell b off ∈ before := by rw [hps]; simpa using hp
      rw [hb.frozen (hlt _ hin)]
      exact hz b off hin
    · intro ha
      have := hn ha
      rw [hps] at this
      simpa using this
    · intro p hp _
      rw [hps]
      simpa using hp
end

theorem own : ownKnob Tryz.prog.godebug = none := by kernel_rfl
/-- What the rows list. -/
abbrev laidL : List (String × DataW Unit) := [("math/bits.deBruijn32tab", Rows.laid_math_bits_deBruijn32tab), ("math/bits.deBruijn64tab", Rows.laid_math_bits_deBruijn64tab), ("internal/strconv.uint64pow10", Rows.laid_internal_strconv_uint64pow10), ("unicode/utf8.acceptRanges", Rows.laid_unicode_utf8_acceptRanges), ("strconv.ErrRange", Rows.laid_strconv_ErrRange), ("strconv.ErrSyntax", Rows.laid_strconv_ErrSyntax), ("unicode/utf8.first", Rows.laid_unicode_utf8_first)]
theorem pow_eq : (Rows.laid_internal_strconv_uint64pow10 : DataW Unit) = Lib.tabData .u64 Lib.pow10Tab := by kernel_rfl
theorem tabIs_of_reads {P : Program} {W : World} {name : String} {k : IntKind} {zs : List Int} {g : Nat} {t e : TypeId} {n : Nat}
    (hg : P.globalNamed name = some g) (hty : (P.globals[g]?).map (·.type) = some t) (ht : P.underlying t = some (.array n e)) (he : P.underlying e = some (.int k)) (hce : P.cellsOf e = 1) (hct : P.cellsOf t = n)
    (h : VarReads P W name (tabData k zs)) : TabIs P W name k zs := by
  obtain ⟨g', t', cs, fuel, p, hg', ht', hvar, hd⟩ := h
  obtain rfl := Option.some.inj (hg.symm.trans hg')
  obtain rfl := Option.some.inj (hty.symm.trans ht')
  unfold TabIs
  rw [hvar, ← cells_of_tab ht he hce hct hd]
theorem env_of {W : World} (hL : laidMetH Tryz.prog laidL W) (hsh : W.ShapedOpen Tryz.prog) : WE W.heap.size W := by
  rw [MakeChecks.laidMetH_plain _ _ _ (by kernel_rfl)] at hL
  have h0 := Lib.laidMet.reads hL (.tail _ (.tail _ (.head _)))
  rw [pow_eq] at h0
  have ht := tabIs_of_reads (g := 2) (t := 155) (e := 139) (n := 20) (by kernel_rfl) (by kernel_rfl) (by kernel_rfl) (by kernel_rfl) (by kernel_rfl) (by kernel_rfl) h0
  have hp : 2 < W.heap.size := by
    have h := ht
    unfold Lib.TabIs World.var? at h
    rw [pow_named] at h
    simp only [Option.bind_some] at h
    rcases Nat.lt_or_ge 2 W.heap.size with h' | h'
    · exact h'
    · rw [Array.getElem?_eq_none h'] at h; cases h
  obtain ⟨m, hm⟩ := Tryz.laysM146.s1_3 W hsh
  exact ⟨ht, ⟨m, hm⟩, hp, cell_isLt hm⟩
/-- A world that fits: the listed variables laid. -/
noncomputable def laidWorld (os : Os) : World := World.laidAll Tryz.prog os laidL
theorem laid_met (os : Os) (args : Array Value) : laidMetH Tryz.prog laidL ((laidWorld os).forCall (fun _ _ => 0) ⟨#[], args, []⟩).memory := by
  rw [MakeChecks.laidMetH_plain _ _ _ (by kernel_rfl)]
  exact laidMet_laidAll _ (by kernel_rfl) (by kernel_rfl)
theorem Kept.toBelow {w w' : World} (h : Kept (fun _ => True) w w') : Below w.heap.size w w' := ⟨h.os, h.tape, h.output, h.size, fun k hk => h.block k hk trivial⟩
theorem sum_le2 {α β : Type} (f : α → Nat) (g : β → Nat) : ∀ (l : List α) (ds : List β), l.length = ds.length → (∀ (i : Nat) x d, l[i]? = some x → ds[i]? = some d → f x ≤ g d) → (l.map f).sum ≤ (ds.map g).sum
  | [], ds, _, _ => by simp
  | x :: l, [], h, _ => by simp at h
  | x :: l, d :: ds, h, hp => by
    have h1 := sum_le2 f g l ds (by simpa using h) fun i y e hy he => hp (i + 1) y e (by simpa using hy) (by simpa using he)
    have h2 := hp 0 x d rfl rfl
    simp only [List.map_cons, List.sum_cons]
    omega
section
variable {H : Type} {enc : TypeId × Value → H} {P : Program} {w : World} {base : Nat} {spare : Nat → Bool} {held : Bool}
/-- The argument is handed back as it came: below the heap's old size nothing has turned. -/
theorem trod_back {t : TypeId} (hl : laidOutB P = true) (hr : P.readableRec t = true) (hrow : t < P.types.size) {W W' : World} {v : Value} {d : DataW H} {ps : List MemPlace}
    (h : DataW.Trod enc P W 0 (fun _ => true) true t v d ps) (hb : Below W.heap.size W W') (hlt : ∀ x ∈ ps, x.block < W.heap.size) (sp : Nat → Bool) (hsp : ∀ x ∈ ps, sp x.block = true) : DataW.Trod enc P W' 0 sp true t v d ps :=
  WideElems.Trod_stays hl hr hrow h (fun x hx => hb.same (hlt x hx)) hsp
end

theorem addr_add (b off k : Nat) : (⟨b, off, none⟩ : Addr).add k = ⟨b, off + k, none⟩ := by unfold Addr.add; split <;> simp_all
theorem structField : ∃ f0 f1 : Field, Tryz.prog.underlying 61 = some (.struct #[f0, f1]) ∧ f0.type = 9 ∧ f1.type = 9 ∧ oneCellFields Tryz.prog #[f0, f1] = true :=
  ⟨_, _, Tryz.underlying61, rfl, rfl, by kernel_rfl⟩
theorem cellsField : Tryz.prog.cellsOf 61 = 2 := by kernel_rfl
theorem structAns : ∃ f0 f1 f2 : Field, Tryz.prog.underlying 56 = some (.struct #[f0, f1, f2]) ∧ f0.type = 3 ∧ f1.type = 48 ∧ f2.type = 9 ∧ oneCellFields Tryz.prog #[f0, f1, f2] = true :=
  ⟨_, _, _, Tryz.underlying56, rfl, rfl, rfl, by kernel_rfl⟩
theorem cellsAns : Tryz.prog.cellsOf 56 = 3 := by kernel_rfl
theorem structMsg : ∃ f0 f1 f2 f3 : Field, Tryz.prog.underlying 50 = some (.struct #[f0, f1, f2, f3]) ∧ f0.type = 9 ∧ f1.type = 9 ∧ f2.type = 48 ∧ f3.type = 9 ∧ oneCellFields Tryz.prog #[f0, f1, f2, f3] = true :=
  ⟨_, _, _, _, Tryz.underlying50, rfl, rfl, rfl, rfl, by kernel_rfl⟩
theorem cellsMsg : Tryz.prog.cellsOf 50 = 4 := by kernel_rfl
theorem laidOut : laidOutB Tryz.prog = true := by kernel_rfl

section
variable {H : Type} {enc : TypeId × Value → H} {W : World} {sp : Nat → Bool}
theorem uptoAll_map (ds : List (DataW H)) : Rows.uptoBulkAll ds = (ds.map Rows.uptoBulk).sum := by
  induction ds with
  | nil => rfl
  | cons d r ih => rw [Rows.uptoBulkAll, ih]; rfl
set_option maxRecDepth 100000 in
/-- A text that came in. -/
theorem str_in {fuel : Nat} {c : Value} {y : DataW H × List MemPlace} (h : DataW.trod enc Tryz.prog W 0 sp true fuel 9 [c] = some y) : ∃ s : List UInt8, c = S s ∧ Rows.uptoBulk y.1 = s.length + 1 := by
  obtain ⟨s, e, rfl, hs⟩ := DataW.trod_string Tryz.underlying9 h
  obtain rfl : c = .string s := by simpa using e
  exact ⟨s.data.toList, rfl, by simp [Rows.uptoBulk]⟩
set_option maxRecDepth 100000 in
/-- A slice of fields that came in. -/
theorem flds_in {fuel : Nat} {c : Value} {y : DataW H × List MemPlace} (h : DataW.trod enc Tryz.prog W 0 sp true fuel 48 [c] = some y) :
    ∃ (fs : List Fl) (a : Option Addr) (cap : Nat), c = .slice a fs.length cap ∧ RowF (fun _ => True) W c fs ∧ weightN fs + 1 ≤ 100 * Rows.uptoBulk y.1 := by
  obtain ⟨f0, f1, hst, t0, t1, hone⟩ := structField
  rcases DataW.trod_slice Tryz.underlying48 h with ⟨hc, rfl⟩ | ⟨a, len, cap, elems, rest, n, rfl, hc, rfl, _, hl, hm, hlen, hel, _, _⟩
  · obtain rfl : c = .slice none 0 0 := by simpa using hc
    exact ⟨[], none, 0, rfl, .inl ⟨none, 0, rfl, rfl⟩, by simp [Rows.uptoBulk, weightN]⟩
  · obtain rfl : c = .slice (some a) len cap := by simpa using hc
    rw [cellsField] at hel
    have hp : ∀ i, i < len → ∃ f : Fl, W.cell? (a.add (i * 2)) = some (S f.1) ∧ W.cell? ((a.add (i * 2)).add 1) = some (S f.2) ∧ ∃ e, elems[i]? = some e ∧ fl2 f ≤ 100 * Rows.uptoBulk e.1 := by
      intro i hi
      have h1 := hel i hi
      have he : elems[i]? = some (elems[i]'(by omega)) := List.getElem?_eq_getElem (by omega)
      rw [he] at h1
      obtain ⟨cs, hcs, ht⟩ := Option.bind_eq_some_iff.1 h1
      obtain ⟨_, hcl, hat⟩ := World.cells?_some hcs
      obtain ⟨xs, n', rfl, hx, hcl2, hxl, hf⟩ := DataW.trod_struct hst ht
      obtain ⟨c0, c1, rfl⟩ : ∃ c0 c1, cs = [c0, c1] := by
        match cs, (show cs.length = 2 from hcl) with
        | [a, b], _ => exact ⟨a, b, rfl⟩
      obtain ⟨x0, x1, rfl⟩ : ∃ c0 c1, xs = [c0, c1] := by
        match xs, (show xs.length = 2 from hxl) with
        | [a, b], _ => exact ⟨a, b, rfl⟩
      have g0 := hf 0 f0 rfl
      have g1 := hf 1 f1 rfl
      rw [(hone_of hone 0 f0 rfl).1, (hone_of hone 0 f0 rfl).2, t0] at g0
      rw [(hone_of hone 1 f1 rfl).1, (hone_of hone 1 f1 rfl).2, t1] at g1
      obtain ⟨s0, rfl, b0⟩ := str_in (c := c0) (y := x0) g0
      obtain ⟨s1, rfl, b1⟩ := str_in (c := c1) (y := x1) g1
      have k0 := hat 0 (by omega)
      have k1 := hat 1 (by omega)
      have ha0 : (a.add (i * 2)).add 0 = a.add (i * 2) := by unfold Addr.add; split <;> simp_all
      rw [ha0] at k0
      refine ⟨(s0, s1), k0, k1, _, he, ?_⟩
      rw [hx]
      simp only [Rows.uptoBulk, Rows.uptoBulkAll, List.map_cons, List.map_nil, b0, b1, fl2]
      omega
    have : Inhabited Fl := ⟨([], [])⟩
    obtain ⟨f, hf⟩ := choose_lt hp
    have hnl : ((List.range len).map f).length = len := by rw [List.length_map, List.length_range]
    have hget : ∀ (j : Nat) l, ((List.range len).map f)[j]? = some l → j < len ∧ l = f j := by
      intro j l hj
      have hjl : j < len := by have := (List.getElem?_eq_some_iff.1 hj).1; omega
      rw [List.getElem?_map, List.getElem?_range hjl] at hj
      exact ⟨hjl, by simpa using hj.symm⟩
    refine ⟨(List.range len).map f, some a, cap, by rw [hnl], ?_, ?_⟩
    · by_cases h0 : len = 0
      · subst h0; exact .inl ⟨_, _, rfl, rfl⟩
      · obtain ⟨b, off, spot⟩ := a
        have c0 := (hf 0 (by omega)).1
        have hspot : spot = none := by simpa [Addr.add] using World.cell?_spot c0
        subst hspot
        rw [addr_add] at c0
        refine .inr ⟨b, off, cap, by rw [hnl], by rw [hnl]; exact hl, trivial, cell_isLt c0, fun j l hj => ?_⟩
        obtain ⟨hjl, rfl⟩ := hget j l hj
        have k := hf j hjl
        have k0 := k.1
        have k1 := k.2.1
        rw [addr_add] at k0 k1
        rw [addr_add] at k1
        exact ⟨k0, k1⟩
    · have := sum_le2 fl2 (fun d => 100 * Rows.uptoBulk d) ((List.range len).map f) (elems.map (·.1)) (by rw [hnl, List.length_map, hlen]) (fun i x d hx hd => by
        obtain ⟨hi, rfl⟩ := hget i x hx
        obtain ⟨e, he, hb⟩ := (hf i hi).2.2
        rw [List.getElem?_map, he] at hd
        obtain rfl : e.1 = d := by simpa using hd
        exact hb)
      have hmul : ∀ l : List (DataW H), (l.map fun d => 100 * Rows.uptoBulk d).sum = 100 * (l.map Rows.uptoBulk).sum := by
        intro l
        induction l with
        | nil => rfl
        | cons d l ih => simp only [List.map_cons, List.sum_cons, ih]; omega
      rw [hmul] at this
      simp only [Rows.uptoBulk, uptoAll_map]
      unfold weightN
      omega
set_option maxRecDepth 100000 in
/-- A message that came in, by its cells. -/
theorem msg_in {fuel : Nat} {cs : List Value} {y : DataW H × List MemPlace} (h : DataW.trod enc Tryz.prog W 0 sp true fuel 50 cs = some y) :
    ∃ (x : Msg) (v : Value), cs = [S x.m, S x.p, v, S x.body] ∧ RowF (fun _ => True) W v x.hs ∧ x.m.length + x.p.length + weightN x.hs + x.body.length + 1 ≤ 100 * Rows.uptoBulk y.1 := by
  obtain ⟨f0, f1, f2, f3, hst, t0, t1, t2, t3, hone⟩ := structMsg
  obtain ⟨xs, n, rfl, hx, hcl, hxl, hf⟩ := DataW.trod_struct hst h
  rw [cellsMsg] at hcl
  obtain ⟨c0, c1, c2, c3, rfl⟩ : ∃ c0 c1 c2 c3, cs = [c0, c1, c2, c3] := by
    match cs, hcl with
    | [a, b, c, d], _ => exact ⟨a, b, c, d, rfl⟩
  obtain ⟨x0, x1, x2, x3, rfl⟩ : ∃ c0 c1 c2 c3, xs = [c0, c1, c2, c3] := by
    match xs, (show xs.length = 4 from hxl) with
    | [a, b, c, d], _ => exact ⟨a, b, c, d, rfl⟩
  have g0 := hf 0 f0 rfl
  have g1 := hf 1 f1 rfl
  have g2 := hf 2 f2 rfl
  have g3 := hf 3 f3 rfl
  rw [(hone_of hone 0 f0 rfl).1, (hone_of hone 0 f0 rfl).2, t0] at g0
  rw [(hone_of hone 1 f1 rfl).1, (hone_of hone 1 f1 rfl).2, t1] at g1
  rw [(hone_of hone 2 f2 rfl).1, (hone_of hone 2 f2 rfl).2, t2] at g2
  rw [(hone_of hone 3 f3 rfl).1, (hone_of hone 3 f3 rfl).2, t3] at g3
  obtain ⟨s0, rfl, b0⟩ := str_in (c := c0) (y := x0) g0
  obtain ⟨s1, rfl, b1⟩ := str_in (c := c1) (y := x1) g1
  obtain ⟨fs, a, cap, e2, hr, b2⟩ := flds_in (c := c2) (y := x2) g2
  obtain ⟨s3, rfl, b3⟩ := str_in (c := c3) (y := x3) g3
  refine ⟨⟨s0, s1, fs, s3⟩, c2, rfl, hr, ?_⟩
  rw [hx]
  simp only [Rows.uptoBulk, Rows.uptoBulkAll, List.map_cons, List.map_nil, b0, b1, b3]
  omega
theorem msg_arg {v : Value} {d : DataW H} {p : List MemPlace} (h : DataW.Trod enc Tryz.prog W 0 sp true 50 v d p) :
    ∃ (x : Msg) (hv : Value), v = .agg #[S x.m, S x.p, hv, S x.body] ∧ RowF (fun _ => True) W hv x.hs ∧ x.m.length + x.p.length + weightN x.hs + x.body.length + 1 ≤ 100 * Rows.uptoBulk d := by
  obtain ⟨fuel, hf⟩ := h
  obtain ⟨x, hv, hc, hr, hb⟩ := msg_in hf
  refine ⟨x, hv, ?_, hr, hb⟩
  cases v <;> simp [Value.cells] at hc
  congr 1
  exact Array.toList_inj.1 hc
set_option maxRecDepth 100000 in
theorem ans_arg {v : Value} {d : DataW H} {p : List MemPlace} (h : DataW.Trod enc Tryz.prog W 0 sp true 56 v d p) :
    ∃ (x : Ans) (hv : Value), v = .agg #[.int .i64 x.st, hv, S x.body] ∧ RowF (fun _ => True) W hv x.hs ∧ (-9223372036854775808 ≤ x.st ∧ x.st ≤ 9223372036854775807) ∧ weightN x.hs + x.body.length + 1 ≤ 100 * Rows.uptoBulk d := by
  obtain ⟨fuel, hf⟩ := h
  obtain ⟨f0, f1, f2, hst, t0, t1, t2, hone⟩ := structAns
  obtain ⟨xs, n, rfl, hx, hcl, hxl, hf⟩ := DataW.trod_struct hst hf
  rw [cellsAns] at hcl
  obtain ⟨c0, c1, c2, hcs⟩ : ∃ c0 c1 c2, v.cells.toList = [c0, c1, c2] := by
    match hv : v.cells.toList, hcl with
    | [a, b, c], _ => exact ⟨a, b, c, rfl⟩
  rw [hcs] at hf
  obtain ⟨x0, x1, x2, rfl⟩ : ∃ c0 c1 c2, xs = [c0, c1, c2] := by
    match xs, (show xs.length = 3 from hxl) with
    | [a, b, c], _ => exact ⟨a, b, c, rfl⟩
  have g0 := hf 0 f0 rfl
  have g1 := hf 1 f1 rfl
  have g2 := hf 2 f2 rfl
  rw [(hone_of hone 0 f0 rfl).1, (hone_of hone 0 f0 rfl).2, t0] at g0
  rw [(hone_of hone 1 f1 rfl).1, (hone_of hone 1 f1 rfl).2, t1] at g1
  rw [(hone_of hone 2 f2 rfl).1, (hone_of hone 2 f2 rfl).2, t2] at g2
  replace g0 : DataW.trod enc Tryz.prog W 0 sp true n 3 [c0] = some x0 := g0
  obtain ⟨k, e0, rfl, w0⟩ := DataW.trod_int Tryz.underlying3 g0
  obtain rfl : c0 = .int .i64 k := by simpa using e0
  obtain ⟨fs, a, cap, e2, hr, b1⟩ := flds_in (c := c1) (y := x1) g1
  obtain ⟨s2, rfl, b2⟩ := str_in (c := c2) (y := x2) g2
  refine ⟨⟨k, fs, s2⟩, c1, ?_, hr, ?_, ?_⟩
  · cases v <;> simp [Value.cells] at hcs
    congr 1
    exact Array.toList_inj.1 hcs
  · simp [Lit.wf] at w0
    exact ⟨w0.1, w0.2⟩
  · have hd : d = .agg ([(DataW.lit (.int .i64 k), ([] : List MemPlace)), x1, x2].map (·.1)) := by
      have := congrArg Prod.fst hx
      exact this
    rw [hd]
    simp only [Rows.uptoBulk, Rows.uptoBulkAll, List.map_cons, List.map_nil, b2]
    omega
end
end Go.Proofs.YtaomhkgdbobpkaaGreatDoor
