/- Walks of the reference of layer 5, its reader, fourth part: what it leaves; a header's line in plain Lean. -/
import Derived.Test.YtaomhkgdbobpkaaGreatDoorWiS3
namespace Go.Proofs.YtaomhkgdbobpkaaGreatDoor
open Go.RowKit Wi

/-- A reading of the reference, whole, at g. -/
def GotC (g : Nat) (m p : List UInt8) (st : Int) (hv : Value) (body : List UInt8) (n : Int) (wh : Bool) (E : Int) (w : World) : Prop := w.heap[g]? = some (.cells #[S m, S p, .int .i64 st, hv, S body, .int .i64 n, .bool wh, .int .i64 E] 85 (0, 0))
abbrev zGot : Obj := .cells #[S [], S [], .int .i64 0, .slice none 0 0, S [], .int .i64 0, .bool false, .int .i64 0] 85
abbrev noGot : Nat → World → Prop := fun g w => GotC g [] [] 0 (.slice none 0 0) [] 0 false 0 w
abbrev gotV (m p : List UInt8) (st : Int) (hv : Value) (body : List UInt8) (n : Int) (wh : Bool) (E : Int) : Value := .agg #[S m, S p, .int .i64 st, hv, S body, .int .i64 n, .bool wh, .int .i64 E]
def GotCells (g : Nat) (m p : List UInt8) (st : Int) (hv : Value) (body : List UInt8) (n : Int) (wh : Bool) (E : Int) (w : World) : Prop := w.cell? ⟨g, 0, none⟩ = some (S m) ∧ w.cell? ⟨g, 1, none⟩ = some (S p) ∧ w.cell? ⟨g, 2, none⟩ = some (.int .i64 st) ∧ w.cell? ⟨g, 3, none⟩ = some hv ∧ w.cell? ⟨g, 4, none⟩ = some (S body) ∧ w.cell? ⟨g, 5, none⟩ = some (.int .i64 n) ∧ w.cell? ⟨g, 6, none⟩ = some (.bool wh) ∧ w.cell? ⟨g, 7, none⟩ = some (.int .i64 E)
def GotFree (g : Nat) (w : World) : Prop := w.frozen? ⟨g, 0, none⟩ = false ∧ w.frozen? ⟨g, 1, none⟩ = false ∧ w.frozen? ⟨g, 2, none⟩ = false ∧ w.frozen? ⟨g, 3, none⟩ = false ∧ w.frozen? ⟨g, 4, none⟩ = false ∧ w.frozen? ⟨g, 5, none⟩ = false ∧ w.frozen? ⟨g, 6, none⟩ = false ∧ w.frozen? ⟨g, 7, none⟩ = false
section
variable {g : Nat} {m p : List UInt8} {st : Int} {hv : Value} {body : List UInt8} {n : Int} {wh : Bool} {E : Int} {w w' : World}
theorem GotC.cells (h : GotC g m p st hv body n wh E w) : GotCells g m p st hv body n wh E w := by
  unfold GotC at h
  refine ⟨?_, ?_, ?_, ?_, ?_, ?_, ?_, ?_⟩ <;> rw [cell_of_row w g _ _ _ (0, 0) h] <;> rfl
theorem GotC.free (h : GotC g m p st hv body n wh E w) : GotFree g w := by
  unfold GotC at h
  exact ⟨frozen_row h 0, frozen_row h 1, frozen_row h 2, frozen_row h 3, frozen_row h 4, frozen_row h 5, frozen_row h 6, frozen_row h 7⟩
theorem GotC.lt (h : GotC g m p st hv body n wh E w) : g < w.heap.size := (Array.getElem?_eq_some_iff.1 h).1
theorem GotC.kept {ok : Nat → Prop} (h : GotC g m p st hv body n wh E w) (hk : Kept ok w w') (ho : ok g) : GotC g m p st hv body n wh E w' := (hk.block g h.lt ho).trans h
theorem GotC.s0 (h : GotC g m p st hv body n wh E w) (x : List UInt8) : GotC g x p st hv body n wh E (w.setCell ⟨g, 0, none⟩ (S x)) := (setCell_heap (o := 0) h _).trans rfl
theorem GotC.s1 (h : GotC g m p st hv body n wh E w) (x : List UInt8) : GotC g m x st hv body n wh E (w.setCell ⟨g, 1, none⟩ (S x)) := (setCell_heap (o := 1) h _).trans rfl
theorem GotC.s2 (h : GotC g m p st hv body n wh E w) (x : Int) : GotC g m p x hv body n wh E (w.setCell ⟨g, 2, none⟩ (.int .i64 x)) := (setCell_heap (o := 2) h _).trans rfl
theorem GotC.s3 (h : GotC g m p st hv body n wh E w) (x : Value) : GotC g m p st x body n wh E (w.setCell ⟨g, 3, none⟩ x) := (setCell_heap (o := 3) h _).trans rfl
theorem GotC.s4 (h : GotC g m p st hv body n wh E w) (x : List UInt8) : GotC g m p st hv x n wh E (w.setCell ⟨g, 4, none⟩ (S x)) := (setCell_heap (o := 4) h _).trans rfl
theorem GotC.s5 (h : GotC g m p st hv body n wh E w) (x : Int) : GotC g m p st hv body x wh E (w.setCell ⟨g, 5, none⟩ (.int .i64 x)) := (setCell_heap (o := 5) h _).trans rfl
theorem GotC.s6 (h : GotC g m p st hv body n wh E w) (x : Bool) : GotC g m p st hv body n x E (w.setCell ⟨g, 6, none⟩ (.bool x)) := (setCell_heap (o := 6) h _).trans rfl
theorem GotC.s7 (h : GotC g m p st hv body n wh E w) (x : Int) : GotC g m p st hv body n wh x (w.setCell ⟨g, 7, none⟩ (.int .i64 x)) := (setCell_heap (o := 7) h _).trans rfl
theorem GotC.setAll (h : GotC g m p st hv body n wh E w) (m' p' : List UInt8) (st' : Int) (hv' : Value) (body' : List UInt8) (n' : Int) (wh' : Bool) (E' : Int) :
    ∃ W, (((((((w.setCell ⟨g, 0, none⟩ (S m')).setCell ⟨g, 1, none⟩ (S p')).setCell ⟨g, 2, none⟩ (.int .i64 st')).setCell ⟨g, 3, none⟩ hv').setCell ⟨g, 4, none⟩ (S body')).setCell ⟨g, 5, none⟩ (.int .i64 n')).setCell ⟨g, 6, none⟩ (.bool wh')).setCell ⟨g, 7, none⟩ (.int .i64 E') = W ∧ GotC g m' p' st' hv' body' n' wh' E' W ∧ Kept (· ≠ g) w W := by
  have k (v : World) (o : Nat) (u : Value) : Kept (· ≠ g) v (v.setCell ⟨g, o, none⟩ u) := (Kept.refl _ v).setCell (.inr (by simp)) u
  exact ⟨_, rfl, (((((((h.s0 m').s1 p').s2 st').s3 hv').s4 body').s5 n').s6 wh').s7 E', ((((((((k _ _ _).tr (k _ _ _)).tr (k _ _ _)).tr (k _ _ _)).tr (k _ _ _)).tr (k _ _ _)).tr (k _ _ _)).tr (k _ _ _))⟩
theorem GotC.setHs (h : GotC g m p st hv body n wh E w) (hv' : Value) : GotC g m p st hv' body n wh E (w.setCell ⟨g, 3, none⟩ hv') ∧ Kept (· ≠ g) w (w.setCell ⟨g, 3, none⟩ hv') :=
  ⟨(setCell_heap (o := 3) h _).trans rfl, (Kept.refl _ w).setCell (.inr (by simp)) _⟩
theorem GotC.setEnd (h : GotC g m p st hv body n wh E w) (body' : List UInt8) (n' : Int) :
    ∃ W, ((w.setCell ⟨g, 4, none⟩ (S body')).setCell ⟨g, 5, none⟩ (.int .i64 n')).setCell ⟨g, 6, none⟩ (.bool true) = W ∧ GotC g m p st hv body' n' true E W ∧ Kept (· ≠ g) w W := by
  have k (v : World) (o : Nat) (u : Value) : Kept (· ≠ g) v (v.setCell ⟨g, o, none⟩ u) := (Kept.refl _ v).setCell (.inr (by simp)) u
  exact ⟨_, rfl, ((h.s4 body').s5 n').s6 true, ((k _ _ _).tr (k _ _ _)).tr (k _ _ _)⟩
end
/-- What read tells. -/
def GotIs (ans : Bool) (s m p : List UInt8) (st : Int) (hs : List Fl) (body : List UInt8) (n : Nat) (wh : Bool) (E : Int) : Prop :=
  match ansP (begin' ans) s with
  | .inr z => wh = false ∧ E = (if z = 56 then 0 else z)
  | .inl (r, rest) => wh = true ∧ E = 0 ∧ hs = r.hs ∧ body = r.body ∧ n ≤ s.length ∧ rest = s.drop n ∧ (ans = true → st = (decP (r.first.getD 0 []) : Nat)) ∧ (ans = false → r.first = [m, p])
/-- What read leaves. -/
def RdQ (s : List UInt8) (ans : Bool) (w : World) (e : Ending) (w' : World) : Prop := ∃ (m p : List UInt8) (st : Int) (hv : Value) (hs : List Fl) (body : List UInt8) (n : Nat) (wh : Bool) (E : Int),
  e = .returned (gotV m p st hv body n wh E) ∧ w'.ownsRow w.heap.size 61 2 hv hs.length (fieldCells hs) ∧ Kept (fun _ => True) w w' ∧ GotIs ans s m p st hs body n wh E
theorem errQ {s : List UInt8} {ans : Bool} {w wr : World} {z E : Int} (hr : ansP (begin' ans) s = .inr z) (hE : E = if z = 56 then 0 else z) (hz : noGot w.heap.size wr) (hk : Kept (fun _ => True) w wr) :
    ∃ W, (((((((wr.setCell ⟨w.heap.size, 0, none⟩ (S [])).setCell ⟨w.heap.size, 1, none⟩ (S [])).setCell ⟨w.heap.size, 2, none⟩ (.int .i64 0)).setCell ⟨w.heap.size, 3, none⟩ (.slice none 0 0)).setCell ⟨w.heap.size, 4, none⟩ (S [])).setCell ⟨w.heap.size, 5, none⟩ (.int .i64 0)).setCell ⟨w.heap.size, 6, none⟩ (.bool false)).setCell ⟨w.heap.size, 7, none⟩ (.int .i64 E) = W ∧
      GotCells w.heap.size [] [] 0 (.slice none 0 0) [] 0 false E W ∧ RdQ s ans w (.returned (gotV [] [] 0 (.slice none 0 0) [] 0 false E)) W := by
  obtain ⟨W, hW, h1, h2⟩ := hz.setAll [] [] 0 (.slice none 0 0) [] 0 false E
  refine ⟨W, hW, h1.cells, [], [], 0, .slice none 0 0, [], [], 0, false, E, rfl, World.ownsRow_nil _ _ _ _, hk.trans h2 fun i hi _ => by omega, ?_⟩
  unfold GotIs
  rw [hr]
  exact ⟨rfl, hE⟩

/-- The machine in a header's line. -/
structure Hd (ans : Bool) (len : Int) (r : R) : Prop where
  ph : r.ph = 1
  line : r.line = []
  body : r.body = []
  ans : r.ans = ans
  len : r.len = len
  hs : r.hs.length ≤ 32
theorem lineT_none (p : Nat) : lineT p .none = ([], 0, false, false) := rfl
theorem lineT_long (p : Nat) : lineT p .long = ([], 0, false, true) := rfl
/-- Where a line ends, the next begins. -/
theorem line_next {s l rest : List UInt8} {p : Nat} (h : lineP 1002 (s.drop p) = .line l rest) : rest = s.drop (p + l.length + 1) ∧ p + l.length + 1 ≤ s.length ∧ l.length ≤ 1001 ∧ (Lib.trimSuffix l [13]).length ≤ 1001 := by
  obtain ⟨h1, -, h3⟩ := lineP_line h
  have h4 := congrArg List.length h1
  simp only [List.length_drop, List.length_append, List.length_cons] at h4
  refine ⟨?_, by omega, by omega, ?_⟩
  · have h2 : (s.drop p).drop (l.length + 1) = rest := by
      rw [h1, show l ++ 10 :: rest = (l ++ [10]) ++ rest by simp]
      exact List.drop_left' (by simp)
    rw [List.drop_drop] at h2
    rw [← h2, Nat.add_assoc]
  · unfold Lib.trimSuffix
    split
    · rw [List.length_take]; omega
    · omega
/-- What a header's line does. -/
def putP (r : R) (n v : List UInt8) : R × Int := if low n = lengthN then toldP r (trimP v) else if r.hs.length = 32 then (r, 53) else ({ r with hs := r.hs ++ [(n, trimP v)] }, 0)
theorem head_line {ans : Bool} {len : Int} {r : R} {s l rest n v : List UInt8} {p : Nat} {is : Bool} (hr : Hd ans len r) (h : lineP 1002 (s.drop p) = .line l rest) (hc : cutT 58 (Lib.trimSuffix l [13]) = (n, v, is)) (hne : ¬ (Lib.trimSuffix l [13] = [] ∧ Lib.hasSuffix l [13] = true)) :
    ansP r (s.drop p) = if Lib.hasSuffix l [13] = true ∧ is = true ∧ isNameP n = true ∧ v.all printedP = true ∧ low n ≠ codingN then (if (putP (atL r l.length) n v).2 ≠ 0 then .inr (putP (atL r l.length) n v).2 else ansP (putP (atL r l.length) n v).1 rest) else .inr 51 := by
  cases hs : Lib.hasSuffix l [13] with
  | false => rw [hd_bare hr.ph hr.line h hs, if_neg (by simp)]
  | true =>
    have hb : Lib.trimSuffix l [13] ≠ [] := fun e => hne ⟨e, hs⟩
    rw [hd_head hr.ph hr.line h hs hb]
    have hlen := (line_next h).2.2.2
    unfold cutT at hc
    cases hcc : cutP 58 (Lib.trimSuffix l [13]) with
    | none =>
      rw [hcc] at hc
      simp only [Prod.mk.injEq] at hc
      obtain ⟨rfl, rfl, rfl⟩ := hc
      have hH : headerP (atL r l.length) (Lib.trimSuffix l [13]) = (atL r l.length, 51) := by
        unfold headerP
        rw [hcc]
      rw [hH]
      simp
    | some x =>
      obtain ⟨a, b⟩ := x
      rw [hcc] at hc
      simp only [Prod.mk.injEq] at hc
      obtain ⟨rfl, rfl, rfl⟩ := hc
      have hbl : b.length ≤ 1000 := by have := cutP_len hcc; omega
      have ho : onlyP b 0 1000 printedP = b.all printedP := by
        unfold onlyP
        rw [decide_eq_true (Nat.zero_le _), decide_eq_true hbl]
        simp
      have hH : headerP (atL r l.length) (Lib.trimSuffix l [13]) = if isNameP a = false ∨ b.all printedP = false ∨ low a = codingN then (atL r l.length, 51) else putP (atL r l.length) a b := by
        unfold headerP
        rw [hcc]
        simp only [ho]
        rfl
      rw [hH]
      by_cases hg : isNameP a = true ∧ b.all printedP = true ∧ low a ≠ codingN
      · have e1 : ¬ (isNameP a = false ∨ b.all printedP = false ∨ low a = codingN) := by
          rintro (k | k | k)
          · rw [hg.1] at k; cases k
          · rw [hg.2.1] at k; cases k
          · exact hg.2.2 k
        rw [if_neg e1, if_pos (⟨rfl, rfl, hg⟩ : true = true ∧ true = true ∧ _)]
      · have e1 : isNameP a = false ∨ b.all printedP = false ∨ low a = codingN := by
          by_cases k1 : isNameP a = true
          · by_cases k2 : b.all printedP = true
            · by_cases k3 : low a = codingN
              · exact .inr (.inr k3)
              · exact absurd ⟨k1, k2, k3⟩ hg
            · exact .inr (.inl (Bool.not_eq_true _ ▸ k2))
          · exact .inl (Bool.not_eq_true _ ▸ k1)
        rw [if_pos e1, if_neg (fun (h : true = true ∧ true = true ∧ isNameP a = true ∧ b.all printedP = true ∧ low a ≠ codingN) => hg h.2.2)]
        simp
theorem sizeP_range (v : List UInt8) : 0 ≤ (sizeP v).1 ∧ (sizeP v).1 ≤ 4000 := by
  unfold sizeP
  split
  · simp
  · split
    · simp
    · simp only; omega
theorem Hd.told {ans : Bool} {len k : Int} {r : R} (h : Hd ans len r) (j : Nat) : Hd ans k { atL r j with len := k } := ⟨h.ph, rfl, h.body, h.ans, rfl, h.hs⟩
theorem Hd.more {ans : Bool} {len : Int} {r : R} (h : Hd ans len r) (j : Nat) (f : Fl) (hl : r.hs.length ≠ 32) : Hd ans len { atL r j with hs := r.hs ++ [f] } := ⟨h.ph, rfl, h.body, h.ans, h.len, by have := h.hs; simp only [List.length_append, List.length_cons, List.length_nil]; omega⟩
/-- Behind the empty line: the body. -/
theorem body_end {ans : Bool} {len : Int} {r : R} {s l rest : List UInt8} {p q : Nat} {k : Nat} (hr : Hd ans len r) (h : lineP 1002 (s.drop p) = .line l rest) (hs : Lib.hasSuffix l [13] = true) (hb : Lib.trimSuffix l [13] = []) (hq : q = p + l.length + 1) (hk : (k : Int) = if len < 0 then 0 else len) :
    ansP r (s.drop p) = if s.length - q < k then .inr 56 else .inl ({ atL r l.length with ph := 2, cnt := (atL r l.length).cnt + k, body := (s.drop q).take k }, s.drop (q + k)) := by
  rw [hd_blank hr.ph hr.line h hs hb]
  obtain ⟨e1, e2, -⟩ := line_next h
  rw [← hq] at e1 e2
  by_cases h0 : r.len ≤ 0
  · have hk0 : k = 0 := by
      rw [hr.len] at h0
      split at hk <;> omega
    subst hk0
    rw [if_pos h0, if_neg (by omega), e1]
    simp [atL, hr.body]
  · rw [if_neg h0]
    rw [hr.len] at h0
    rw [if_neg (by omega)] at hk
    obtain ⟨j, rfl⟩ : ∃ j, k = j + 1 := ⟨k - 1, by omega⟩
    rw [ans_body rest { atL r l.length with ph := 2 } j rfl (by
      show ((atL r l.length).body.length : Int) + _ = r.len
      rw [show (atL r l.length).body = [] from hr.body, hr.len, hk]
      simp)]
    have e3 : rest.length = s.length - q := by rw [e1, List.length_drop]
    rw [e3, e1, List.drop_drop]
    have e4 : (atL r l.length).body = [] := hr.body
    simp only [e4, List.nil_append]
end Go.Proofs.YtaomhkgdbobpkaaGreatDoor
