/- Lemmas on rows of fields (structs of two strings): a block that is known whole, stores into it, copy into it. -/
import Derived.Test.YtldhfbdljogieaaDoorQuS
import Derived.Laws.CopyRow
import Derived.Laws.CopyOwn
namespace Go.Proofs.YtldhfbdljogieaaDoor
open Go.RowKit Qu

/-- Block g holds just these fields. -/
def RowAt (g : Nat) (l : List Fld) (w : World) : Prop := w.heap[g]? = some (.cells (fieldCells l).toArray 44 (0, 0))
theorem RowAt.lt {g : Nat} {l : List Fld} {w : World} (h : RowAt g l w) : g < w.heap.size := (Array.getElem?_eq_some_iff.1 h).1
theorem RowAt.below {g : Nat} {l : List Fld} {w w' : World} (h : RowAt g l w) (hb : Below w.heap.size w w') : RowAt g l w' := (heap_below hb h.lt).trans h
theorem fieldCells_append (a b : List Fld) : fieldCells (a ++ b) = fieldCells a ++ fieldCells b := by simp [fieldCells]
theorem RowAt.cells {g : Nat} {l : List Fld} {w : World} (h : RowAt g l w) (j : Nat) (f : Fld) (hf : l[j]? = some f) : w.cell? ⟨g, j * 2, none⟩ = some (S f.1) ∧ w.cell? ⟨g, j * 2 + 1, none⟩ = some (S f.2) := by
  obtain ⟨h1, h2⟩ := cells_fields l j f hf
  rw [cell_of_row w g _ _ _ (0, 0) h, cell_of_row w g _ _ _ (0, 0) h]
  simpa using ⟨h1, h2⟩
theorem RowAt.fldIn {g : Nat} {l : List Fld} {w : World} (h : RowAt g l w) (m cap : Nat) (hm : m ≤ l.length) (hcap : m ≤ cap) : FldIn w (.slice (some ⟨g, 0, none⟩) m cap) (l.take m) := by
  have hl : (l.take m).length = m := by rw [List.length_take]; omega
  refine .inr ⟨g, 0, cap, by rw [hl], by omega, h.lt, fun j f hf => ?_⟩
  rw [List.getElem?_take] at hf
  split at hf
  · have := h.cells j f hf
    simpa using this
  · cases hf
theorem RowAt.frozen {g : Nat} {l : List Fld} {w : World} (h : RowAt g l w) (o : Nat) : w.frozen? ⟨g, o, none⟩ = false := frozen_row h o
theorem fieldCells_set (A B : List Fld) (f : Fld) (x : List UInt8) : (fieldCells (A ++ f :: B)).toArray.setIfInBounds (A.length * 2) (S x) = (fieldCells (A ++ (x, f.2) :: B)).toArray := by
  have e : ∀ f : Fld, fieldCells (A ++ f :: B) = fieldCells A ++ (S f.1 :: S f.2 :: fieldCells B) := fun f => by rw [fieldCells_append]; rfl
  rw [e, e]
  apply Array.ext'
  rw [Array.toList_setIfInBounds]
  simp only
  rw [List.set_append_right _ _ (by rw [fieldCells_len]; exact Nat.le_refl _), fieldCells_len, Nat.sub_self]
  rfl
theorem RowAt.setName {g : Nat} {A B : List Fld} {f : Fld} {w : World} (h : RowAt g (A ++ f :: B) w) (x : List UInt8) : RowAt g (A ++ (x, f.2) :: B) (w.setCell ⟨g, A.length * 2, none⟩ (S x)) := by
  unfold RowAt
  rw [setCell_eq_setRow w g _ _ _ (0, 0) _ h, setRow_heap w g _ _ _ (0, 0) h, fieldCells_set]

section
variable {P : Program}
theorem run_copy_rowN (w : World) (dT sT ty elem : TypeId) (g dLen dCap : Nat) (a : Addr) (sLen sCap size : Nat) (cur : Array Value) (t : TypeId) (cs : List Value)
    (hu : P.underlying dT = some (.slice elem)) (hs : (P.info? elem).map (·.size) = some size)
    (hg : w.heap[g]? = some (.cells cur t (0, 0))) (hn : cs.length = Nat.min sLen dLen * size)
    (hsrc : ∀ j v, cs[j]? = some v → w.cell? (a.add j) = some v) (hfit : cs.length ≤ cur.size) (h1 : ∀ v ∈ cs, v.oneCell' = true) :
    (Builtin.copy_ #[dT, sT] ty #[.slice (some ⟨g, 0, none⟩) dLen dCap, .slice (some a) sLen sCap]).run P w =
      .ok (goInt (Nat.min sLen dLen)) (w.setRow g (cs ++ cur.toList.drop cs.length).toArray) := by
  have hl := run_firstCells_some (P := P) w size (Nat.min sLen dLen) a sLen sCap cs hn hsrc
  have hst := run_storeCells_at P g 0 t cs 0 cur w hg (by simpa using hfit) h1
  cases hq : P.info? elem with
  | none => simp [hq] at hs
  | some i =>
    have hi : i.size = size := by simpa [hq] using hs
    simp [Builtin.copy_, run_underlying hu, Builtin.lenOf, sizeOf, typeInfo, hq, hi, hl]
    simp at hst
    simp [hst, Result.andThen]
theorem run_copy_none' (w : World) (dT sT ty elem : TypeId) (g dLen dCap : Nat) (a : Option Addr) (sCap size : Nat) (hu : P.underlying dT = some (.slice elem)) (hs : (P.info? elem).map (·.size) = some size) :
    (Builtin.copy_ #[dT, sT] ty #[.slice (some ⟨g, 0, none⟩) dLen dCap, .slice a 0 sCap]).run P w = .ok (goInt 0) w := by
  cases hq : P.info? elem with
  | none => simp [hq] at hs
  | some i =>
    have hl : ∀ (x : Addr), (loadCells x 0).run P w = .ok #[] w := fun x => by simpa using run_loadCells_list (P := P) w x [] (by simp)
    cases a <;> simp [Builtin.copy_, run_underlying hu, Builtin.lenOf, Builtin.firstCells, sizeOf, typeInfo, hq, storeCells, hl]
end

/-- copy(h, l): h the head of a block that is known whole, l whatever. -/
theorem wpList_copyF {w : World} {ops : Array Oper} {rest : List Oper} {o : Oper} {a : Act} {Q : Exit → Act → World → Prop} (hgd : o.guard = none) (d s : Operand)
    (ho : o.op = .call { callee := .builtin .copy, args := #[d, s], argTypes := #[31, 31] })
    (g dLen dCap : Nat) (u : Value) (old l : List Fld) (hd : a.eval d = .slice (some ⟨g, 0, none⟩) dLen dCap) (hs : a.eval s = u) (hr : RowAt g old w) (hl : FldIn w u l) (hlen : dLen ≤ old.length)
    (h : ∀ w', RowAt g (l.take (min l.length dLen) ++ old.drop (min l.length dLen)) w' → (∀ B w0, Below B w0 w → B ≤ g → Below B w0 w') → w'.heap.size = w.heap.size → wpList Tryd.prog ops Q rest (a.put o.dst (goInt ((min l.length dLen : Nat) : Int))) w') :
    wpList Tryd.prog ops Q (o :: rest) a w := by
  have hsize : (Tryd.prog.info? 44).map (·.size) = some 2 := by kernel_rfl
  rcases hl with ⟨a0, rfl, rfl⟩ | ⟨b, off, cap, rfl, h1, h2, h3⟩
  · refine wpList_plain hgd fun K hK => ?_
    have hrun := run_copy_none' (P := Tryd.prog) w 31 31 o.type 44 g dLen dCap a0 0 2 Tryd.underlying31 hsize
    unfold Oper.wp
    simp [execOp, ho, resolve, invoke, builtin, hd, hs, hrun, Result.andThen]
    have e : min ([] : List Fld).length dLen = 0 := by simp
    have := h w (by simpa using hr) (fun _ _ hb _ => hb) rfl
    rw [e] at this
    exact hK _ _ this
  · refine wpList_plain hgd fun K hK => ?_
    have hm : (l.take (min l.length dLen)).length = min l.length dLen := by rw [List.length_take]; omega
    have hcl : (fieldCells (l.take (min l.length dLen))).length = Nat.min l.length dLen * 2 := by rw [fieldCells_len, hm]
    have hrun := run_copy_rowN (P := Tryd.prog) w 31 31 o.type 44 g dLen dCap ⟨b, off, none⟩ l.length cap 2 _ _ (fieldCells (l.take (min l.length dLen))) Tryd.underlying31 hsize hr hcl
      (fun j v hj => by
        have hadd : (⟨b, off, none⟩ : Addr).add j = ⟨b, off + j, none⟩ := by unfold Addr.add; split <;> simp_all
        rw [hadd]
        have hjl : j < (fieldCells (l.take (min l.length dLen))).length := (List.getElem?_eq_some_iff.1 hj).1
        rw [fieldCells_len] at hjl
        have hq : j / 2 < (l.take (min l.length dLen)).length := by omega
        obtain ⟨f, hf⟩ : ∃ f, (l.take (min l.length dLen))[j / 2]? = some f := ⟨_, List.getElem?_eq_getElem hq⟩
        obtain ⟨g1, g2⟩ := cells_fields _ _ f hf
        have hf2 : l[j / 2]? = some f := by
          rw [List.getElem?_take] at hf
          split at hf
          · exact hf
          · cases hf
        obtain ⟨k1, k2⟩ := h3 _ f hf2
        rcases (by omega : j = j / 2 * 2 ∨ j = j / 2 * 2 + 1) with e | e
        · rw [← e] at g1 k1
          rw [g1] at hj
          rw [k1, Option.some.inj hj]
        · rw [← e] at g2
          rw [Nat.add_assoc, ← e] at k2
          rw [g2] at hj
          rw [k2, Option.some.inj hj])
      (by rw [hcl]; simp only [List.size_toArray, fieldCells_len]; have : Nat.min l.length dLen ≤ dLen := Nat.min_le_right _ _; omega)
      (fun v hv => by
        unfold fieldCells at hv
        obtain ⟨f, _, hf⟩ := List.mem_flatMap.1 hv
        simp at hf
        rcases hf with rfl | rfl <;> rfl)
    have hnew : (fieldCells (l.take (min l.length dLen)) ++ (fieldCells old).drop (fieldCells (l.take (min l.length dLen))).length) = fieldCells (l.take (min l.length dLen) ++ old.drop (min l.length dLen)) := by
      rw [fieldCells_append]
      congr 1
      have e : old = old.take (min l.length dLen) ++ old.drop (min l.length dLen) := (List.take_append_drop _ _).symm
      have hlt : (fieldCells (old.take (min l.length dLen))).length = (fieldCells (l.take (min l.length dLen))).length := by rw [fieldCells_len, fieldCells_len, hm, List.length_take]; omega
      conv => lhs; rw [e, fieldCells_append, ← hlt]
      simp
    unfold Oper.wp
    simp [execOp, ho, resolve, invoke, builtin, hd, hs, hrun, Result.andThen]
    refine hK _ _ (h _ ?_ (fun B w0 hb hB => below_setRow hb hB _) (by simp [World.setRow]))
    unfold RowAt
    rw [setRow_heap w g _ _ _ (0, 0) hr, ← hnew]
end Go.Proofs.YtldhfbdljogieaaDoor
