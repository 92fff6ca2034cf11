/- Rows of fields in a block that is known whole: stores, copies; the law's own 'lent' (layer 5). -/
import Derived.Test.YtaomhkgdbobpkaaGreatDoorWiR4
import Derived.Laws.CopyRow
import Derived.Laws.CopyOwn
namespace Go.Proofs.YtaomhkgdbobpkaaGreatDoor
open Go.RowKit Wi

/-- Block g holds just these fields. -/
def RowAt (g : Nat) (l : List Fl) (w : World) : Prop := w.heap[g]? = some (.cells (fieldCells l).toArray 61 (0, 0))
theorem RowAt.lt {g : Nat} {l : List Fl} {w : World} (h : RowAt g l w) : g < w.heap.size := (Array.getElem?_eq_some_iff.1 h).1
theorem RowAt.below {g : Nat} {l : List Fl} {w w' : World} (h : RowAt g l w) (hb : Below w.heap.size w w') : RowAt g l w' := (heap_below hb h.lt).trans h
theorem fieldCells_append (a b : List Fl) : fieldCells (a ++ b) = fieldCells a ++ fieldCells b := by simp [fieldCells]
theorem RowAt.cells {g : Nat} {l : List Fl} {w : World} (h : RowAt g l w) (j : Nat) (f : Fl) (hf : l[j]? = some f) : w.cell? ⟨g, j * 2, none⟩ = some (S f.1) ∧ w.cell? ⟨g, j * 2 + 1, none⟩ = some (S f.2) := by
  obtain ⟨h1, h2⟩ := fieldCells_at hf
  rw [cell_of_row w g _ _ _ (0, 0) h, cell_of_row w g _ _ _ (0, 0) h]
  simpa using ⟨h1, h2⟩
theorem RowAt.rowf {g : Nat} {l : List Fl} {w : World} (h : RowAt g l w) (m cap : Nat) (hm : m ≤ l.length) (hcap : m ≤ cap) : RowF (fun _ => True) w (.slice (some ⟨g, 0, none⟩) m cap) (l.take m) := by
  have hl : (l.take m).length = m := by rw [List.length_take]; omega
  refine .inr ⟨g, 0, cap, by rw [hl], by omega, trivial, h.lt, fun j f hf => ?_⟩
  rw [List.getElem?_take] at hf
  split at hf
  · have := h.cells j f hf
    simpa using this
  · cases hf
theorem RowAt.frozen {g : Nat} {l : List Fl} {w : World} (h : RowAt g l w) (o : Nat) : w.frozen? ⟨g, o, none⟩ = false := frozen_row h o
theorem fieldCells_set (A B : List Fl) (f : Fl) (x : List UInt8) : (fieldCells (A ++ f :: B)).toArray.setIfInBounds (A.length * 2) (S x) = (fieldCells (A ++ (x, f.2) :: B)).toArray := by
  have e : ∀ f : Fl, fieldCells (A ++ f :: B) = fieldCells A ++ (S f.1 :: S f.2 :: fieldCells B) := fun f => by rw [fieldCells_append]; rfl
  rw [e, e]
  apply Array.ext'
  rw [Array.toList_setIfInBounds]
  simp only
  rw [List.set_append_right _ _ (by rw [fieldCells_len]; exact Nat.le_refl _), fieldCells_len, Nat.sub_self]
  rfl
theorem RowAt.setName {g : Nat} {A B : List Fl} {f : Fl} {w : World} (h : RowAt g (A ++ f :: B) w) (x : List UInt8) : RowAt g (A ++ (x, f.2) :: B) (w.setCell ⟨g, A.length * 2, none⟩ (S x)) := by
  unfold RowAt
  rw [setCell_eq_setRow w g _ _ _ (0, 0) _ h, setRow_heap w g _ _ _ (0, 0) h, fieldCells_set]

section
variable {P : Program}
theorem run_copy_rowN (w : World) (dT sT ty elem : TypeId) (g dLen dCap : Nat) (a : Addr) (sLen sCap size : Nat) (cur : Array Value) (t : TypeId) (cs : List Value)
    (hu : P.underlying dT = some (.slice elem)) (hs : (P.info? elem).map (·.size) = some size)
    (hg : w.heap[g]? = some (.cells cur t (0, 0))) (hn : cs.length = Nat.min sLen dLen * size)
    (hsrc : ∀ j v, cs[j]? = some v → w.cell? (a.add j) = some v) (hfit : cs.length ≤ cur.size) (h1 : ∀ v ∈ cs, v.oneCell' = true) :
    (Builtin.copy_ #[dT, sT] ty #[.slice (some ⟨g, 0, none⟩) dLen dCap, .slice (some a) sLen sCap]).run P w =
      .ok (goInt (Nat.min sLen dLen)) (w.setRow g (cs ++ cur.toList.drop cs.length).toArray) := by
  have hl := run_firstCells_some (P := P) w size (Nat.min sLen dLen) a sLen sCap cs hn hsrc
  have hst := run_storeCells_at P g 0 t cs 0 cur w hg (by simpa using hfit) h1
  cases hq : P.info? elem with
  | none => simp [hq] at hs
  | some i =>
    have hi : i.size = size := by simpa [hq] using hs
    simp [Builtin.copy_, run_underlying hu, Builtin.lenOf, sizeOf, typeInfo, hq, hi, hl]
    simp at hst
    simp [hst, Result.andThen]
theorem run_copy_none' (w : World) (dT sT ty elem : TypeId) (g dLen dCap : Nat) (a : Option Addr) (sCap size : Nat) (hu : P.underlying dT = some (.slice elem)) (hs : (P.info? elem).map (·.size) = some size) :
    (Builtin.copy_ #[dT, sT] ty #[.slice (some ⟨g, 0, none⟩) dLen dCap, .slice a 0 sCap]).run P w = .ok (goInt 0) w := by
  cases hq : P.info? elem with
  | none => simp [hq] at hs
  | some i =>
    have hl : ∀ (x : Addr), (loadCells x 0).run P w = .ok #[] w := fun x => by simpa using run_loadCells_list (P := P) w x [] (by simp)
    cases a <;> simp [Builtin.copy_, run_underlying hu, Builtin.lenOf, Builtin.firstCells, sizeOf, typeInfo, hq, storeCells, hl]
end

set_option maxRecDepth 100000 in
/-- copy(h, l): h the head of a block that is known whole, l whatever. -/
theorem wpList_copyF {w : World} {ops : Array Oper} {rest : List Oper} {o : Oper} {a : Act} {Q : Exit → Act → World → Prop} (hgd : o.guard = none) (d s : Operand)
    (ho : o.op = .call { callee := .builtin .copy, args := #[d, s], argTypes := #[48, 48] })
    (g dLen dCap : Nat) (u : Value) (old l : List Fl) (hd : a.eval d = .slice (some ⟨g, 0, none⟩) dLen dCap) (hs : a.eval s = u) (hr : RowAt g old w) (hl : RowF (fun _ => True) w u l) (hlen : dLen ≤ old.length)
    (h : ∀ w', RowAt g (l.take (min l.length dLen) ++ old.drop (min l.length dLen)) w' → (∀ B w0, Below B w0 w → B ≤ g → Below B w0 w') → w'.heap.size = w.heap.size → wpList Tryz.prog ops Q rest (a.put o.dst (goInt ((min l.length dLen : Nat) : Int))) w') :
    wpList Tryz.prog ops Q (o :: rest) a w := by
  have hsize : (Tryz.prog.info? 61).map (·.size) = some 2 := by kernel_rfl
  rcases hl with ⟨a0, c0, rfl, rfl⟩ | ⟨b, off, cap, rfl, h1, -, h2, h3⟩
  · refine wpList_plain hgd fun K hK => ?_
    have hrun := run_copy_none' (P := Tryz.prog) w 48 48 o.type 61 g dLen dCap a0 c0 2 Tryz.underlying48 hsize
    unfold Oper.wp
    simp [execOp, ho, resolve, invoke, builtin, hd, hs, hrun, Result.andThen]
    have e : min ([] : List Fl).length dLen = 0 := by simp
    have := h w (by simpa using hr) (fun _ _ hb _ => hb) rfl
    rw [e] at this
    exact hK _ _ this
  · refine wpList_plain hgd fun K hK => ?_
    have hm : (l.take (min l.length dLen)).length = min l.length dLen := by rw [List.length_take]; omega
    have hcl : (fieldCells (l.take (min l.length dLen))).length = Nat.min l.length dLen * 2 := by rw [fieldCells_len, hm]
    have hrun := run_copy_rowN (P := Tryz.prog) w 48 48 o.type 61 g dLen dCap ⟨b, off, none⟩ l.length cap 2 _ _ (fieldCells (l.take (min l.length dLen))) Tryz.underlying48 hsize hr hcl
      (fun j v hj => by
        have hadd : (⟨b, off, none⟩ : Addr).add j = ⟨b, off + j, none⟩ := by unfold Addr.add; split <;> simp_all
        rw [hadd]
        have hjl : j < (fieldCells (l.take (min l.length dLen))).length := (List.getElem?_eq_some_iff.1 hj).1
        rw [fieldCells_len] at hjl
        have hq : j / 2 < (l.take (min l.length dLen)).length := by omega
        obtain ⟨f, hf⟩ : ∃ f, (l.take (min l.length dLen))[j / 2]? = some f := ⟨_, List.getElem?_eq_getElem hq⟩
        obtain ⟨g1, g2⟩ := fieldCells_at hf
        have hf2 : l[j / 2]? = some f := by
          rw [List.getElem?_take] at hf
          split at hf
          · exact hf
          · cases hf
        obtain ⟨k1, k2⟩ := h3 _ f hf2
        rcases (by omega : j = j / 2 * 2 ∨ j = j / 2 * 2 + 1) with e | e
        · rw [← e] at g1 k1
          rw [g1] at hj
          rw [k1, Option.some.inj hj]
        · rw [← e] at g2
          rw [Nat.add_assoc, ← e] at k2
          rw [g2] at hj
          rw [k2, Option.some.inj hj])
      (by rw [hcl]; simp only [List.size_toArray, fieldCells_len]; have : Nat.min l.length dLen ≤ dLen := Nat.min_le_right _ _; omega)
      (fun v hv => by
        unfold fieldCells at hv
        obtain ⟨f, _, hf⟩ := List.mem_flatMap.1 hv
        simp at hf
        rcases hf with rfl | rfl <;> rfl)
    have hnew : (fieldCells (l.take (min l.length dLen)) ++ (fieldCells old).drop (fieldCells (l.take (min l.length dLen))).length) = fieldCells (l.take (min l.length dLen) ++ old.drop (min l.length dLen)) := by
      rw [fieldCells_append]
      congr 1
      have e : old = old.take (min l.length dLen) ++ old.drop (min l.length dLen) := (List.take_append_drop _ _).symm
      have hlt : (fieldCells (old.take (min l.length dLen))).length = (fieldCells (l.take (min l.length dLen))).length := by rw [fieldCells_len, fieldCells_len, hm, List.length_take]; omega
      conv => lhs; rw [e, fieldCells_append, ← hlt]
      simp
    unfold Oper.wp
    simp [execOp, ho, resolve, invoke, builtin, hd, hs, hrun, Result.andThen]
    refine hK _ _ (h _ ?_ (fun B w0 hb hB => below_setRow hb hB _) (by simp [World.setRow]))
    unfold RowAt
    rw [setRow_heap w g _ _ _ (0, 0) hr, ← hnew]

def spareF : Fl := ([115, 112, 97, 114, 101], [])
theorem madeFields (n : Nat) : madeCells (Value.agg #[S [], S []]).cells (n * 2) = (fieldCells (List.replicate n (([], []) : Fl))).toArray := by
  apply Array.ext'
  have e : (Value.agg #[S [], S []]).cells = #[S [], S []] := rfl
  rw [e]
  apply List.ext_getElem
  · simp [madeCells, fieldCells_len]
  · intro i h1 h2
    have hi : i / 2 < n := by rw [fieldCells_len, List.length_replicate] at h2; omega
    obtain ⟨g1, g2⟩ := fieldCells_at (hs := List.replicate n (([], []) : Fl)) (j := i / 2) (f := ([], [])) (by rw [List.getElem?_replicate, if_pos hi])
    have hv : (fieldCells (List.replicate n (([], []) : Fl)))[i]? = some (S []) := by
      rcases (by omega : i = i / 2 * 2 ∨ i = i / 2 * 2 + 1) with e | e
      · rw [e]; exact g1
      · rw [e]; exact g2
    have h3 : (fieldCells (List.replicate n (([], []) : Fl)))[i]'h2 = S [] := by
      have := List.getElem?_eq_getElem h2
      rw [hv] at this
      exact (Option.some.inj this).symm
    rw [h3]
    rcases (by omega : i % 2 = 0 ∨ i % 2 = 1) with e | e <;> simp [madeCells, e]

/-- The list in its owner's memory while the spare places are filled. -/
def lentL (l : List Fl) (j : Nat) : List Fl := l ++ List.replicate j spareF ++ List.replicate (4 - j) ([], [])

set_option maxHeartbeats 4000000 in
set_option maxRecDepth 100000 in
theorem lent_any (v : Value) (l : List Fl) (w : World) (hv : RowF (fun _ => True) w v l) (hl : l.length ≤ 68719476736) :
    Calls Tryz.prog 52 #[v] w fun e w' => e = .returned (.slice (some ⟨w.heap.size, 0, none⟩) (l.length + 4) (l.length + 4)) ∧ Below w.heap.size w w' ∧ RowAt w.heap.size (l ++ List.replicate 4 spareF) w' := by
  obtain ⟨a, cap, hva⟩ := hv.slice
  subst hva
  obtain ⟨i0, hi0, hz0, hz1, hz2⟩ := info_parts infoField
  obtain ⟨X, hX⟩ : ∃ X, fieldCells (List.replicate (l.length + 4) (([], []) : Fl)) = X := ⟨_, rfl⟩
  have hmk : ∀ w : World, (Instr.makeSlice 48 (.int .i64 ((l.length : Int) + 4)) (.int .i64 ((l.length : Int) + 4))).run Tryz.prog w = .ok (.slice (some ⟨w.heap.size, 0, none⟩) (l.length + 4) (l.length + 4)) (w.alloc (.cells X.toArray 61)) := by
    intro w
    have hr := run_make (P := Tryz.prog) w 48 61 i0 _ Tryz.underlying48 hi0 hz0 .i64 .i64 ((l.length : Int) + 4) ((l.length : Int) + 4) (by omega) (Int.le_refl _) (by rw [hz2]; omega) (by omega)
    rw [hr, hz1, show ((l.length : Int) + 4).toNat = l.length + 4 from by omega, madeFields, hX]
  have HX := Lib.hid hX
  have HV := Lib.hid hv
  clear hX hv
  go_enter Tryz.func52, Tryz.ntmps52
  have hr0 : RowAt w.heap.size (List.replicate (l.length + 4) ([], [])) (w.alloc (.cells X.toArray 61)) := by
    unfold RowAt
    rw [HX.out]
    exact heap_alloc_new w _
  have hbw0 : Below w.heap.size w (w.alloc (.cells X.toArray 61)) := (Below.refl _ _).alloc (Nat.le_refl _) _
  have hv0 := HV.out.kept (Kept.of_below (ok := fun _ => True) hbw0 (Nat.le_refl _)) fun _ _ _ => trivial
  go_wp2_with ((with_reducible show wpList _ _ _ _ _ _); refine wpList_copyF (o := ⟨some 11, _, _, _, _, _⟩) rfl (.tmp 9) (.tmp 10) rfl w.heap.size (l.length + 4) (l.length + 4) _ _ l rfl rfl hr0 hv0 (by simp) ?_)
  intro w1 hr1 hb1 hz1'
  have hbw1 := hb1 _ _ hbw0 (Nat.le_refl _)
  have hL0 : l ++ [(([], []) : Fl), ([], []), ([], []), ([], [])] = lentL l 0 := by
    unfold lentL
    rw [List.replicate_zero, List.append_nil]
    rfl
  rw [hL0] at hr1
  have HR1 := Lib.hid hr1
  clear hr1 hr0 hb1 hz1' hL0 hv0 hmk
  go_wp2
  go_loopw [4] (fun i wr => ∃ j : Nat, j ≤ 4 ∧ i = .int .i64 ((l.length + j : Nat) : Int) ∧ Hid (RowAt w.heap.size (lentL l j) wr) ∧ Below w.heap.size w wr) (fun i _ => l.length + 4 - (intOf i).toNat)
  case atStart => exact ⟨0, by omega, rfl, HR1, hbw1⟩
  case round =>
    obtain ⟨j, hj, rfl, HR, hbw⟩ := hrel
    by_cases hlt : j < 4
    · have hsplit : lentL l j = (l ++ List.replicate j spareF) ++ ([], []) :: List.replicate (4 - (j + 1)) ([], []) := by
        unfold lentL
        rw [show 4 - j = (4 - (j + 1)) + 1 from by omega, List.replicate_succ]
      have hAl : (l ++ List.replicate j spareF).length = l.length + j := by simp
      have hr := HR.out
      rw [hsplit] at hr
      have hset := hr.setName [115, 112, 97, 114, 101]
      rw [hAl] at hset
      have hcell := (hr.cells (l.length + j) ([], []) (by rw [List.getElem?_append_right (by omega), hAl, Nat.sub_self]; rfl)).1
      have hfz := hr.frozen ((l.length + j) * 2)
      have hnext : (l ++ List.replicate j spareF) ++ ([115, 112, 97, 114, 101], (([], []) : Fl).2) :: List.replicate (4 - (j + 1)) ([], []) = lentL l (j + 1) := by
        unfold lentL
        rw [List.replicate_succ']
        simp [spareF]
      rw [hnext] at hset
      have HSet := Lib.hid hset
      have hk0 : (0 : Int) ≤ ((l.length + j : Nat) : Int) := by omega
      have hk1 : ((l.length + j : Nat) : Int) < (l.length : Int) + 4 := by omega
      clear hsplit hAl hr hset hnext
      go_wp2
      go_roundw
      case rel => exact ⟨j + 1, by omega, by go_num, HSet, hbw.setCell (Nat.le_refl _) _⟩
      case measure => simp [intOf]; omega
    · obtain rfl : j = 4 := by omega
      have hr := HR.out
      have hL4 : lentL l 4 = l ++ List.replicate 4 spareF := by simp [lentL]
      rw [hL4] at hr
      have HR4 := Lib.hid hr
      clear hr hL4
      go_wp2
      go_ret
      exact ⟨rfl, hbw, HR4.out⟩

end Go.Proofs.YtaomhkgdbobpkaaGreatDoor
