/- Walk of the law's own 'mark' (layer 3); stores into an owned row of fields. -/
import Derived.Test.YtldhfbdljogieaaDoorQuPP
import Derived.Test.YtldhfbdljogieaaDoorKit3
namespace Go.Proofs.YtldhfbdljogieaaDoor
open Go.RowKit Qu

/-- The field that mark(n) is, for n below 256. -/
def markF (n : Nat) : Fld := ([109, 97, 114, 107], [n.toUInt8, 0])

set_option maxHeartbeats 1000000 in
theorem mark_any (n : Nat) (hn : n < 256) (w : World) :
    Calls Tryd.prog 34 #[.int .i64 n] w fun e w' => e = .returned (.agg #[S (markF n).1, S (markF n).2]) ∧ Below w.heap.size w w' := by
  have q1 : IntKind.u8.wrap (n : Int) = (n : Int) := IntWalk.u8_in _ (by omega)
  have q2 : (n : Int) / 256 = 0 := by omega
  have hcv : (convert 47 9 (.slice (some ⟨w.heap.size + 1, 0, none⟩) 2 2)).run Tryd.prog ((w.alloc (.cells #[S [], S []] 44)).alloc (.cells #[.int .u8 n, .int .u8 0] 5)) = .ok (S [n.toUInt8, 0]) ((w.alloc (.cells #[S [], S []] 44)).alloc (.cells #[.int .u8 n, .int .u8 0] 5)) := by
    refine run_convert_bytes_back (P := Tryd.prog) _ 47 9 5 ⟨w.heap.size + 1, 0, none⟩ 2 [n.toUInt8, 0] Tryd.underlying47 Tryd.underlying5 Tryd.underlying9 (fun j hj => ?_)
    have hadd : (⟨w.heap.size + 1, 0, none⟩ : Addr).add j = ⟨w.heap.size + 1, j, none⟩ := by unfold Addr.add; split <;> simp_all
    have hbk : ((w.alloc (.cells #[S [], S []] 44)).alloc (.cells #[.int .u8 n, .int .u8 0] 5)).heap[w.heap.size + 1]? = some (.cells #[.int .u8 n, .int .u8 0] 5 (0, 0)) := by
      have := heap_alloc_new (w.alloc (.cells #[S [], S []] 44)) (.cells #[.int .u8 n, .int .u8 0] 5)
      simpa using this
    rw [hadd, cell_of_row _ _ j _ _ (0, 0) hbk]
    have e1 : ((n.toUInt8).toNat : Int) = n := by rw [u8n hn]
    match j, hj with
    | 0, _ => exact congrArg (fun x : Int => some (Value.int .u8 x)) e1.symm
    | 1, _ => rfl
  go_enter Tryd.func34, Tryd.ntmps34
  go_wp2
  have hb : Below w.heap.size w (((w.alloc (.cells #[S [109, 97, 114, 107], S [n.toUInt8, 0]] 44)).alloc (.cells #[.int .u8 n, .int .u8 0] 5))) := ((Below.refl _ w).alloc (Nat.le_refl _) _).alloc (by simp) _
  have hbox : ((w.alloc (.cells #[S [109, 97, 114, 107], S [n.toUInt8, 0]] 44)).alloc (.cells #[.int .u8 n, .int .u8 0] 5)).heap[w.heap.size]? = some (.cells #[S [109, 97, 114, 107], S [n.toUInt8, 0]] 44 (0, 0)) := by
    rw [Lib.alloc_old _ _ _ (by simp)]
    exact heap_alloc_new w _
  obtain ⟨c0, c1, _, _⟩ := box2 hbox
  exact bodyPost_ret (v := .agg #[S (markF n).1, S (markF n).2]) (by simp [results, Tryd.results34, go_sem, c0, c1, markF]) rfl ⟨rfl, hb⟩

theorem ownsRow_setCell {w : World} {B g n cap size j : Nat} {e : TypeId} {xs : List Value} (h : w.ownsRow B e size (.slice (some ⟨g, 0, none⟩) n cap) n xs) (u : Value) :
    (w.setCell ⟨g, j, none⟩ u).ownsRow B e size (.slice (some ⟨g, 0, none⟩) n cap) n (xs.set j u) := by
  refine ⟨by rw [List.length_set]; exact h.1, ?_⟩
  rcases h.2 with ⟨hn, _⟩ | ⟨g', cap', cur, hv, hB, hg, h1, h2, h3, h4⟩
  · cases hn
  · cases hv
    refine .inr ⟨g, cap, cur.setIfInBounds j u, rfl, hB, ?_, h1, h2, by simpa using h3, ?_⟩
    · rw [setCell_eq_setRow w g _ _ _ (0, 0) _ hg, setRow_heap w g _ _ _ (0, 0) hg]
    · rw [Array.toList_setIfInBounds, ← h4, List.take_set]
theorem fieldCells_setF (l : List Fld) (j : Nat) (f : Fld) : ((fieldCells l).set (j * 2) (S f.1)).set (j * 2 + 1) (S f.2) = fieldCells (l.set j f) := by
  induction l generalizing j with
  | nil => rfl
  | cons a l ih =>
    cases j with
    | zero => rfl
    | succ j =>
      have e1 : (j + 1) * 2 = j * 2 + 1 + 1 := by omega
      have h := ih j
      simp only [fieldCells] at h
      simp only [fieldCells, List.flatMap_cons, List.cons_append, List.nil_append, e1, List.set_cons_succ]
      rw [h]
theorem OwnF.store {w : World} {B g n cap : Nat} {l : List Fld} (h : OwnF B (.slice (some ⟨g, 0, none⟩) n cap) l w) (hn : l.length = n) (j : Nat) (f : Fld) :
    OwnF B (.slice (some ⟨g, 0, none⟩) n cap) (l.set j f) ((w.setCell ⟨g, j * 2, none⟩ (S f.1)).setCell ⟨g, j * 2 + 1, none⟩ (S f.2)) := by
  subst hn
  unfold OwnF at h ⊢
  rw [← fieldCells_setF, List.length_set]
  exact ownsRow_setCell (ownsRow_setCell h _) _
end Go.Proofs.YtldhfbdljogieaaDoor
