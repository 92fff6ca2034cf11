/- append to a row of bytes that a conversion of a constant text has just made (its row bears the run-time's mark). No program in sight. -/
import Derived.Test.YtmajpambfblhnaaGreatDoorJKit
namespace Go.Proofs.YtmajpambfblhnaaGreatDoor
open Go.RowKit

/-- The row v holds the bytes l: a row of the call's own, or a constant's, that is full. -/
def OwnX (e : TypeId) (B : Nat) (v : Value) (l : List UInt8) (w : World) : Prop :=
  OwnB e B v l w ∨ ∃ g fz, v = .slice (some ⟨g, 0, none⟩) l.length l.length ∧ w.heap[g]? = some (.cells (Lib.byteCells l).toArray e fz)
theorem OwnX.slice {e : TypeId} {B : Nat} {v : Value} {l : List UInt8} {w : World} (h : OwnX e B v l w) : ∃ a m c, v = .slice a m c := by
  rcases h with h | ⟨g, fz, rfl, _⟩
  · rcases h.2 with ⟨rfl, _⟩ | ⟨g, cap, cur, rfl, _⟩
    · exact ⟨_, _, _, rfl⟩
    · exact ⟨_, _, _, rfl⟩
  · exact ⟨_, _, _, rfl⟩
theorem OwnX.drew {e : TypeId} {B : Nat} {v : Value} {l : List UInt8} {w : World} (h : OwnX e B v l w) : OwnX e B v l w.drew := h

section
variable {P : Program}
theorem run_pushX (t ty e : TypeId) (ht : P.underlying t = some (.slice e)) (hi : (P.info? e).map (fun i => (i.zero, i.size, i.bytes)) = some (some (.int .u8 0), 1, 1))
    (B : Nat) (l : List UInt8) (v : Value) (bs : List UInt8) (wr : World) (c : Nat) (hbs : 0 < bs.length) (hown : OwnX e B v l wr) (hl : l.length + bs.length ≤ 140737488355328) (hm : l.length + bs.length ≤ maxLen) (hB : B ≤ wr.heap.size) :
    ∃ v' w', (Builtin.append_ #[t, t] ty #[v, .slice (some ⟨wr.heap.size, 0, none⟩) bs.length c]).run P (wr.alloc (.cells (Lib.byteCells bs).toArray e)) = .ok v' w' ∧ OwnB e B v' (l ++ bs) w' ∧ Below B wr w' := by
  obtain ⟨i0, hi0, hz0, hz1, hz2⟩ := info_parts hi
  have hnews : ∀ (j : Nat) u, (Lib.byteCells bs)[j]? = some u → (wr.alloc (.cells (Lib.byteCells bs).toArray e)).cell? ((⟨wr.heap.size, 0, none⟩ : Addr).add j) = some u := by
    intro j u hj
    have hadd : (⟨wr.heap.size, 0, none⟩ : Addr).add j = ⟨wr.heap.size, j, none⟩ := by unfold Addr.add; split <;> simp_all
    rw [hadd, cell_of_row _ wr.heap.size j (Lib.byteCells bs).toArray e (0, 0) (heap_alloc_new wr _)]
    simpa using hj
  rcases hown with hown | ⟨g, fz, rfl, hg⟩
  · obtain ⟨v', w', hr, h1, h2, -⟩ := run_append_own (P := P) (wr.alloc (.cells (Lib.byteCells bs).toArray e)) B t ty e i0 (.int .u8 0) 1 1 ht hi0 hz0 hz1 hz2 rfl (by decide) v l.length (Lib.byteCells l) (hown.alloc _) ⟨wr.heap.size, 0, none⟩ bs.length c (Lib.byteCells bs) (by simp [Lib.byteCells_length]) hnews (by
      intro u hu
      simp only [Lib.byteCells, List.mem_map] at hu
      obtain ⟨b, _, rfl⟩ := hu
      rfl) hm (by omega) (by simp; omega)
    have h4 := (hown.alloc (.cells (Lib.byteCells bs).toArray e)).grown (by simp; omega) h2
    refine ⟨v', w', hr, ?_, ((Below.refl B wr).alloc hB _).trans h4.1⟩
    unfold OwnB
    rw [List.length_append, Lib.byteCells_append]
    exact h1
  · have hg' := Lib.alloc_old wr (.cells (Lib.byteCells bs).toArray e) g (Array.getElem?_eq_some_iff.1 hg).1
    have holds : ∀ (j : Nat) u, (Lib.byteCells l)[j]? = some u → (wr.alloc (.cells (Lib.byteCells bs).toArray e)).cell? ((⟨g, 0, none⟩ : Addr).add j) = some u := by
      intro j u hj
      have hadd : (⟨g, 0, none⟩ : Addr).add j = ⟨g, j, none⟩ := by unfold Addr.add; split <;> simp_all
      rw [hadd, cell_of_row _ g j (Lib.byteCells l).toArray e fz (hg'.trans hg)]
      simpa using hj
    have hmm := hm
    unfold maxLen at hmm
    have hr := run_append_grow (P := P) (wr.alloc (.cells (Lib.byteCells bs).toArray e)) t ty e i0 (.int .u8 0) ht hi0 hz0 ⟨g, 0, none⟩ l.length l.length (Lib.byteCells l) (by rw [hz1]; simp [Lib.byteCells_length]) holds ⟨wr.heap.size, 0, none⟩ bs.length c (Lib.byteCells bs) (by rw [hz1]; simp [Lib.byteCells_length]) hnews (by omega) (by omega) (growslice_fits (by omega) (by rw [hz2]; omega))
    refine ⟨_, _, hr, ?_, ?_⟩
    · have hge := grownCap_ge (wr.alloc (.cells (Lib.byteCells bs).toArray e)) (l.length + bs.length) l.length e
      have hcm := grownCap_le_maxLen (wr.alloc (.cells (Lib.byteCells bs).toArray e)) (l.length + bs.length) l.length e hm
      unfold OwnB
      rw [List.length_append, Lib.byteCells_append]
      have hlen : (Lib.byteCells l ++ Lib.byteCells bs).length = (l.length + bs.length) * 1 := by simp [Lib.byteCells_length]
      refine ⟨hlen, .inr ⟨_, _, _, rfl, by simp; omega, heap_alloc_new _ _, hge, hcm, ?_, ?_⟩⟩
      · simp only [Array.size_append, List.size_toArray, size_zeroCells, Lib.byteCells_length]
        have : (Value.int IntKind.u8 0).cells.size = 1 := rfl
        rw [this]
        omega
      · simp only [Array.toList_append, List.append_assoc]
        rw [← List.append_assoc, ← hlen]
        exact List.take_left
    · exact (((Below.refl B wr).alloc hB _).drew).alloc (by simp; omega) _
variable {ops : Array Oper} {rest : List Oper} {o : Oper} {a : Act} {K : Act → World → Prop} {Q : Exit → Act → World → Prop} {E : Prop} {w : World}
theorem step_pushX (t e : TypeId) (ht : P.underlying t = some (.slice e)) (hi : (P.info? e).map (fun i => (i.zero, i.size, i.bytes)) = some (some (.int .u8 0), 1, 1))
    (hgd : o.guard = none) (s x : Operand) (ho : o.op = .call { callee := .builtin .append, args := #[s, x], argTypes := #[t, t] })
    (B : Nat) (l : List UInt8) (v : Value) (bs : List UInt8) (wr : World) (vs : Array Value) (hvs : vs = (Lib.byteCells bs).toArray) (hw : w = wr.alloc (.cells vs e))
    (n c : Nat) (hn : n = bs.length) (hbs : 0 < bs.length) (g : Nat) (hg : g = wr.heap.size) (hs : a.eval s = v) (hx : a.eval x = .slice (some ⟨g, 0, none⟩) n c) (hown : OwnX e B v l wr) (hl : l.length + bs.length ≤ 70368744177664) (hB : B ≤ wr.heap.size)
    (h : ∀ v' w', OwnB e B v' (l ++ bs) w' → Below B wr w' → K (a.put o.dst v') w') :
    if Region.wanted o (yielded ops a.tmps) = true then Oper.wp P o a w K Q else E := by
  subst hn hg hvs hw
  have hwd : Region.wanted o (yielded ops a.tmps) = true := by simp [Region.wanted, hgd]
  rw [if_pos hwd]
  obtain ⟨v', w', hr, h1, h2⟩ := run_pushX (P := P) t o.type e ht hi B l v bs wr c hbs hown (by omega) (by unfold maxLen; omega) hB
  unfold Oper.wp execOp
  simp only [ho, resolve, invoke, builtin, Sem.run_bind, Sem.run_pure, Result.andThen_ok, List.map_toArray, List.map_cons, List.map_nil, hs, hx, hr]
  exact h v' w' h1 h2
theorem wpList_pushX (t e : TypeId) (ht : P.underlying t = some (.slice e)) (hi : (P.info? e).map (fun i => (i.zero, i.size, i.bytes)) = some (some (.int .u8 0), 1, 1))
    (hgd : o.guard = none) (s x : Operand) (ho : o.op = .call { callee := .builtin .append, args := #[s, x], argTypes := #[t, t] })
    (B : Nat) (l : List UInt8) (v : Value) (bs : List UInt8) (wr : World) (vs : Array Value) (hvs : vs = (Lib.byteCells bs).toArray) (hw : w = wr.alloc (.cells vs e))
    (n c : Nat) (hn : n = bs.length) (hbs : 0 < bs.length) (g : Nat) (hg : g = wr.heap.size) (hs : a.eval s = v) (hx : a.eval x = .slice (some ⟨g, 0, none⟩) n c) (hown : OwnX e B v l wr) (hl : l.length + bs.length ≤ 70368744177664) (hB : B ≤ wr.heap.size)
    (h : ∀ v' w', OwnB e B v' (l ++ bs) w' → Below B wr w' → wpList P ops Q rest (a.put o.dst v') w') : wpList P ops Q (o :: rest) a w := by
  refine wpList_plain hgd fun K hK => ?_
  have := step_pushX (P := P) (ops := ops) (o := o) (a := a) (K := K) (Q := Q) (E := True) (w := w) t e ht hi hgd s x ho B l v bs wr vs hvs hw n c hn hbs g hg hs hx hown hl hB fun v' w' k1 k2 => hK _ _ (h v' w' k1 k2)
  have hwd : Region.wanted o (yielded ops a.tmps) = true := by simp [Region.wanted, hgd]
  rw [if_pos hwd] at this
  exact this
end
end Go.Proofs.YtmajpambfblhnaaGreatDoor
