/- General lemmas on worlds, second part: a row of elements of whatever size that the call itself makes. No program in sight. -/
import Derived.Test.YtldhfbdljogieaaDoorKit
namespace Go.Proofs.YtldhfbdljogieaaDoor
open Go.RowKit

/-- Every block but 'row' stands as it stood. -/
def KeptRow (row : Option Nat) (w w' : World) : Prop := w.heap.size ≤ w'.heap.size ∧ ∀ k, k < w.heap.size → some k ≠ row → w'.heap[k]? = w.heap[k]?

section
variable {P : Program} {ops : Array Oper} {rest : List Oper} {o : Oper} {a : Act} {Q : Exit → Act → World → Prop} {w : World}
/-- append(v, the m elements that a block just made holds), elements of whatever size. -/
theorem wpList_pushRow (t e : TypeId) (ht : P.underlying t = some (.slice e)) {z : Value} {size bytes : Nat} (hi : (P.info? e).map (fun i => (i.zero, i.size, i.bytes)) = some (some z, size, bytes)) (hzs : z.cells.size = size) (hsz : 0 < size)
    (hgd : o.guard = none) (s x : Operand) (ho : o.op = .call { callee := .builtin .append, args := #[s, x], argTypes := #[t, t] })
    (B : Nat) (v : Value) (n : Nat) (xs : List Value) (cells : List Value) (m : Nat) (wr : World) (vs : Array Value) (hvs : vs = cells.toArray) (hw : w = wr.alloc (.cells vs e))
    (hcl : cells.length = m * size) (h1 : ∀ u ∈ cells, u.oneCell' = true)
    (c g : Nat) (hg : g = wr.heap.size) (hs : a.eval s = v) (hx : a.eval x = .slice (some ⟨g, 0, none⟩) m c) (hown : wr.ownsRow B e size v n xs) (hl : n + m ≤ 4398046511104) (hby : bytes ≤ 32) (hB : B ≤ wr.heap.size)
    (h : ∀ v' w', w'.ownsRow B e size v' (n + m) (xs ++ cells) → Below B wr w' → KeptRow v.ownBlock wr w' → wpList P ops Q rest (a.put o.dst v') w') : wpList P ops Q (o :: rest) a w := by
  obtain ⟨i0, hi0, hz0, hz1, hz2⟩ := info_parts hi
  subst hg hvs hw
  have hnews : ∀ (j : Nat) u, cells[j]? = some u → (wr.alloc (.cells cells.toArray e)).cell? ((⟨wr.heap.size, 0, none⟩ : Addr).add j) = some u := by
    intro j u hj
    have hadd : (⟨wr.heap.size, 0, none⟩ : Addr).add j = ⟨wr.heap.size, j, none⟩ := by unfold Addr.add; split <;> simp_all
    rw [hadd, cell_of_row _ wr.heap.size j cells.toArray e (0, 0) (heap_alloc_new wr _)]
    simpa using hj
  refine wpList_append_own _ hgd s x t ho B e i0 z size bytes ht hi0 hz0 hz1 hz2 hzs hsz v n xs hs (hown.alloc _) ⟨wr.heap.size, 0, none⟩ m c cells hx hcl hnews h1 ?_ ?_ ?_ ?_
  · unfold maxLen; omega
  · have : (n + m) * bytes ≤ 4398046511104 * 32 := Nat.mul_le_mul hl hby
    omega
  · simp; omega
  · intro v' w' h2 h3 _
    have hlt := hown.lt
    refine h v' w' h2 ((((Below.refl B wr).alloc hB _)).grown h3 (by simp; omega) (fun k hk => (hlt k hk).1)) ⟨by have := h3.size; simp at this; omega, fun k hk hne => ?_⟩
    rw [h3.block k (by simp; omega) hne]
    exact Lib.alloc_old wr _ k hk
end

section
variable {P : Program} {ops : Array Oper} {o : Oper} {a : Act} {K : Act → World → Prop} {Q : Exit → Act → World → Prop} {E : Prop} {w : World}
/-- The same, as one step of a region that draws its order. -/
theorem step_pushRow (t e : TypeId) (ht : P.underlying t = some (.slice e)) {z : Value} {size bytes : Nat} (hi : (P.info? e).map (fun i => (i.zero, i.size, i.bytes)) = some (some z, size, bytes)) (hzs : z.cells.size = size) (hsz : 0 < size)
    (hgd : o.guard = none) (s x : Operand) (ho : o.op = .call { callee := .builtin .append, args := #[s, x], argTypes := #[t, t] })
    (B : Nat) (v : Value) (n : Nat) (xs : List Value) (cells : List Value) (m : Nat) (wr : World) (vs : Array Value) (hvs : vs = cells.toArray) (hw : w = wr.alloc (.cells vs e))
    (hcl : cells.length = m * size) (h1 : ∀ u ∈ cells, u.oneCell' = true)
    (c g : Nat) (hg : g = wr.heap.size) (hs : a.eval s = v) (hx : a.eval x = .slice (some ⟨g, 0, none⟩) m c) (hown : wr.ownsRow B e size v n xs) (hl : n + m ≤ 4398046511104) (hby : bytes ≤ 32) (hB : B ≤ wr.heap.size)
    (h : ∀ v' w', w'.ownsRow B e size v' (n + m) (xs ++ cells) → Below B wr w' → KeptRow v.ownBlock wr w' → K (a.put o.dst v') w') :
    if Region.wanted o (yielded ops a.tmps) = true then Oper.wp P o a w K Q else E := by
  obtain ⟨i0, hi0, hz0, hz1, hz2⟩ := info_parts hi
  subst hg hvs hw
  have hnews : ∀ (j : Nat) u, cells[j]? = some u → (wr.alloc (.cells cells.toArray e)).cell? ((⟨wr.heap.size, 0, none⟩ : Addr).add j) = some u := by
    intro j u hj
    have hadd : (⟨wr.heap.size, 0, none⟩ : Addr).add j = ⟨wr.heap.size, j, none⟩ := by unfold Addr.add; split <;> simp_all
    rw [hadd, cell_of_row _ wr.heap.size j cells.toArray e (0, 0) (heap_alloc_new wr _)]
    simpa using hj
  have hwd : Region.wanted o (yielded ops a.tmps) = true := by simp [Region.wanted, hgd]
  rw [if_pos hwd]
  refine wp_append_own _ s x t ho B e i0 z size bytes ht hi0 hz0 hz1 hz2 hzs hsz v n xs hs (hown.alloc _) ⟨wr.heap.size, 0, none⟩ m c cells hx hcl hnews h1 ?_ ?_ ?_ ?_
  · unfold maxLen; omega
  · have : (n + m) * bytes ≤ 4398046511104 * 32 := Nat.mul_le_mul hl hby
    omega
  · simp; omega
  · intro v' w' h2 h3 _
    have hlt := hown.lt
    refine h v' w' h2 ((((Below.refl B wr).alloc hB _)).grown h3 (by simp; omega) (fun k hk => (hlt k hk).1)) ⟨by have := h3.size; simp at this; omega, fun k hk hne => ?_⟩
    rw [h3.block k (by simp; omega) hne]
    exact Lib.alloc_old wr _ k hk
end
/-- x + y of two texts: a rule for the walk, by which the sum has a name. -/
theorem run_cat {P : Program} (x y z : List UInt8) (h : x ++ y = z) (hl : x.length + y.length ≤ 9223372036854775807) (w : World) :
    (Op.stringOp .add ⟨x.toArray⟩ ⟨y.toArray⟩).run P w = .ok (.string ⟨z.toArray⟩) w := by
  rw [run_string_add_sum w _ _ (by simp [ByteArray.size]; omega), ByteArray.mk_append_mk, h]
/-- A block of two cells, known whole. -/
theorem box2 {w : World} {g : Nat} {x y : Value} {t : TypeId} (h : w.heap[g]? = some (.cells #[x, y] t (0, 0))) :
    w.cell? ⟨g, 0, none⟩ = some x ∧ w.cell? ⟨g, 1, none⟩ = some y ∧ w.frozen? ⟨g, 0, none⟩ = false ∧ w.frozen? ⟨g, 1, none⟩ = false :=
  ⟨cell_of_row w g 0 _ _ _ h, cell_of_row w g 1 _ _ _ h, by simp [World.frozen?, h], by simp [World.frozen?, h]⟩
/-- make([]T, 0, n), elements of whatever size. -/
theorem wpList_makeRow {P : Program} {ops : Array Oper} {rest : List Oper} {o : Oper} {a : Act} {Q : Exit → Act → World → Prop} {w : World} (t e : TypeId) (ht : P.underlying t = some (.slice e)) {z : Value} {size bytes : Nat}
    (hi : (P.info? e).map (fun i => (i.zero, i.size, i.bytes)) = some (some z, size, bytes)) (hby : bytes ≤ 32) (hgd : o.guard = none) (l c : Operand) (hop : o.op = Op.makeSlice t l c)
    (B : Nat) (kl kc : IntKind) (C : Int) (n : Nat) (hl : a.eval l = .int kl 0) (hc : a.eval c = .int kc C) (hC : C = (n : Int)) (hn : n ≤ 4398046511104) (hB : B ≤ w.heap.size)
    (hK : ∀ w', w'.ownsRow B e size (.slice (some ⟨w.heap.size, 0, none⟩) 0 n) 0 [] → Below B w w' → KeptRow none w w' → w'.heap.size = w.heap.size + 1 → wpList P ops Q rest (a.put o.dst (.slice (some ⟨w.heap.size, 0, none⟩) 0 n)) w') : wpList P ops Q (o :: rest) a w := by
  obtain ⟨i0, hi0, hz0, hz1, hz2⟩ := info_parts hi
  have h63' : (n : Int) ≤ 9223372036854775807 := by omega
  have hb' : (i0.bytes : Int) * (n : Int) ≤ 281474976710656 := by
    have h1 : i0.bytes * n ≤ 32 * 4398046511104 := Nat.mul_le_mul (by omega) hn
    have h2 : ((i0.bytes * n : Nat) : Int) ≤ 281474976710656 := by omega
    rwa [Int.natCast_mul] at h2
  have hr := run_make (P := P) w t e i0 z ht hi0 hz0 kl kc 0 n (Int.le_refl _) (by omega) hb' h63'
  simp only [Int.toNat_zero, Int.toNat_natCast] at hr
  subst hC
  refine wpList_plain hgd fun K hK' => ?_
  unfold Oper.wp
  simp [execOp, hop, hl, hc, hr, Result.andThen]
  refine hK' _ _ (hK _ ?_ ((Below.refl B w).alloc hB _) ⟨by simp, fun k hk _ => Lib.alloc_old w _ k hk⟩ (by simp))
  rw [hz1]
  exact World.ownsRow_made (base := B) (e := e) (size := size) w (madeCells z.cells (n * size)) n hB (by unfold maxLen; omega) (by rw [size_madeCells])

/-- A block from the heap's end on is not the row's. -/
theorem ownsRow_ne {e : TypeId} {size B n : Nat} {v : Value} {xs : List Value} {w : World} (h : w.ownsRow B e size v n xs) {k : Nat} (hk : w.heap.size ≤ k) : some k ≠ v.ownBlock := by
  intro e1
  have := (h.lt k e1.symm).2
  omega
theorem ownsRow_base {e : TypeId} {size B B' n : Nat} {v : Value} {xs : List Value} {w : World} (h : w.ownsRow B e size v n xs) (hB : B' ≤ B) : w.ownsRow B' e size v n xs := by
  refine ⟨h.1, ?_⟩
  rcases h.2 with hn | ⟨g, cap, cur, rfl, hg, rest⟩
  · exact .inl hn
  · exact .inr ⟨g, cap, cur, rfl, by omega, rest⟩
theorem KeptRow.refl (row : Option Nat) (w : World) : KeptRow row w w := ⟨Nat.le_refl _, fun _ _ _ => rfl⟩
theorem KeptRow.trans {row : Option Nat} {a b c : World} (h : KeptRow row a b) (k : KeptRow row b c) : KeptRow row a c :=
  ⟨Nat.le_trans h.1 k.1, fun i hi hr => (k.2 i (by have := h.1; omega) hr).trans (h.2 i hi hr)⟩
theorem KeptRow.cell {row : Option Nat} {w w' : World} (h : KeptRow row w w') {b o : Nat} (hb : b < w.heap.size) (hr : some b ≠ row) : w'.cell? ⟨b, o, none⟩ = w.cell? ⟨b, o, none⟩ := World.cell?_of_block (a := ⟨b, o, none⟩) (h.2 b hb hr)
theorem ownsRow_below {e : TypeId} {size B n : Nat} {v : Value} {xs : List Value} {w w' : World} (h : w.ownsRow B e size v n xs) (hb : Below w.heap.size w w') : w'.ownsRow B e size v n xs := by
  refine ⟨h.1, ?_⟩
  rcases h.2 with hn | ⟨g, cap, cur, rfl, hB, hgg, rest⟩
  · exact .inl hn
  · exact .inr ⟨g, cap, cur, rfl, hB, (heap_below hb (Array.getElem?_eq_some_iff.1 hgg).1).trans hgg, rest⟩
end Go.Proofs.YtldhfbdljogieaaDoor
