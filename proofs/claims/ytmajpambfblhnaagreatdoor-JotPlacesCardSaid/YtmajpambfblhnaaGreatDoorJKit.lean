/- What jot's walks share: rows, appends, calls, steps. -/
import Derived.WalkKit
import Derived.WalkSpells
import Derived.WalkLawsBesides
import Derived.Handy
import Derived.Lib.Hide
import Derived.Lib.OthersKept
import Derived.Laws.IdiomStrings
import Derived.Maps.AppendAt
import Derived.Deep.Upon
namespace Go.Proofs.YtmajpambfblhnaaGreatDoor
open Go.RowKit

theorem bcell {B : Nat} {W w1 : World} (hb : Below B W w1) : (∀ b o, b < B → w1.cell? ⟨b, o, none⟩ = W.cell? ⟨b, o, none⟩) ∧ (∀ b o, b < B → w1.frozen? ⟨b, o, none⟩ = W.frozen? ⟨b, o, none⟩) :=
  ⟨fun b o h => hb.cell (p := ⟨b, o, none⟩) h, fun b o h => hb.frozen (p := ⟨b, o, none⟩) h⟩

/-- The bytes l stand in the slice value v, which the call itself has made (in a block from B on). -/
def OwnB (e : TypeId) (B : Nat) (v : Value) (l : List UInt8) (w : World) : Prop := w.ownsRow B e 1 v l.length (Lib.byteCells l)

theorem OwnB.alloc {e : TypeId} {B : Nat} {v : Value} {l : List UInt8} {w : World} (h : OwnB e B v l w) (o : Obj) : OwnB e B v l (w.alloc o) := World.ownsRow.alloc h o
theorem OwnB.drew {e : TypeId} {B : Nat} {v : Value} {l : List UInt8} {w : World} (h : OwnB e B v l w) : OwnB e B v l w.drew := h
theorem OwnB.lt {e : TypeId} {B : Nat} {v : Value} {l : List UInt8} {w : World} (h : OwnB e B v l w) : ∀ k, v.ownBlock = some k → B ≤ k ∧ k < w.heap.size := World.ownsRow.lt h
theorem OwnB.kind {e : TypeId} {B : Nat} {v : Value} {l : List UInt8} {w : World} (h : OwnB e B v l w) : ∀ g, v.ownBlock = some g → ∃ c fz, w.heap[g]? = some (.cells c e fz) := by
  intro g hg
  rcases h.2 with ⟨rfl, _⟩ | ⟨g', cap, cur, rfl, _, hgg, _⟩
  · simp [Value.ownBlock] at hg
  · simp [Value.ownBlock] at hg
    subst hg
    exact ⟨cur, (0, 0), hgg⟩

/-- Moving a string's iterator on keeps an owned row. -/
theorem OwnB.iterAt {e : TypeId} {B : Nat} {v : Value} {l : List UInt8} {w : World} (h : OwnB e B v l w) {k : Nat} {s : ByteArray} {pos : Nat} (hk : w.heap[k]? = some (.stringIter s pos)) (pos' : Nat) : OwnB e B v l (w.iterAt k s pos') := by
  refine ⟨h.1, ?_⟩
  rcases h.2 with hn | ⟨g, cap, cur, rfl, hb, hgg, rest⟩
  · exact .inl hn
  · refine .inr ⟨g, cap, cur, rfl, hb, ?_, rest⟩
    rw [Lib.iterAt_other]
    · exact hgg
    · intro e1
      rw [e1, hk] at hgg
      cases hgg

theorem heap_below {B : Nat} {w w' : World} (hb : Below B w w') {k : Nat} (hk : k < B) : w'.heap[k]? = w.heap[k]? := hb.block k hk
theorem OwnB.below {e : TypeId} {B : Nat} {v : Value} {l : List UInt8} {w w' : World} (h : OwnB e B v l w) (hb : Below w.heap.size w w') : OwnB e B v l w' := by
  refine ⟨h.1, ?_⟩
  rcases h.2 with hn | ⟨g, cap, cur, rfl, hB, hgg, rest⟩
  · exact .inl hn
  · exact .inr ⟨g, cap, cur, rfl, hB, (heap_below hb (Array.getElem?_eq_some_iff.1 hgg).1).trans hgg, rest⟩

theorem OwnB.nil (e : TypeId) (B : Nat) (w : World) : OwnB e B (.slice none 0 0) [] w := World.ownsRow_nil _ _ _ _

/-- What 'append' leaves, said with 'Below' and 'OthersKept'. -/
theorem OwnB.grown {e : TypeId} {B : Nat} {v : Value} {l : List UInt8} {w w' : World} (h : OwnB e B v l w) (hB : B ≤ w.heap.size) (hg : w.grownBy w' v.ownBlock) : Below B w w' ∧ Lib.OthersKept e none w w' :=
  ⟨(Below.refl B w).grown hg hB (fun k hk => (h.lt k hk).1), (Lib.OthersKept.refl e none w).grown hg (h.kind)⟩

section
variable {P : Program} {ops : Array Oper} {rest : List Oper} {o : Oper} {a : Act} {Q : Exit → Act → World → Prop} {w : World}

/-- append(v, the n bytes that a block just made holds). -/
theorem wpList_pushes (t e : TypeId) (ht : P.underlying t = some (.slice e)) (hi : (P.info? e).map (fun i => (i.zero, i.size, i.bytes)) = some (some (.int .u8 0), 1, 1))
    (hgd : o.guard = none) (s x : Operand) (ho : o.op = .call { callee := .builtin .append, args := #[s, x], argTypes := #[t, t] })
    (B : Nat) (l : List UInt8) (v : Value) (bs : List UInt8) (wr : World) (vs : Array Value) (hvs : vs = (Lib.byteCells bs).toArray) (hw : w = wr.alloc (.cells vs e))
    (n c : Nat) (hn : n = bs.length) (g : Nat) (hg : g = wr.heap.size) (hs : a.eval s = v) (hx : a.eval x = .slice (some ⟨g, 0, none⟩) n c) (hown : OwnB e B v l wr) (hl : l.length + bs.length ≤ 140737488355328) (hB : B ≤ wr.heap.size)
    (h : ∀ v' w', OwnB e B v' (l ++ bs) w' → Below B wr w' → Lib.OthersKept e none wr w' → wpList P ops Q rest (a.put o.dst v') w') : wpList P ops Q (o :: rest) a w := by
  obtain ⟨i0, hi0, hz0, hz1, hz2⟩ := info_parts hi
  subst hn hg hvs hw
  have hnews : ∀ (j : Nat) u, (Lib.byteCells bs)[j]? = some u → (wr.alloc (.cells (Lib.byteCells bs).toArray e)).cell? ((⟨wr.heap.size, 0, none⟩ : Addr).add j) = some u := by
    intro j u hj
    have hadd : (⟨wr.heap.size, 0, none⟩ : Addr).add j = ⟨wr.heap.size, j, none⟩ := by unfold Addr.add; split <;> simp_all
    rw [hadd, cell_of_row _ wr.heap.size j (Lib.byteCells bs).toArray e (0, 0) (heap_alloc_new wr _)]
    simpa using hj
  refine wpList_append_own _ hgd s x t ho B e i0 (.int .u8 0) 1 1 ht hi0 hz0 hz1 hz2 rfl (by decide) v l.length (Lib.byteCells l) hs (hown.alloc _) ⟨wr.heap.size, 0, none⟩ bs.length c (Lib.byteCells bs) hx (by simp [Lib.byteCells_length]) hnews ?_ ?_ (by omega) ?_ ?_
  · intro u hu
    simp only [Lib.byteCells, List.mem_map] at hu
    obtain ⟨b, _, rfl⟩ := hu
    rfl
  · unfold maxLen; omega
  · simp; omega
  · intro v' w' h1 h2 _
    have h3 : OwnB e B v' (l ++ bs) w' := by
      unfold OwnB
      rw [List.length_append, Lib.byteCells_append]
      exact h1
    have h4 := (hown.alloc (.cells (Lib.byteCells bs).toArray e)).grown (by simp; omega) h2
    exact h v' w' h3 (((Below.refl B wr).alloc hB _).trans h4.1) (((Lib.OthersKept.refl e none wr).alloc _).trans h4.2)
end

section
variable {P : Program} {ops : Array Oper} {o : Oper} {a : Act} {K : Act → World → Prop} {Q : Exit → Act → World → Prop} {E : Prop} {w : World}
/-- The same, as one step of a region that draws its order. -/
theorem step_pushes (t e : TypeId) (ht : P.underlying t = some (.slice e)) (hi : (P.info? e).map (fun i => (i.zero, i.size, i.bytes)) = some (some (.int .u8 0), 1, 1))
    (hgd : o.guard = none) (s x : Operand) (ho : o.op = .call { callee := .builtin .append, args := #[s, x], argTypes := #[t, t] })
    (B : Nat) (l : List UInt8) (v : Value) (bs : List UInt8) (wr : World) (vs : Array Value) (hvs : vs = (Lib.byteCells bs).toArray) (hw : w = wr.alloc (.cells vs e))
    (n c : Nat) (hn : n = bs.length) (g : Nat) (hg : g = wr.heap.size) (hs : a.eval s = v) (hx : a.eval x = .slice (some ⟨g, 0, none⟩) n c) (hown : OwnB e B v l wr) (hl : l.length + bs.length ≤ 140737488355328) (hB : B ≤ wr.heap.size)
    (h : ∀ v' w', OwnB e B v' (l ++ bs) w' → Below B wr w' → Lib.OthersKept e none wr w' → K (a.put o.dst v') w') :
    if Region.wanted o (yielded ops a.tmps) = true then Oper.wp P o a w K Q else E := by
  obtain ⟨i0, hi0, hz0, hz1, hz2⟩ := info_parts hi
  subst hn hg hvs hw
  have hnews : ∀ (j : Nat) u, (Lib.byteCells bs)[j]? = some u → (wr.alloc (.cells (Lib.byteCells bs).toArray e)).cell? ((⟨wr.heap.size, 0, none⟩ : Addr).add j) = some u := by
    intro j u hj
    have hadd : (⟨wr.heap.size, 0, none⟩ : Addr).add j = ⟨wr.heap.size, j, none⟩ := by unfold Addr.add; split <;> simp_all
    rw [hadd, cell_of_row _ wr.heap.size j (Lib.byteCells bs).toArray e (0, 0) (heap_alloc_new wr _)]
    simpa using hj
  have hwd : Region.wanted o (yielded ops a.tmps) = true := by simp [Region.wanted, hgd]
  rw [if_pos hwd]
  refine wp_append_own _ s x t ho B e i0 (.int .u8 0) 1 1 ht hi0 hz0 hz1 hz2 rfl (by decide) v l.length (Lib.byteCells l) hs (hown.alloc _) ⟨wr.heap.size, 0, none⟩ bs.length c (Lib.byteCells bs) hx (by simp [Lib.byteCells_length]) hnews ?_ ?_ (by omega) ?_ ?_
  · intro u hu
    simp only [Lib.byteCells, List.mem_map] at hu
    obtain ⟨b, _, rfl⟩ := hu
    rfl
  · unfold maxLen; omega
  · simp; omega
  · intro v' w' h1 h2 _
    have h3 : OwnB e B v' (l ++ bs) w' := by
      unfold OwnB
      rw [List.length_append, Lib.byteCells_append]
      exact h1
    have h4 := (hown.alloc (.cells (Lib.byteCells bs).toArray e)).grown (by simp; omega) h2
    exact h v' w' h3 (((Below.refl B wr).alloc hB _).trans h4.1) (((Lib.OthersKept.refl e none wr).alloc _).trans h4.2)
end

/-- make([]byte, 0, n). -/
theorem wpList_makeB {P : Program} {ops : Array Oper} {rest : List Oper} {o : Oper} {a : Act} {Q : Exit → Act → World → Prop} {w : World} (t e : TypeId) (ht : P.underlying t = some (.slice e))
    (hi : (P.info? e).map (fun i => (i.zero, i.size, i.bytes)) = some (some (.int .u8 0), 1, 1)) (hgd : o.guard = none) (l c : Operand) (hop : o.op = Op.makeSlice t l c)
    (B : Nat) (kl kc : IntKind) (C : Int) (n : Nat) (hl : a.eval l = .int kl 0) (hc : a.eval c = .int kc C) (hC : C = (n : Int)) (hn : n ≤ 140737488355328) (hB : B ≤ w.heap.size)
    (hK : ∀ w', OwnB e B (.slice (some ⟨w.heap.size, 0, none⟩) 0 n) [] w' → Below B w w' → w'.heap.size = w.heap.size + 1 → wpList P ops Q rest (a.put o.dst (.slice (some ⟨w.heap.size, 0, none⟩) 0 n)) w') : wpList P ops Q (o :: rest) a w := by
  obtain ⟨i0, hi0, hz0, hz1, hz2⟩ := info_parts hi
  have h63' : (n : Int) ≤ 9223372036854775807 := by omega
  have hb' : (i0.bytes : Int) * (n : Int) ≤ 281474976710656 := by rw [hz2]; omega
  have hr := run_make (P := P) w t e i0 (.int .u8 0) ht hi0 hz0 kl kc 0 n (Int.le_refl _) (by omega) hb' h63'
  simp only [Int.toNat_zero, Int.toNat_natCast] at hr
  subst hC
  refine wpList_plain hgd fun K hK' => ?_
  unfold Oper.wp
  simp [execOp, hop, hl, hc, hr, Result.andThen]
  refine hK' _ _ (hK _ ?_ ((Below.refl B w).alloc hB _) (by simp))
  have := World.ownsRow_made (base := B) (e := e) (size := 1) w (madeCells (Value.int .u8 0).cells (n * i0.size)) n hB (by unfold maxLen; omega) (by rw [size_madeCells, hz1])
  simpa [OwnB, Lib.byteCells] using this

theorem keptIter {e : TypeId} {w w' : World} (h : Lib.OthersKept e none w w') {k : Nat} {s : ByteArray} {pos : Nat} (hk : w.heap[k]? = some (.stringIter s pos)) : w'.heap[k]? = some (.stringIter s pos) :=
  h k _ hk (by simp) (by intro c fz e; cases e)

theorem extract_size (s : ByteArray) (i : Nat) : (s.extract i s.size).size = s.size - i := by simp
theorem extract_at (s : ByteArray) (i j : Nat) (h : j < (s.extract i s.size).size) (h' : i + j < s.size) : (s.extract i s.size)[j]'h = s[i + j]'h' := by
  simp [ByteArray.getElem_extract]

/-- s[i] at a place within: a rule for the walk, by which the byte has a name. -/
theorem run_index_str {P : Program} {T : TypeId} (hT : P.underlying T = some .string) (s : ByteArray) (i : Int) (k : Nat) (hi : i = k) (h : k < s.size) (c : UInt8) (hc : s[k]'h = c) (w : World) :
    (Instr.index T (.string s) (.int .i64 i)).run P w = .ok (.int .u8 c.toNat) w := by
  subst hi hc
  rw [run_index_string (P := P) (w := w) T s .i64 k hT]
  have h1 : 0 ≤ (k : Int) ∧ (k : Int) < s.size := by omega
  simp [h1.2]

/-- string(v) of an owned row. -/
theorem OwnB.string {P : Program} {src dst e : TypeId} (hs : P.underlying src = some (.slice e)) (he : P.underlying e = some (.int .u8)) (hd : P.underlying dst = some .string)
    {B : Nat} {v : Value} {l : List UInt8} {w : World} (h : OwnB e B v l w) : (convert src dst v).run P w = .ok (.string ⟨l.toArray⟩) w := by
  rcases h.2 with ⟨rfl, h0⟩ | ⟨g, cap, cur, rfl, -, -, -, -, -, -⟩
  · obtain rfl : l = [] := List.eq_nil_of_length_eq_zero h0
    rw [run_convert_bytes_string w src dst e none 0 0 hs he hd]
    simp [Conv.bytesToString, Sem.run_pure]
    rfl
  · exact run_convert_bytes_back (P := P) w src dst e ⟨g, 0, none⟩ cap l hs he hd (fun j hj => h.cells (g := g) rfl j _ (by simp [Lib.byteCells, hj]))
end Go.Proofs.YtmajpambfblhnaaGreatDoor

namespace Go.Proofs.YtmajpambfblhnaaGreatDoor
open Go.RowKit

/-- Every block but 'row' stands as it stood. -/
def KeptRow (row : Option Nat) (w w' : World) : Prop := w.heap.size ≤ w'.heap.size ∧ ∀ k, k < w.heap.size → some k ≠ row → w'.heap[k]? = w.heap[k]?

section
variable {P : Program} {ops : Array Oper} {rest : List Oper} {o : Oper} {a : Act} {Q : Exit → Act → World → Prop} {w : World}
/-- append(v, the m elements that a block just made holds), elements of whatever size. -/
theorem wpList_pushRow (t e : TypeId) (ht : P.underlying t = some (.slice e)) {z : Value} {size bytes : Nat} (hi : (P.info? e).map (fun i => (i.zero, i.size, i.bytes)) = some (some z, size, bytes)) (hzs : z.cells.size = size) (hsz : 0 < size)
    (hgd : o.guard = none) (s x : Operand) (ho : o.op = .call { callee := .builtin .append, args := #[s, x], argTypes := #[t, t] })
    (B : Nat) (v : Value) (n : Nat) (xs : List Value) (cells : List Value) (m : Nat) (wr : World) (vs : Array Value) (hvs : vs = cells.toArray) (hw : w = wr.alloc (.cells vs e))
    (hcl : cells.length = m * size) (h1 : ∀ u ∈ cells, u.oneCell' = true)
    (c g : Nat) (hg : g = wr.heap.size) (hs : a.eval s = v) (hx : a.eval x = .slice (some ⟨g, 0, none⟩) m c) (hown : wr.ownsRow B e size v n xs) (hl : n + m ≤ 4398046511104) (hby : bytes ≤ 32) (hB : B ≤ wr.heap.size)
    (h : ∀ v' w', w'.ownsRow B e size v' (n + m) (xs ++ cells) → Below B wr w' → KeptRow v.ownBlock wr w' → wpList P ops Q rest (a.put o.dst v') w') : wpList P ops Q (o :: rest) a w := by
  obtain ⟨i0, hi0, hz0, hz1, hz2⟩ := info_parts hi
  subst hg hvs hw
  have hnews : ∀ (j : Nat) u, cells[j]? = some u → (wr.alloc (.cells cells.toArray e)).cell? ((⟨wr.heap.size, 0, none⟩ : Addr).add j) = some u := by
    intro j u hj
    have hadd : (⟨wr.heap.size, 0, none⟩ : Addr).add j = ⟨wr.heap.size, j, none⟩ := by unfold Addr.add; split <;> simp_all
    rw [hadd, cell_of_row _ wr.heap.size j cells.toArray e (0, 0) (heap_alloc_new wr _)]
    simpa using hj
  refine wpList_append_own _ hgd s x t ho B e i0 z size bytes ht hi0 hz0 hz1 hz2 hzs hsz v n xs hs (hown.alloc _) ⟨wr.heap.size, 0, none⟩ m c cells hx hcl hnews h1 ?_ ?_ ?_ ?_
  · unfold maxLen; omega
  · have : (n + m) * bytes ≤ 4398046511104 * 32 := Nat.mul_le_mul hl hby
    omega
  · simp; omega
  · intro v' w' h2 h3 _
    have hlt := hown.lt
    refine h v' w' h2 ((((Below.refl B wr).alloc hB _)).grown h3 (by simp; omega) (fun k hk => (hlt k hk).1)) ⟨by have := h3.size; simp at this; omega, fun k hk hne => ?_⟩
    rw [h3.block k (by simp; omega) hne]
    exact Lib.alloc_old wr _ k hk
end

section
variable {P : Program} {ops : Array Oper} {o : Oper} {a : Act} {K : Act → World → Prop} {Q : Exit → Act → World → Prop} {E : Prop} {w : World}
/-- The same, as one step of a region that draws its order. -/
theorem step_pushRow (t e : TypeId) (ht : P.underlying t = some (.slice e)) {z : Value} {size bytes : Nat} (hi : (P.info? e).map (fun i => (i.zero, i.size, i.bytes)) = some (some z, size, bytes)) (hzs : z.cells.size = size) (hsz : 0 < size)
    (hgd : o.guard = none) (s x : Operand) (ho : o.op = .call { callee := .builtin .append, args := #[s, x], argTypes := #[t, t] })
    (B : Nat) (v : Value) (n : Nat) (xs : List Value) (cells : List Value) (m : Nat) (wr : World) (vs : Array Value) (hvs : vs = cells.toArray) (hw : w = wr.alloc (.cells vs e))
    (hcl : cells.length = m * size) (h1 : ∀ u ∈ cells, u.oneCell' = true)
    (c g : Nat) (hg : g = wr.heap.size) (hs : a.eval s = v) (hx : a.eval x = .slice (some ⟨g, 0, none⟩) m c) (hown : wr.ownsRow B e size v n xs) (hl : n + m ≤ 4398046511104) (hby : bytes ≤ 32) (hB : B ≤ wr.heap.size)
    (h : ∀ v' w', w'.ownsRow B e size v' (n + m) (xs ++ cells) → Below B wr w' → KeptRow v.ownBlock wr w' → K (a.put o.dst v') w') :
    if Region.wanted o (yielded ops a.tmps) = true then Oper.wp P o a w K Q else E := by
  obtain ⟨i0, hi0, hz0, hz1, hz2⟩ := info_parts hi
  subst hg hvs hw
  have hnews : ∀ (j : Nat) u, cells[j]? = some u → (wr.alloc (.cells cells.toArray e)).cell? ((⟨wr.heap.size, 0, none⟩ : Addr).add j) = some u := by
    intro j u hj
    have hadd : (⟨wr.heap.size, 0, none⟩ : Addr).add j = ⟨wr.heap.size, j, none⟩ := by unfold Addr.add; split <;> simp_all
    rw [hadd, cell_of_row _ wr.heap.size j cells.toArray e (0, 0) (heap_alloc_new wr _)]
    simpa using hj
  have hwd : Region.wanted o (yielded ops a.tmps) = true := by simp [Region.wanted, hgd]
  rw [if_pos hwd]
  refine wp_append_own _ s x t ho B e i0 z size bytes ht hi0 hz0 hz1 hz2 hzs hsz v n xs hs (hown.alloc _) ⟨wr.heap.size, 0, none⟩ m c cells hx hcl hnews h1 ?_ ?_ ?_ ?_
  · unfold maxLen; omega
  · have : (n + m) * bytes ≤ 4398046511104 * 32 := Nat.mul_le_mul hl hby
    omega
  · simp; omega
  · intro v' w' h2 h3 _
    have hlt := hown.lt
    refine h v' w' h2 ((((Below.refl B wr).alloc hB _)).grown h3 (by simp; omega) (fun k hk => (hlt k hk).1)) ⟨by have := h3.size; simp at this; omega, fun k hk hne => ?_⟩
    rw [h3.block k (by simp; omega) hne]
    exact Lib.alloc_old wr _ k hk
end
/-- x + y of two texts: a rule for the walk, by which the sum has a name. -/
theorem run_cat {P : Program} (x y z : List UInt8) (h : x ++ y = z) (hl : x.length + y.length ≤ 9223372036854775807) (w : World) :
    (Op.stringOp .add ⟨x.toArray⟩ ⟨y.toArray⟩).run P w = .ok (.string ⟨z.toArray⟩) w := by
  rw [run_string_add_sum w _ _ (by simp [ByteArray.size]; omega), ByteArray.mk_append_mk, h]
/-- A block of two cells, known whole. -/
theorem box2 {w : World} {g : Nat} {x y : Value} {t : TypeId} (h : w.heap[g]? = some (.cells #[x, y] t (0, 0))) :
    w.cell? ⟨g, 0, none⟩ = some x ∧ w.cell? ⟨g, 1, none⟩ = some y ∧ w.frozen? ⟨g, 0, none⟩ = false ∧ w.frozen? ⟨g, 1, none⟩ = false :=
  ⟨cell_of_row w g 0 _ _ _ h, cell_of_row w g 1 _ _ _ h, by simp [World.frozen?, h], by simp [World.frozen?, h]⟩
/-- make([]T, 0, n), elements of whatever size. -/
theorem wpList_makeRow {P : Program} {ops : Array Oper} {rest : List Oper} {o : Oper} {a : Act} {Q : Exit → Act → World → Prop} {w : World} (t e : TypeId) (ht : P.underlying t = some (.slice e)) {z : Value} {size bytes : Nat}
    (hi : (P.info? e).map (fun i => (i.zero, i.size, i.bytes)) = some (some z, size, bytes)) (hby : bytes ≤ 32) (hgd : o.guard = none) (l c : Operand) (hop : o.op = Op.makeSlice t l c)
    (B : Nat) (kl kc : IntKind) (C : Int) (n : Nat) (hl : a.eval l = .int kl 0) (hc : a.eval c = .int kc C) (hC : C = (n : Int)) (hn : n ≤ 4398046511104) (hB : B ≤ w.heap.size)
    (hK : ∀ w', w'.ownsRow B e size (.slice (some ⟨w.heap.size, 0, none⟩) 0 n) 0 [] → Below B w w' → KeptRow none w w' → w'.heap.size = w.heap.size + 1 → wpList P ops Q rest (a.put o.dst (.slice (some ⟨w.heap.size, 0, none⟩) 0 n)) w') : wpList P ops Q (o :: rest) a w := by
  obtain ⟨i0, hi0, hz0, hz1, hz2⟩ := info_parts hi
  have h63' : (n : Int) ≤ 9223372036854775807 := by omega
  have hb' : (i0.bytes : Int) * (n : Int) ≤ 281474976710656 := by
    have h1 : i0.bytes * n ≤ 32 * 4398046511104 := Nat.mul_le_mul (by omega) hn
    have h2 : ((i0.bytes * n : Nat) : Int) ≤ 281474976710656 := by omega
    rwa [Int.natCast_mul] at h2
  have hr := run_make (P := P) w t e i0 z ht hi0 hz0 kl kc 0 n (Int.le_refl _) (by omega) hb' h63'
  simp only [Int.toNat_zero, Int.toNat_natCast] at hr
  subst hC
  refine wpList_plain hgd fun K hK' => ?_
  unfold Oper.wp
  simp [execOp, hop, hl, hc, hr, Result.andThen]
  refine hK' _ _ (hK _ ?_ ((Below.refl B w).alloc hB _) ⟨by simp, fun k hk _ => Lib.alloc_old w _ k hk⟩ (by simp))
  rw [hz1]
  exact World.ownsRow_made (base := B) (e := e) (size := size) w (madeCells z.cells (n * size)) n hB (by unfold maxLen; omega) (by rw [size_madeCells])

/-- A block from the heap's end on is not the row's. -/
theorem ownsRow_ne {e : TypeId} {size B n : Nat} {v : Value} {xs : List Value} {w : World} (h : w.ownsRow B e size v n xs) {k : Nat} (hk : w.heap.size ≤ k) : some k ≠ v.ownBlock := by
  intro e1
  have := (h.lt k e1.symm).2
  omega
theorem ownsRow_base {e : TypeId} {size B B' n : Nat} {v : Value} {xs : List Value} {w : World} (h : w.ownsRow B e size v n xs) (hB : B' ≤ B) : w.ownsRow B' e size v n xs := by
  refine ⟨h.1, ?_⟩
  rcases h.2 with hn | ⟨g, cap, cur, rfl, hg, rest⟩
  · exact .inl hn
  · exact .inr ⟨g, cap, cur, rfl, by omega, rest⟩
theorem KeptRow.refl (row : Option Nat) (w : World) : KeptRow row w w := ⟨Nat.le_refl _, fun _ _ _ => rfl⟩
theorem KeptRow.trans {row : Option Nat} {a b c : World} (h : KeptRow row a b) (k : KeptRow row b c) : KeptRow row a c :=
  ⟨Nat.le_trans h.1 k.1, fun i hi hr => (k.2 i (by have := h.1; omega) hr).trans (h.2 i hi hr)⟩
theorem KeptRow.cell {row : Option Nat} {w w' : World} (h : KeptRow row w w') {b o : Nat} (hb : b < w.heap.size) (hr : some b ≠ row) : w'.cell? ⟨b, o, none⟩ = w.cell? ⟨b, o, none⟩ := World.cell?_of_block (a := ⟨b, o, none⟩) (h.2 b hb hr)
theorem ownsRow_below {e : TypeId} {size B n : Nat} {v : Value} {xs : List Value} {w w' : World} (h : w.ownsRow B e size v n xs) (hb : Below w.heap.size w w') : w'.ownsRow B e size v n xs := by
  refine ⟨h.1, ?_⟩
  rcases h.2 with hn | ⟨g, cap, cur, rfl, hB, hgg, rest⟩
  · exact .inl hn
  · exact .inr ⟨g, cap, cur, rfl, hB, (heap_below hb (Array.getElem?_eq_some_iff.1 hgg).1).trans hgg, rest⟩
end Go.Proofs.YtmajpambfblhnaaGreatDoor

namespace Go.Proofs.YtmajpambfblhnaaGreatDoor
open Go.RowKit

/-- From v to v' in one append: in place (no other block is touched), or in a new block (none that stood is touched). -/
def Moved (v v' : Value) (w w' : World) : Prop := (v'.ownBlock = v.ownBlock ∧ KeptRow v.ownBlock w w') ∨ ((∀ b, v'.ownBlock = some b → w.heap.size ≤ b) ∧ KeptRow none w w')
theorem Moved.kept {v v' : Value} {w w' : World} (h : Moved v v' w w') : KeptRow v.ownBlock w w' := by
  rcases h with h | h
  · exact h.2
  · exact ⟨h.2.1, fun k hk _ => h.2.2 k hk (by simp)⟩

theorem run_append_moved {P : Program} (w : World) (base : Nat) (t ty e : TypeId) (i : TypeInfo) (z : Value) (size bytes : Nat) (ht : P.underlying t = some (.slice e)) (hi : P.info? e = some i) (hz : i.zero = some z)
    (hsize : i.size = size) (hby : i.bytes = bytes) (hzs : z.cells.size = size) (hsz : 0 < size)
    (v : Value) (n : Nat) (xs : List Value) (hown : w.ownsRow base e size v n xs)
    (a : Addr) (m c : Nat) (news : List Value) (hl : news.length = m * size) (hnews : ∀ j u, news[j]? = some u → w.cell? (a.add j) = some u) (h1 : ∀ u ∈ news, u.oneCell' = true)
    (hm : 0 < m) (h63 : n + m ≤ maxLen) (hbytes : (n + m) * bytes ≤ 140737488355328) (hbase : base ≤ w.heap.size) :
    ∃ v' w', (Builtin.append_ #[t, t] ty #[v, .slice (some a) m c]).run P w = .ok v' w' ∧ w'.ownsRow base e size v' (n + m) (xs ++ news) ∧ w.grownBy w' v.ownBlock ∧ Moved v v' w w' := by
  obtain ⟨v', w', hr, h2, h3, _, h5⟩ := run_append_own_at (P := P) w base t ty e i z size bytes ht hi hz hsize hby hzs hsz v n xs hown a m c news hl hnews h1 h63 hbytes hbase
  refine ⟨v', w', hr, h2, h3, ?_⟩
  subst hsize hby
  have hsmall : n + m ≤ 9223372036854775807 := by simp only [maxLen] at h63; omega
  have drawn : ∀ o : Obj, KeptRow none w (w.drew.alloc o) := fun o => ⟨by simp, fun k hk _ => Lib.alloc_old w.drew o k hk⟩
  rcases hown.2 with ⟨rfl, rfl⟩ | ⟨g, cap, cur, rfl, hbg, hg, hnc, hcm, hcs, htake⟩
  · right
    have hrn := run_append_nil (P := P) w t ty e i z ht hi hz a m c news hl hnews hm (by omega) (by have hb := hbytes; simp only [Nat.zero_add] at hb; omega)
    rw [hrn] at hr
    injection hr with hv hw
    subst hv hw
    exact ⟨fun b hb => by simp [Value.ownBlock] at hb; omega, drawn _⟩
  · by_cases hroom : n + m ≤ cap
    · left
      have hfit : n * i.size + news.length ≤ cur.size := by rw [hl, hcs, ← Nat.add_mul]; exact Nat.mul_le_mul_right _ hroom
      have hrr := run_append_room (P := P) w t ty e i ht hi g n cap cur hg a m c news hl hnews h1 hroom hfit
      rw [hrr] at hr
      injection hr with hv hw
      subst hv
      exact ⟨rfl, h3.size, h3.block⟩
    · right
      have holds : ∀ j u, xs[j]? = some u → w.cell? ((⟨g, 0, none⟩ : Addr).add j) = some u := hown.cells (g := g) rfl
      have hrg := run_append_grow (P := P) w t ty e i z ht hi hz ⟨g, 0, none⟩ n cap xs hown.1 holds a m c news hl hnews (by omega) (by omega) (growslice_fits (by omega) hbytes)
      rw [hrg] at hr
      injection hr with hv hw
      subst hv hw
      exact ⟨fun b hb => by simp [Value.ownBlock] at hb; omega, drawn _⟩

/-- append(v, one element that a block just made holds): where the new row lies. -/
theorem wpList_pushOne {P : Program} {ops : Array Oper} {rest : List Oper} {o : Oper} {a : Act} {Q : Exit → Act → World → Prop} {w : World} (t e : TypeId) (ht : P.underlying t = some (.slice e)) {z : Value} {size bytes : Nat}
    (hi : (P.info? e).map (fun i => (i.zero, i.size, i.bytes)) = some (some z, size, bytes)) (hzs : z.cells.size = size) (hsz : 0 < size)
    (hgd : o.guard = none) (s x : Operand) (ho : o.op = .call { callee := .builtin .append, args := #[s, x], argTypes := #[t, t] })
    (B : Nat) (v : Value) (n : Nat) (xs : List Value) (cells : List Value) (wr : World) (vs : Array Value) (hvs : vs = cells.toArray) (hw : w = wr.alloc (.cells vs e))
    (hcl : cells.length = size) (h1 : ∀ u ∈ cells, u.oneCell' = true)
    (c g : Nat) (hg : g = wr.heap.size) (hs : a.eval s = v) (hx : a.eval x = .slice (some ⟨g, 0, none⟩) 1 c) (hown : wr.ownsRow B e size v n xs) (hl : n + 1 ≤ 4398046511104) (hby : bytes ≤ 32) (hB : B ≤ wr.heap.size)
    (h : ∀ v' w', w'.ownsRow B e size v' (n + 1) (xs ++ cells) → Below B wr w' → Moved v v' wr w' → wpList P ops Q rest (a.put o.dst v') w') : wpList P ops Q (o :: rest) a w := by
  obtain ⟨i0, hi0, hz0, hz1, hz2⟩ := info_parts hi
  subst hg hvs hw
  have hnews : ∀ (j : Nat) u, cells[j]? = some u → (wr.alloc (.cells cells.toArray e)).cell? ((⟨wr.heap.size, 0, none⟩ : Addr).add j) = some u := by
    intro j u hj
    have hadd : (⟨wr.heap.size, 0, none⟩ : Addr).add j = ⟨wr.heap.size, j, none⟩ := by unfold Addr.add; split <;> simp_all
    rw [hadd, cell_of_row _ wr.heap.size j cells.toArray e (0, 0) (heap_alloc_new wr _)]
    simpa using hj
  have hbytes : (n + 1) * bytes ≤ 140737488355328 := by
    have : (n + 1) * bytes ≤ 4398046511104 * 32 := Nat.mul_le_mul hl hby
    omega
  obtain ⟨v', w', hr, h2, h3, h4⟩ := run_append_moved (P := P) (wr.alloc (.cells cells.toArray e)) B t o.type e i0 z size bytes ht hi0 hz0 hz1 hz2 hzs hsz v n xs (hown.alloc _) ⟨wr.heap.size, 0, none⟩ 1 c cells (by omega) hnews h1 (by decide) (by unfold maxLen; omega) hbytes (by simp; omega)
  refine wpList_plain hgd fun K hK => ?_
  unfold Oper.wp
  simp [execOp, ho, resolve, invoke, builtin, hs, hx, hr, Result.andThen]
  have hlt := hown.lt
  refine hK _ _ (h v' w' h2 ((((Below.refl B wr).alloc hB _)).grown h3 (by simp; omega) (fun k hk => (hlt k hk).1)) ?_)
  have old : ∀ k, k < wr.heap.size → (wr.alloc (.cells cells.toArray e)).heap[k]? = wr.heap[k]? := fun k hk => Lib.alloc_old wr _ k hk
  rcases h4 with ⟨e1, k1, k2⟩ | ⟨e1, k1, k2⟩
  · exact .inl ⟨e1, by simp at k1; omega, fun k hk hne => (k2 k (by simp; omega) hne).trans (old k hk)⟩
  · exact .inr ⟨fun b hb => by have := e1 b hb; simp at this; omega, by simp at k1; omega, fun k hk hne => (k2 k (by simp; omega) hne).trans (old k hk)⟩
end Go.Proofs.YtmajpambfblhnaaGreatDoor

namespace Go.Proofs.YtmajpambfblhnaaGreatDoor
open Go.RowKit
section
variable {P : Program} {ops : Array Oper} {o : Oper} {a : Act} {K : Act → World → Prop} {Q : Exit → Act → World → Prop} {E : Prop} {w : World}
/-- append(v, one element that a block just made holds), as one step of a region that draws its order. -/
theorem step_pushOne (t e : TypeId) (ht : P.underlying t = some (.slice e)) {z : Value} {size bytes : Nat}
    (hi : (P.info? e).map (fun i => (i.zero, i.size, i.bytes)) = some (some z, size, bytes)) (hzs : z.cells.size = size) (hsz : 0 < size)
    (hgd : o.guard = none) (s x : Operand) (ho : o.op = .call { callee := .builtin .append, args := #[s, x], argTypes := #[t, t] })
    (B : Nat) (v : Value) (n : Nat) (xs : List Value) (cells : List Value) (wr : World) (vs : Array Value) (hvs : vs = cells.toArray) (hw : w = wr.alloc (.cells vs e))
    (hcl : cells.length = size) (h1 : ∀ u ∈ cells, u.oneCell' = true)
    (c g : Nat) (hg : g = wr.heap.size) (hs : a.eval s = v) (hx : a.eval x = .slice (some ⟨g, 0, none⟩) 1 c) (hown : wr.ownsRow B e size v n xs) (hl : n + 1 ≤ 1099511627776) (hby : bytes ≤ 128) (hB : B ≤ wr.heap.size)
    (h : ∀ v' w', w'.ownsRow B e size v' (n + 1) (xs ++ cells) → Below B wr w' → Moved v v' wr w' → K (a.put o.dst v') w') :
    if Region.wanted o (yielded ops a.tmps) = true then Oper.wp P o a w K Q else E := by
  obtain ⟨i0, hi0, hz0, hz1, hz2⟩ := info_parts hi
  subst hg hvs hw
  have hnews : ∀ (j : Nat) u, cells[j]? = some u → (wr.alloc (.cells cells.toArray e)).cell? ((⟨wr.heap.size, 0, none⟩ : Addr).add j) = some u := by
    intro j u hj
    have hadd : (⟨wr.heap.size, 0, none⟩ : Addr).add j = ⟨wr.heap.size, j, none⟩ := by unfold Addr.add; split <;> simp_all
    rw [hadd, cell_of_row _ wr.heap.size j cells.toArray e (0, 0) (heap_alloc_new wr _)]
    simpa using hj
  have hbytes : (n + 1) * bytes ≤ 140737488355328 := by
    have : (n + 1) * bytes ≤ 1099511627776 * 128 := Nat.mul_le_mul hl hby
    omega
  obtain ⟨v', w', hr, h2, h3, h4⟩ := run_append_moved (P := P) (wr.alloc (.cells cells.toArray e)) B t o.type e i0 z size bytes ht hi0 hz0 hz1 hz2 hzs hsz v n xs (hown.alloc _) ⟨wr.heap.size, 0, none⟩ 1 c cells (by omega) hnews h1 (by decide) (by unfold maxLen; omega) hbytes (by simp; omega)
  have hwd : Region.wanted o (yielded ops a.tmps) = true := by simp [Region.wanted, hgd]
  rw [if_pos hwd]
  have hlt := hown.lt
  have old : ∀ k, k < wr.heap.size → (wr.alloc (.cells cells.toArray e)).heap[k]? = wr.heap[k]? := fun k hk => Lib.alloc_old wr _ k hk
  have hm : Moved v v' wr w' := by
    rcases h4 with ⟨e1, k1, k2⟩ | ⟨e1, k1, k2⟩
    · exact .inl ⟨e1, by simp at k1; omega, fun k hk hne => (k2 k (by simp; omega) hne).trans (old k hk)⟩
    · exact .inr ⟨fun b hb => by have := e1 b hb; simp at this; omega, by simp at k1; omega, fun k hk hne => (k2 k (by simp; omega) hne).trans (old k hk)⟩
  have hK := h v' w' h2 ((((Below.refl B wr).alloc hB _)).grown h3 (by simp; omega) (fun k hk => (hlt k hk).1)) hm
  unfold Oper.wp
  simp [execOp, ho, resolve, invoke, builtin, hs, hx, hr, Result.andThen]
  exact hK
end
section
variable {P : Program} {ops : Array Oper} {rest : List Oper} {o : Oper} {a : Act} {Q : Exit → Act → World → Prop} {w : World}
/-- The same, outside of such a region, for elements of up to 128 bytes. -/
theorem wpList_pushOne' (t e : TypeId) (ht : P.underlying t = some (.slice e)) {z : Value} {size bytes : Nat}
    (hi : (P.info? e).map (fun i => (i.zero, i.size, i.bytes)) = some (some z, size, bytes)) (hzs : z.cells.size = size) (hsz : 0 < size)
    (hgd : o.guard = none) (s x : Operand) (ho : o.op = .call { callee := .builtin .append, args := #[s, x], argTypes := #[t, t] })
    (B : Nat) (v : Value) (n : Nat) (xs : List Value) (cells : List Value) (wr : World) (vs : Array Value) (hvs : vs = cells.toArray) (hw : w = wr.alloc (.cells vs e))
    (hcl : cells.length = size) (h1 : ∀ u ∈ cells, u.oneCell' = true)
    (c g : Nat) (hg : g = wr.heap.size) (hs : a.eval s = v) (hx : a.eval x = .slice (some ⟨g, 0, none⟩) 1 c) (hown : wr.ownsRow B e size v n xs) (hl : n + 1 ≤ 1099511627776) (hby : bytes ≤ 128) (hB : B ≤ wr.heap.size)
    (h : ∀ v' w', w'.ownsRow B e size v' (n + 1) (xs ++ cells) → Below B wr w' → Moved v v' wr w' → wpList P ops Q rest (a.put o.dst v') w') : wpList P ops Q (o :: rest) a w := by
  refine wpList_plain hgd fun K hK => ?_
  have := step_pushOne (P := P) (ops := ops) (o := o) (a := a) (K := K) (Q := Q) (E := True) (w := w) t e ht hi hzs hsz hgd s x ho B v n xs cells wr vs hvs hw hcl h1 c g hg hs hx hown hl hby hB fun v' w' k1 k2 k3 => hK _ _ (h v' w' k1 k2 k3)
  have hwd : Region.wanted o (yielded ops a.tmps) = true := by simp [Region.wanted, hgd]
  rw [if_pos hwd] at this
  exact this
end
end Go.Proofs.YtmajpambfblhnaaGreatDoor

namespace Go.Proofs.YtmajpambfblhnaaGreatDoor
open Go.RowKit
section
variable {P : Program} {ops : Array Oper} {o : Oper} {a : Act} {K : Act → World → Prop} {Q : Exit → Act → World → Prop} {E : Prop} {w : World}
theorem step_call {f : FuncId} {args : Array Value} {R : Ending → World → Prop} (hgd : o.guard = none) (hrun : (execOp a.eval o).run P w = .ok (.enter f args) w) (hc : Calls P f args w R)
    (h : ∀ e w', R e w' → ∃ v, e = .returned v ∧ K (a.put o.dst v) w') : if Region.wanted o (yielded ops a.tmps) = true then Oper.wp P o a w K Q else E := by
  have hwd : Region.wanted o (yielded ops a.tmps) = true := by simp [Region.wanted, hgd]
  rw [if_pos hwd]
  unfold Oper.wp
  rw [hrun, Oper.upon_enter]
  refine hc.mono fun e w' hr => ?_
  obtain ⟨v, rfl, hk⟩ := h e w' hr
  exact hk
/-- A method called on an interface value. -/
theorem step_invoke (t : TypeId) (v : Value) (name : String) {f : FuncId} {arg : Value} {R : Ending → World → Prop} (hgd : o.guard = none) (x : Operand) (ho : o.op = .call { callee := .invoke x name, args := #[], argTypes := #[] }) (hx : a.eval x = .iface t v)
    (hm : ∀ w, (callMethod (.iface t v) name #[]).run P w = .ok (.enter f #[arg]) w) (hc : Calls P f #[arg] w R)
    (h : ∀ e w', R e w' → ∃ v, e = .returned v ∧ K (a.put o.dst v) w') : if Region.wanted o (yielded ops a.tmps) = true then Oper.wp P o a w K Q else E := by
  refine step_call hgd ?_ hc h
  simp [execOp, ho, resolve, invoke, hx, hm]
end
section
variable {P : Program} {ops : Array Oper} {rest : List Oper} {o : Oper} {a : Act} {Q : Exit → Act → World → Prop} {w : World}
theorem wpList_invoke (t : TypeId) (v : Value) (name : String) {f : FuncId} {arg : Value} {R : Ending → World → Prop} (hgd : o.guard = none) (x : Operand) (ho : o.op = .call { callee := .invoke x name, args := #[], argTypes := #[] }) (hx : a.eval x = .iface t v)
    (hm : ∀ w, (callMethod (.iface t v) name #[]).run P w = .ok (.enter f #[arg]) w) (hc : Calls P f #[arg] w R)
    (h : ∀ e w', R e w' → ∃ v, e = .returned v ∧ wpList P ops Q rest (a.put o.dst v) w') : wpList P ops Q (o :: rest) a w := by
  refine wpList_plain hgd fun K hK => ?_
  have := step_invoke (P := P) (ops := ops) (o := o) (a := a) (K := K) (Q := Q) (E := True) (w := w) t v name hgd x ho hx hm hc fun e w' hr => by
    obtain ⟨v, he, hk⟩ := h e w' hr
    exact ⟨v, he, hK _ _ hk⟩
  have hwd : Region.wanted o (yielded ops a.tmps) = true := by simp [Region.wanted, hgd]
  rw [if_pos hwd] at this
  exact this
end
end Go.Proofs.YtmajpambfblhnaaGreatDoor

namespace Go.Proofs.YtmajpambfblhnaaGreatDoor
open Go.RowKit

/-- The slice value x has m elements; their cells. -/
def Rd (w : World) (x : Value) (m : Nat) (news : List Value) : Prop :=
  (∃ a c, x = .slice a 0 c ∧ m = 0 ∧ news = []) ∨ ∃ b off c, x = .slice (some ⟨b, off, none⟩) m c ∧ 0 < m ∧ ∀ (j : Nat) u, news[j]? = some u → w.cell? ⟨b, off + j, none⟩ = some u
theorem Moved.refl (v : Value) (w : World) : Moved v v w w := .inl ⟨rfl, Nat.le_refl _, fun _ _ _ => rfl⟩
theorem run_append_all {P : Program} (w : World) (base : Nat) (t ty e : TypeId) (i : TypeInfo) (z : Value) (size bytes : Nat) (ht : P.underlying t = some (.slice e)) (hi : P.info? e = some i) (hz : i.zero = some z)
    (hsize : i.size = size) (hby : i.bytes = bytes) (hzs : z.cells.size = size) (hsz : 0 < size)
    (v : Value) (n : Nat) (xs : List Value) (hown : w.ownsRow base e size v n xs) (x : Value) (m : Nat) (news : List Value) (hl : news.length = m * size) (hx : Rd w x m news) (h1 : ∀ u ∈ news, u.oneCell' = true)
    (h63 : n + m ≤ maxLen) (hbytes : (n + m) * bytes ≤ 140737488355328) (hbase : base ≤ w.heap.size) :
    ∃ v' w', (Builtin.append_ #[t, t] ty #[v, x]).run P w = .ok v' w' ∧ w'.ownsRow base e size v' (n + m) (xs ++ news) ∧ Below base w w' ∧ Moved v v' w w' := by
  rcases hx with ⟨a, c, rfl, rfl, rfl⟩ | ⟨b, off, c, rfl, hm, hc⟩
  · have hsrc : Src P i.size t (.slice a 0 c) 0 [] w := by
      cases a with
      | none => exact Src.ofNil w ht c
      | some ad => exact Src.ofSlice w ht ad 0 c [] (by simp) (fun j u h => by simp at h) (fun u h => by simp at h)
    have hv : ∃ a' c', v = .slice a' n c' ∧ n ≤ c' := by
      rcases hown.2 with ⟨rfl, rfl⟩ | ⟨g, cap, cur, rfl, _, _, hnc, _⟩
      · exact ⟨_, _, rfl, Nat.le_refl _⟩
      · exact ⟨_, _, rfl, hnc⟩
    obtain ⟨a', c', rfl, hle⟩ := hv
    exact ⟨_, w, run_append_nothing w t t ty e i ht hi a' n c' hle _ hsrc, by simpa using hown, Below.refl _ _, Moved.refl _ _⟩
  · have hadd : ∀ j, (⟨b, off, none⟩ : Addr).add j = ⟨b, off + j, none⟩ := fun j => by unfold Addr.add; split <;> simp_all
    obtain ⟨v', w', hr, h2, h3, h4⟩ := run_append_moved (P := P) w base t ty e i z size bytes ht hi hz hsize hby hzs hsz v n xs hown ⟨b, off, none⟩ m c news hl (fun j u hj => by rw [hadd]; exact hc j u hj) h1 hm h63 hbytes hbase
    have hlt := hown.lt
    exact ⟨v', w', hr, h2, (Below.refl base w).grown h3 hbase (fun k hk => (hlt k hk).1), h4⟩
section
variable {P : Program} {ops : Array Oper} {rest : List Oper} {o : Oper} {a : Act} {Q : Exit → Act → World → Prop} {w : World}
theorem step_pushAll {K : Act → World → Prop} {E : Prop} (t e : TypeId) (ht : P.underlying t = some (.slice e)) {z : Value} {size bytes : Nat}
    (hi : (P.info? e).map (fun i => (i.zero, i.size, i.bytes)) = some (some z, size, bytes)) (hzs : z.cells.size = size) (hsz : 0 < size)
    (hgd : o.guard = none) (s x : Operand) (ho : o.op = .call { callee := .builtin .append, args := #[s, x], argTypes := #[t, t] })
    (B : Nat) (v : Value) (n : Nat) (xs : List Value) (xv : Value) (m : Nat) (news : List Value) (hln : news.length = m * size) (h1 : ∀ u ∈ news, u.oneCell' = true)
    (hs : a.eval s = v) (hx : a.eval x = xv) (hrd : Rd w xv m news) (hown : w.ownsRow B e size v n xs) (hl : n + m ≤ 1099511627776) (hby : bytes ≤ 128) (hB : B ≤ w.heap.size)
    (h : ∀ v' w', w'.ownsRow B e size v' (n + m) (xs ++ news) → Below B w w' → Moved v v' w w' → K (a.put o.dst v') w') : if Region.wanted o (yielded ops a.tmps) = true then Oper.wp P o a w K Q else E := by
  obtain ⟨i0, hi0, hz0, hz1, hz2⟩ := info_parts hi
  have hbytes : (n + m) * bytes ≤ 140737488355328 := by
    have : (n + m) * bytes ≤ 1099511627776 * 128 := Nat.mul_le_mul hl hby
    omega
  obtain ⟨v', w', hr, h2, h3, h4⟩ := run_append_all (P := P) w B t o.type e i0 z size bytes ht hi0 hz0 hz1 hz2 hzs hsz v n xs hown xv m news hln hrd h1 (by unfold maxLen; omega) hbytes hB
  have hwd : Region.wanted o (yielded ops a.tmps) = true := by simp [Region.wanted, hgd]
  rw [if_pos hwd]
  unfold Oper.wp
  simp [execOp, ho, resolve, invoke, builtin, hs, hx, hr, Result.andThen]
  exact h v' w' h2 h3 h4
theorem wpList_pushAll (t e : TypeId) (ht : P.underlying t = some (.slice e)) {z : Value} {size bytes : Nat}
    (hi : (P.info? e).map (fun i => (i.zero, i.size, i.bytes)) = some (some z, size, bytes)) (hzs : z.cells.size = size) (hsz : 0 < size)
    (hgd : o.guard = none) (s x : Operand) (ho : o.op = .call { callee := .builtin .append, args := #[s, x], argTypes := #[t, t] })
    (B : Nat) (v : Value) (n : Nat) (xs : List Value) (xv : Value) (m : Nat) (news : List Value) (hln : news.length = m * size) (h1 : ∀ u ∈ news, u.oneCell' = true)
    (hs : a.eval s = v) (hx : a.eval x = xv) (hrd : Rd w xv m news) (hown : w.ownsRow B e size v n xs) (hl : n + m ≤ 1099511627776) (hby : bytes ≤ 128) (hB : B ≤ w.heap.size)
    (h : ∀ v' w', w'.ownsRow B e size v' (n + m) (xs ++ news) → Below B w w' → Moved v v' w w' → wpList P ops Q rest (a.put o.dst v') w') : wpList P ops Q (o :: rest) a w := by
  refine wpList_plain hgd fun K hK => ?_
  have := step_pushAll (P := P) (ops := ops) (o := o) (a := a) (K := K) (Q := Q) (E := True) (w := w) t e ht hi hzs hsz hgd s x ho B v n xs xv m news hln h1 hs hx hrd hown hl hby hB fun v' w' k1 k2 k3 => hK _ _ (h v' w' k1 k2 k3)
  have hwd : Region.wanted o (yielded ops a.tmps) = true := by simp [Region.wanted, hgd]
  rw [if_pos hwd] at this
  exact this
end
end Go.Proofs.YtmajpambfblhnaaGreatDoor

namespace Go.Proofs.YtmajpambfblhnaaGreatDoor
open Go.RowKit
section
variable {P : Program} {ops : Array Oper} {o : Oper} {a : Act} {K : Act → World → Prop} {Q : Exit → Act → World → Prop} {E : Prop} {w : World}
theorem step_call1 (f : FuncId) (x : Operand) (t : TypeId) {arg : Value} {R : Ending → World → Prop} (ho : o.op = .call { callee := .value (.func f), args := #[x], argTypes := #[t] }) (hgd : o.guard = none) (hcf : ∀ w, (callFunc f #[arg]).run P w = .ok (.enter f #[arg]) w) (hx : a.eval x = arg) (hc : Calls P f #[arg] w R)
    (h : ∀ e w', R e w' → ∃ v, e = .returned v ∧ K (a.put o.dst v) w') : if Region.wanted o (yielded ops a.tmps) = true then Oper.wp P o a w K Q else E := by
  refine step_call hgd ?_ hc h
  have hf : a.eval (.func f) = .func (.func f) #[] #[] := rfl
  simp [execOp, ho, resolve, invoke, hx, hf, Deferred.ofValue, hcf]
theorem step_call2 (f : FuncId) (x y : Operand) (t u : TypeId) {arg arg' : Value} {R : Ending → World → Prop} (ho : o.op = .call { callee := .value (.func f), args := #[x, y], argTypes := #[t, u] }) (hgd : o.guard = none) (hcf : ∀ w, (callFunc f #[arg, arg']).run P w = .ok (.enter f #[arg, arg']) w) (hx : a.eval x = arg) (hy : a.eval y = arg') (hc : Calls P f #[arg, arg'] w R)
    (h : ∀ e w', R e w' → ∃ v, e = .returned v ∧ K (a.put o.dst v) w') : if Region.wanted o (yielded ops a.tmps) = true then Oper.wp P o a w K Q else E := by
  refine step_call hgd ?_ hc h
  have hf : a.eval (.func f) = .func (.func f) #[] #[] := rfl
  simp [execOp, ho, resolve, invoke, hx, hy, hf, Deferred.ofValue, hcf]
theorem step_call5 (f : FuncId) (x1 x2 x3 x4 x5 : Operand) (t1 t2 t3 t4 t5 : TypeId) {v1 v2 v3 v4 v5 : Value} {R : Ending → World → Prop} (ho : o.op = .call { callee := .value (.func f), args := #[x1, x2, x3, x4, x5], argTypes := #[t1, t2, t3, t4, t5] }) (hgd : o.guard = none) (hcf : ∀ w, (callFunc f #[v1, v2, v3, v4, v5]).run P w = .ok (.enter f #[v1, v2, v3, v4, v5]) w)
    (h1 : a.eval x1 = v1) (h2 : a.eval x2 = v2) (h3 : a.eval x3 = v3) (h4 : a.eval x4 = v4) (h5 : a.eval x5 = v5) (hc : Calls P f #[v1, v2, v3, v4, v5] w R)
    (h : ∀ e w', R e w' → ∃ v, e = .returned v ∧ K (a.put o.dst v) w') : if Region.wanted o (yielded ops a.tmps) = true then Oper.wp P o a w K Q else E := by
  refine step_call hgd ?_ hc h
  have hf : a.eval (.func f) = .func (.func f) #[] #[] := rfl
  simp [execOp, ho, resolve, invoke, h1, h2, h3, h4, h5, hf, Deferred.ofValue, hcf]
end
end Go.Proofs.YtmajpambfblhnaaGreatDoor
