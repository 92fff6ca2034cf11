/- General lemmas on worlds: a row of bytes that the call itself makes; what a call leaves as it was. No program in sight. -/
import Derived.WalkKit
import Derived.WalkSpells
import Derived.WalkLawsBesides
import Derived.Handy
import Derived.Lib.Hide
import Derived.Lib.OthersKept
import Derived.Laws.IdiomStrings
namespace Go.Proofs.YtldhfbdljogieaaDoor
open Go.RowKit

theorem bcell {B : Nat} {W w1 : World} (hb : Below B W w1) : (∀ b o, b < B → w1.cell? ⟨b, o, none⟩ = W.cell? ⟨b, o, none⟩) ∧ (∀ b o, b < B → w1.frozen? ⟨b, o, none⟩ = W.frozen? ⟨b, o, none⟩) :=
  ⟨fun b o h => hb.cell (p := ⟨b, o, none⟩) h, fun b o h => hb.frozen (p := ⟨b, o, none⟩) h⟩

/-- The bytes l stand in the slice value v, which the call itself has made (in a block from B on). -/
def OwnB (e : TypeId) (B : Nat) (v : Value) (l : List UInt8) (w : World) : Prop := w.ownsRow B e 1 v l.length (Lib.byteCells l)

theorem OwnB.alloc {e : TypeId} {B : Nat} {v : Value} {l : List UInt8} {w : World} (h : OwnB e B v l w) (o : Obj) : OwnB e B v l (w.alloc o) := World.ownsRow.alloc h o
theorem OwnB.drew {e : TypeId} {B : Nat} {v : Value} {l : List UInt8} {w : World} (h : OwnB e B v l w) : OwnB e B v l w.drew := h
theorem OwnB.lt {e : TypeId} {B : Nat} {v : Value} {l : List UInt8} {w : World} (h : OwnB e B v l w) : ∀ k, v.ownBlock = some k → B ≤ k ∧ k < w.heap.size := World.ownsRow.lt h
theorem OwnB.kind {e : TypeId} {B : Nat} {v : Value} {l : List UInt8} {w : World} (h : OwnB e B v l w) : ∀ g, v.ownBlock = some g → ∃ c fz, w.heap[g]? = some (.cells c e fz) := by
  intro g hg
  rcases h.2 with ⟨rfl, _⟩ | ⟨g', cap, cur, rfl, _, hgg, _⟩
  · simp [Value.ownBlock] at hg
  · simp [Value.ownBlock] at hg
    subst hg
    exact ⟨cur, (0, 0), hgg⟩

/-- Moving a string's iterator on keeps an owned row. -/
theorem OwnB.iterAt {e : TypeId} {B : Nat} {v : Value} {l : List UInt8} {w : World} (h : OwnB e B v l w) {k : Nat} {s : ByteArray} {pos : Nat} (hk : w.heap[k]? = some (.stringIter s pos)) (pos' : Nat) : OwnB e B v l (w.iterAt k s pos') := by
  refine ⟨h.1, ?_⟩
  rcases h.2 with hn | ⟨g, cap, cur, rfl, hb, hgg, rest⟩
  · exact .inl hn
  · refine .inr ⟨g, cap, cur, rfl, hb, ?_, rest⟩
    rw [Lib.iterAt_other]
    · exact hgg
    · intro e1
      rw [e1, hk] at hgg
      cases hgg

theorem heap_below {B : Nat} {w w' : World} (hb : Below B w w') {k : Nat} (hk : k < B) : w'.heap[k]? = w.heap[k]? := hb.block k hk
theorem OwnB.below {e : TypeId} {B : Nat} {v : Value} {l : List UInt8} {w w' : World} (h : OwnB e B v l w) (hb : Below w.heap.size w w') : OwnB e B v l w' := by
  refine ⟨h.1, ?_⟩
  rcases h.2 with hn | ⟨g, cap, cur, rfl, hB, hgg, rest⟩
  · exact .inl hn
  · exact .inr ⟨g, cap, cur, rfl, hB, (heap_below hb (Array.getElem?_eq_some_iff.1 hgg).1).trans hgg, rest⟩

theorem OwnB.nil (e : TypeId) (B : Nat) (w : World) : OwnB e B (.slice none 0 0) [] w := World.ownsRow_nil _ _ _ _

/-- What 'append' leaves, said with 'Below' and 'OthersKept'. -/
theorem OwnB.grown {e : TypeId} {B : Nat} {v : Value} {l : List UInt8} {w w' : World} (h : OwnB e B v l w) (hB : B ≤ w.heap.size) (hg : w.grownBy w' v.ownBlock) : Below B w w' ∧ Lib.OthersKept e none w w' :=
  ⟨(Below.refl B w).grown hg hB (fun k hk => (h.lt k hk).1), (Lib.OthersKept.refl e none w).grown hg (h.kind)⟩

section
variable {P : Program} {ops : Array Oper} {rest : List Oper} {o : Oper} {a : Act} {Q : Exit → Act → World → Prop} {w : World}

/-- append(v, the n bytes that a block just made holds). -/
theorem wpList_pushes (t e : TypeId) (ht : P.underlying t = some (.slice e)) (hi : (P.info? e).map (fun i => (i.zero, i.size, i.bytes)) = some (some (.int .u8 0), 1, 1))
    (hgd : o.guard = none) (s x : Operand) (ho : o.op = .call { callee := .builtin .append, args := #[s, x], argTypes := #[t, t] })
    (B : Nat) (l : List UInt8) (v : Value) (bs : List UInt8) (wr : World) (vs : Array Value) (hvs : vs = (Lib.byteCells bs).toArray) (hw : w = wr.alloc (.cells vs e))
    (n c : Nat) (hn : n = bs.length) (g : Nat) (hg : g = wr.heap.size) (hs : a.eval s = v) (hx : a.eval x = .slice (some ⟨g, 0, none⟩) n c) (hown : OwnB e B v l wr) (hl : l.length + bs.length ≤ 140737488355328) (hB : B ≤ wr.heap.size)
    (h : ∀ v' w', OwnB e B v' (l ++ bs) w' → Below B wr w' → Lib.OthersKept e none wr w' → wpList P ops Q rest (a.put o.dst v') w') : wpList P ops Q (o :: rest) a w := by
  obtain ⟨i0, hi0, hz0, hz1, hz2⟩ := info_parts hi
  subst hn hg hvs hw
  have hnews : ∀ (j : Nat) u, (Lib.byteCells bs)[j]? = some u → (wr.alloc (.cells (Lib.byteCells bs).toArray e)).cell? ((⟨wr.heap.size, 0, none⟩ : Addr).add j) = some u := by
    intro j u hj
    have hadd : (⟨wr.heap.size, 0, none⟩ : Addr).add j = ⟨wr.heap.size, j, none⟩ := by unfold Addr.add; split <;> simp_all
    rw [hadd, cell_of_row _ wr.heap.size j (Lib.byteCells bs).toArray e (0, 0) (heap_alloc_new wr _)]
    simpa using hj
  refine wpList_append_own _ hgd s x t ho B e i0 (.int .u8 0) 1 1 ht hi0 hz0 hz1 hz2 rfl (by decide) v l.length (Lib.byteCells l) hs (hown.alloc _) ⟨wr.heap.size, 0, none⟩ bs.length c (Lib.byteCells bs) hx (by simp [Lib.byteCells_length]) hnews ?_ ?_ (by omega) ?_ ?_
  · intro u hu
    simp only [Lib.byteCells, List.mem_map] at hu
    obtain ⟨b, _, rfl⟩ := hu
    rfl
  · unfold maxLen; omega
  · simp; omega
  · intro v' w' h1 h2 _
    have h3 : OwnB e B v' (l ++ bs) w' := by
      unfold OwnB
      rw [List.length_append, Lib.byteCells_append]
      exact h1
    have h4 := (hown.alloc (.cells (Lib.byteCells bs).toArray e)).grown (by simp; omega) h2
    exact h v' w' h3 (((Below.refl B wr).alloc hB _).trans h4.1) (((Lib.OthersKept.refl e none wr).alloc _).trans h4.2)
end

section
variable {P : Program} {ops : Array Oper} {o : Oper} {a : Act} {K : Act → World → Prop} {Q : Exit → Act → World → Prop} {E : Prop} {w : World}
/-- The same, as one step of a region that draws its order. -/
theorem step_pushes (t e : TypeId) (ht : P.underlying t = some (.slice e)) (hi : (P.info? e).map (fun i => (i.zero, i.size, i.bytes)) = some (some (.int .u8 0), 1, 1))
    (hgd : o.guard = none) (s x : Operand) (ho : o.op = .call { callee := .builtin .append, args := #[s, x], argTypes := #[t, t] })
    (B : Nat) (l : List UInt8) (v : Value) (bs : List UInt8) (wr : World) (vs : Array Value) (hvs : vs = (Lib.byteCells bs).toArray) (hw : w = wr.alloc (.cells vs e))
    (n c : Nat) (hn : n = bs.length) (g : Nat) (hg : g = wr.heap.size) (hs : a.eval s = v) (hx : a.eval x = .slice (some ⟨g, 0, none⟩) n c) (hown : OwnB e B v l wr) (hl : l.length + bs.length ≤ 140737488355328) (hB : B ≤ wr.heap.size)
    (h : ∀ v' w', OwnB e B v' (l ++ bs) w' → Below B wr w' → Lib.OthersKept e none wr w' → K (a.put o.dst v') w') :
    if Region.wanted o (yielded ops a.tmps) = true then Oper.wp P o a w K Q else E := by
  obtain ⟨i0, hi0, hz0, hz1, hz2⟩ := info_parts hi
  subst hn hg hvs hw
  have hnews : ∀ (j : Nat) u, (Lib.byteCells bs)[j]? = some u → (wr.alloc (.cells (Lib.byteCells bs).toArray e)).cell? ((⟨wr.heap.size, 0, none⟩ : Addr).add j) = some u := by
    intro j u hj
    have hadd : (⟨wr.heap.size, 0, none⟩ : Addr).add j = ⟨wr.heap.size, j, none⟩ := by unfold Addr.add; split <;> simp_all
    rw [hadd, cell_of_row _ wr.heap.size j (Lib.byteCells bs).toArray e (0, 0) (heap_alloc_new wr _)]
    simpa using hj
  have hwd : Region.wanted o (yielded ops a.tmps) = true := by simp [Region.wanted, hgd]
  rw [if_pos hwd]
  refine wp_append_own _ s x t ho B e i0 (.int .u8 0) 1 1 ht hi0 hz0 hz1 hz2 rfl (by decide) v l.length (Lib.byteCells l) hs (hown.alloc _) ⟨wr.heap.size, 0, none⟩ bs.length c (Lib.byteCells bs) hx (by simp [Lib.byteCells_length]) hnews ?_ ?_ (by omega) ?_ ?_
  · intro u hu
    simp only [Lib.byteCells, List.mem_map] at hu
    obtain ⟨b, _, rfl⟩ := hu
    rfl
  · unfold maxLen; omega
  · simp; omega
  · intro v' w' h1 h2 _
    have h3 : OwnB e B v' (l ++ bs) w' := by
      unfold OwnB
      rw [List.length_append, Lib.byteCells_append]
      exact h1
    have h4 := (hown.alloc (.cells (Lib.byteCells bs).toArray e)).grown (by simp; omega) h2
    exact h v' w' h3 (((Below.refl B wr).alloc hB _).trans h4.1) (((Lib.OthersKept.refl e none wr).alloc _).trans h4.2)
end

/-- make([]byte, 0, n). -/
theorem wpList_makeB {P : Program} {ops : Array Oper} {rest : List Oper} {o : Oper} {a : Act} {Q : Exit → Act → World → Prop} {w : World} (t e : TypeId) (ht : P.underlying t = some (.slice e))
    (hi : (P.info? e).map (fun i => (i.zero, i.size, i.bytes)) = some (some (.int .u8 0), 1, 1)) (hgd : o.guard = none) (l c : Operand) (hop : o.op = Op.makeSlice t l c)
    (B : Nat) (kl kc : IntKind) (C : Int) (n : Nat) (hl : a.eval l = .int kl 0) (hc : a.eval c = .int kc C) (hC : C = (n : Int)) (hn : n ≤ 140737488355328) (hB : B ≤ w.heap.size)
    (hK : ∀ w', OwnB e B (.slice (some ⟨w.heap.size, 0, none⟩) 0 n) [] w' → Below B w w' → w'.heap.size = w.heap.size + 1 → wpList P ops Q rest (a.put o.dst (.slice (some ⟨w.heap.size, 0, none⟩) 0 n)) w') : wpList P ops Q (o :: rest) a w := by
  obtain ⟨i0, hi0, hz0, hz1, hz2⟩ := info_parts hi
  have h63' : (n : Int) ≤ 9223372036854775807 := by omega
  have hb' : (i0.bytes : Int) * (n : Int) ≤ 281474976710656 := by rw [hz2]; omega
  have hr := run_make (P := P) w t e i0 (.int .u8 0) ht hi0 hz0 kl kc 0 n (Int.le_refl _) (by omega) hb' h63'
  simp only [Int.toNat_zero, Int.toNat_natCast] at hr
  subst hC
  refine wpList_plain hgd fun K hK' => ?_
  unfold Oper.wp
  simp [execOp, hop, hl, hc, hr, Result.andThen]
  refine hK' _ _ (hK _ ?_ ((Below.refl B w).alloc hB _) (by simp))
  have := World.ownsRow_made (base := B) (e := e) (size := 1) w (madeCells (Value.int .u8 0).cells (n * i0.size)) n hB (by unfold maxLen; omega) (by rw [size_madeCells, hz1])
  simpa [OwnB, Lib.byteCells] using this

theorem keptIter {e : TypeId} {w w' : World} (h : Lib.OthersKept e none w w') {k : Nat} {s : ByteArray} {pos : Nat} (hk : w.heap[k]? = some (.stringIter s pos)) : w'.heap[k]? = some (.stringIter s pos) :=
  h k _ hk (by simp) (by intro c fz e; cases e)

theorem extract_size (s : ByteArray) (i : Nat) : (s.extract i s.size).size = s.size - i := by simp
theorem extract_at (s : ByteArray) (i j : Nat) (h : j < (s.extract i s.size).size) (h' : i + j < s.size) : (s.extract i s.size)[j]'h = s[i + j]'h' := by
  simp [ByteArray.getElem_extract]

/-- s[i] at a place within: a rule for the walk, by which the byte has a name. -/
theorem run_index_str {P : Program} {T : TypeId} (hT : P.underlying T = some .string) (s : ByteArray) (i : Int) (k : Nat) (hi : i = k) (h : k < s.size) (c : UInt8) (hc : s[k]'h = c) (w : World) :
    (Instr.index T (.string s) (.int .i64 i)).run P w = .ok (.int .u8 c.toNat) w := by
  subst hi hc
  rw [run_index_string (P := P) (w := w) T s .i64 k hT]
  have h1 : 0 ≤ (k : Int) ∧ (k : Int) < s.size := by omega
  simp [h1.2]

/-- string(v) of an owned row. -/
theorem OwnB.string {P : Program} {src dst e : TypeId} (hs : P.underlying src = some (.slice e)) (he : P.underlying e = some (.int .u8)) (hd : P.underlying dst = some .string)
    {B : Nat} {v : Value} {l : List UInt8} {w : World} (h : OwnB e B v l w) : (convert src dst v).run P w = .ok (.string ⟨l.toArray⟩) w := by
  rcases h.2 with ⟨rfl, h0⟩ | ⟨g, cap, cur, rfl, -, -, -, -, -, -⟩
  · obtain rfl : l = [] := List.eq_nil_of_length_eq_zero h0
    rw [run_convert_bytes_string w src dst e none 0 0 hs he hd]
    simp [Conv.bytesToString, Sem.run_pure]
    rfl
  · exact run_convert_bytes_back (P := P) w src dst e ⟨g, 0, none⟩ cap l hs he hd (fun j hj => h.cells (g := g) rfl j _ (by simp [Lib.byteCells, hj]))
end Go.Proofs.YtldhfbdljogieaaDoor
