/- Layer 4: more lemmas: append of a string to a row of bytes; the map of names that were seen. -/
import Derived.Test.YtmajpambfblhnaaGreatDoorJoKit
import Derived.Lib.AppendStr
import Derived.Maps.OwnSet
namespace Go.Proofs.YtmajpambfblhnaaGreatDoor
open Go.RowKit Jo

theorem extract_mk (s : List UInt8) (j k : Nat) : Value.string ((⟨s.toArray⟩ : ByteArray).extract j k) = S ((s.drop j).take (k - j)) := by
  congr 1
  apply ByteArray.ext
  rw [ByteArray.data_extract]
  simp
theorem strCells_mk (l : List UInt8) : Lib.strCells ⟨l.toArray⟩ = Lib.byteCells l := by simp [Lib.strCells, Lib.byteCells]
theorem Below.of_grown {e : TypeId} {B : Nat} {v : Value} {l : List UInt8} {w w' : World} (h : OwnB e B v l w) (hB : B ≤ w.heap.size) (hg : w.grownBy w' v.ownBlock) : Below B w w' := (h.grown hB hg).1
section
variable {P : Program} {ops : Array Oper} {o : Oper} {a : Act} {K : Act → World → Prop} {Q : Exit → Act → World → Prop} {E : Prop} {w : World}
theorem step_pushS (t u e : TypeId) (ht : P.underlying t = some (.slice e)) (hu : P.underlying u = some .string) (hi : (P.info? e).map (fun i => (i.zero, i.size, i.bytes)) = some (some (.int .u8 0), 1, 1))
    (hgd : o.guard = none) (s x : Operand) (ho : o.op = .call { callee := .builtin .append, args := #[s, x], argTypes := #[t, u] })
    (B : Nat) (l : List UInt8) (v : Value) (bs : List UInt8) (hs : a.eval s = v) (hx : a.eval x = S bs) (hown : OwnB e B v l w) (hl : l.length + bs.length ≤ 140737488355328) (hB : B ≤ w.heap.size)
    (h : ∀ v' w', OwnB e B v' (l ++ bs) w' → Below B w w' → K (a.put o.dst v') w') :
    if Region.wanted o (yielded ops a.tmps) = true then Oper.wp P o a w K Q else E := by
  obtain ⟨i0, hi0, hz0, hz1, hz2⟩ := info_parts hi
  have hsz : (⟨bs.toArray⟩ : ByteArray).size = bs.length := size_mk bs
  obtain ⟨v', w', hr, h2, h3, h4⟩ := Lib.run_append_own_string (P := P) (w := w) B t u o.type e i0 ht hu hi0 hz0 hz1 hz2 v l.length (Lib.byteCells l) hown ⟨bs.toArray⟩ (by rw [hsz]; unfold maxLen; omega) (by rw [hsz]; omega) hB
  have hwd : Region.wanted o (yielded ops a.tmps) = true := by simp [Region.wanted, hgd]
  rw [if_pos hwd]
  have h3' : OwnB e B v' (l ++ bs) w' := by
    unfold OwnB
    rw [List.length_append, Lib.byteCells_append, ← strCells_mk bs, ← hsz]
    exact h2
  have hK := h v' w' h3' (Below.of_grown hown hB h3)
  unfold Oper.wp execOp
  simp only [ho, resolve, invoke, builtin, Sem.run_bind, Sem.run_pure, Result.andThen_ok, List.map_toArray, List.map_cons, List.map_nil, hs, hx, hr]
  exact hK
end
section
variable {P : Program} {ops : Array Oper} {rest : List Oper} {o : Oper} {a : Act} {Q : Exit → Act → World → Prop} {w : World}
theorem wpList_pushS (t u e : TypeId) (ht : P.underlying t = some (.slice e)) (hu : P.underlying u = some .string) (hi : (P.info? e).map (fun i => (i.zero, i.size, i.bytes)) = some (some (.int .u8 0), 1, 1))
    (hgd : o.guard = none) (s x : Operand) (ho : o.op = .call { callee := .builtin .append, args := #[s, x], argTypes := #[t, u] })
    (B : Nat) (l : List UInt8) (v : Value) (bs : List UInt8) (hs : a.eval s = v) (hx : a.eval x = S bs) (hown : OwnB e B v l w) (hl : l.length + bs.length ≤ 140737488355328) (hB : B ≤ w.heap.size)
    (h : ∀ v' w', OwnB e B v' (l ++ bs) w' → Below B w w' → wpList P ops Q rest (a.put o.dst v') w') : wpList P ops Q (o :: rest) a w := by
  obtain ⟨i0, hi0, hz0, hz1, hz2⟩ := info_parts hi
  have hsz : (⟨bs.toArray⟩ : ByteArray).size = bs.length := size_mk bs
  refine Lib.wpList_append_own_string w hgd s x t u ho B e i0 ht hu hi0 hz0 hz1 hz2 v l.length (Lib.byteCells l) hs hown ⟨bs.toArray⟩ hx (by rw [hsz]; unfold maxLen; omega) (by rw [hsz]; omega) hB ?_
  intro v' w' h2 h3 _
  refine h v' w' ?_ (Below.of_grown hown hB h3)
  unfold OwnB
  rw [List.length_append, Lib.byteCells_append, ← strCells_mk bs, ← hsz]
  exact h2
end

/-- The map of names that were seen (nil: none). -/
def SeenAt (m : Option Nat) (ns : List (List UInt8)) (w : World) : Prop :=
  (m = none ∧ ns = []) ∨ ∃ (b : Nat) (D : DataW Unit), m = some b ∧ w.ownsMap Tryz.prog 9 (plainElem Tryz.prog 3) b ns.length D ∧ Maps.IsMap D ∧ ∀ l : List UInt8, Maps.has D (.string l) = decide (l ∈ ns)
theorem keyedS : Maps.Keyed Tryz.prog 9 := Maps.string_keyed Tryz.underlying9
theorem zeroI (w : World) : (zeroValue 3).run Tryz.prog w = .ok (.int .i64 0) w := by kernel_rfl
theorem keyS (l : List UInt8) (h : l.length ≤ maxLen) : keyOf Tryz.prog 9 (S l) = some (.string l) := by
  have := WideMaps.keyOf_string_mk (P := Tryz.prog) (k := 9) (s := ⟨l.toArray⟩) Tryz.underlying9 (by rw [size_mk]; exact h)
  simpa using this
theorem SeenAt.look {m : Option Nat} {ns : List (List UInt8)} {w : World} (h : SeenAt m ns w) (l : List UInt8) (hl : l.length ≤ maxLen) :
    ∃ c : Int, (Instr.lookup 128 (.map m) (S l) true).run Tryz.prog w = .ok (.tuple #[.int .i64 c, .bool (decide (l ∈ ns))]) w := by
  rcases h with ⟨rfl, rfl⟩ | ⟨b, D, rfl, hown, _, hh⟩
  · refine ⟨0, ?_⟩
    rw [Maps.look_nil true keyedS Tryz.underlying128 (zeroI w) (keyS l hl)]
    simp
  · obtain ⟨v, ps, hrun, hv⟩ := hown.look_ok keyedS Tryz.underlying128 (zeroI w) (plainElem_int Tryz.underlying3 (by decide)) (keyS l hl)
    obtain ⟨c, rfl, _, _⟩ := plainElem_int_inv Tryz.underlying3 hv
    exact ⟨c, by rw [hrun, hh]⟩
theorem SeenAt.kept {m : Option Nat} {ns : List (List UInt8)} {w w' : World} {ok : Nat → Prop} (h : SeenAt m ns w) (hk : Kept ok w w') (ho : ∀ b, m = some b → ok b) : SeenAt m ns w' := by
  rcases h with h | ⟨b, D, rfl, ⟨es, clock, hb, r⟩, hh⟩
  · exact .inl h
  · exact .inr ⟨b, D, rfl, ⟨es, clock, (hk.block b (Array.getElem?_eq_some_iff.1 hb).1 (ho b rfl)).trans hb, r⟩, hh⟩
theorem SeenAt.keptS {b : Nat} {ns : List (List UInt8)} {w w' : World} {ok : Nat → Prop} (h : SeenAt (some b) ns w) (hk : Kept ok w w') (ho : ok b) : SeenAt (some b) ns w' :=
  h.kept hk fun b' hb => by
    obtain rfl : b = b' := by simpa using hb
    exact ho
theorem SeenAt.lt {m : Option Nat} {ns : List (List UInt8)} {w : World} (h : SeenAt m ns w) : ∀ b, m = some b → b < w.heap.size := by
  intro b hb
  rcases h with ⟨rfl, _⟩ | ⟨b', D, rfl, ho, _⟩
  · cases hb
  · obtain rfl : b' = b := by simpa using hb
    exact ho.lt
theorem SeenAt.made (w : World) : SeenAt (some w.heap.size) [] (w.alloc (.map #[] 0)) := by
  refine .inr ⟨w.heap.size, _, rfl, World.ownsMap_made w _ _ _, ⟨_, rfl⟩, fun l => ?_⟩
  rfl
theorem SeenAt.ne {m : Option Nat} {ns : List (List UInt8)} {w : World} (h : SeenAt m ns w) {g : Nat} {c : Array Value} {t : TypeId} {fz : Nat × Nat} (hg : w.heap[g]? = some (.cells c t fz)) (b : Nat) (hb : m = some b) : b ≠ g := by
  rintro rfl
  rcases h with ⟨rfl, _⟩ | ⟨b', D, rfl, ⟨es, clock, hb', _⟩, _⟩
  · cases hb
  · obtain rfl : b' = b := by simpa using hb
    rw [hb'] at hg
    cases hg
theorem SeenAt.store {b : Nat} {ns : List (List UInt8)} {w : World} (h : SeenAt (some b) ns w) (l : List UInt8) (hl : l.length ≤ maxLen) (hn : ns.length < maxLen) (hnew : l ∉ ns) (v : Int) (hv : (Lit.int .i64 v).wf = true) :
    ∃ w', (Instr.mapUpdate 128 (.map (some b)) (S l) (.int .i64 v)).run Tryz.prog w = .ok () w' ∧ SeenAt (some b) (ns ++ [l]) w' ∧ Kept (· ≠ b) w w' := by
  rcases h with ⟨h, _⟩ | ⟨b', D, hb, hown, hM, hh⟩
  · cases h
  · obtain rfl : b = b' := by simpa using hb
    obtain ⟨w', hrun, ho, hg⟩ := hown.update keyedS Tryz.underlying128 hn (keyS l hl) (plainElem_int Tryz.underlying3 hv)
    refine ⟨w', hrun, .inr ⟨b, _, rfl, by rw [List.length_append]; exact ho, ho.isMap, fun l' => ?_⟩, (Kept.of_grown hg).mono fun i _ hi => by simpa using hi⟩
    by_cases e : l' = l
    · subst e
      rw [Maps.has_put_same hM (by simp [WideAt.IsKeyLit])]
      simp
    · rw [Maps.has_put_other (by intro e'; apply e; injection e' ), hh]
      simp [e]
theorem SeenAt.len {b : Nat} {ns : List (List UInt8)} {w : World} (h : SeenAt (some b) ns w) (ty : TypeId) : ∃ k : Nat, k ≤ ns.length ∧ (Builtin.len_ #[128] ty #[.map (some b)]).run Tryz.prog w = .ok (.int .i64 (k : Int)) w := by
  rcases h with ⟨h, _⟩ | ⟨b', D, hb, hown, _, _⟩
  · cases h
  · obtain rfl : b = b' := by simpa using hb
    exact ⟨Maps.size D, hown.size_le, hown.len Tryz.underlying128 ty⟩
end Go.Proofs.YtmajpambfblhnaaGreatDoor
