/- Layer 4: bytes, worlds that keep their blocks; small laws of the walk. -/
import Derived.Test.YtmajpambfblhnaaGreatDoorRows
import Derived.Test.YtmajpambfblhnaaGreatDoorJKit
import Derived.Test.YtmajpambfblhnaaGreatDoorJoPlainA
import Derived.StillTailTactics
import Derived.BigQuiet
import Derived.Deep.QuietTactic
import Derived.Deep.RegionLaw
import Derived.Deep.RegionHeld3
import Derived.Deep.LoopGhost
import Derived.Outline
import Derived.Deep.DeepCutAuto
import Derived.Deep.CutBlock
import Derived.Lib.AppendStr
import Derived.Maps.OwnSet
namespace Go.Proofs.YtmajpambfblhnaaGreatDoor
open Go.RowKit Jo

abbrev S (l : List UInt8) : Value := .string ⟨l.toArray⟩
theorem size_mk (l : List UInt8) : (⟨l.toArray⟩ : ByteArray).size = l.length := by simp [ByteArray.size]
theorem ret_int {k : IntKind} {a b : Int} (h : a = b) : Ending.returned (.int k a) = .returned (.int k b) := by rw [h]
theorem ret_bool {a b : Bool} (h : a = b) : Ending.returned (.bool a) = .returned (.bool b) := by rw [h]
theorem ret_str {a b : List UInt8} (h : a = b) : Ending.returned (S a) = .returned (S b) := by rw [h]
theorem infoByte : (Tryz.prog.info? 5).map (fun i => (i.zero, i.size, i.bytes)) = some (some (.int .u8 0), 1, 1) := by kernel_rfl

theorem byte_is (c : UInt8) (k : Int) (x : UInt8) (hk : k = x.toNat) : ((c.toNat : Int) == k) = decide (c = x) := by
  subst hk
  by_cases h : c = x
  · subst h; simp
  · rw [decide_eq_false h]
    simp only [beq_eq_false_iff_ne, ne_eq]
    intro e
    exact h (UInt8.toNat_inj.1 (by omega))

theorem byte_is' (b c : UInt8) : ((b.toNat : Int) == (c.toNat : Int)) = decide (b = c) := byte_is b c.toNat c rfl

/-- Of what stood in w all blocks that are 'ok' stand in w' as they stood. -/
structure Kept (ok : Nat → Prop) (w w' : World) : Prop where
  os : w'.os = w.os
  tape : w'.tape = w.tape
  output : w'.output = w.output
  size : w.heap.size ≤ w'.heap.size
  block : ∀ k, k < w.heap.size → ok k → w'.heap[k]? = w.heap[k]?
theorem Kept.refl (ok : Nat → Prop) (w : World) : Kept ok w w := ⟨rfl, rfl, rfl, Nat.le_refl _, fun _ _ _ => rfl⟩
theorem Kept.trans {ok ok2 : Nat → Prop} {a b c : World} (h : Kept ok a b) (k : Kept ok2 b c) (hs : ∀ i, i < a.heap.size → ok i → ok2 i) : Kept ok a c :=
  ⟨k.os.trans h.os, k.tape.trans h.tape, k.output.trans h.output, Nat.le_trans h.size k.size, fun i hi ho => (k.block i (by have := h.size; omega) (hs i hi ho)).trans (h.block i hi ho)⟩
theorem Kept.tr {ok : Nat → Prop} {a b c : World} (h : Kept ok a b) (k : Kept ok b c) : Kept ok a c := h.trans k fun _ _ h => h
theorem Kept.mono {ok ok2 : Nat → Prop} {a b : World} (h : Kept ok a b) (hs : ∀ i, i < a.heap.size → ok2 i → ok i) : Kept ok2 a b := ⟨h.os, h.tape, h.output, h.size, fun i hi ho => h.block i hi (hs i hi ho)⟩
theorem Kept.drew {ok : Nat → Prop} {a w : World} (h : Kept ok a w) : Kept ok a w.drew := ⟨h.os, h.tape, h.output, h.size, h.block⟩
theorem drewN_heap (w : World) (n : Nat) : (w.drewN n).heap = w.heap := rfl
theorem Kept.drewN {ok : Nat → Prop} {a w : World} (h : Kept ok a w) (n : Nat) : Kept ok a (w.drewN n) := ⟨h.os, h.tape, h.output, h.size, h.block⟩
theorem Kept.alloc {ok : Nat → Prop} {a w : World} (h : Kept ok a w) (o : Obj) : Kept ok a (w.alloc o) :=
  h.tr ⟨rfl, rfl, rfl, by simp, fun k hk _ => Below.heap_alloc _ _ _ hk⟩
theorem Kept.setCell {ok : Nat → Prop} {a w : World} (h : Kept ok a w) {p : Addr} (hp : a.heap.size ≤ p.block ∨ ¬ ok p.block) (u : Value) : Kept ok a (w.setCell p u) :=
  h.trans (ok2 := fun k => k ≠ p.block) ⟨rfl, rfl, rfl, by simp [World.setCell], fun k _ hne => Below.heap_setCell _ _ _ _ hne⟩ fun i hi ho e => by
    subst e
    rcases hp with hp | hp
    · omega
    · exact hp ho
theorem Kept.of_grown {w w' : World} {row : Option Nat} (h : w.grownBy w' row) : Kept (fun k => some k ≠ row) w w' := ⟨h.os, h.tape, h.output, h.size, h.block⟩
theorem Kept.grown {ok : Nat → Prop} {a w w' : World} {row : Option Nat} (h : Kept ok a w) (hg : w.grownBy w' row) (hr : ∀ k, row = some k → a.heap.size ≤ k ∨ ¬ ok k) : Kept ok a w' :=
  h.trans (Kept.of_grown hg) fun i hi ho e => by
    rcases hr i e.symm with h1 | h1
    · omega
    · exact h1 ho
theorem Kept.of_below {ok : Nat → Prop} {B : Nat} {w w' : World} (h : Below B w w') (hB : w.heap.size ≤ B) : Kept ok w w' := ⟨h.os, h.tape, h.output, h.size, fun k hk _ => h.block k (by omega)⟩
theorem Kept.to_below {ok : Nat → Prop} {B : Nat} {w w' : World} (h : Kept ok w w') (hB : B ≤ w.heap.size) (ho : ∀ k, k < B → ok k) : Below B w w' := ⟨h.os, h.tape, h.output, h.size, fun k hk => h.block k (by omega) (ho k hk)⟩
theorem Kept.cell {ok : Nat → Prop} {w w' : World} (h : Kept ok w w') {b o : Nat} (hb : b < w.heap.size) (ho : ok b) : w'.cell? ⟨b, o, none⟩ = w.cell? ⟨b, o, none⟩ := World.cell?_of_block (a := ⟨b, o, none⟩) (h.block b hb ho)
theorem Kept.frozen {ok : Nat → Prop} {w w' : World} (h : Kept ok w w') {b o : Nat} (hb : b < w.heap.size) (ho : ok b) : w'.frozen? ⟨b, o, none⟩ = w.frozen? ⟨b, o, none⟩ := World.frozen?_of_block (a := ⟨b, o, none⟩) (h.block b hb ho)
theorem ownsRow_kept {e : TypeId} {size B n : Nat} {v : Value} {xs : List Value} {w w' : World} {ok : Nat → Prop} (h : w.ownsRow B e size v n xs) (hk : Kept ok w w') (hne : ∀ b, v.ownBlock = some b → ok b) : w'.ownsRow B e size v n xs := by
  refine ⟨h.1, ?_⟩
  rcases h.2 with hn | ⟨g, cap, cur, rfl, hB, hgg, rest⟩
  · exact .inl hn
  · exact .inr ⟨g, cap, cur, rfl, hB, (hk.block g (Array.getElem?_eq_some_iff.1 hgg).1 (hne g rfl)).trans hgg, rest⟩
theorem OwnB.kept {e : TypeId} {B : Nat} {v : Value} {l : List UInt8} {w w' : World} {ok : Nat → Prop} (h : OwnB e B v l w) (hk : Kept ok w w') (hne : ∀ b, v.ownBlock = some b → ok b) : OwnB e B v l w' := ownsRow_kept h hk hne
theorem frozen_row {w : World} {g : Nat} {cs : Array Value} {t : TypeId} (h : w.heap[g]? = some (.cells cs t (0, 0))) (o : Nat) : w.frozen? ⟨g, o, none⟩ = false := by simp [World.frozen?, h]
theorem cell_isLt {w : World} {b o : Nat} {v : Value} (h : w.cell? ⟨b, o, none⟩ = some v) : b < w.heap.size := by
  unfold World.cell? at h
  split at h
  · rename_i hh; exact (Array.getElem?_eq_some_iff.1 hh).1
  · cases h

/-- The reader of jot at block g: its text, its place, how deep it stands. -/
def PA (g : Nat) (s : List UInt8) (i d : Nat) (w : World) : Prop := w.heap[g]? = some (.cells #[S s, .int .i64 i, .int .i64 d] 72 (0, 0))
theorem PA.lt {g : Nat} {s : List UInt8} {i d : Nat} {w : World} (h : PA g s i d w) : g < w.heap.size := (Array.getElem?_eq_some_iff.1 h).1
theorem PA.facts {g : Nat} {s : List UInt8} {i d : Nat} {w : World} (h : PA g s i d w) :
    w.cell? ⟨g, 0, none⟩ = some (S s) ∧ w.cell? ⟨g, 1, none⟩ = some (.int .i64 i) ∧ w.cell? ⟨g, 2, none⟩ = some (.int .i64 d) ∧ w.frozen? ⟨g, 1, none⟩ = false ∧ w.frozen? ⟨g, 2, none⟩ = false := by
  unfold PA at h
  refine ⟨?_, ?_, ?_, frozen_row h 1, frozen_row h 2⟩ <;> rw [cell_of_row w g _ _ _ (0, 0) h] <;> rfl
theorem PA.kept {g : Nat} {s : List UInt8} {i d : Nat} {w w' : World} {ok : Nat → Prop} (h : PA g s i d w) (hk : Kept ok w w') (ho : ok g) : PA g s i d w' := (hk.block g h.lt ho).trans h
theorem PA.drewN {g : Nat} {s : List UInt8} {i d : Nat} {w : World} (h : PA g s i d w) (n : Nat) : PA g s i d (w.drewN n) := h
theorem setCell_heap {w : World} {g o : Nat} {cur : Array Value} {t : TypeId} {fz : Nat × Nat} (h : w.heap[g]? = some (.cells cur t fz)) (v : Value) : (w.setCell ⟨g, o, none⟩ v).heap[g]? = some (.cells (cur.setIfInBounds o v) t fz) := by
  simp only [World.setCell, Array.getElem?_modify, if_true]
  rw [h]
  rfl
theorem PA.setAt {g : Nat} {s : List UInt8} {i d : Nat} {w : World} (h : PA g s i d w) (j : Nat) (v : Value) (hv : v = .int .i64 j) : PA g s j d (w.setCell ⟨g, 1, none⟩ v) := by
  subst hv
  exact (setCell_heap h _).trans rfl
theorem PA.setDeep {g : Nat} {s : List UInt8} {i d : Nat} {w : World} (h : PA g s i d w) (j : Nat) (v : Value) (hv : v = .int .i64 j) : PA g s i j (w.setCell ⟨g, 2, none⟩ v) := by
  subst hv
  exact (setCell_heap h _).trans rfl

/-- The panic by which jot's reader gives up. -/
abbrev gaveUp (e : Int) (i : Nat) : Ending := .panicked [{ v := .iface 68 (.agg #[.int .i64 e, .int .i64 i]), recovered := false }]
/-- What a method of the reader leaves: what the plain reader says, or the panic; the reader's block alone is written. -/
def Reads {α : Type} (g : Nat) (s : List UInt8) (d : Nat) (w : World) (r : PR α) (Q : α → Ending → World → Prop) (e : Ending) (w' : World) : Prop :=
  match r with
  | .ok a i => Q a e w' ∧ PA g s i d w' ∧ i ≤ s.length ∧ Kept (· ≠ g) w w'
  | .bad x i => e = gaveUp x i ∧ i ≤ s.length ∧ Kept (· ≠ g) w w'
end Go.Proofs.YtmajpambfblhnaaGreatDoor

namespace Go.Proofs.YtmajpambfblhnaaGreatDoor
open Go.RowKit Jo

theorem extract_mk (s : List UInt8) (j k : Nat) : Value.string ((⟨s.toArray⟩ : ByteArray).extract j k) = S ((s.drop j).take (k - j)) := by
  congr 1
  apply ByteArray.ext
  rw [ByteArray.data_extract]
  simp
theorem strCells_mk (l : List UInt8) : Lib.strCells ⟨l.toArray⟩ = Lib.byteCells l := by simp [Lib.strCells, Lib.byteCells]
theorem Below.of_grown {e : TypeId} {B : Nat} {v : Value} {l : List UInt8} {w w' : World} (h : OwnB e B v l w) (hB : B ≤ w.heap.size) (hg : w.grownBy w' v.ownBlock) : Below B w w' := (h.grown hB hg).1
section
variable {P : Program} {ops : Array Oper} {o : Oper} {a : Act} {K : Act → World → Prop} {Q : Exit → Act → World → Prop} {E : Prop} {w : World}
theorem step_pushS (t u e : TypeId) (ht : P.underlying t = some (.slice e)) (hu : P.underlying u = some .string) (hi : (P.info? e).map (fun i => (i.zero, i.size, i.bytes)) = some (some (.int .u8 0), 1, 1))
    (hgd : o.guard = none) (s x : Operand) (ho : o.op = .call { callee := .builtin .append, args := #[s, x], argTypes := #[t, u] })
    (B : Nat) (l : List UInt8) (v : Value) (bs : List UInt8) (hs : a.eval s = v) (hx : a.eval x = S bs) (hown : OwnB e B v l w) (hl : l.length + bs.length ≤ 140737488355328) (hB : B ≤ w.heap.size)
    (h : ∀ v' w', OwnB e B v' (l ++ bs) w' → Below B w w' → K (a.put o.dst v') w') :
    if Region.wanted o (yielded ops a.tmps) = true then Oper.wp P o a w K Q else E := by
  obtain ⟨i0, hi0, hz0, hz1, hz2⟩ := info_parts hi
  have hsz : (⟨bs.toArray⟩ : ByteArray).size = bs.length := size_mk bs
  obtain ⟨v', w', hr, h2, h3, h4⟩ := Lib.run_append_own_string (P := P) (w := w) B t u o.type e i0 ht hu hi0 hz0 hz1 hz2 v l.length (Lib.byteCells l) hown ⟨bs.toArray⟩ (by rw [hsz]; unfold maxLen; omega) (by rw [hsz]; omega) hB
  have hwd : Region.wanted o (yielded ops a.tmps) = true := by simp [Region.wanted, hgd]
  rw [if_pos hwd]
  have h3' : OwnB e B v' (l ++ bs) w' := by
    unfold OwnB
    rw [List.length_append, Lib.byteCells_append, ← strCells_mk bs, ← hsz]
    exact h2
  have hK := h v' w' h3' (Below.of_grown hown hB h3)
  unfold Oper.wp execOp
  simp only [ho, resolve, invoke, builtin, Sem.run_bind, Sem.run_pure, Result.andThen_ok, List.map_toArray, List.map_cons, List.map_nil, hs, hx, hr]
  exact hK
end
section
variable {P : Program} {ops : Array Oper} {rest : List Oper} {o : Oper} {a : Act} {Q : Exit → Act → World → Prop} {w : World}
theorem wpList_pushS (t u e : TypeId) (ht : P.underlying t = some (.slice e)) (hu : P.underlying u = some .string) (hi : (P.info? e).map (fun i => (i.zero, i.size, i.bytes)) = some (some (.int .u8 0), 1, 1))
    (hgd : o.guard = none) (s x : Operand) (ho : o.op = .call { callee := .builtin .append, args := #[s, x], argTypes := #[t, u] })
    (B : Nat) (l : List UInt8) (v : Value) (bs : List UInt8) (hs : a.eval s = v) (hx : a.eval x = S bs) (hown : OwnB e B v l w) (hl : l.length + bs.length ≤ 140737488355328) (hB : B ≤ w.heap.size)
    (h : ∀ v' w', OwnB e B v' (l ++ bs) w' → Below B w w' → wpList P ops Q rest (a.put o.dst v') w') : wpList P ops Q (o :: rest) a w := by
  obtain ⟨i0, hi0, hz0, hz1, hz2⟩ := info_parts hi
  have hsz : (⟨bs.toArray⟩ : ByteArray).size = bs.length := size_mk bs
  refine Lib.wpList_append_own_string w hgd s x t u ho B e i0 ht hu hi0 hz0 hz1 hz2 v l.length (Lib.byteCells l) hs hown ⟨bs.toArray⟩ hx (by rw [hsz]; unfold maxLen; omega) (by rw [hsz]; omega) hB ?_
  intro v' w' h2 h3 _
  refine h v' w' ?_ (Below.of_grown hown hB h3)
  unfold OwnB
  rw [List.length_append, Lib.byteCells_append, ← strCells_mk bs, ← hsz]
  exact h2
end

/-- The map of names that were seen (nil: none). -/
def SeenAt (m : Option Nat) (ns : List (List UInt8)) (w : World) : Prop :=
  (m = none ∧ ns = []) ∨ ∃ (b : Nat) (D : DataW Unit), m = some b ∧ w.ownsMap Tryz.prog 9 (plainElem Tryz.prog 3) b ns.length D ∧ Maps.IsMap D ∧ ∀ l : List UInt8, Maps.has D (.string l) = decide (l ∈ ns)
theorem keyedS : Maps.Keyed Tryz.prog 9 := Maps.string_keyed Tryz.underlying9
theorem zeroI (w : World) : (zeroValue 3).run Tryz.prog w = .ok (.int .i64 0) w := by kernel_rfl
theorem keyS (l : List UInt8) (h : l.length ≤ maxLen) : keyOf Tryz.prog 9 (S l) = some (.string l) := by
  have := WideMaps.keyOf_string_mk (P := Tryz.prog) (k := 9) (s := ⟨l.toArray⟩) Tryz.underlying9 (by rw [size_mk]; exact h)
  simpa using this
theorem SeenAt.look {m : Option Nat} {ns : List (List UInt8)} {w : World} (h : SeenAt m ns w) (l : List UInt8) (hl : l.length ≤ maxLen) :
    ∃ c : Int, (Instr.lookup 128 (.map m) (S l) true).run Tryz.prog w = .ok (.tuple #[.int .i64 c, .bool (decide (l ∈ ns))]) w := by
  rcases h with ⟨rfl, rfl⟩ | ⟨b, D, rfl, hown, _, hh⟩
  · refine ⟨0, ?_⟩
    rw [Maps.look_nil true keyedS Tryz.underlying128 (zeroI w) (keyS l hl)]
    simp
  · obtain ⟨v, ps, hrun, hv⟩ := hown.look_ok keyedS Tryz.underlying128 (zeroI w) (plainElem_int Tryz.underlying3 (by decide)) (keyS l hl)
    obtain ⟨c, rfl, _, _⟩ := plainElem_int_inv Tryz.underlying3 hv
    exact ⟨c, by rw [hrun, hh]⟩
theorem SeenAt.kept {m : Option Nat} {ns : List (List UInt8)} {w w' : World} {ok : Nat → Prop} (h : SeenAt m ns w) (hk : Kept ok w w') (ho : ∀ b, m = some b → ok b) : SeenAt m ns w' := by
  rcases h with h | ⟨b, D, rfl, ⟨es, clock, hb, r⟩, hh⟩
  · exact .inl h
  · exact .inr ⟨b, D, rfl, ⟨es, clock, (hk.block b (Array.getElem?_eq_some_iff.1 hb).1 (ho b rfl)).trans hb, r⟩, hh⟩
theorem SeenAt.keptS {b : Nat} {ns : List (List UInt8)} {w w' : World} {ok : Nat → Prop} (h : SeenAt (some b) ns w) (hk : Kept ok w w') (ho : ok b) : SeenAt (some b) ns w' :=
  h.kept hk fun b' hb => by
    obtain rfl : b = b' := by simpa using hb
    exact ho
theorem SeenAt.lt {m : Option Nat} {ns : List (List UInt8)} {w : World} (h : SeenAt m ns w) : ∀ b, m = some b → b < w.heap.size := by
  intro b hb
  rcases h with ⟨rfl, _⟩ | ⟨b', D, rfl, ho, _⟩
  · cases hb
  · obtain rfl : b' = b := by simpa using hb
    exact ho.lt
theorem SeenAt.made (w : World) : SeenAt (some w.heap.size) [] (w.alloc (.map #[] 0)) := by
  refine .inr ⟨w.heap.size, _, rfl, World.ownsMap_made w _ _ _, ⟨_, rfl⟩, fun l => ?_⟩
  rfl
theorem SeenAt.ne {m : Option Nat} {ns : List (List UInt8)} {w : World} (h : SeenAt m ns w) {g : Nat} {c : Array Value} {t : TypeId} {fz : Nat × Nat} (hg : w.heap[g]? = some (.cells c t fz)) (b : Nat) (hb : m = some b) : b ≠ g := by
  rintro rfl
  rcases h with ⟨rfl, _⟩ | ⟨b', D, rfl, ⟨es, clock, hb', _⟩, _⟩
  · cases hb
  · obtain rfl : b' = b := by simpa using hb
    rw [hb'] at hg
    cases hg
theorem SeenAt.store {b : Nat} {ns : List (List UInt8)} {w : World} (h : SeenAt (some b) ns w) (l : List UInt8) (hl : l.length ≤ maxLen) (hn : ns.length < maxLen) (hnew : l ∉ ns) (v : Int) (hv : (Lit.int .i64 v).wf = true) :
    ∃ w', (Instr.mapUpdate 128 (.map (some b)) (S l) (.int .i64 v)).run Tryz.prog w = .ok () w' ∧ SeenAt (some b) (ns ++ [l]) w' ∧ Kept (· ≠ b) w w' := by
  rcases h with ⟨h, _⟩ | ⟨b', D, hb, hown, hM, hh⟩
  · cases h
  · obtain rfl : b = b' := by simpa using hb
    obtain ⟨w', hrun, ho, hg⟩ := hown.update keyedS Tryz.underlying128 hn (keyS l hl) (plainElem_int Tryz.underlying3 hv)
    refine ⟨w', hrun, .inr ⟨b, _, rfl, by rw [List.length_append]; exact ho, ho.isMap, fun l' => ?_⟩, (Kept.of_grown hg).mono fun i _ hi => by simpa using hi⟩
    by_cases e : l' = l
    · subst e
      rw [Maps.has_put_same hM (by simp [WideAt.IsKeyLit])]
      simp
    · rw [Maps.has_put_other (by intro e'; apply e; injection e' ), hh]
      simp [e]
theorem SeenAt.len {b : Nat} {ns : List (List UInt8)} {w : World} (h : SeenAt (some b) ns w) (ty : TypeId) : ∃ k : Nat, k ≤ ns.length ∧ (Builtin.len_ #[128] ty #[.map (some b)]).run Tryz.prog w = .ok (.int .i64 (k : Int)) w := by
  rcases h with ⟨h, _⟩ | ⟨b', D, hb, hown, _, _⟩
  · cases h
  · obtain rfl : b = b' := by simpa using hb
    exact ⟨Maps.size D, hown.size_le, hown.len Tryz.underlying128 ty⟩
end Go.Proofs.YtmajpambfblhnaaGreatDoor
