/- Walks of a strings.Builder's writing methods (layer 4). -/
import Derived.Test.YtmajpambfblhnaaGreatDoorJoKit
import Derived.Test.YtmajpambfblhnaaGreatDoorJKit
import Derived.Lib.Builder
namespace Go.Proofs.YtmajpambfblhnaaGreatDoor
open Go.RowKit Jo

/-- The builder at block b holds the bytes l. -/
abbrev Bd (b : Nat) (l : List UInt8) (w : World) : Prop := Lib.IsBuilder 63 5 b b (Lib.byteCells l) w
/-- .. and has been written to. -/
abbrev BdU (b : Nat) (l : List UInt8) (w : World) : Prop := Lib.BuilderAt 63 5 b b (.pointer (some ⟨b, 0, none⟩)) (Lib.byteCells l) w
def NotB (w : World) (k : Nat) : Prop := ∀ c fz, w.heap[k]? ≠ some (.cells c 5 fz)
/-- All blocks stay but the builder's and rows of bytes behind it. -/
abbrev KB (b : Nat) (w w' : World) : Prop := Kept (fun k => k < b ∨ (k ≠ b ∧ NotB w k)) w w'
theorem KB.refl (b : Nat) (w : World) : KB b w w := Kept.refl _ w
theorem KB.trans {b : Nat} {w w1 w2 : World} (h : KB b w w1) (k : KB b w1 w2) : KB b w w2 := by
  refine Kept.trans h k fun i hi ho => ?_
  rcases ho with ho | ⟨h1, h2⟩
  · exact .inl ho
  · exact .inr ⟨h1, fun c fz e => h2 c fz (((h.block i hi (.inr ⟨h1, h2⟩)).symm).trans e)⟩
theorem KB.to {b : Nat} {w w' : World} (h : KB b w w') : Kept (· < b) w w' := h.mono fun _ _ h => .inl h
theorem Bd.lt {b : Nat} {l : List UInt8} {w : World} (h : Bd b l w) : b < w.heap.size := by
  rcases h with h | h <;> exact h.lt
theorem Bd.kept {b : Nat} {l : List UInt8} {w w' : World} (h : Bd b l w) (_hz : w.heap.size ≤ w'.heap.size) (hk : ∀ k, k < w.heap.size → b ≤ k → (k = b ∨ ¬ NotB w k) → w'.heap[k]? = w.heap[k]?) : Bd b l w' := by
  have key : ∀ p, Lib.BuilderAt 63 5 b b p (Lib.byteCells l) w → Lib.BuilderAt 63 5 b b p (Lib.byteCells l) w' := by
    intro p hp
    have hlt := hp.lt
    obtain ⟨hB, v, hb, hown, hne⟩ := hp
    refine ⟨hB, v, (hk b hlt (Nat.le_refl _) (.inl rfl)).trans hb, ⟨hown.1, ?_⟩, hne⟩
    rcases hown.2 with hn | ⟨g, cap, cur, rfl, hBg, hgg, rest⟩
    · exact .inl hn
    · exact .inr ⟨g, cap, cur, rfl, hBg, (hk g (Array.getElem?_eq_some_iff.1 hgg).1 hBg (.inr fun hn => hn _ _ hgg)).trans hgg, rest⟩
  rcases h with h | h
  · exact .inl (key _ h)
  · exact .inr (key _ h)
theorem Bd.alloc {b : Nat} {l : List UInt8} {w : World} (h : Bd b l w) (o : Obj) : Bd b l (w.alloc o) := h.kept (by simp) fun k hk _ _ => Lib.alloc_old w o k hk
theorem Bd.drewN {b : Nat} {l : List UInt8} {w : World} (h : Bd b l w) (n : Nat) : Bd b l (w.drewN n) := h.kept (Nat.le_refl _) fun _ _ _ _ => rfl

theorem infoBuilder : ((Tryz.prog.info? 63).map (·.size) = some 2) := by kernel_rfl
theorem liesBuilder : liesAt Tryz.prog Tryz.prog.depth 63 (2 / Tryz.prog.cellsOf 63) 0 63 1 = true := by kernel_rfl

set_option maxHeartbeats 1000000 in
set_option maxRecDepth 100000 in
theorem copyCheck_used (b : Nat) (w : World) (h0 : w.cell? ⟨b, 0, none⟩ = some (.pointer (some ⟨b, 0, none⟩))) :
    Calls Tryz.prog 73 #[.pointer (some ⟨b, 0, none⟩)] w fun e w' => e = .returned (.tuple #[]) ∧ w' = w := by
  obtain ⟨j, hj, _⟩ := Option.map_eq_some_iff.1 infoBuilder
  go_enter Tryz.func73, Tryz.ntmps73
  go_wp2
  rw [Lib.run_neq_ptr_same w _ Tryz.underlying61 hj]
  go_wp2
  go_end0
  exact ⟨rfl, rfl⟩
set_option maxHeartbeats 1000000 in
set_option maxRecDepth 100000 in
theorem copyCheck_fresh (b : Nat) (w : World) (h0 : w.cell? ⟨b, 0, none⟩ = some (.pointer none)) (hsh : w.shape? b = some (63, 2)) (hfz : w.frozen? ⟨b, 0, none⟩ = false) :
    Calls Tryz.prog 73 #[.pointer (some ⟨b, 0, none⟩)] w fun e w' => e = .returned (.tuple #[]) ∧ w' = w.setCell ⟨b, 0, none⟩ (.pointer (some ⟨b, 0, none⟩)) := by
  obtain ⟨j, hj, hjs⟩ := Option.map_eq_some_iff.1 infoBuilder
  go_enter Tryz.func73, Tryz.ntmps73
  go_wp2
  rw [Lib.run_to_unsafe w ⟨b, 0, none⟩ Tryz.underlying61 Tryz.underlying137 hj (by rw [hjs]; decide) hsh (Nat.zero_lt_succ 1)]
  simp only [Result.andThen]
  rw [Oper.upon_value]
  go_wp2
  rw [run_callFunc_extern Tryz.func96 (by kernel_rfl) (by kernel_rfl) (by kernel_rfl) (e := Extern.AbiNoEscape.same) (by kernel_rfl)]
  rw [Lib.run_noEscape]
  simp only [Result.andThen]
  rw [Oper.upon_value]
  go_wp2
  rw [Lib.run_from_unsafe w ⟨b, 0, none⟩ Tryz.underlying137 Tryz.underlying61 hj hsh liesBuilder]
  simp only [Result.andThen]
  rw [Oper.upon_value]
  go_wp2
  go_end0
  exact ⟨rfl, rfl⟩
theorem copyCheck_any (b : Nat) (l : List UInt8) (w : World) (h : Bd b l w) : Calls Tryz.prog 73 #[.pointer (some ⟨b, 0, none⟩)] w fun e w' => e = .returned (.tuple #[]) ∧ BdU b l w' ∧ KB b w w' := by
  rcases h with h | h
  · refine (copyCheck_fresh b w h.cell0 h.shape h.frozen0).mono ?_
    rintro e w' ⟨rfl, rfl⟩
    exact ⟨rfl, h.used _, (Kept.refl _ w).setCell (.inr (by simp)) _⟩
  · refine (copyCheck_used b w h.cell0).mono ?_
    rintro e w' ⟨rfl, rfl⟩
    exact ⟨rfl, h, KB.refl _ _⟩
theorem KB.moved {b n : Nat} {v : Value} {xs : List Value} {w w' : World} (hown : w.ownsRow b 5 1 v n xs) (hb : Below b w w') (hm : KeptRow v.ownBlock w w') : KB b w w' := by
  refine ⟨hb.os, hb.tape, hb.output, hm.1, fun k hk ho => ?_⟩
  rcases ho with ho | ⟨h1, h2⟩
  · exact hb.block k ho
  · refine hm.2 k hk fun e => ?_
    rcases hown.2 with ⟨rfl, _⟩ | ⟨g, cap, cur, rfl, _, hg, _⟩
    · simp [Value.ownBlock] at e
    · obtain rfl : k = g := by simpa [Value.ownBlock] using e
      exact h2 _ _ hg
theorem BdU.row {b : Nat} {l : List UInt8} {w : World} (h : BdU b l w) : ∃ a c, w.heap[b]? = some (.cells #[.pointer (some ⟨b, 0, none⟩), .slice a l.length c] 63 (0, 0)) ∧ OwnB 5 b (.slice a l.length c) l w ∧ (Value.slice a l.length c).ownBlock ≠ some b := by
  obtain ⟨_, v, hb, hown, hne⟩ := h
  have hl : (Lib.byteCells l).length = l.length := by simp [Lib.byteCells]
  rw [hl] at hown
  rcases hown.2 with ⟨rfl, h0⟩ | ⟨g, cap, cur, rfl, _⟩
  · exact ⟨none, 0, by rw [h0]; exact hb, by rw [h0]; exact hown, hne⟩
  · exact ⟨_, _, hb, hown, hne⟩
theorem BdU.put {b : Nat} {l' : List UInt8} {v v' : Value} {w : World} (hb : w.heap[b]? = some (.cells #[.pointer (some ⟨b, 0, none⟩), v] 63 (0, 0))) (hown : OwnB 5 b v' l' w) : Bd b l' (w.setCell ⟨b, 1, none⟩ v') := by
  have hl : (Lib.byteCells l').length = l'.length := by simp [Lib.byteCells]
  exact .inr (Lib.BuilderAt.put (Nat.le_refl b) hb (by rw [hl]; exact hown) (by decide))

theorem ownsRow_slice2 {e : TypeId} {B : Nat} {v : Value} {l : List UInt8} {w : World} (h : OwnB e B v l w) : ∃ a m c, v = .slice a m c := by
  rcases h.2 with ⟨rfl, _⟩ | ⟨b, cap, cur, rfl, _⟩ <;> exact ⟨_, _, _, rfl⟩
theorem ownsRow_some {e : TypeId} {size B n : Nat} {v : Value} {xs : List Value} {w : World} (h : w.ownsRow B e size v (n + 1) xs) : ∃ b cap, v = .slice (some ⟨b, 0, none⟩) (n + 1) cap := by
  rcases h.2 with ⟨_, h0⟩ | ⟨b, cap, cur, e4, _⟩
  · omega
  · exact ⟨b, cap, e4⟩
/-- A string's bytes onto a row of bytes: where the row lies. -/
theorem wpList_pushSK {P : Program} {ops : Array Oper} {rest : List Oper} {o : Oper} {a : Act} {Q : Exit → Act → World → Prop} {w : World} (t u e : TypeId) (ht : P.underlying t = some (.slice e)) (hu : P.underlying u = some .string) (hi : (P.info? e).map (fun i => (i.zero, i.size, i.bytes)) = some (some (.int .u8 0), 1, 1))
    (hgd : o.guard = none) (s x : Operand) (ho : o.op = .call { callee := .builtin .append, args := #[s, x], argTypes := #[t, u] })
    (B : Nat) (l : List UInt8) (v : Value) (bs : List UInt8) (hs : a.eval s = v) (hx : a.eval x = S bs) (hown : OwnB e B v l w) (hl : l.length + bs.length ≤ 140737488355328) (hB : B ≤ w.heap.size)
    (h : ∀ v' w', OwnB e B v' (l ++ bs) w' → Below B w w' → KeptRow v.ownBlock w w' → wpList P ops Q rest (a.put o.dst v') w') : wpList P ops Q (o :: rest) a w := by
  obtain ⟨i0, hi0, hz0, hz1, hz2⟩ := info_parts hi
  have hsz : (⟨bs.toArray⟩ : ByteArray).size = bs.length := size_mk bs
  refine Lib.wpList_append_own_string w hgd s x t u ho B e i0 ht hu hi0 hz0 hz1 hz2 v l.length (Lib.byteCells l) hs hown ⟨bs.toArray⟩ hx (by rw [hsz]; unfold maxLen; omega) (by rw [hsz]; omega) hB ?_
  intro v' w' h2 h3 _
  refine h v' w' ?_ (Below.of_grown hown hB h3) ⟨h3.size, h3.block⟩
  unfold OwnB
  rw [List.length_append, Lib.byteCells_append, ← strCells_mk bs, ← hsz]
  exact h2
set_option maxHeartbeats 1000000 in
set_option maxRecDepth 100000 in
theorem WriteByte_any (b : Nat) (c : UInt8) (l : List UInt8) (w : World) (h : Bd b l w) (hl : l.length + 1 ≤ 1099511627776) :
    Calls Tryz.prog 57 #[.pointer (some ⟨b, 0, none⟩), .int .u8 c.toNat] w fun e w' => e = .returned .nilIface ∧ Bd b (l ++ [c]) w' ∧ KB b w w' := by
  go_enter Tryz.func57, Tryz.ntmps57
  go_wp2_with (first
    | (refine (copyCheck_any b l w h).mono ?_; rintro e w1 ⟨rfl, hb1, hk1⟩; obtain ⟨a, cp, hbk, hown, hne⟩ := hb1.row; have c1 : w1.cell? ⟨b, 1, none⟩ = some (.slice a l.length cp) := (by rw [cell_of_row w1 b 1 _ _ (0, 0) hbk]; rfl); have HK1 := Lib.hid hk1; have HBK := Lib.hid hbk; have HOWN := Lib.hid hown; have hlt := hb1.lt; have HNE := Lib.hid hne; clear hk1 hbk hown hb1 hne)
    | (at_builtin; refine wpList_pushOne' 55 5 Tryz.underlying55 infoByte rfl (by decide) rfl (.tmp 11) (.tmp 13) rfl b (.slice a l.length cp) l.length (Lib.byteCells l) [.int .u8 c.toNat] w1 _ rfl rfl rfl (by intro u hu; simp at hu; subst hu; rfl) 1 _ rfl rfl rfl HOWN.out hl (by decide) (by omega) ?_
       intro v' w2 k1 k2 k3
       obtain ⟨vb, vc, rfl⟩ := ownsRow_some k1
       have hbk2 := (k3.kept.2 b hlt (fun e => HNE.out e.symm)).trans HBK.out
       have d1 : w2.cell? ⟨b, 1, none⟩ = some (.slice a l.length cp) := (by rw [cell_of_row w2 b 1 _ _ (0, 0) hbk2]; rfl)
       have d2 : w2.frozen? ⟨b, 1, none⟩ = false := frozen_row hbk2 1
       have HBK2 := Lib.hid hbk2
       have HK2 := Lib.hid (And.intro k1 (And.intro k2 k3))
       clear k1 k2 k3 hbk2))
  go_ret
  have hown : OwnB 5 b (.slice (some ⟨vb, 0, none⟩) (l.length + 1) vc) (l ++ [c]) w2 := by
    have := HK2.out.1
    unfold OwnB
    rw [List.length_append, Lib.byteCells_append]
    exact this
  exact ⟨rfl, BdU.put HBK2.out hown, (KB.trans HK1.out (KB.moved HOWN.out HK2.out.2.1 HK2.out.2.2.kept)).setCell (.inr (by simp)) _⟩

set_option maxHeartbeats 1000000 in
set_option maxRecDepth 100000 in
theorem WriteString_any (b : Nat) (s l : List UInt8) (w : World) (h : Bd b l w) (hl : l.length + s.length ≤ 1099511627776) :
    Calls Tryz.prog 53 #[.pointer (some ⟨b, 0, none⟩), S s] w fun e w' => (∃ v, e = .returned v) ∧ Bd b (l ++ s) w' ∧ KB b w w' := by
  go_enter Tryz.func53, Tryz.ntmps53
  go_wp2_with (first
    | (refine (copyCheck_any b l w h).mono ?_; rintro e w1 ⟨rfl, hb1, hk1⟩; obtain ⟨a, cp, hbk, hown, hne⟩ := hb1.row; have c1 : w1.cell? ⟨b, 1, none⟩ = some (.slice a l.length cp) := (by rw [cell_of_row w1 b 1 _ _ (0, 0) hbk]; rfl); have HK1 := Lib.hid hk1; have HBK := Lib.hid hbk; have HOWN := Lib.hid hown; have hlt := hb1.lt; have HNE := Lib.hid hne; clear hk1 hbk hown hb1 hne)
    | (at_builtin; refine wpList_pushSK 55 9 5 Tryz.underlying55 Tryz.underlying9 infoByte rfl (.tmp 12) (.tmp 13) rfl b l (.slice a l.length cp) s rfl rfl HOWN.out (by omega) (by omega) ?_
       intro v' w2 k1 k2 k3
       obtain ⟨va, vl, vc, rfl⟩ := ownsRow_slice2 k1
       have hbk2 := (k3.2 b hlt (fun e => HNE.out e.symm)).trans HBK.out
       have d1 : w2.cell? ⟨b, 1, none⟩ = some (.slice a l.length cp) := (by rw [cell_of_row w2 b 1 _ _ (0, 0) hbk2]; rfl)
       have d2 : w2.frozen? ⟨b, 1, none⟩ = false := frozen_row hbk2 1
       have HBK2 := Lib.hid hbk2
       have HK2 := Lib.hid (And.intro k1 (And.intro k2 k3))
       clear k1 k2 k3 hbk2))
  go_ret2
  exact ⟨⟨_, rfl⟩, BdU.put HBK2.out HK2.out.1, (KB.trans HK1.out (KB.moved HOWN.out HK2.out.2.1 HK2.out.2.2)).setCell (.inr (by simp)) _⟩
end Go.Proofs.YtmajpambfblhnaaGreatDoor
