/- What the proof of this law needs, part 4: walks of the program's functions and plain laws (texts AcH9, AcHA, AcHB, AcF3, AcF4, AcF5, AcF6, AcK2, AcF7, AcF8, AcF9, AcB2, AcB3, AcB4, AcB5). -/
import Derived.Test.YtpcgfhleloonfaaGreatDoorZb3
import Derived.Deep.WholeRow
import Derived.Laws.IdiomCopy
namespace Go.Proofs.YtpcgfhleloonfaaGreatDoor
open Go.RowKit Jo Ac
section
variable {P : Program} {ops : Array Oper} {rest : List Oper} {o : Oper} {a : Act} {Q : Exit → Act → World → Prop} {w : World}
/-- make([]byte, n, c). -/
theorem wpList_makeL (t e : TypeId) (ht : P.underlying t = some (.slice e))
    (hi : (P.info? e).map (fun i => (i.zero, i.size, i.bytes)) = some (some (.int .u8 0), 1, 1)) (hgd : o.guard = none) (l c : Operand) (hop : o.op = Op.makeSlice t l c)
    (B : Nat) (kl kc : IntKind) (x y : Int) (L C : Nat) (hl : a.eval l = .int kl x) (hx : x = (L : Int)) (hc : a.eval c = .int kc y) (hy : y = (C : Int)) (hLC : L ≤ C) (hn : C ≤ 140737488355328) (hB : B ≤ w.heap.size)
    (hK : ∀ w', OwnB e B (.slice (some ⟨w.heap.size, 0, none⟩) L C) (List.replicate L 0) w' → Below B w w' → w'.heap.size = w.heap.size + 1 → (∀ j, j < C → (w'.cell? ⟨w.heap.size, j, none⟩).isSome = true ∧ w'.frozen? ⟨w.heap.size, j, none⟩ = false) → Kept (fun _ => True) w w' → wpList P ops Q rest (a.put o.dst (.slice (some ⟨w.heap.size, 0, none⟩) L C)) w') : wpList P ops Q (o :: rest) a w := by
  obtain ⟨i0, hi0, hz0, hz1, hz2⟩ := info_parts hi
  have hb' : (i0.bytes : Int) * (C : Int) ≤ 281474976710656 := by rw [hz2]; omega
  have hr := run_make (P := P) w t e i0 (.int .u8 0) ht hi0 hz0 kl kc L C (by omega) (by omega) hb' (by omega)
  simp only [Int.toNat_natCast] at hr
  subst hx hy
  refine wpList_plain hgd fun K hK' => ?_
  unfold Oper.wp
  simp [execOp, hop, hl, hc, hr, Result.andThen]
  have hsz : (madeCells (Value.int .u8 0).cells (C * i0.size)).size = C := by rw [size_madeCells, hz1, Nat.mul_one]
  have hg : (w.alloc (.cells (madeCells (Value.int .u8 0).cells (C * i0.size)) e)).heap[w.heap.size]? = some (.cells (madeCells (Value.int .u8 0).cells (C * i0.size)) e (0, 0)) := heap_alloc_new w _
  refine hK' _ _ (hK _ ?_ ((Below.refl B w).alloc hB _) (by simp) (fun j hj => ?_) ((Kept.refl _ _).alloc _))
  · refine ⟨by simp [Lib.byteCells], .inr ⟨w.heap.size, C, _, ?_, hB, hg, ?_, by unfold maxLen; omega, by rw [hsz]; omega, ?_⟩⟩
    · simp
    · simpa using hLC
    · apply List.ext_getElem?
      intro j
      rw [List.getElem?_take]
      simp only [List.length_replicate, Nat.mul_one]
      split
      · next h =>
        rw [hz1, Nat.mul_one]
        simp [madeCells, Lib.byteCells, Value.cells, h, show j < C by omega, Nat.mod_one]
      · next h => rw [List.getElem?_eq_none (by simpa [Lib.byteCells] using h)]
  · rw [cell_of_row _ _ _ _ _ _ hg, frozen_row hg]
    exact ⟨by rw [Array.getElem?_eq_getElem (by rw [hsz]; exact hj)]; rfl, rfl⟩
end
theorem ownsRow_setCellB {w : World} {B g n cap size j : Nat} {e : TypeId} {xs : List Value} (h : w.ownsRow B e size (.slice (some ⟨g, 0, none⟩) n cap) n xs) (u : Value) :
    (w.setCell ⟨g, j, none⟩ u).ownsRow B e size (.slice (some ⟨g, 0, none⟩) n cap) n (xs.set j u) := by
  refine ⟨by rw [List.length_set]; exact h.1, ?_⟩
  rcases h.2 with ⟨hn, _⟩ | ⟨g', cap', cur, hv, hB, hg, h1, h2, h3, h4⟩
  · cases hn
  · cases hv
    refine .inr ⟨g, cap, cur.setIfInBounds j u, rfl, hB, setCell_heap hg u, h1, h2, by simpa using h3, ?_⟩
    rw [Array.toList_setIfInBounds, ← h4, List.take_set]
theorem OwnB.set {e : TypeId} {B g n cap : Nat} {l : List UInt8} {w : World} (h : OwnB e B (.slice (some ⟨g, 0, none⟩) n cap) l w) (hn : n = l.length) (j : Nat) (c : UInt8) (v : Value) (hv : v = .int .u8 (c.toNat : Int)) : OwnB e B (.slice (some ⟨g, 0, none⟩) n cap) (l.set j c) (w.setCell ⟨g, j, none⟩ v) := by
  subst hv hn
  have h2 := ownsRow_setCellB (j := j) h (.int .u8 (c.toNat : Int))
  unfold OwnB
  rw [List.length_set, show Lib.byteCells (l.set j c) = (Lib.byteCells l).set j (.int .u8 (c.toNat : Int)) by simp [Lib.byteCells, List.map_set]]
  exact h2
theorem big4 {y : Nat} (hy : y < 4294967296) : ∃ c0 c1 c2 c3 : UInt8, bigE y 4 = [c0, c1, c2, c3] ∧ (y : Int) / 16777216 = (c0.toNat : Int) ∧ (y : Int) / 65536 % 256 = (c1.toNat : Int) ∧ (y : Int) / 256 % 256 = (c2.toNat : Int) ∧ (y : Int) % 256 = (c3.toNat : Int) := by
  refine ⟨UInt8.ofNat (y / 256 ^ 3), UInt8.ofNat (y / 256 ^ 2), UInt8.ofNat (y / 256 ^ 1), UInt8.ofNat (y / 256 ^ 0), rfl, ?_, ?_, ?_, ?_⟩ <;> rw [UInt8.toNat_ofNat'] <;> omega
theorem big_len : ∀ l : List Nat, (l.flatMap fun w => bigE w 4).length = 4 * l.length
  | [] => rfl
  | w :: l => by
    rw [List.flatMap_cons, List.length_append, big_len l, List.length_cons]
    simp [bigE]
    omega
theorem Kept.of_belowK {B : Nat} {w w' : World} (h : Below B w w') : Kept (fun k => k < B) w w' := ⟨h.os, h.tape, h.output, h.size, fun k _ ho => h.block k ho⟩
def hasherZero : Array Value := (hasherCells (List.replicate 8 0) (List.replicate 64 0) 0).toArray
theorem hasher_zero : ∀ w, (zeroValue 138).run Tryz.prog w = .ok (.agg hasherZero) w := (zero_of_info (P := Tryz.prog) (t := 138) (v := .agg hasherZero) (n := 73) (by kernel_rfl)).1
theorem hasher_one (st : List Nat) (rest : List UInt8) (n : Nat) : (hasherCells st rest n).toArray.all (·.oneCell') = true := by
  rw [Array.all_eq_true_iff_forall_mem]
  intro x hx
  have hx : x ∈ hasherCells st rest n := List.mem_toArray.1 hx
  unfold hasherCells at hx
  rcases List.mem_append.1 hx with hx | hx
  · rcases List.mem_append.1 hx with hx | hx
    · obtain ⟨y, _, rfl⟩ := List.mem_map.1 hx; rfl
    · obtain ⟨y, _, rfl⟩ := List.mem_map.1 hx; rfl
  · obtain rfl := List.mem_singleton.1 hx; rfl
theorem setCells_size (g : Nat) : ∀ (vs : List Value) (o : Nat) (w : World), (w.setCells g o vs).heap.size = w.heap.size
  | [], _, _ => rfl
  | v :: vs, o, w => by
    show ((w.setCell ⟨g, o, none⟩ v).setCells g (o + 1) vs).heap.size = _
    rw [setCells_size g vs]
    simp [World.setCell]
set_option maxRecDepth 100000 in
set_option maxHeartbeats 4000000 in
theorem HSum_any (g : Nat) (t : List UInt8) (w : World) (hh : HS g t w) (hl : t.length ≤ 549755813888) :
    Calls Tryz.prog 66 #[.pointer (some ⟨g, 0, none⟩)] w fun e w' => e = .returned (S (sha t)) ∧ Kept (fun _ => True) w w' := by
  obtain ⟨rest, hrl, hrt, hrow⟩ := hh
  obtain ⟨n, hn⟩ : ∃ n, t.length = n := ⟨_, rfl⟩
  rw [hn] at hrow hl
  obtain ⟨cs, hcs⟩ : ∃ cs, hasherCells (stH t) rest n = cs := ⟨_, rfl⟩
  have hcl : cs.length = 73 := by rw [← hcs]; simp [hasherCells, stH_len, Lib.byteCells, hrl]
  rw [hcs] at hrow
  have hR := range_of hrow
  have hi1 : (Tryz.prog.info? 138).map (·.size) = some cs.length := by rw [hcl]; kernel_rfl
  have hcn : w.cell? ⟨g, 72, none⟩ = some (.int .i64 (n : Int)) := by
    rw [cell_of_row w g 72 _ _ _ hrow, ← hcs]
    simp [hasherCells, stH_len, Lib.byteCells, hrl]
  have HX := Lib.hid (And.intro hn (And.intro hcs (And.intro hrl hrt)))
  clear hn hcs hrl hrt
  go_enter Tryz.func66, Tryz.ntmps66
  go_wp2_with (first | (refine wpList_load_mid rfl 138 _ rfl g 0 rfl _ _ hR Tryz.underlying138 rfl hi1 ?_; refine Hid.out ?_))
  refine Lib.hid ?_
  obtain ⟨W1, hW1⟩ : ∃ W1, w.alloc (.cells hasherZero 138) = W1 := ⟨_, rfl⟩
  refine wpList_allocZ rfl 138 rfl hasherZero (zero_alloc _ _ _ hasher_zero rfl w) ?_
  rw [hW1]
  have hz1 : W1.heap.size = w.heap.size + 1 := by rw [← hW1]; simp
  have hk1 : Kept (fun _ => True) w W1 := by rw [← hW1]; exact (Kept.refl _ _).alloc _
  have hg1 : W1.heap[w.heap.size]? = some (.cells hasherZero 138 (0, 0)) := by rw [← hW1]; exact heap_alloc_new w _
  have hzs : hasherZero.size = 73 := by simp [hasherZero, hasherCells, Lib.byteCells]
  have hth : W1.there w.heap.size 0 cs.toArray.size := fun j hj => by
    rw [Nat.zero_add, cell_of_row _ _ _ _ _ _ hg1, frozen_row hg1]
    exact ⟨by rw [Array.getElem?_eq_getElem (by rw [hzs]; simpa [hcl] using hj)]; rfl, rfl⟩
  have hone : cs.toArray.all (·.oneCell') = true := by rw [← HX.out.2.1]; exact hasher_one _ _ _
  refine wpList_store_mid rfl 138 _ _ rfl w.heap.size 0 _ rfl rfl hth (by rw [List.size_toArray]; exact hi1) hone ?_
  obtain ⟨W2, hW2⟩ : ∃ W2, W1.setCells w.heap.size 0 cs = W2 := ⟨_, rfl⟩
  obtain ⟨g2, hg2⟩ : ∃ g2, w.heap.size = g2 := ⟨_, rfl⟩
  have hrow2 : W2.heap[g2]? = some (.cells cs.toArray 138 (0, 0)) := by rw [← hW2, ← hg2]; exact setCells_row hg1 (by rw [hzs, hcl])
  have hk2 : Kept (fun _ => True) w W2 := by
    rw [← hW2]
    exact Kept.setCells (.inl (Nat.le_refl _)) _ _ hk1
  have hne : g ≠ g2 := by have := (Array.getElem?_eq_some_iff.1 hrow).1; omega
  have HS2 : Hid (HS g2 t W2) := Lib.hid ⟨rest, HX.out.2.2.1, HX.out.2.2.2, by rw [hrow2, HX.out.1, HX.out.2.1]⟩
  have hcn2 : W2.cell? ⟨g, 72, none⟩ = some (.int .i64 (n : Int)) := (hk2.cell (Array.getElem?_eq_some_iff.1 hrow).1 trivial).trans hcn
  have hz2 : W2.heap.size = g2 + 1 := by
    rw [← hW2, ← hg2, ← hz1]
    exact setCells_size _ _ _ _
  change wpList _ _ _ _ _ (W1.setCells w.heap.size 0 cs)
  rw [hW2, hg2]
  have HK2 := Lib.hid hk2
  have HZ2 := Lib.hid hz2
  have HG2 := Lib.hid hg2
  have HT := Lib.hid HX.out.1
  clear hW2 hW1 hg1 hk1 hz1 hth hone hzs hR hi1 hcl hrow hcn hrow2 hk2 hz2 hg2 HX
  obtain ⟨m, hm⟩ : ∃ m, (n + 8) % 64 = m := ⟨_, rfl⟩
  have hno : ((n : Int) + 8) % 64 = (m : Int) := by omega
  have hm64 : m < 64 := by omega
  obtain ⟨no, hnn⟩ : ∃ no, noughts n = no := ⟨_, rfl⟩
  have hnb : no ≤ 63 := by rw [← hnn]; unfold noughts; omega
  have hsub : (63 : Int) - (m : Int) = (no : Int) := by rw [← hnn]; unfold noughts; omega
  have HNN := Lib.hid hnn
  clear hnn hm
  go_wp2_with (first | (at_make; refine wpList_makeL 84 5 Tryz.underlying84 infoByte rfl _ _ rfl W2.heap.size _ _ _ _ (1 + no) (1 + no + 8) rfl (by go_num) rfl (by go_num) (by omega) (by omega) (Nat.le_refl _) ?_; refine Hid.out ?_))
  refine Lib.hid ?_
  intro w3 hown hbel hz3 hth3 hk3
  obtain ⟨gb, hgb⟩ : ∃ gb, W2.heap.size = gb := ⟨_, rfl⟩
  rw [hgb] at hown hbel hz3 hth3 ⊢
  obtain ⟨c40', f40⟩ := hth3 0 (by omega)
  obtain ⟨z40, c40⟩ := Option.isSome_iff_exists.1 c40'
  obtain ⟨W4, hW4⟩ : ∃ W4, w3.setCell ⟨gb, 0, none⟩ (.int .u8 128) = W4 := ⟨_, rfl⟩
  have HO4 : Hid (OwnB 5 gb (.slice (some ⟨gb, 0, none⟩) (1 + no) (1 + no + 8)) (128 :: List.replicate no 0) W4) := Lib.hid (by
    have h := hown.set (by simp) 0 128 (.int .u8 128) rfl
    rw [hW4, Nat.add_comm 1 no, List.replicate_succ, List.set_cons_zero, Nat.add_comm no 1] at h
    exact h)
  have HB4 : Hid (Below gb W2 W4) := Lib.hid (by rw [← hW4]; exact hbel.setCell (Nat.le_refl _) _)
  have hz4 : W4.heap.size = gb + 1 := by rw [← hW4]; simpa [World.setCell] using hz3
  have HZ4 := Lib.hid hz4
  have HGB := Lib.hid hgb
  have hgl : g < gb := by have h1 := HS2.out.lt; have h2 := (cell_isLt hcn2); omega
  clear hown hbel hth3 hk3 hz4 hz3 hgb c40'
  go_wp2_with fail
  obtain ⟨bl, hbl⟩ : ∃ bl, bigE (8 * n) 8 = bl := ⟨_, rfl⟩
  have HBL := Lib.hid hbl
  have hbll : bl.length = 8 := by rw [← hbl]; rfl
  clear hbl
  go_loopg [5, 6] 8 (fun q fv sv wx => ∃ i : Nat, sv = .int .i64 (56 - 8 * (i : Int)) ∧ i ≤ 8 ∧ q = 8 - i ∧ Hid (OwnB 5 gb fv (128 :: List.replicate no 0 ++ bl.take i) wx) ∧ Hid (Below gb W2 wx) ∧ gb ≤ wx.heap.size)
  case atStart => exact ⟨0, rfl, by omega, rfl, Lib.hid (by simpa using HO4.out), HB4, by have := HZ4.out; omega⟩
  case round =>
    clear HO4 HB4 HZ4 c40 f40 hW4

    obtain ⟨i, rfl, hi, rfl, HO, HB, hz⟩ := hrel
    have hcx := (HB.out.cell (p := ⟨g, 72, none⟩) hgl).trans hcn2
    by_cases hlt : i < 8
    · obtain ⟨c, hc⟩ : ∃ c, bl[i]? = some c := ⟨bl[i]'(by omega), List.getElem?_eq_getElem _⟩
      have HTK := Lib.hid (show bl.take (i + 1) = bl.take i ++ [c] by rw [List.take_add_one, hc]; rfl)
      have hcv : (c.toNat : Int) = (8 * n / 256 ^ (7 - i) % 256 : Nat) := by
        rw [← HBL.out] at hc
        unfold bigE at hc
        rw [List.getElem?_map, List.getElem?_range hlt] at hc
        simp only [Option.map_some, Option.some.injEq] at hc
        rw [← hc]
        simp [UInt8.toNat_ofNat']
      clear hc
      obtain rfl | rfl | rfl | rfl | rfl | rfl | rfl | rfl : i = 0 ∨ i = 1 ∨ i = 2 ∨ i = 3 ∨ i = 4 ∨ i = 5 ∨ i = 6 ∨ i = 7 := by omega
      · rw [show (56 : Int) - 8 * ((0 : Nat) : Int) = 56 from rfl]
        have hE : (n : Int) * 8 / 72057594037927936 = (c.toNat : Int) := by rw [hcv]; omega
        clear hcv
        go_wp2_with (at_builtin; refine wpList_pushes 84 5 Tryz.underlying84 infoByte rfl _ _ rfl gb (128 :: List.replicate no 0 ++ bl.take 0) u5 [c] _ _ rfl rfl 1 1 rfl _ rfl rfl rfl HO.out (by simp only [List.length_append, List.length_cons, List.length_replicate, List.length_take, List.length_nil]; omega) hz ?_)
        intro v5 w5 k1 k2 _
        have HO5 := Lib.hid (show OwnB 5 gb v5 (128 :: List.replicate no 0 ++ bl.take (0 + 1)) w5 by rw [HTK.out]; simpa using k1)
        have HB5 := Lib.hid (HB.out.trans k2)
        have hz5 : gb ≤ w5.heap.size := by have := k2.size; omega
        clear k1 k2
        go_wp2
        go_roundg 7
        case rel => exact ⟨1, by go_num, by omega, rfl, HO5, HB5, hz5⟩
        case measure => omega
      · rw [show (56 : Int) - 8 * ((1 : Nat) : Int) = 48 from rfl]
        have hE : (n : Int) * 8 / 281474976710656 = (c.toNat : Int) := by rw [hcv]; omega
        clear hcv
        go_wp2_with (at_builtin; refine wpList_pushes 84 5 Tryz.underlying84 infoByte rfl _ _ rfl gb (128 :: List.replicate no 0 ++ bl.take 1) u5 [c] _ _ rfl rfl 1 1 rfl _ rfl rfl rfl HO.out (by simp only [List.length_append, List.length_cons, List.length_replicate, List.length_take, List.length_nil]; omega) hz ?_)
        intro v5 w5 k1 k2 _
        have HO5 := Lib.hid (show OwnB 5 gb v5 (128 :: List.replicate no 0 ++ bl.take (1 + 1)) w5 by rw [HTK.out]; simpa using k1)
        have HB5 := Lib.hid (HB.out.trans k2)
        have hz5 : gb ≤ w5.heap.size := by have := k2.size; omega
        clear k1 k2
        go_wp2
        go_roundg 6
        case rel => exact ⟨2, by go_num, by omega, rfl, HO5, HB5, hz5⟩
        case measure => omega
      · rw [show (56 : Int) - 8 * ((2 : Nat) : Int) = 40 from rfl]
        have hE : (n : Int) * 8 / 1099511627776 = (c.toNat : Int) := by rw [hcv]; omega
        clear hcv
        go_wp2_with (at_builtin; refine wpList_pushes 84 5 Tryz.underlying84 infoByte rfl _ _ rfl gb (128 :: List.replicate no 0 ++ bl.take 2) u5 [c] _ _ rfl rfl 1 1 rfl _ rfl rfl rfl HO.out (by simp only [List.length_append, List.length_cons, List.length_replicate, List.length_take, List.length_nil]; omega) hz ?_)
        intro v5 w5 k1 k2 _
        have HO5 := Lib.hid (show OwnB 5 gb v5 (128 :: List.replicate no 0 ++ bl.take (2 + 1)) w5 by rw [HTK.out]; simpa using k1)
        have HB5 := Lib.hid (HB.out.trans k2)
        have hz5 : gb ≤ w5.heap.size := by have := k2.size; omega
        clear k1 k2
        go_wp2
        go_roundg 5
        case rel => exact ⟨3, by go_num, by omega, rfl, HO5, HB5, hz5⟩
        case measure => omega
      · rw [show (56 : Int) - 8 * ((3 : Nat) : Int) = 32 from rfl]
        have hE : (n : Int) * 8 / 4294967296 % 256 = (c.toNat : Int) := by rw [hcv]; omega
        clear hcv
        go_wp2_with (at_builtin; refine wpList_pushes 84 5 Tryz.underlying84 infoByte rfl _ _ rfl gb (128 :: List.replicate no 0 ++ bl.take 3) u5 [c] _ _ rfl rfl 1 1 rfl _ rfl rfl rfl HO.out (by simp only [List.length_append, List.length_cons, List.length_replicate, List.length_take, List.length_nil]; omega) hz ?_)
        intro v5 w5 k1 k2 _
        have HO5 := Lib.hid (show OwnB 5 gb v5 (128 :: List.replicate no 0 ++ bl.take (3 + 1)) w5 by rw [HTK.out]; simpa using k1)
        have HB5 := Lib.hid (HB.out.trans k2)
        have hz5 : gb ≤ w5.heap.size := by have := k2.size; omega
        clear k1 k2
        go_wp2
        go_roundg 4
        case rel => exact ⟨4, by go_num, by omega, rfl, HO5, HB5, hz5⟩
        case measure => omega
      · rw [show (56 : Int) - 8 * ((4 : Nat) : Int) = 24 from rfl]
        have hE : (n : Int) * 8 / 16777216 % 256 = (c.toNat : Int) := by rw [hcv]; omega
        clear hcv
        go_wp2_with (at_builtin; refine wpList_pushes 84 5 Tryz.underlying84 infoByte rfl _ _ rfl gb (128 :: List.replicate no 0 ++ bl.take 4) u5 [c] _ _ rfl rfl 1 1 rfl _ rfl rfl rfl HO.out (by simp only [List.length_append, List.length_cons, List.length_replicate, List.length_take, List.length_nil]; omega) hz ?_)
        intro v5 w5 k1 k2 _
        have HO5 := Lib.hid (show OwnB 5 gb v5 (128 :: List.replicate no 0 ++ bl.take (4 + 1)) w5 by rw [HTK.out]; simpa using k1)
        have HB5 := Lib.hid (HB.out.trans k2)
        have hz5 : gb ≤ w5.heap.size := by have := k2.size; omega
        clear k1 k2
        go_wp2
        go_roundg 3
        case rel => exact ⟨5, by go_num, by omega, rfl, HO5, HB5, hz5⟩
        case measure => omega
      · rw [show (56 : Int) - 8 * ((5 : Nat) : Int) = 16 from rfl]
        have hE : (n : Int) * 8 / 65536 % 256 = (c.toNat : Int) := by rw [hcv]; omega
        clear hcv
        go_wp2_with (at_builtin; refine wpList_pushes 84 5 Tryz.underlying84 infoByte rfl _ _ rfl gb (128 :: List.replicate no 0 ++ bl.take 5) u5 [c] _ _ rfl rfl 1 1 rfl _ rfl rfl rfl HO.out (by simp only [List.length_append, List.length_cons, List.length_replicate, List.length_take, List.length_nil]; omega) hz ?_)
        intro v5 w5 k1 k2 _
        have HO5 := Lib.hid (show OwnB 5 gb v5 (128 :: List.replicate no 0 ++ bl.take (5 + 1)) w5 by rw [HTK.out]; simpa using k1)
        have HB5 := Lib.hid (HB.out.trans k2)
        have hz5 : gb ≤ w5.heap.size := by have := k2.size; omega
        clear k1 k2
        go_wp2
        go_roundg 2
        case rel => exact ⟨6, by go_num, by omega, rfl, HO5, HB5, hz5⟩
        case measure => omega
      · rw [show (56 : Int) - 8 * ((6 : Nat) : Int) = 8 from rfl]
        have hE : (n : Int) * 8 / 256 % 256 = (c.toNat : Int) := by rw [hcv]; omega
        clear hcv
        go_wp2_with (at_builtin; refine wpList_pushes 84 5 Tryz.underlying84 infoByte rfl _ _ rfl gb (128 :: List.replicate no 0 ++ bl.take 6) u5 [c] _ _ rfl rfl 1 1 rfl _ rfl rfl rfl HO.out (by simp only [List.length_append, List.length_cons, List.length_replicate, List.length_take, List.length_nil]; omega) hz ?_)
        intro v5 w5 k1 k2 _
        have HO5 := Lib.hid (show OwnB 5 gb v5 (128 :: List.replicate no 0 ++ bl.take (6 + 1)) w5 by rw [HTK.out]; simpa using k1)
        have HB5 := Lib.hid (HB.out.trans k2)
        have hz5 : gb ≤ w5.heap.size := by have := k2.size; omega
        clear k1 k2
        go_wp2
        go_roundg 1
        case rel => exact ⟨7, by go_num, by omega, rfl, HO5, HB5, hz5⟩
        case measure => omega
      · rw [show (56 : Int) - 8 * ((7 : Nat) : Int) = 0 from rfl]
        have hE : (n : Int) * 8 % 256 = (c.toNat : Int) := by rw [hcv]; omega
        clear hcv
        go_wp2_with (at_builtin; refine wpList_pushes 84 5 Tryz.underlying84 infoByte rfl _ _ rfl gb (128 :: List.replicate no 0 ++ bl.take 7) u5 [c] _ _ rfl rfl 1 1 rfl _ rfl rfl rfl HO.out (by simp only [List.length_append, List.length_cons, List.length_replicate, List.length_take, List.length_nil]; omega) hz ?_)
        intro v5 w5 k1 k2 _
        have HO5 := Lib.hid (show OwnB 5 gb v5 (128 :: List.replicate no 0 ++ bl.take (7 + 1)) w5 by rw [HTK.out]; simpa using k1)
        have HB5 := Lib.hid (HB.out.trans k2)
        have hz5 : gb ≤ w5.heap.size := by have := k2.size; omega
        clear k1 k2
        go_wp2
        go_roundg 0
        case rel => exact ⟨8, by go_num, by omega, rfl, HO5, HB5, hz5⟩
        case measure => omega
    · obtain rfl : i = 8 := by omega
      rw [show (56 : Int) - 8 * ((8 : Nat) : Int) = -8 from rfl]
      have hO := HO.out
      rw [List.take_of_length_le (by omega)] at hO
      obtain ⟨fl, hfl⟩ : ∃ fl, 128 :: List.replicate no 0 ++ bl = fl := ⟨_, rfl⟩
      rw [hfl] at hO
      have hfl2 : filled t = t ++ fl := by
        rw [← hfl, ← HBL.out]
        unfold filled
        rw [HT.out, HNN.out]
        rfl
      have hfll : fl.length = no + 9 := by rw [← hfl]; simp [hbll]
      have hmod : (t ++ fl).length % 64 = 0 := by
        rw [List.length_append, hfll, HT.out]
        have := HNN.out
        unfold noughts at this
        omega
      have CS := hO.string (P := Tryz.prog) Tryz.underlying84 Tryz.underlying5 Tryz.underlying9
      have hg2b : g2 < gb := by have := HZ2.out; have := HGB.out; omega
      have hHS : HS g2 t wr := (HS2.out.kept (ok := fun k => k < gb) (Kept.of_belowK HB.out) hg2b)
      have WR := Lib.hid (Write_any g2 t fl wr hHS (by rw [hfll, HT.out]; omega))
      have HF := Lib.hid (And.intro hfl2 (And.intro hfll hmod))
      have HKr : Hid (Kept (fun _ => True) w wr) := Lib.hid ((HK2.out.trans (Kept.of_belowK HB.out) fun k hk _ => by have := HK2.out.size; have := HGB.out; omega))
      have hgs : g2 < wr.heap.size := by omega
      clear hO hfl hfl2 hfll hmod hHS
      go_wp2_with fail
      refine WR.out.mono ?_
      rintro e w6 ⟨rfl, hs6, hk6⟩
      obtain ⟨rest6, hr6, -, hrow6⟩ := hs6
      have R6 := hasher_range0 hrow6
      have HK6 : Hid (Kept (fun _ => True) w w6) := Lib.hid (HKr.out.trans hk6 fun k hk _ e => by have := HG2.out; omega)
      have hz6 := hk6.size
      have HR6 := Lib.hid R6
      clear hk6 WR CS hrow6 R6
      go_wp2_with (first | (at_make; refine wpList_makeB 84 5 Tryz.underlying84 infoByte rfl _ _ rfl w6.heap.size _ _ _ 32 rfl rfl rfl (by decide) (Nat.le_refl _) ?_; refine Hid.out ?_))
      refine Lib.hid ?_
      intro w7 hown7 hbel7 hz7
      have hk67 : Kept (fun _ => True) w6 w7 := Kept.of_below hbel7 (Nat.le_refl _)
      have hR7 : w7.rangeAt g2 0 (cellsU (stH (t ++ fl))) := fun j v hj => (hk67.cell (by omega) trivial).trans (HR6.out j v hj)
      have hi1 : (Tryz.prog.info? 134).map (·.size) = some (cellsU (stH (t ++ fl))).length := by rw [List.length_map, stH_len]; kernel_rfl
      obtain ⟨g7, hg7⟩ : ∃ g7, w6.heap.size = g7 := ⟨_, rfl⟩
      rw [hg7] at hown7 hz7 ⊢
      have HO7 := Lib.hid hown7
      have HK7 := Lib.hid (HK6.out.tr hk67)
      have HG7 := Lib.hid hg7
      clear hown7 hbel7 hk67
      go_wp2_with (first | (refine wpList_load_mid rfl 134 _ rfl g2 0 rfl _ _ hR7 Tryz.underlying134 rfl hi1 ?_; refine Hid.out ?_))
      refine Lib.hid ?_
      obtain ⟨st, hst⟩ : ∃ st, stH (t ++ fl) = st := ⟨_, rfl⟩
      have hsl : ∀ x ∈ st, x < 4294967296 := fun x hx => stH_lt (t ++ fl) x (by rw [hst]; exact hx)
      have hs8 : st.length = 8 := by rw [← hst]; exact stH_len _
      obtain ⟨y0, y1, y2, y3, y4, y5, y6, y7, rfl⟩ : ∃ y0 y1 y2 y3 y4 y5 y6 y7, st = [y0, y1, y2, y3, y4, y5, y6, y7] := by
        match st, hs8 with
        | [a, b, c, d, e, f, g, h], _ => exact ⟨a, b, c, d, e, f, g, h, rfl⟩
      rw [hst]
      have HSH : Hid (sha t = [y0, y1, y2, y3, y4, y5, y6, y7].flatMap fun w => bigE w 4) := Lib.hid (by
        unfold sha
        rw [HF.out.1, ← hst]
        rfl)
      have HSL := Lib.hid hsl
      clear hR7 hi1 hst hsl hs8 HR6 hr6
      obtain ⟨w8, rfl⟩ : ∃ w8, w8 = w7 := ⟨w7, rfl⟩
      go_wp2_with fail
      go_loopg [7, 50] 8 (fun q fv sv wx => ∃ i : Nat, sv = .int .i64 i ∧ i ≤ 8 ∧ q = 8 - i ∧ Hid (OwnB 5 g7 fv (([y0, y1, y2, y3, y4, y5, y6, y7].take i).flatMap fun w => bigE w 4) wx) ∧ Hid (Below g7 w8 wx) ∧ g7 ≤ wx.heap.size)
      case atStart => exact ⟨0, rfl, by omega, rfl, Lib.hid (by simpa using HO7.out), Lib.hid (Below.refl _ _), by omega⟩
      case round =>
        clear HO7
        obtain ⟨j, rfl, hj, rfl, HO, HB, hz⟩ := hrel
        by_cases hlt : j < 8
        · obtain rfl | rfl | rfl | rfl | rfl | rfl | rfl | rfl : j = 0 ∨ j = 1 ∨ j = 2 ∨ j = 3 ∨ j = 4 ∨ j = 5 ∨ j = 6 ∨ j = 7 := by omega
          · have hy : y0 < 4294967296 := HSL.out y0 (by simp)
            obtain ⟨c0, c1, c2, c3, hcc, hE0, hE1, hE2, hE3⟩ := big4 hy
            have HC := Lib.hid hcc
            clear hcc
            rw [show ((0 : Nat) : Int) = 0 from rfl]
            have IX : ∀ W : World, (Instr.index 134 (.agg #[.int .u32 (y0 : Int), .int .u32 (y1 : Int), .int .u32 (y2 : Int), .int .u32 (y3 : Int), .int .u32 (y4 : Int), .int .u32 (y5 : Int), .int .u32 (y6 : Int), .int .u32 (y7 : Int)]) (.int .i64 0)).run Tryz.prog W = .ok (.int .u32 (y0 : Int)) W := fun W => by kernel_rfl
            go_wp2_with (at_builtin; refine wpList_pushes 84 5 Tryz.underlying84 infoByte rfl _ _ rfl g7 (([y0, y1, y2, y3, y4, y5, y6, y7].take 0).flatMap fun w => bigE w 4) u7 [c0, c1, c2, c3] _ _ rfl rfl 4 4 rfl _ rfl rfl rfl HO.out (by rw [big_len, List.length_take]; simp only [List.length_cons, List.length_nil]; omega) hz ?_)
            intro v5 w5 k1 k2 _
            have HO5 := Lib.hid (show OwnB 5 g7 v5 (([y0, y1, y2, y3, y4, y5, y6, y7].take (0 + 1)).flatMap fun w => bigE w 4) w5 by
              have e : (([y0, y1, y2, y3, y4, y5, y6, y7].take (0 + 1)).flatMap fun w => bigE w 4) = (([y0, y1, y2, y3, y4, y5, y6, y7].take 0).flatMap fun w => bigE w 4) ++ [c0, c1, c2, c3] := by
                rw [← HC.out]
                simp only [List.take_succ_cons, List.take_zero, List.flatMap_cons, List.flatMap_nil, List.append_nil, List.nil_append]
              rw [e]
              exact k1)
            have HB5 := Lib.hid (HB.out.trans k2)
            have hz5 : g7 ≤ w5.heap.size := by have := k2.size; omega
            clear k1 k2
            go_wp2
            go_roundg 7
            case rel => exact ⟨1, by go_num, by omega, rfl, HO5, HB5, hz5⟩
            case measure => omega
          · have hy : y1 < 4294967296 := HSL.out y1 (by simp)
            obtain ⟨c0, c1, c2, c3, hcc, hE0, hE1, hE2, hE3⟩ := big4 hy
            have HC := Lib.hid hcc
            clear hcc
            rw [show ((1 : Nat) : Int) = 1 from rfl]
            have IX : ∀ W : World, (Instr.index 134 (.agg #[.int .u32 (y0 : Int), .int .u32 (y1 : Int), .int .u32 (y2 : Int), .int .u32 (y3 : Int), .int .u32 (y4 : Int), .int .u32 (y5 : Int), .int .u32 (y6 : Int), .int .u32 (y7 : Int)]) (.int .i64 1)).run Tryz.prog W = .ok (.int .u32 (y1 : Int)) W := fun W => by kernel_rfl
            go_wp2_with (at_builtin; refine wpList_pushes 84 5 Tryz.underlying84 infoByte rfl _ _ rfl g7 (([y0, y1, y2, y3, y4, y5, y6, y7].take 1).flatMap fun w => bigE w 4) u7 [c0, c1, c2, c3] _ _ rfl rfl 4 4 rfl _ rfl rfl rfl HO.out (by rw [big_len, List.length_take]; simp only [List.length_cons, List.length_nil]; omega) hz ?_)
            intro v5 w5 k1 k2 _
            have HO5 := Lib.hid (show OwnB 5 g7 v5 (([y0, y1, y2, y3, y4, y5, y6, y7].take (1 + 1)).flatMap fun w => bigE w 4) w5 by
              have e : (([y0, y1, y2, y3, y4, y5, y6, y7].take (1 + 1)).flatMap fun w => bigE w 4) = (([y0, y1, y2, y3, y4, y5, y6, y7].take 1).flatMap fun w => bigE w 4) ++ [c0, c1, c2, c3] := by
                rw [← HC.out]
                simp only [List.take_succ_cons, List.take_zero, List.flatMap_cons, List.flatMap_nil, List.append_nil]
              rw [e]
              exact k1)
            have HB5 := Lib.hid (HB.out.trans k2)
            have hz5 : g7 ≤ w5.heap.size := by have := k2.size; omega
            clear k1 k2
            go_wp2
            go_roundg 6
            case rel => exact ⟨2, by go_num, by omega, rfl, HO5, HB5, hz5⟩
            case measure => omega
          · have hy : y2 < 4294967296 := HSL.out y2 (by simp)
            obtain ⟨c0, c1, c2, c3, hcc, hE0, hE1, hE2, hE3⟩ := big4 hy
            have HC := Lib.hid hcc
            clear hcc
            rw [show ((2 : Nat) : Int) = 2 from rfl]
            have IX : ∀ W : World, (Instr.index 134 (.agg #[.int .u32 (y0 : Int), .int .u32 (y1 : Int), .int .u32 (y2 : Int), .int .u32 (y3 : Int), .int .u32 (y4 : Int), .int .u32 (y5 : Int), .int .u32 (y6 : Int), .int .u32 (y7 : Int)]) (.int .i64 2)).run Tryz.prog W = .ok (.int .u32 (y2 : Int)) W := fun W => by kernel_rfl
            go_wp2_with (at_builtin; refine wpList_pushes 84 5 Tryz.underlying84 infoByte rfl _ _ rfl g7 (([y0, y1, y2, y3, y4, y5, y6, y7].take 2).flatMap fun w => bigE w 4) u7 [c0, c1, c2, c3] _ _ rfl rfl 4 4 rfl _ rfl rfl rfl HO.out (by rw [big_len, List.length_take]; simp only [List.length_cons, List.length_nil]; omega) hz ?_)
            intro v5 w5 k1 k2 _
            have HO5 := Lib.hid (show OwnB 5 g7 v5 (([y0, y1, y2, y3, y4, y5, y6, y7].take (2 + 1)).flatMap fun w => bigE w 4) w5 by
              have e : (([y0, y1, y2, y3, y4, y5, y6, y7].take (2 + 1)).flatMap fun w => bigE w 4) = (([y0, y1, y2, y3, y4, y5, y6, y7].take 2).flatMap fun w => bigE w 4) ++ [c0, c1, c2, c3] := by
                rw [← HC.out]
                simp only [List.take_succ_cons, List.take_zero, List.flatMap_cons, List.flatMap_nil, List.append_nil, List.append_assoc]
              rw [e]
              exact k1)
            have HB5 := Lib.hid (HB.out.trans k2)
            have hz5 : g7 ≤ w5.heap.size := by have := k2.size; omega
            clear k1 k2
            go_wp2
            go_roundg 5
            case rel => exact ⟨3, by go_num, by omega, rfl, HO5, HB5, hz5⟩
            case measure => omega
          · have hy : y3 < 4294967296 := HSL.out y3 (by simp)
            obtain ⟨c0, c1, c2, c3, hcc, hE0, hE1, hE2, hE3⟩ := big4 hy
            have HC := Lib.hid hcc
            clear hcc
            rw [show ((3 : Nat) : Int) = 3 from rfl]
            have IX : ∀ W : World, (Instr.index 134 (.agg #[.int .u32 (y0 : Int), .int .u32 (y1 : Int), .int .u32 (y2 : Int), .int .u32 (y3 : Int), .int .u32 (y4 : Int), .int .u32 (y5 : Int), .int .u32 (y6 : Int), .int .u32 (y7 : Int)]) (.int .i64 3)).run Tryz.prog W = .ok (.int .u32 (y3 : Int)) W := fun W => by kernel_rfl
            go_wp2_with (at_builtin; refine wpList_pushes 84 5 Tryz.underlying84 infoByte rfl _ _ rfl g7 (([y0, y1, y2, y3, y4, y5, y6, y7].take 3).flatMap fun w => bigE w 4) u7 [c0, c1, c2, c3] _ _ rfl rfl 4 4 rfl _ rfl rfl rfl HO.out (by rw [big_len, List.length_take]; simp only [List.length_cons, List.length_nil]; omega) hz ?_)
            intro v5 w5 k1 k2 _
            have HO5 := Lib.hid (show OwnB 5 g7 v5 (([y0, y1, y2, y3, y4, y5, y6, y7].take (3 + 1)).flatMap fun w => bigE w 4) w5 by
              have e : (([y0, y1, y2, y3, y4, y5, y6, y7].take (3 + 1)).flatMap fun w => bigE w 4) = (([y0, y1, y2, y3, y4, y5, y6, y7].take 3).flatMap fun w => bigE w 4) ++ [c0, c1, c2, c3] := by
                rw [← HC.out]
                simp only [List.take_succ_cons, List.take_zero, List.flatMap_cons, List.flatMap_nil, List.append_nil, List.append_assoc]
              rw [e]
              exact k1)
            have HB5 := Lib.hid (HB.out.trans k2)
            have hz5 : g7 ≤ w5.heap.size := by have := k2.size; omega
            clear k1 k2
            go_wp2
            go_roundg 4
            case rel => exact ⟨4, by go_num, by omega, rfl, HO5, HB5, hz5⟩
            case measure => omega
          · have hy : y4 < 4294967296 := HSL.out y4 (by simp)
            obtain ⟨c0, c1, c2, c3, hcc, hE0, hE1, hE2, hE3⟩ := big4 hy
            have HC := Lib.hid hcc
            clear hcc
            rw [show ((4 : Nat) : Int) = 4 from rfl]
            have IX : ∀ W : World, (Instr.index 134 (.agg #[.int .u32 (y0 : Int), .int .u32 (y1 : Int), .int .u32 (y2 : Int), .int .u32 (y3 : Int), .int .u32 (y4 : Int), .int .u32 (y5 : Int), .int .u32 (y6 : Int), .int .u32 (y7 : Int)]) (.int .i64 4)).run Tryz.prog W = .ok (.int .u32 (y4 : Int)) W := fun W => by kernel_rfl
            go_wp2_with (at_builtin; refine wpList_pushes 84 5 Tryz.underlying84 infoByte rfl _ _ rfl g7 (([y0, y1, y2, y3, y4, y5, y6, y7].take 4).flatMap fun w => bigE w 4) u7 [c0, c1, c2, c3] _ _ rfl rfl 4 4 rfl _ rfl rfl rfl HO.out (by rw [big_len, List.length_take]; simp only [List.length_cons, List.length_nil]; omega) hz ?_)
            intro v5 w5 k1 k2 _
            have HO5 := Lib.hid (show OwnB 5 g7 v5 (([y0, y1, y2, y3, y4, y5, y6, y7].take (4 + 1)).flatMap fun w => bigE w 4) w5 by
              have e : (([y0, y1, y2, y3, y4, y5, y6, y7].take (4 + 1)).flatMap fun w => bigE w 4) = (([y0, y1, y2, y3, y4, y5, y6, y7].take 4).flatMap fun w => bigE w 4) ++ [c0, c1, c2, c3] := by
                rw [← HC.out]
                simp only [List.take_succ_cons, List.take_zero, List.flatMap_cons, List.flatMap_nil, List.append_nil, List.append_assoc]
              rw [e]
              exact k1)
            have HB5 := Lib.hid (HB.out.trans k2)
            have hz5 : g7 ≤ w5.heap.size := by have := k2.size; omega
            clear k1 k2
            go_wp2
            go_roundg 3
            case rel => exact ⟨5, by go_num, by omega, rfl, HO5, HB5, hz5⟩
            case measure => omega
          · have hy : y5 < 4294967296 := HSL.out y5 (by simp)
            obtain ⟨c0, c1, c2, c3, hcc, hE0, hE1, hE2, hE3⟩ := big4 hy
            have HC := Lib.hid hcc
            clear hcc
            rw [show ((5 : Nat) : Int) = 5 from rfl]
            have IX : ∀ W : World, (Instr.index 134 (.agg #[.int .u32 (y0 : Int), .int .u32 (y1 : Int), .int .u32 (y2 : Int), .int .u32 (y3 : Int), .int .u32 (y4 : Int), .int .u32 (y5 : Int), .int .u32 (y6 : Int), .int .u32 (y7 : Int)]) (.int .i64 5)).run Tryz.prog W = .ok (.int .u32 (y5 : Int)) W := fun W => by kernel_rfl
            go_wp2_with (at_builtin; refine wpList_pushes 84 5 Tryz.underlying84 infoByte rfl _ _ rfl g7 (([y0, y1, y2, y3, y4, y5, y6, y7].take 5).flatMap fun w => bigE w 4) u7 [c0, c1, c2, c3] _ _ rfl rfl 4 4 rfl _ rfl rfl rfl HO.out (by rw [big_len, List.length_take]; simp only [List.length_cons, List.length_nil]; omega) hz ?_)
            intro v5 w5 k1 k2 _
            have HO5 := Lib.hid (show OwnB 5 g7 v5 (([y0, y1, y2, y3, y4, y5, y6, y7].take (5 + 1)).flatMap fun w => bigE w 4) w5 by
              have e : (([y0, y1, y2, y3, y4, y5, y6, y7].take (5 + 1)).flatMap fun w => bigE w 4) = (([y0, y1, y2, y3, y4, y5, y6, y7].take 5).flatMap fun w => bigE w 4) ++ [c0, c1, c2, c3] := by
                rw [← HC.out]
                simp only [List.take_succ_cons, List.take_zero, List.flatMap_cons, List.flatMap_nil, List.append_nil, List.append_assoc]
              rw [e]
              exact k1)
            have HB5 := Lib.hid (HB.out.trans k2)
            have hz5 : g7 ≤ w5.heap.size := by have := k2.size; omega
            clear k1 k2
            go_wp2
            go_roundg 2
            case rel => exact ⟨6, by go_num, by omega, rfl, HO5, HB5, hz5⟩
            case measure => omega
          · have hy : y6 < 4294967296 := HSL.out y6 (by simp)
            obtain ⟨c0, c1, c2, c3, hcc, hE0, hE1, hE2, hE3⟩ := big4 hy
            have HC := Lib.hid hcc
            clear hcc
            rw [show ((6 : Nat) : Int) = 6 from rfl]
            have IX : ∀ W : World, (Instr.index 134 (.agg #[.int .u32 (y0 : Int), .int .u32 (y1 : Int), .int .u32 (y2 : Int), .int .u32 (y3 : Int), .int .u32 (y4 : Int), .int .u32 (y5 : Int), .int .u32 (y6 : Int), .int .u32 (y7 : Int)]) (.int .i64 6)).run Tryz.prog W = .ok (.int .u32 (y6 : Int)) W := fun W => by kernel_rfl
            go_wp2_with (at_builtin; refine wpList_pushes 84 5 Tryz.underlying84 infoByte rfl _ _ rfl g7 (([y0, y1, y2, y3, y4, y5, y6, y7].take 6).flatMap fun w => bigE w 4) u7 [c0, c1, c2, c3] _ _ rfl rfl 4 4 rfl _ rfl rfl rfl HO.out (by rw [big_len, List.length_take]; simp only [List.length_cons, List.length_nil]; omega) hz ?_)
            intro v5 w5 k1 k2 _
            have HO5 := Lib.hid (show OwnB 5 g7 v5 (([y0, y1, y2, y3, y4, y5, y6, y7].take (6 + 1)).flatMap fun w => bigE w 4) w5 by
              have e : (([y0, y1, y2, y3, y4, y5, y6, y7].take (6 + 1)).flatMap fun w => bigE w 4) = (([y0, y1, y2, y3, y4, y5, y6, y7].take 6).flatMap fun w => bigE w 4) ++ [c0, c1, c2, c3] := by
                rw [← HC.out]
                simp only [List.take_succ_cons, List.take_zero, List.flatMap_cons, List.flatMap_nil, List.append_nil, List.append_assoc]
              rw [e]
              exact k1)
            have HB5 := Lib.hid (HB.out.trans k2)
            have hz5 : g7 ≤ w5.heap.size := by have := k2.size; omega
            clear k1 k2
            go_wp2
            go_roundg 1
            case rel => exact ⟨7, by go_num, by omega, rfl, HO5, HB5, hz5⟩
            case measure => omega
          · have hy : y7 < 4294967296 := HSL.out y7 (by simp)
            obtain ⟨c0, c1, c2, c3, hcc, hE0, hE1, hE2, hE3⟩ := big4 hy
            have HC := Lib.hid hcc
            clear hcc
            rw [show ((7 : Nat) : Int) = 7 from rfl]
            have IX : ∀ W : World, (Instr.index 134 (.agg #[.int .u32 (y0 : Int), .int .u32 (y1 : Int), .int .u32 (y2 : Int), .int .u32 (y3 : Int), .int .u32 (y4 : Int), .int .u32 (y5 : Int), .int .u32 (y6 : Int), .int .u32 (y7 : Int)]) (.int .i64 7)).run Tryz.prog W = .ok (.int .u32 (y7 : Int)) W := fun W => by kernel_rfl
            go_wp2_with (at_builtin; refine wpList_pushes 84 5 Tryz.underlying84 infoByte rfl _ _ rfl g7 (([y0, y1, y2, y3, y4, y5, y6, y7].take 7).flatMap fun w => bigE w 4) u7 [c0, c1, c2, c3] _ _ rfl rfl 4 4 rfl _ rfl rfl rfl HO.out (by rw [big_len, List.length_take]; simp only [List.length_cons, List.length_nil]; omega) hz ?_)
            intro v5 w5 k1 k2 _
            have HO5 := Lib.hid (show OwnB 5 g7 v5 (([y0, y1, y2, y3, y4, y5, y6, y7].take (7 + 1)).flatMap fun w => bigE w 4) w5 by
              have e : (([y0, y1, y2, y3, y4, y5, y6, y7].take (7 + 1)).flatMap fun w => bigE w 4) = (([y0, y1, y2, y3, y4, y5, y6, y7].take 7).flatMap fun w => bigE w 4) ++ [c0, c1, c2, c3] := by
                rw [← HC.out]
                simp only [List.take_succ_cons, List.take_zero, List.flatMap_cons, List.flatMap_nil, List.append_nil, List.append_assoc]
              rw [e]
              exact k1)
            have HB5 := Lib.hid (HB.out.trans k2)
            have hz5 : g7 ≤ w5.heap.size := by have := k2.size; omega
            clear k1 k2
            go_wp2
            go_roundg 0
            case rel => exact ⟨8, by go_num, by omega, rfl, HO5, HB5, hz5⟩
            case measure => omega
        · obtain rfl : j = 8 := by omega
          rw [show ((8 : Nat) : Int) = 8 from rfl]
          have hO : OwnB 5 g7 u7 (sha t) wr := by rw [HSH.out]; exact HO.out
          have CS := hO.string (P := Tryz.prog) Tryz.underlying84 Tryz.underlying5 Tryz.underlying9
          clear hO
          go_wp2
          go_ret
          exact ⟨rfl, HK7.out.trans (Kept.of_belowK HB.out) fun k hk _ => by have := HK6.out.size; have := HG7.out; omega⟩
end Go.Proofs.YtpcgfhleloonfaaGreatDoor
namespace Go.Proofs.YtpcgfhleloonfaaGreatDoor
open Go.RowKit Jo Ac
set_option maxRecDepth 100000 in
theorem New_any (w : World) : Calls Tryz.prog 63 #[] w fun e w' => ∃ g, e = .returned (.pointer (some ⟨g, 0, none⟩)) ∧ w.heap.size ≤ g ∧ HS g [] w' ∧ Kept (fun _ => True) w w' := by
  go_enter Tryz.func63, Tryz.ntmps63
  go_wp2_with fail
  refine (first_any w).mono ?_
  rintro e w1 ⟨rfl, hk1⟩
  go_wp2_with fail
  go_ret
  exact ⟨_, rfl, hk1.size, ⟨List.replicate 64 0, by simp, by simp, (heap_alloc_new w1 _).trans (by kernel_rfl)⟩, hk1.alloc _⟩
theorem BA.set {T : TypeId} {g : Nat} {b : List UInt8} {w : World} (h : BA T g b w) (i : Nat) (c : UInt8) (v : Value) (hv : v = .int .u8 (c.toNat : Int)) : BA T g (b.set i c) (w.setCell ⟨g, i, none⟩ v) := by
  subst hv
  have := setCell_heap (o := i) h (.int .u8 (c.toNat : Int))
  unfold BA
  rw [this]
  simp [Lib.byteCells, List.map_set]
theorem BA.of_own {T : TypeId} {B g n : Nat} {l : List UInt8} {w : World} (h : OwnB T B (.slice (some ⟨g, 0, none⟩) n n) l w) : BA T g l w := by
  rcases h.2 with ⟨hn, _⟩ | ⟨g', cap', cur, hv, hB, hg, h1, h2, h3, h4⟩
  · cases hn
  · cases hv
    unfold BA
    rw [hg]
    congr 2
    apply Array.toList_inj.1
    rw [List.toList_toArray, ← h4, List.take_of_length_le (by rw [Array.length_toList]; omega)]
theorem padK_set {base : List UInt8} {x : UInt8} {i : Nat} (hi : i < base.length) : (((base.take i).map fun b => b ^^^ x) ++ base.drop i).set i (base.getD i 0 ^^^ x) = ((base.take (i + 1)).map fun b => b ^^^ x) ++ base.drop (i + 1) := by
  have hl : ((base.take i).map fun b => b ^^^ x).length = i := by rw [List.length_map, List.length_take]; omega
  rw [List.set_append_right _ _ (by omega), hl, Nat.sub_self, List.drop_eq_getElem_cons hi, List.set_cons_zero, List.take_add_one, List.getElem?_eq_getElem hi, show base.getD i 0 = base[i] by simp [List.getD, hi]]
  simp only [Option.toList_some, List.map_append, List.map_cons, List.map_nil, List.append_assoc, List.cons_append, List.nil_append]
set_option maxRecDepth 100000 in
set_option maxHeartbeats 2000000 in
theorem padded_any (key : List UInt8) (x : UInt8) (w : World) (hk : key.length ≤ 64) : Calls Tryz.prog 65 #[S key, .int .u8 (x.toNat : Int)] w fun e w' => e = .returned (S (padK key x)) ∧ Kept (fun _ => True) w w' := by
  go_enter Tryz.func65, Tryz.ntmps65
  go_wp2_with (first | (at_make; refine wpList_makeL 84 5 Tryz.underlying84 infoByte rfl _ _ rfl w.heap.size _ _ _ _ 64 64 rfl rfl rfl rfl (by decide) (by decide) (Nat.le_refl _) ?_; refine Hid.out ?_))
  refine Lib.hid ?_
  intro w1 hown _ hz1 _ hk1
  obtain ⟨g, hg⟩ : ∃ g, w.heap.size = g := ⟨_, rfl⟩
  rw [hg] at hown hz1 ⊢
  obtain ⟨z, hz⟩ : ∃ z : List UInt8, List.replicate 64 0 = z := ⟨_, rfl⟩
  have hzl : z.length = 64 := by rw [← hz, List.length_replicate]
  replace hown : OwnB 5 g (.slice (some ⟨g, 0, none⟩) 64 64) (List.replicate 64 0) w1 := hown
  rw [hz] at hown
  have hB := BA.of_own hown
  have CP := run_copy_part (P := Tryz.prog) w1 84 9 3 5 g 0 64 64 key (Lib.byteCells z).toArray _ Tryz.underlying84 (by kernel_rfl) hB (by rw [List.size_toArray, Lib.byteCells_length, hzl]; decide)
  obtain ⟨base, hbase⟩ : ∃ base, key ++ List.replicate (64 - key.length) 0 = base := ⟨_, rfl⟩
  have hbl : base.length = 64 := by rw [← hbase, List.length_append, List.length_replicate]; omega
  have hrow : ((Lib.byteCells z).toArray.toList.take 0 ++ Lib.byteCells (key.take 64) ++ (Lib.byteCells z).toArray.toList.drop (0 + min key.length 64)) = Lib.byteCells base := by
    rw [← hbase, List.take_of_length_le hk, Nat.min_eq_left hk, Nat.zero_add, List.take_zero, List.nil_append, Lib.byteCells_append, List.toList_toArray]
    congr 1
    unfold Lib.byteCells
    rw [← List.map_drop, ← hz, List.drop_replicate]
  rw [hrow] at CP
  obtain ⟨W2, hW2⟩ : ∃ W2, w1.setRow g (Lib.byteCells base).toArray = W2 := ⟨_, rfl⟩
  have hB2 : BA 5 g base W2 := by rw [← hW2]; exact setRow_heap _ _ _ _ _ _ hB
  have hk2 : Kept (fun k => k ≠ g) w1 W2 := by rw [← hW2]; exact setRow_kept
  rw [hW2] at CP
  have HK2 : Hid (Kept (fun _ => True) w W2) := Lib.hid (hk1.trans hk2 fun k hk _ e => by omega)
  have HB2 := Lib.hid hB2
  have HBS := Lib.hid hbase
  clear hown hB hrow hW2 hB2 hk2 hk1 hbase hz
  go_wp2_with fail
  go_loopg [13] 64 (fun q iv wx => ∃ i : Nat, iv = .int .i64 i ∧ i ≤ 64 ∧ q = 64 - i ∧ Hid (BA 5 g (((base.take i).map fun b => b ^^^ x) ++ base.drop i) wx) ∧ Hid (Kept (fun _ => True) w wx))
  case atStart => exact ⟨0, rfl, by omega, rfl, Lib.hid (by simpa using HB2.out), HK2⟩
  case round =>
    clear HB2 HK2 CP
    obtain ⟨i, rfl, hi, rfl, HB, HK⟩ := hrel
    have hll : (((base.take i).map fun b => b ^^^ x) ++ base.drop i).length = 64 := by rw [List.length_append, List.length_map, List.length_take, List.length_drop]; omega
    by_cases hlt : i < 64
    · obtain ⟨c, hc⟩ : ∃ c, base.getD i 0 = c := ⟨_, rfl⟩
      have hat : (((base.take i).map fun b => b ^^^ x) ++ base.drop i).getD i 0 = c := by
        have hl : ((base.take i).map fun b => b ^^^ x).length = i := by rw [List.length_map, List.length_take]; omega
        rw [List.getD_eq_getElem?_getD, List.getElem?_append_right (by omega), hl, Nat.sub_self, List.getElem?_drop, Nat.add_zero, ← List.getD_eq_getElem?_getD, hc]
      have c0 := HB.out.at (i := i) (by omega)
      rw [hat] at c0
      have c1 : wr.frozen? ⟨g, i, none⟩ = false := frozen_row HB.out i
      have hx : bits .xor .u8 (c.toNat : Int) (x.toNat : Int) = ((c ^^^ x).toNat : Int) := by rw [u8_xor_nat _ _ c.toNat_lt x.toNat_lt, UInt8.toNat_xor]
      have hi1 : (i : Int) < 64 := by omega
      have HC := Lib.hid hc
      clear hat hc hll
      go_wp2
      go_roundg (64 - (i + 1))
      case rel => exact ⟨i + 1, by go_num, by omega, rfl, Lib.hid (by rw [← padK_set (by omega), HC.out]; exact HB.out.set i (c ^^^ x) _ (by first | rfl | rw [hx])), Lib.hid (HK.out.setCell (.inl (by show w.heap.size ≤ g; omega)) _)⟩
      case measure => omega
    · obtain rfl : i = 64 := by omega
      rw [show ((64 : Nat) : Int) = 64 from rfl]
      have hB := HB.out
      have e : (((base.take 64).map fun b => b ^^^ x) ++ base.drop 64) = padK key x := by
        rw [List.take_of_length_le (by omega), List.drop_eq_nil_of_le (by omega), List.append_nil, ← HBS.out]
        rfl
      rw [e] at hB hll
      have CS := run_convert_bytes_back (P := Tryz.prog) wr 84 9 5 ⟨g, 0, none⟩ 64 (padK key x) Tryz.underlying84 Tryz.underlying5 Tryz.underlying9 (fun j hj => by
        rw [show (⟨g, 0, none⟩ : Addr).add j = ⟨g, j, none⟩ by rw [Addr.add_mid, Nat.zero_add], hB.at hj]
        simp [List.getD, hj])
      rw [hll] at CS
      clear hB e
      go_wp2
      go_ret
      exact ⟨rfl, HK.out⟩
end Go.Proofs.YtpcgfhleloonfaaGreatDoor
namespace Go.Proofs.YtpcgfhleloonfaaGreatDoor
open Go.RowKit Jo Ac
/-- Parts: a row of texts. -/
def PartsAt (b : Nat) (ps : List (List UInt8)) (w : World) : Prop := w.heap[b]? = some (.cells (ps.map S).toArray 9 (0, 0))
theorem PartsAt.at {b : Nat} {ps : List (List UInt8)} {w : World} (h : PartsAt b ps w) {j : Nat} (hj : j < ps.length) : w.cell? ⟨b, j, none⟩ = some (S ps[j]) := by
  rw [cell_of_row w b j _ _ _ h]
  simp [hj]
theorem PartsAt.kept {b : Nat} {ps : List (List UInt8)} {w w' : World} {ok : Nat → Prop} (h : PartsAt b ps w) (hk : Kept ok w w') (ho : ok b) : PartsAt b ps w' := (hk.block b (Array.getElem?_eq_some_iff.1 h).1 ho).trans h
theorem PartsAt.lt {b : Nat} {ps : List (List UInt8)} {w : World} (h : PartsAt b ps w) : b < w.heap.size := (Array.getElem?_eq_some_iff.1 h).1
theorem flat_take_le (ps : List (List UInt8)) (j : Nat) : (ps.take j).flatten.length ≤ ps.flatten.length := by
  conv => rhs; rw [← List.take_append_drop j ps, List.flatten_append, List.length_append]
  omega
theorem flat_next {ps : List (List UInt8)} {j : Nat} (hj : j < ps.length) : (ps.take (j + 1)).flatten = (ps.take j).flatten ++ ps[j] := by
  rw [List.take_add_one, List.getElem?_eq_getElem hj, List.flatten_append]
  simp only [Option.toList_some, List.flatten_cons, List.flatten_nil, List.append_nil]
set_option maxRecDepth 100000 in
set_option maxHeartbeats 2000000 in
theorem Sum_any (b c : Nat) (ps : List (List UInt8)) (w : World) (hp : PartsAt b ps w) (hpl : ps.length ≤ 1000) (hl : ps.flatten.length ≤ 549755813888) :
    Calls Tryz.prog 62 #[.slice (some ⟨b, 0, none⟩) ps.length c] w fun e w' => e = .returned (S (sha ps.flatten)) ∧ Kept (fun _ => True) w w' := by
  have HP := Lib.hid hp
  have HL := Lib.hid hl
  obtain ⟨n, hn⟩ : ∃ n, ps.length = n := ⟨_, rfl⟩
  rw [hn]
  have HN := Lib.hid hn
  have hn1 : n ≤ 1000 := by rw [← hn]; exact hpl
  clear hp hl hn hpl
  go_enter Tryz.func62, Tryz.ntmps62
  go_wp2_with fail
  refine (New_any w).mono ?_
  rintro e w1 ⟨g, rfl, hg, hs, hk⟩
  have HS1 := Lib.hid hs
  have HK1 := Lib.hid hk
  have HBG : Hid (b < w.heap.size) := Lib.hid HP.out.lt
  clear hs hk
  go_wp2_with fail
  go_loopg [9] n (fun q iv wx => ∃ j : Nat, iv = .int .i64 j ∧ j ≤ n ∧ q = n - j ∧ Hid (HS g (ps.take j).flatten wx) ∧ Hid (Kept (fun _ => True) w wx))
  case atStart => exact ⟨0, rfl, by omega, rfl, by simpa using HS1, HK1⟩
  case round =>
    clear HS1 HK1
    obtain ⟨j, rfl, hj, rfl, HSJ, HKJ⟩ := hrel
    by_cases hlt : j < n
    · have hjp : j < ps.length := by rw [HN.out]; exact hlt
      obtain ⟨p, hpj⟩ : ∃ p, ps[j] = p := ⟨_, rfl⟩
      have c0 := (HP.out.kept HKJ.out trivial).at hjp
      rw [hpj] at c0
      have hnx := flat_next hjp
      rw [hpj] at hnx
      have WR := Lib.hid (Write_any g (ps.take j).flatten p wr HSJ.out (by have h1 := flat_take_le ps (j + 1); rw [hnx, List.length_append] at h1; have := HL.out; omega))
      rw [← hnx] at WR
      have hj1 : (j : Int) < (n : Int) := by omega
      have hj0 : (0 : Int) ≤ (j : Int) := by omega
      clear hpj hnx hjp
      go_wp2_with fail
      refine WR.out.mono ?_
      rintro e w2 ⟨rfl, hs2, hk2⟩
      have HS2 := Lib.hid hs2
      have HK2 : Hid (Kept (fun _ => True) w w2) := Lib.hid (HKJ.out.trans hk2 fun k hk _ e => by omega)
      clear hs2 hk2 WR
      go_wp2
      go_roundg (n - (j + 1))
      case rel => exact ⟨j + 1, by go_num, by omega, rfl, HS2, HK2⟩
      case measure => omega
    · obtain rfl : j = n := by omega
      have hfl : ps.take j = ps := List.take_of_length_le (by rw [HN.out]; exact Nat.le_refl _)
      have HSJ2 := Lib.hid (HSum_any g ps.flatten wr (by have := HSJ.out; rwa [hfl] at this) HL.out)
      clear hfl
      go_wp2_with fail
      refine HSJ2.out.mono ?_
      rintro e w3 ⟨rfl, hk3⟩
      have HK3 := Lib.hid (HKJ.out.tr hk3)
      clear hk3
      go_wp2
      go_ret
      exact ⟨rfl, HK3.out⟩
theorem sha_len (t : List UInt8) : (sha t).length = 32 := by
  unfold sha
  rw [big_len, blocksS_len _ rfl]
def macKey (key : List UInt8) : List UInt8 := if 64 < key.length then sha key else key
theorem macKey_len (key : List UInt8) : (macKey key).length ≤ 64 := by
  unfold macKey
  split
  · rw [sha_len]; decide
  · omega
theorem padK_len {key : List UInt8} (x : UInt8) (h : key.length ≤ 64) : (padK key x).length = 64 := by
  unfold padK
  rw [List.length_map, List.length_append, List.length_replicate]
  omega
theorem mac_eq (key s : List UInt8) : mac key s = sha (padK (macKey key) 92 ++ sha (padK (macKey key) 54 ++ s)) := by
  unfold mac macKey
  rfl
set_option maxRecDepth 100000 in
set_option maxHeartbeats 2000000 in
theorem MAC_any (key : List UInt8) (b c : Nat) (ps : List (List UInt8)) (w : World) (hp : PartsAt b ps w) (hpl : ps.length ≤ 1000) (hk : key.length ≤ 549755813888) (hl : ps.flatten.length ≤ 549755813000) :
    Calls Tryz.prog 36 #[S key, .slice (some ⟨b, 0, none⟩) ps.length c] w fun e w' => e = .returned (S (mac key ps.flatten)) ∧ Kept (fun _ => True) w w' := by
  have hsz : (⟨key.toArray⟩ : ByteArray).size = key.length := size_mk key
  have HP := Lib.hid hp
  have HL := Lib.hid hl
  have HK := Lib.hid hk
  have HPL := Lib.hid hpl
  clear hp hl hk hpl
  go_enter Tryz.func36, Tryz.ntmps36
  obtain ⟨n, hn⟩ : ∃ n, ps.length = n := ⟨_, rfl⟩
  rw [hn]
  have hn1 : n ≤ 1000 := by rw [← hn]; exact HPL.out
  have HN := Lib.hid hn
  clear hn
  by_cases hlong : 64 < key.length
  · have hka : Kept (fun _ => True) w (w.alloc (.cells #[S key] 9)) := (Kept.refl _ _).alloc _
    have SM : Hid (Calls Tryz.prog 62 #[.slice (some ⟨w.heap.size, 0, none⟩) 1 1] (w.alloc (.cells #[S key] 9)) fun e w' => e = .returned (S (sha key)) ∧ Kept (fun _ => True) (w.alloc (.cells #[S key] 9)) w') := Lib.hid (by
      have h := Sum_any w.heap.size 1 [key] _ (heap_alloc_new w (.cells #[S key] 9)) (by simp) (by simpa using HK.out)
      simpa using h)
    go_wp2_with fail
    refine SM.out.mono ?_
    rintro e w1 ⟨rfl, hk1⟩
    clear SM
    obtain ⟨x, hx⟩ : ∃ x, macKey key = x := ⟨_, rfl⟩
    have hxl : x.length ≤ 64 := by rw [← hx]; exact macKey_len key
    have hp1 := padK_len 54 hxl
    have hp2 := padK_len 92 hxl
    have hke : sha key = x := by rw [← hx, macKey, if_pos hlong]
    rw [hke]
    clear hke
    have HX := Lib.hid hx
    have HXL := Lib.hid hxl
    have HP1 := Lib.hid hp1
    have HP2 := Lib.hid hp2
    clear hx hp1 hp2 hxl
    go_wp2_with fail
    refine (New_any _).mono ?_
    rintro e w2 ⟨g, rfl, hg, hs2, hk2⟩
    have hgw : w.heap.size ≤ g := by have := hk1.size; have := hka.size; omega
    have HS2 := Lib.hid hs2
    have HK2 : Hid (Kept (fun _ => True) w w2) := Lib.hid ((hka.tr hk1).tr hk2)
    clear hs2 hk2 hg
    have PD := Lib.hid (padded_any x 54 w2 HXL.out)
    go_wp2_with fail
    refine PD.out.mono ?_
    rintro e w3 ⟨rfl, hk3⟩
    have HK3 := Lib.hid (HK2.out.tr hk3)
    have WR := Lib.hid (Write_any g [] (padK x 54) w3 (HS2.out.kept hk3 trivial) (by rw [HP1.out]; decide))
    rw [List.nil_append] at WR
    clear hk3 PD HS2 HK2
    go_wp2_with fail
    refine WR.out.mono ?_
    rintro e w4 ⟨rfl, hs4, hk4⟩
    have HS4 := Lib.hid hs4
    have HK4 : Hid (Kept (fun _ => True) w w4) := Lib.hid (HK3.out.trans hk4 fun k hk _ e => by omega)
    clear hs4 hk4 WR HK3
    go_wp2_with fail
    go_loopg [21] n (fun q iv wx => ∃ j : Nat, iv = .int .i64 j ∧ j ≤ n ∧ q = n - j ∧ Hid (HS g (padK x 54 ++ (ps.take j).flatten) wx) ∧ Hid (Kept (fun _ => True) w wx))
    case atStart => exact ⟨0, rfl, by omega, rfl, Lib.hid (by simpa using HS4.out), HK4⟩
    case round =>
      clear HS4 HK4
      obtain ⟨j, rfl, hj, rfl, HSJ, HKJ⟩ := hrel
      by_cases hlt : j < n
      · have hjp : j < ps.length := by rw [HN.out]; exact hlt
        obtain ⟨p, hpj⟩ : ∃ p, ps[j] = p := ⟨_, rfl⟩
        have c0 := (HP.out.kept HKJ.out trivial).at hjp
        rw [hpj] at c0
        have hnx := flat_next hjp
        rw [hpj] at hnx
        have WR := Lib.hid (Write_any g (padK x 54 ++ (ps.take j).flatten) p wr HSJ.out (by have h1 := flat_take_le ps (j + 1); rw [hnx, List.length_append] at h1; rw [List.length_append, HP1.out]; have := HL.out; omega))
        rw [List.append_assoc, ← hnx] at WR
        have hj1 : (j : Int) < (n : Int) := by omega
        have hj0 : (0 : Int) ≤ (j : Int) := by omega
        clear hpj hnx hjp
        go_wp2_with fail
        refine WR.out.mono ?_
        rintro e w5 ⟨rfl, hs5, hk5⟩
        have HS5 := Lib.hid hs5
        have HK5 : Hid (Kept (fun _ => True) w w5) := Lib.hid (HKJ.out.trans hk5 fun k hk _ e => by omega)
        clear hs5 hk5 WR
        go_wp2
        go_roundg (n - (j + 1))
        case rel => exact ⟨j + 1, by go_num, by omega, rfl, HS5, HK5⟩
        case measure => omega
      · obtain rfl : j = n := by omega
        have hfl : ps.take j = ps := List.take_of_length_le (by rw [HN.out]; exact Nat.le_refl _)
        have HSJ2 : Hid (HS g (padK x 54 ++ ps.flatten) wr) := Lib.hid (by have := HSJ.out; rwa [hfl] at this)
        have PD := Lib.hid (padded_any x 92 wr HXL.out)
        clear hfl HSJ
        go_wp2_with fail
        refine PD.out.mono ?_
        rintro e w6 ⟨rfl, hk6⟩
        have HK6 := Lib.hid (HKJ.out.tr hk6)
        have SM := Lib.hid (HSum_any g (padK x 54 ++ ps.flatten) w6 (HSJ2.out.kept hk6 trivial) (by rw [List.length_append, HP1.out]; have := HL.out; omega))
        clear hk6 PD HSJ2
        go_wp2_with fail
        refine SM.out.mono ?_
        rintro e w7 ⟨rfl, hk7⟩
        have HK7 := Lib.hid (HK6.out.tr hk7)
        clear hk7 SM
        obtain ⟨y, hy⟩ : ∃ y, sha (padK x 54 ++ ps.flatten) = y := ⟨_, rfl⟩
        obtain ⟨z, hz⟩ : ∃ z, padK x 92 = z := ⟨_, rfl⟩
        obtain ⟨W8, hW8⟩ : ∃ W8, w7.alloc (.cells #[S z, S y] 9) = W8 := ⟨_, rfl⟩
        have P8 : PartsAt w7.heap.size [z, y] W8 := by rw [← hW8]; exact heap_alloc_new w7 _
        have hyl : y.length = 32 := by rw [← hy]; exact sha_len _
        have hzl : z.length = 64 := by rw [← hz]; exact HP2.out
        have SM2 : Hid (Calls Tryz.prog 62 #[.slice (some ⟨w7.heap.size, 0, none⟩) 2 2] W8 fun e w' => e = .returned (S (sha (z ++ y))) ∧ Kept (fun _ => True) W8 w') := Lib.hid (by
          have h := Sum_any w7.heap.size 2 [z, y] W8 P8 (by simp) (by simp [hyl, hzl])
          simpa using h)
        have HK8 : Hid (Kept (fun _ => True) w W8) := Lib.hid (HK7.out.tr (by rw [← hW8]; exact (Kept.refl _ _).alloc _))
        have HFIN : Hid (mac key ps.flatten = sha (z ++ y)) := Lib.hid (by rw [mac_eq, HX.out, hy, hz])
        rw [hy, hz]
        clear hy hz P8 hyl hzl
        go_wp2_with fail
        refine SM2.out.mono ?_
        rintro e w9 ⟨rfl, hk9⟩
        have HK9 := Lib.hid (HK8.out.tr hk9)
        clear hk9
        go_wp2
        go_ret
        exact ⟨by rw [HFIN.out]; rfl, HK9.out⟩
  · obtain ⟨x, hx⟩ : ∃ x, macKey key = x := ⟨_, rfl⟩
    have hxl : x.length ≤ 64 := by rw [← hx]; exact macKey_len key
    have hp1 := padK_len 54 hxl
    have hp2 := padK_len 92 hxl
    obtain rfl : x = key := by rw [← hx, macKey, if_neg hlong]
    have HX := Lib.hid hx
    have HXL := Lib.hid hxl
    have HP1 := Lib.hid hp1
    have HP2 := Lib.hid hp2
    clear hx hp1 hp2 hxl
    go_wp2_with fail
    refine (New_any _).mono ?_
    rintro e w2 ⟨g, rfl, hg, hs2, hk2⟩
    have hgw : w.heap.size ≤ g := by omega
    have HS2 := Lib.hid hs2
    have HK2 : Hid (Kept (fun _ => True) w w2) := Lib.hid hk2
    clear hs2 hk2 hg
    have PD := Lib.hid (padded_any x 54 w2 HXL.out)
    go_wp2_with fail
    refine PD.out.mono ?_
    rintro e w3 ⟨rfl, hk3⟩
    have HK3 := Lib.hid (HK2.out.tr hk3)
    have WR := Lib.hid (Write_any g [] (padK x 54) w3 (HS2.out.kept hk3 trivial) (by rw [HP1.out]; decide))
    rw [List.nil_append] at WR
    clear hk3 PD HS2 HK2
    go_wp2_with fail
    refine WR.out.mono ?_
    rintro e w4 ⟨rfl, hs4, hk4⟩
    have HS4 := Lib.hid hs4
    have HK4 : Hid (Kept (fun _ => True) w w4) := Lib.hid (HK3.out.trans hk4 fun k hk _ e => by omega)
    clear hs4 hk4 WR HK3
    go_wp2_with fail
    go_loopg [21] n (fun q iv wx => ∃ j : Nat, iv = .int .i64 j ∧ j ≤ n ∧ q = n - j ∧ Hid (HS g (padK x 54 ++ (ps.take j).flatten) wx) ∧ Hid (Kept (fun _ => True) w wx))
    case atStart => exact ⟨0, rfl, by omega, rfl, Lib.hid (by simpa using HS4.out), HK4⟩
    case round =>
      clear HS4 HK4
      obtain ⟨j, rfl, hj, rfl, HSJ, HKJ⟩ := hrel
      by_cases hlt : j < n
      · have hjp : j < ps.length := by rw [HN.out]; exact hlt
        obtain ⟨p, hpj⟩ : ∃ p, ps[j] = p := ⟨_, rfl⟩
        have c0 := (HP.out.kept HKJ.out trivial).at hjp
        rw [hpj] at c0
        have hnx := flat_next hjp
        rw [hpj] at hnx
        have WR := Lib.hid (Write_any g (padK x 54 ++ (ps.take j).flatten) p wr HSJ.out (by have h1 := flat_take_le ps (j + 1); rw [hnx, List.length_append] at h1; rw [List.length_append, HP1.out]; have := HL.out; omega))
        rw [List.append_assoc, ← hnx] at WR
        have hj1 : (j : Int) < (n : Int) := by omega
        have hj0 : (0 : Int) ≤ (j : Int) := by omega
        clear hpj hnx hjp
        go_wp2_with fail
        refine WR.out.mono ?_
        rintro e w5 ⟨rfl, hs5, hk5⟩
        have HS5 := Lib.hid hs5
        have HK5 : Hid (Kept (fun _ => True) w w5) := Lib.hid (HKJ.out.trans hk5 fun k hk _ e => by omega)
        clear hs5 hk5 WR
        go_wp2
        go_roundg (n - (j + 1))
        case rel => exact ⟨j + 1, by go_num, by omega, rfl, HS5, HK5⟩
        case measure => omega
      · obtain rfl : j = n := by omega
        have hfl : ps.take j = ps := List.take_of_length_le (by rw [HN.out]; exact Nat.le_refl _)
        have HSJ2 : Hid (HS g (padK x 54 ++ ps.flatten) wr) := Lib.hid (by have := HSJ.out; rwa [hfl] at this)
        have PD := Lib.hid (padded_any x 92 wr HXL.out)
        clear hfl HSJ
        go_wp2_with fail
        refine PD.out.mono ?_
        rintro e w6 ⟨rfl, hk6⟩
        have HK6 := Lib.hid (HKJ.out.tr hk6)
        have SM := Lib.hid (HSum_any g (padK x 54 ++ ps.flatten) w6 (HSJ2.out.kept hk6 trivial) (by rw [List.length_append, HP1.out]; have := HL.out; omega))
        clear hk6 PD HSJ2
        go_wp2_with fail
        refine SM.out.mono ?_
        rintro e w7 ⟨rfl, hk7⟩
        have HK7 := Lib.hid (HK6.out.tr hk7)
        clear hk7 SM
        obtain ⟨y, hy⟩ : ∃ y, sha (padK x 54 ++ ps.flatten) = y := ⟨_, rfl⟩
        obtain ⟨z, hz⟩ : ∃ z, padK x 92 = z := ⟨_, rfl⟩
        obtain ⟨W8, hW8⟩ : ∃ W8, w7.alloc (.cells #[S z, S y] 9) = W8 := ⟨_, rfl⟩
        have P8 : PartsAt w7.heap.size [z, y] W8 := by rw [← hW8]; exact heap_alloc_new w7 _
        have hyl : y.length = 32 := by rw [← hy]; exact sha_len _
        have hzl : z.length = 64 := by rw [← hz]; exact HP2.out
        have SM2 : Hid (Calls Tryz.prog 62 #[.slice (some ⟨w7.heap.size, 0, none⟩) 2 2] W8 fun e w' => e = .returned (S (sha (z ++ y))) ∧ Kept (fun _ => True) W8 w') := Lib.hid (by
          have h := Sum_any w7.heap.size 2 [z, y] W8 P8 (by simp) (by simp [hyl, hzl])
          simpa using h)
        have HK8 : Hid (Kept (fun _ => True) w W8) := Lib.hid (HK7.out.tr (by rw [← hW8]; exact (Kept.refl _ _).alloc _))
        have HFIN : Hid (mac x ps.flatten = sha (z ++ y)) := Lib.hid (by rw [mac_eq, HX.out, hy, hz])
        rw [hy, hz]
        clear hy hz P8 hyl hzl
        go_wp2_with fail
        refine SM2.out.mono ?_
        rintro e w9 ⟨rfl, hk9⟩
        have HK9 := Lib.hid (HK8.out.tr hk9)
        clear hk9
        go_wp2
        go_ret
        exact ⟨by rw [HFIN.out]; rfl, HK9.out⟩
end Go.Proofs.YtpcgfhleloonfaaGreatDoor
namespace Go.Proofs.YtpcgfhleloonfaaGreatDoor
open Go.RowKit Jo Ac
abbrev Ui (n : Nat) : Value := .int .i64 (n : Int)
/-- The eight words, while they turn. -/
def VI (g : Nat) (a b c d e f h i : Nat) (w : World) : Prop := w.heap[g]? = some (.cells #[Ui a, Ui b, Ui c, Ui d, Ui e, Ui f, Ui h, Ui i] 123 (0, 0))
theorem VI.facts {g a b c d e f h i : Nat} {w : World} (v : VI g a b c d e f h i w) : (w.cell? ⟨g, 0, none⟩ = some (Ui a) ∧ w.cell? ⟨g, 1, none⟩ = some (Ui b) ∧ w.cell? ⟨g, 2, none⟩ = some (Ui c) ∧ w.cell? ⟨g, 3, none⟩ = some (Ui d) ∧ w.cell? ⟨g, 4, none⟩ = some (Ui e) ∧ w.cell? ⟨g, 5, none⟩ = some (Ui f) ∧ w.cell? ⟨g, 6, none⟩ = some (Ui h) ∧ w.cell? ⟨g, 7, none⟩ = some (Ui i)) ∧ ∀ o, w.frozen? ⟨g, o, none⟩ = false := by
  have hc : ∀ j, w.cell? ⟨g, j, none⟩ = #[Ui a, Ui b, Ui c, Ui d, Ui e, Ui f, Ui h, Ui i][j]? := fun j => cell_of_row w g j _ _ _ v
  exact ⟨⟨hc 0, hc 1, hc 2, hc 3, hc 4, hc 5, hc 6, hc 7⟩, frozen_row v⟩
theorem VI.set8 {g a b c d e f h i : Nat} {w : World} (v : VI g a b c d e f h i w) {x0 x1 x2 x3 x4 x5 x6 x7 : Value} (a' b' c' d' e' f' h' i' : Nat) (e0 : x0 = Ui a') (e1 : x1 = Ui b') (e2 : x2 = Ui c') (e3 : x3 = Ui d') (e4 : x4 = Ui e') (e5 : x5 = Ui f') (e6 : x6 = Ui h') (e7 : x7 = Ui i') :
    VI g a' b' c' d' e' f' h' i' ((((((((w.setCell ⟨g, 0, none⟩ x0).setCell ⟨g, 1, none⟩ x1).setCell ⟨g, 2, none⟩ x2).setCell ⟨g, 3, none⟩ x3).setCell ⟨g, 4, none⟩ x4).setCell ⟨g, 5, none⟩ x5).setCell ⟨g, 6, none⟩ x6).setCell ⟨g, 7, none⟩ x7) := by
  subst e0 e1 e2 e3 e4 e5 e6 e7
  have q0 := setCell_heap (o := 0) v (Ui a')
  have q1 := setCell_heap (o := 1) q0 (Ui b')
  have q2 := setCell_heap (o := 2) q1 (Ui c')
  have q3 := setCell_heap (o := 3) q2 (Ui d')
  have q4 := setCell_heap (o := 4) q3 (Ui e')
  have q5 := setCell_heap (o := 5) q4 (Ui f')
  have q6 := setCell_heap (o := 6) q5 (Ui h')
  have q7 := setCell_heap (o := 7) q6 (Ui i')
  simp only [List.setIfInBounds_toArray, List.set_cons_zero, List.set_cons_succ] at q7
  exact q7
end Go.Proofs.YtpcgfhleloonfaaGreatDoor
namespace Go.Proofs.YtpcgfhleloonfaaGreatDoor
open Go.RowKit Jo Ac
end Go.Proofs.YtpcgfhleloonfaaGreatDoor
namespace Go.Proofs.YtpcgfhleloonfaaGreatDoor
open Go.RowKit Jo Ac
/-- Bytes that the call itself has made out of a text, or grown since. -/
def OwnZ (e : TypeId) (B : Nat) (v : Value) (l : List UInt8) (w : World) : Prop :=
  ∃ g cap cur fz, v = .slice (some ⟨g, 0, none⟩) l.length cap ∧ B ≤ g ∧ w.heap[g]? = some (.cells cur e fz) ∧ (fz = (0, 0) ∨ fz = (cur.size, cur.size + 1)) ∧ l.length ≤ cap ∧ cap ≤ cur.size ∧ cur.toList.take l.length = Lib.byteCells l
theorem OwnZ.kept {e : TypeId} {B : Nat} {v : Value} {l : List UInt8} {w w' : World} (h : OwnZ e B v l w) (hk : Kept (fun _ => True) w w') : OwnZ e B v l w' := by
  obtain ⟨g, cap, cur, fz, h1, h2, h3, h4⟩ := h
  exact ⟨g, cap, cur, fz, h1, h2, (hk.block g (Array.getElem?_eq_some_iff.1 h3).1 trivial).trans h3, h4⟩
theorem OwnZ.cell {e : TypeId} {g n cap : Nat} {cur : Array Value} {fz : Nat × Nat} {l : List UInt8} {w : World} (h3 : w.heap[g]? = some (.cells cur e fz)) (h7 : cur.toList.take l.length = Lib.byteCells l) {j : Nat} (hj : j < l.length) : w.cell? ⟨g, j, none⟩ = some (.int .u8 (l[j].toNat : Int)) := by
  rw [cell_of_row w g j _ _ _ h3, ← Array.getElem?_toList]
  have : (cur.toList.take l.length)[j]? = (Lib.byteCells l)[j]? := by rw [h7]
  rw [List.getElem?_take, if_pos hj] at this
  rw [this]
  simp [Lib.byteCells, hj]
theorem OwnZ.string {P : Program} {src dst e : TypeId} (hs : P.underlying src = some (.slice e)) (he : P.underlying e = some (.int .u8)) (hd : P.underlying dst = some .string)
    {B : Nat} {v : Value} {l : List UInt8} {w : World} (h : OwnZ e B v l w) : (convert src dst v).run P w = .ok (.string ⟨l.toArray⟩) w := by
  obtain ⟨g, cap, cur, fz, rfl, h2, h3, h4, h5, h6, h7⟩ := h
  exact run_convert_bytes_back (P := P) w src dst e ⟨g, 0, none⟩ cap l hs he hd (fun j hj => by
    rw [show (⟨g, 0, none⟩ : Addr).add j = ⟨g, j, none⟩ by rw [Addr.add_mid, Nat.zero_add]]
    exact OwnZ.cell (n := 0) (cap := 0) h3 h7 hj)
/-- '[]byte(s)'. -/
theorem run_bytes {P : Program} (w : World) (src dst e : TypeId) (l : List UInt8) (hs : P.underlying src = some .string) (hd : P.underlying dst = some (.slice e)) (he : P.underlying e = some (.int .u8)) :
    ∃ v w', (convert src dst (S l)).run P w = .ok v w' ∧ OwnZ e w.heap.size v l w' ∧ Kept (fun _ => True) w w' := by
  refine ⟨_, _, run_bytes_of_string w src dst e ⟨l.toArray⟩ hs hd he, ?_, ((Kept.refl _ w).drew).alloc _⟩
  have hsz : (⟨l.toArray⟩ : ByteArray).size = l.length := size_mk l
  rw [hsz]
  have hge := grownCap_ge w l.length 0 e
  refine ⟨w.heap.size, _, _, _, rfl, Nat.le_refl _, heap_alloc_new w.drew _, .inr rfl, hge, ?_, ?_⟩
  · simp [bytesRow, hsz]
    omega
  · simp [bytesRow, Lib.byteCells]
section
variable {P : Program} {ops : Array Oper} {rest : List Oper} {o : Oper} {a : Act} {Q : Exit → Act → World → Prop} {w : World}
theorem wpList_bytes (src dst e : TypeId) (hs : P.underlying src = some .string) (hd : P.underlying dst = some (.slice e)) (he : P.underlying e = some (.int .u8)) (hgd : o.guard = none) (x : Operand) (ho : o.op = .convert src dst x) (l : List UInt8) (hx : a.eval x = S l)
    (h : ∀ v w', OwnZ e w.heap.size v l w' → Kept (fun _ => True) w w' → wpList P ops Q rest (a.put o.dst v) w') : wpList P ops Q (o :: rest) a w := by
  obtain ⟨v, w', hr, h1, h2⟩ := run_bytes (P := P) w src dst e l hs hd he
  refine wpList_plain hgd fun K hK => ?_
  unfold Oper.wp execOp
  simp only [ho, hx, Sem.run_bind, Sem.run_pure, hr, Result.andThen_ok]
  exact hK _ _ (h v w' h1 h2)
end
end Go.Proofs.YtpcgfhleloonfaaGreatDoor
namespace Go.Proofs.YtpcgfhleloonfaaGreatDoor
open Go.RowKit Jo Ac
end Go.Proofs.YtpcgfhleloonfaaGreatDoor
namespace Go.Proofs.YtpcgfhleloonfaaGreatDoor
open Go.RowKit Jo Ac
section
variable {P : Program} {ops : Array Oper} {Q : Exit → Act → World → Prop}
def putAll : List (Option Nat) → (Nat → Value) → Nat → Act → Act
  | [], _, _, a => a
  | d :: ds, val, i, a => putAll ds val (i + 1) (a.put d (val i))
theorem put_defers (a : Act) (d : Option Nat) (v : Value) : (a.put d v).defers = a.defers := by cases d <;> rfl
theorem put_size (a : Act) (d : Option Nat) (v : Value) : (a.put d v).tmps.size = a.tmps.size := by cases d <;> simp [Act.put]
theorem put_ne {a : Act} {d : Option Nat} {v : Value} {k : Nat} (h : d ≠ some k) : (a.put d v).tmps[k]? = a.tmps[k]? := by
  cases d with
  | none => rfl
  | some d => exact Array.getElem?_setIfInBounds_ne (fun e => h (by rw [e]))
theorem put_eq {a : Act} {v : Value} {k : Nat} (h : k < a.tmps.size) : (a.put (some k) v).tmps[k]? = some v := by
  simp [Act.put, h]
theorem putAll_defers : ∀ (ds : List (Option Nat)) (val : Nat → Value) (i : Nat) (a : Act), (putAll ds val i a).defers = a.defers
  | [], _, _, _ => rfl
  | d :: ds, val, i, a => by rw [putAll, putAll_defers ds, put_defers]
theorem putAll_other : ∀ (ds : List (Option Nat)) (val : Nat → Value) (i : Nat) (a : Act) {k : Nat}, some k ∉ ds → (putAll ds val i a).tmps[k]? = a.tmps[k]?
  | [], _, _, _, _, _ => rfl
  | d :: ds, val, i, a, k, h => by
    rw [putAll, putAll_other ds val _ _ (fun hm => h (List.mem_cons_of_mem _ hm)), put_ne (fun e => h (by rw [e]; exact List.mem_cons_self))]
theorem putAll_at : ∀ (ds : List (Option Nat)) (val : Nat → Value) (i : Nat) (a : Act) {j k : Nat}, (ds.filterMap id).Nodup → k < a.tmps.size → ds[j]? = some (some k) → (putAll ds val i a).tmps[k]? = some (val (i + j))
  | [], _, _, _, _, _, _, _, h => by simp at h
  | d :: ds, val, i, a, 0, k, hn, hk, h => by
    simp only [List.getElem?_cons_zero, Option.some.injEq] at h
    subst h
    simp only [List.filterMap_cons, id, List.nodup_cons] at hn
    rw [putAll, putAll_other ds val _ _ (fun hm => hn.1 (List.mem_filterMap.2 ⟨_, hm, rfl⟩)), put_eq hk]
    rfl
  | d :: ds, val, i, a, j + 1, k, hn, hk, h => by
    simp only [List.getElem?_cons_succ] at h
    have hn' : (ds.filterMap id).Nodup := by
      cases d with
      | none => simpa using hn
      | some d => simp only [List.filterMap_cons, id, List.nodup_cons] at hn; exact hn.2
    rw [putAll, putAll_at ds val (i + 1) _ hn' (by rw [put_size]; exact hk) h, show i + 1 + j = i + (j + 1) by omega]
theorem act_ext {a b : Act} (h1 : a.defers = b.defers) (h2 : ∀ (k : Nat), a.tmps[k]? = b.tmps[k]?) : a = b := by
  obtain ⟨x, y⟩ := a
  obtain ⟨x', y'⟩ := b
  obtain rfl : y = y' := h1
  obtain rfl : x = x' := Array.ext_getElem? h2
  rfl
def seen (L : Nat → Bool) (i : Nat) : Nat → Bool := fun (j : Nat) => if j = i then true else L j
theorem getD_set (l : Array Bool) (i : Nat) (h : i < l.size) : (fun j => (l.setIfInBounds i true).getD j false) = seen (fun j => l.getD j false) i := by
  funext j
  unfold seen
  simp only [Array.getD_eq_getD_getElem?]
  by_cases e : j = i
  · rw [e, if_pos rfl, Array.getElem?_setIfInBounds_self_of_lt h]
    rfl
  · rw [if_neg e, Array.getElem?_setIfInBounds_ne (Ne.symm e)]
theorem Has.ahead {i : Nat} {d : Option Tmp} {op : Op} {need : List Nat} (h : Has ops i d op need) {L : Nat → Bool} {o : Oper} (ho' : ops[i]? = some o) (hc : ∀ e ∈ o.after, Region.binds .any e = true → L e.on = true) {k : Nat} (hk : k ∈ need) : L k = true := by
  obtain ⟨o, ho, _, _, _, hn⟩ := h
  obtain ⟨e, h1, h2, rfl⟩ := hn k hk
  obtain rfl := Option.some.inj (ho.symm.trans ho')
  exact hc e h1 h2
variable {i : Nat} {o : Oper} {a : Act} {w : World} {K : Act → World → Prop}
theorem wpOp_val (hi : ops[i]? = some o) (hg : o.guard = none) {v : Value} {w' : World} (hr : (execOp a.eval o).run P w = .ok (.value v) w') (h : K (a.put o.dst v) w') : wpOp P ops Q i K a w := by
  refine wpOp_plain hi hg ?_
  unfold Oper.wp
  rw [hr]
  exact h
end
end Go.Proofs.YtpcgfhleloonfaaGreatDoor
namespace Go.Proofs.YtpcgfhleloonfaaGreatDoor
open Go.RowKit Jo Ac
end Go.Proofs.YtpcgfhleloonfaaGreatDoor
namespace Go.Proofs.YtpcgfhleloonfaaGreatDoor
open Go.RowKit Jo Ac
end Go.Proofs.YtpcgfhleloonfaaGreatDoor
namespace Go.Proofs.YtpcgfhleloonfaaGreatDoor
open Go.RowKit Jo Ac
end Go.Proofs.YtpcgfhleloonfaaGreatDoor
namespace Go.Proofs.YtpcgfhleloonfaaGreatDoor
open Go.RowKit Jo Ac
theorem mask_i (k m x : Nat) (hm : 2 ^ k - 1 = m) (hk : m < 9223372036854775808) (hx : x < 9223372036854775808) : bits .and .i64 (x : Int) (m : Int) = ((x % 2 ^ k : Nat) : Int) := by
  subst hm
  rw [i64_and_nat x _ hx hk, Nat.and_two_pow_sub_one_eq_mod]
theorem or8_i (h c : Nat) (hh : h < 1000000) (hc : c < 256) : bits .or .i64 ((h : Int) * 256) (c : Int) = ((h * 256 + c : Nat) : Int) := by
  have e := or_shift (a := h) (b := c) (k := 8) (by omega)
  rw [show (h : Int) * 256 = ((h * 256 : Nat) : Int) by omega, i64_orN _ _ (by omega) (by omega)]
  exact congrArg Int.ofNat e
theorem or6_i (h c : Nat) (hh : h < 1000000) (hc : c < 64) : bits .or .i64 ((h : Int) * 64) (c : Int) = ((h * 64 + c : Nat) : Int) := by
  have e := or_shift (a := h) (b := c) (k := 6) (by omega)
  rw [show (h : Int) * 64 = ((h * 64 : Nat) : Int) by omega, i64_orN _ _ (by omega) (by omega)]
  exact congrArg Int.ofNat e
theorem em_next (l : List UInt8) (h : Nat) {m : Nat} (hm : 6 ≤ m) (hm2 : m < 18) : em l h m = sg l (h / 2 ^ (m - 6) % 64) :: em l h (m - 6) := by
  unfold em
  rw [if_neg (by omega)]
  by_cases h1 : m < 12
  · rw [if_pos h1, if_pos (by omega)]
  · rw [if_neg h1, if_neg (by omega), if_pos (by omega), show m - 6 - 6 = m - 12 by omega]
theorem em_done (l : List UInt8) (h : Nat) {m : Nat} (hm : m < 6) : em l h m = [] := if_pos hm
theorem sg_at {l : List UInt8} {k : Nat} (h : k < l.length) : l[k]? = some (sg l k) := by
  unfold sg
  rw [List.getD_eq_getElem?_getD, List.getElem?_eq_getElem h]
  rfl
set_option maxRecDepth 100000 in
set_option maxHeartbeats 8000000 in
theorem sixes_any (s l : List UInt8) (w : World) (hs : s.length ≤ 16777216) (hl : l.length = 64) : Calls Tryz.prog 61 #[S s, S l] w fun e w' => e = .returned (S (sx l 0 0 s)) ∧ Kept (fun _ => True) w w' := by
  obtain ⟨N, hN⟩ : ∃ N, s.length = N := ⟨_, rfl⟩
  have hsz : (⟨s.toArray⟩ : ByteArray).size = N := by rw [size_mk, hN]
  have hlsz : (⟨l.toArray⟩ : ByteArray).size = 64 := by rw [size_mk, hl]
  have hN1 : N ≤ 16777216 := by omega
  have HN := Lib.hid hN
  have HL := Lib.hid hl
  have HIX : Hid (∀ (k : Nat), k < 64 → ∀ w, (Instr.index 9 (S l) (.int .i64 (k : Int))).run Tryz.prog w = .ok (.int .u8 ((sg l k).toNat : Int)) w) := Lib.hid fun k hk w => run_index_str (P := Tryz.prog) Tryz.underlying9 ⟨l.toArray⟩ (k : Int) k rfl (by rw [hlsz]; exact hk) (sg l k) (List.getElem?_eq_some_iff.1 (sg_at (by rw [hl]; exact hk))).2 w
  clear hN hl hs
  go_enter Tryz.func61, Tryz.ntmps61
  go_wp2_with (first | (refine wpList_bytes 9 84 5 Tryz.underlying9 Tryz.underlying84 Tryz.underlying5 rfl _ rfl s rfl ?_; refine Hid.out ?_))
  refine Lib.hid ?_
  intro v1 w1 ho1 hk1
  obtain ⟨g, cap, cur, fz, hv1, hg1, hrow, h4, h5, h6, h7⟩ := ho1
  rw [HN.out] at hv1
  have hgl : g < w1.heap.size := (Array.getElem?_eq_some_iff.1 hrow).1
  have HC : Hid (∀ W, Kept (fun k => k < w1.heap.size) w1 W → ∀ j c, s[j]? = some c → W.cell? ⟨g, j, none⟩ = some (.int .u8 (c.toNat : Int))) := Lib.hid fun W hW j c hj => by
    have hjl := (List.getElem?_eq_some_iff.1 hj).1
    rw [hW.cell hgl hgl, OwnZ.cell (n := 0) (cap := 0) hrow h7 hjl, (List.getElem?_eq_some_iff.1 hj).2]
  have HK1 := Lib.hid hk1
  clear h4 h5 h6 h7 hrow hk1 hg1
  rw [hv1]
  clear hv1
  obtain ⟨B, hB⟩ : ∃ B, w1.heap.size = B := ⟨_, rfl⟩
  rw [hB] at HC hgl
  have HB := Lib.hid hB
  clear hB
  go_wp2_with fail
  go_loopg [5, 6, 7, 13] N (fun q ov hv nv iv wx => ∃ (acc : List UInt8) (h n i : Nat), hv = .int .i64 (h : Int) ∧ nv = .int .i64 (n : Int) ∧ iv = .int .i64 (i : Int) ∧ i ≤ N ∧ q = N - i ∧ (n = 0 ∨ n = 2 ∨ n = 4) ∧ h < 2 ^ n ∧ acc.length ≤ 2 * i ∧ Hid (acc ++ sx l h n (s.drop i) = sx l 0 0 s) ∧ Hid (OwnB 5 B ov acc wx) ∧ Hid (Kept (fun k => k < B) w1 wx) ∧ B ≤ wx.heap.size)
  case atStart => exact ⟨[], 0, 0, 0, rfl, rfl, rfl, by omega, rfl, .inl rfl, by decide, by simp, Lib.hid rfl, Lib.hid (OwnB.nil _ _ _), Lib.hid (Kept.refl _ _), by rw [HB.out]; exact Nat.le_refl _⟩
  case round =>
    obtain ⟨acc, h, n, i, rfl, rfl, rfl, hi, rfl, hn, hh, hal, HT, HO, HK, hz⟩ := hrel
    have hhb : h < 16 := by rcases hn with rfl | rfl | rfl <;> simp at hh <;> omega
    by_cases hlt : i < N
    · obtain ⟨c, hc⟩ : ∃ c, s[i]? = some c := ⟨_, List.getElem?_eq_getElem (by rw [HN.out]; exact hlt)⟩
      have c0 := HC.out wr HK.out i c hc
      have hcl := c.toNat_lt
      have ho := or8_i h c.toNat (by omega) hcl
      obtain ⟨H, hH⟩ : ∃ H, h * 256 + c.toNat = H := ⟨_, rfl⟩
      rw [hH] at ho
      have hHb : H < 4096 := by omega
      have HS : Hid (sx l h n (s.drop i) = em l H (n + 8) ++ sx l (H % 2 ^ ((n + 8) % 6)) ((n + 8) % 6) (s.drop (i + 1))) := Lib.hid (by
        have hi' : i < s.length := by rw [HN.out]; exact hlt
        have hcx := (List.getElem?_eq_some_iff.1 hc).2
        rw [List.drop_eq_getElem_cons hi', hcx, sx, hH])
      have hi1 : (i : Int) < (N : Int) := by omega
      clear hc hH
      go_wp2_with fail
      go_loopg [5, 7] (n + 8) (fun q ov nv wx => ∃ (acc' : List UInt8) (m : Nat), nv = .int .i64 (m : Int) ∧ m = q ∧ (m = 0 ∨ m = 2 ∨ m = 4 ∨ m = 6 ∨ m = 8 ∨ m = 10 ∨ m = 12) ∧ m % 6 = (n + 8) % 6 ∧ acc'.length + m / 6 ≤ 2 * i + 2 ∧ Hid (acc' ++ em l H m = acc ++ em l H (n + 8)) ∧ Hid (OwnB 5 B ov acc' wx) ∧ Hid (Kept (fun k => k < B) w1 wx) ∧ B ≤ wx.heap.size)
      case atStart => exact ⟨acc, n + 8, by go_num, rfl, by omega, rfl, by omega, Lib.hid rfl, HO, HK, hz⟩
      case round =>
        clear HO HK hz c0 ho
        obtain ⟨acc', m, rfl, rfl, hm, hmm, hal', HE, HO, HK, hz⟩ := hrel
        by_cases h6 : 6 ≤ m
        · have h6i : (6 : Int) ≤ (m : Int) := by omega
          obtain ⟨k, hk⟩ : ∃ k, H / 2 ^ (m - 6) % 64 = k := ⟨_, rfl⟩
          have hk64 : k < 64 := by omega
          have ix := HIX.out k hk64
          have HE2 : Hid (acc' ++ [sg l k] ++ em l H (m - 6) = acc ++ em l H (n + 8)) := Lib.hid (by rw [← HE.out, em_next l H h6 (by omega), hk, List.append_assoc]; rfl)
          obtain ⟨d, hd⟩ : ∃ d, m - 6 = d := ⟨_, rfl⟩
          rw [hd] at hk HE2
          have hdi : (m : Int) - 6 = (d : Int) := by omega
          have hd4 : d = 0 ∨ d = 2 ∨ d = 4 ∨ d = 6 := by omega
          have hd6 : d / 6 + 1 ≤ m / 6 := by omega
          have hand : bits .and .i64 ((H : Int) / 2 ^ d) 63 = (k : Int) := by
            have e : (H : Int) / 2 ^ d = ((H / 2 ^ d : Nat) : Int) := by simp
            have h2 : H / 2 ^ d ≤ H := Nat.div_le_self _ _
            rw [e, ← hk]
            exact mask_i 6 63 _ rfl (by omega) (by omega)
          have hal2 : acc'.length ≤ 100000000 := by omega
          clear hk
          go_wp2_with (at_builtin; refine wpList_pushes 84 5 Tryz.underlying84 infoByte rfl _ _ rfl B acc' u5 [sg l k] _ _ rfl rfl 1 1 rfl _ rfl rfl rfl HO.out (by simp only [List.length_cons, List.length_nil]; omega) hz ?_)
          intro v5 w5 k1 k2 _
          have HO5 := Lib.hid k1
          have HK5 : Hid (Kept (fun k => k < B) w1 w5) := Lib.hid (HK.out.tr (Kept.of_belowK k2))
          have hz5 : B ≤ w5.heap.size := by have := k2.size; omega
          clear k1 k2
          go_wp2
          go_roundg d
          case rel => exact ⟨acc' ++ [sg l k], d, rfl, rfl, by omega, by omega, by rw [List.length_append, List.length_singleton]; omega, HE2, HO5, HK5, hz5⟩
          case measure => omega
        · have h6i : ¬ (6 : Int) ≤ (m : Int) := by omega
          have hm3 : m = 0 ∨ m = 2 ∨ m = 4 := by omega
          have HE2 : Hid (acc' ++ sx l (H % 2 ^ m) m (s.drop (i + 1)) = sx l 0 0 s) := Lib.hid (by
            rw [← HT.out, HS.out, ← List.append_assoc, ← HE.out, em_done l H (by omega), List.append_nil, show (n + 8) % 6 = m by omega])
          rcases hm3 with rfl | rfl | rfl
          · have h0 : H % 2 ^ 0 = 0 := Nat.mod_one H
            have ha : bits .and .i64 (H : Int) 0 = 0 := by rw [show (0 : Int) = ((0 : Nat) : Int) from rfl, mask_i 0 0 H rfl (by omega) (by omega), h0]
            go_wp2
            go_roundg (N - (i + 1))
            case rel => exact ⟨acc', H % 2 ^ 0, 0, i + 1, by first | rw [h0]; rfl | rw [ha, h0]; rfl, rfl, by go_num, by omega, rfl, .inl rfl, by omega, by omega, HE2, HO, HK, hz⟩
            case measure => omega
          · have ha : bits .and .i64 (H : Int) 3 = ((H % 2 ^ 2 : Nat) : Int) := mask_i 2 3 H rfl (by omega) (by omega)
            go_wp2
            go_roundg (N - (i + 1))
            case rel => exact ⟨acc', H % 2 ^ 2, 2, i + 1, by first | rfl | rw [ha], rfl, by go_num, by omega, rfl, .inr (.inl rfl), by omega, by omega, HE2, HO, HK, hz⟩
            case measure => omega
          · have ha : bits .and .i64 (H : Int) 15 = ((H % 2 ^ 4 : Nat) : Int) := mask_i 4 15 H rfl (by omega) (by omega)
            go_wp2
            go_roundg (N - (i + 1))
            case rel => exact ⟨acc', H % 2 ^ 4, 4, i + 1, by first | rfl | rw [ha], rfl, by go_num, by omega, rfl, .inr (.inr rfl), by omega, by omega, HE2, HO, HK, hz⟩
            case measure => omega
    · obtain rfl : i = N := by omega
      have hdn : s.drop i = [] := List.drop_eq_nil_of_le (by rw [HN.out]; exact Nat.le_refl _)
      rw [hdn, sx] at HT
      have hal2 : acc.length ≤ 100000000 := by omega
      clear hdn
      have HKw : Hid (Kept (fun _ => True) w wr) := Lib.hid (HK1.out.trans HK.out fun k hk _ => by have := HK1.out.size; have := HB.out; omega)
      rcases hn with rfl | rfl | rfl
      · rw [if_pos rfl, List.append_nil] at HT
        have CS := HO.out.string (P := Tryz.prog) Tryz.underlying84 Tryz.underlying5 Tryz.underlying9
        go_wp2
        go_ret
        exact ⟨by first | rfl | (rw [HT.out]; rfl), HKw.out⟩
      · rw [if_neg (by decide)] at HT
        obtain ⟨k, hk⟩ : ∃ k, h * 2 ^ (6 - 2) % 64 = k := ⟨_, rfl⟩
        have ix := HIX.out k (by omega)
        have hand : bits .and .i64 ((h : Int) * 16) 63 = (k : Int) := by
          rw [show (h : Int) * 16 = ((h * 16 : Nat) : Int) by omega, ← hk]
          exact mask_i 6 63 _ rfl (by omega) (by omega)
        rw [hk] at HT
        clear hk
        go_wp2_with (at_builtin; refine wpList_pushes 84 5 Tryz.underlying84 infoByte rfl _ _ rfl B acc u5 [sg l k] _ _ rfl rfl 1 1 rfl _ rfl rfl rfl HO.out (by simp only [List.length_cons, List.length_nil]; omega) hz ?_)
        intro v5 w5 k1 k2 _
        rw [HT.out] at k1
        have CS := OwnB.string (P := Tryz.prog) Tryz.underlying84 Tryz.underlying5 Tryz.underlying9 k1
        have HK5 : Hid (Kept (fun _ => True) w w5) := Lib.hid (HKw.out.trans (Kept.of_belowK k2) fun k hk _ => by have := HK1.out.size; have := HB.out; omega)
        clear k1 k2
        go_wp2
        go_ret
        exact ⟨rfl, HK5.out⟩
      · rw [if_neg (by decide)] at HT
        obtain ⟨k, hk⟩ : ∃ k, h * 2 ^ (6 - 4) % 64 = k := ⟨_, rfl⟩
        have ix := HIX.out k (by omega)
        have hand : bits .and .i64 ((h : Int) * 4) 63 = (k : Int) := by
          rw [show (h : Int) * 4 = ((h * 4 : Nat) : Int) by omega, ← hk]
          exact mask_i 6 63 _ rfl (by omega) (by omega)
        rw [hk] at HT
        clear hk
        go_wp2_with (at_builtin; refine wpList_pushes 84 5 Tryz.underlying84 infoByte rfl _ _ rfl B acc u5 [sg l k] _ _ rfl rfl 1 1 rfl _ rfl rfl rfl HO.out (by simp only [List.length_cons, List.length_nil]; omega) hz ?_)
        intro v5 w5 k1 k2 _
        rw [HT.out] at k1
        have CS := OwnB.string (P := Tryz.prog) Tryz.underlying84 Tryz.underlying5 Tryz.underlying9 k1
        have HK5 : Hid (Kept (fun _ => True) w w5) := Lib.hid (HKw.out.trans (Kept.of_belowK k2) fun k hk _ => by have := HK1.out.size; have := HB.out; omega)
        clear k1 k2
        go_wp2
        go_ret
        exact ⟨rfl, HK5.out⟩
end Go.Proofs.YtpcgfhleloonfaaGreatDoor
namespace Go.Proofs.YtpcgfhleloonfaaGreatDoor
open Go.RowKit Jo Ac
def plcI (l : List UInt8) (c : UInt8) : Int := match plc l c with | none => -1 | some k => (k : Int)
theorem plc_miss {l : List UInt8} {c : UInt8} : ∀ {i : Nat}, (∀ j, j < i → l[j]? ≠ some c) → i = l.length → plc l c = none := by
  intro i h hi
  subst hi
  unfold plc
  rw [List.findIdx?_eq_none_iff]
  intro x hx
  obtain ⟨j, hj, rfl⟩ := List.getElem_of_mem hx
  have := h j hj
  rw [List.getElem?_eq_getElem hj] at this
  simp only [ne_eq, Option.some.injEq] at this
  simpa using this
theorem plc_hit {l : List UInt8} {c : UInt8} {i : Nat} (h : ∀ j, j < i → l[j]? ≠ some c) (hi : l[i]? = some c) : plc l c = some i := by
  unfold plc
  obtain ⟨h1, h2⟩ := List.getElem?_eq_some_iff.1 hi
  rw [List.findIdx?_eq_some_iff_getElem]
  refine ⟨h1, by simpa using h2, fun j hj => ?_⟩
  have := h j hj
  rw [List.getElem?_eq_getElem (by omega)] at this
  simp only [ne_eq, Option.some.injEq] at this
  simpa using this
set_option maxHeartbeats 4000000 in
theorem place_any (l : List UInt8) (c : UInt8) (w : World) (hl : l.length ≤ 1000) : Calls Tryz.prog 82 #[S l, .int .u8 (c.toNat : Int)] w fun e w' => e = .returned (.int .i64 (plcI l c)) ∧ w' = w := by
  obtain ⟨N, hN⟩ : ∃ N, l.length = N := ⟨_, rfl⟩
  have hsz : (⟨l.toArray⟩ : ByteArray).size = N := by rw [size_mk, hN]
  have hN1 : N ≤ 1000 := by omega
  have HN := Lib.hid hN
  clear hN hl
  go_enter Tryz.func82, Tryz.ntmps82
  go_wp2_with fail
  go_loopg [8] N (fun q iv wx => ∃ i : Nat, iv = .int .i64 (i : Int) ∧ i ≤ N ∧ q = N - i ∧ Hid (∀ j, j < i → l[j]? ≠ some c) ∧ w = wx)
  case atStart => exact ⟨0, rfl, by omega, rfl, Lib.hid fun j hj => by omega, rfl⟩
  case round =>
    obtain ⟨i, rfl, hi, rfl, HM, rfl⟩ := hrel
    by_cases hlt : i < N
    · obtain ⟨x, hx⟩ : ∃ x, l[i]? = some x := ⟨_, List.getElem?_eq_getElem (by rw [HN.out]; exact hlt)⟩
      have ix := run_index_str (P := Tryz.prog) Tryz.underlying9 ⟨l.toArray⟩ (i : Int) i rfl (by rw [hsz]; exact hlt) x (List.getElem?_eq_some_iff.1 hx).2
      have hi1 : (i : Int) < (N : Int) := by omega
      have HX := Lib.hid hx
      clear hx
      by_cases hc : x = c
      · subst hc
        have hcc : ((x.toNat : Int) == (x.toNat : Int)) = true := by simp
        have HP : Hid (plcI l x = (i : Int)) := Lib.hid (by unfold plcI; rw [plc_hit HM.out HX.out])
        go_wp2
        go_ret
        exact ⟨by rw [HP.out]; rfl, rfl⟩
      · have hcc : ((x.toNat : Int) == (c.toNat : Int)) = false := by
          simp only [beq_eq_false_iff_ne, ne_eq]
          intro h
          exact hc (UInt8.toNat_inj.1 (by omega))
        have HM2 : Hid (∀ j, j < i + 1 → l[j]? ≠ some c) := Lib.hid fun j hj => by
          by_cases e : j = i
          · rw [e, HX.out]
            simpa using hc
          · exact HM.out j (by omega)
        clear hc
        go_wp2
        go_roundg (N - (i + 1))
        case rel => exact ⟨i + 1, by go_num, by omega, rfl, HM2, rfl⟩
        case measure => omega
    · obtain rfl : i = N := by omega
      have HP : Hid (plcI l c = -1) := Lib.hid (by unfold plcI; rw [plc_miss HM.out HN.out.symm])
      go_wp2
      go_ret
      exact ⟨by rw [HP.out]; rfl, rfl⟩
theorem dc_none {l : List UInt8} {c : UInt8} (hk : plc l c = none) (h n : Nat) (s : List UInt8) : dc l h n (c :: s) = none := by rw [dc, hk]
/-- fromSixes' answer. -/
def fsx (l s : List UInt8) : List UInt8 × Bool := match dc l 0 0 s with | none => ([], false) | some t => (t, sx l 0 0 t == s)
theorem map_cons_app {o : Option (List UInt8)} {x : UInt8} {a : List UInt8} : (o.map (x :: ·)).map (a ++ ·) = o.map ((a ++ [x]) ++ ·) := by
  cases o with
  | none => rfl
  | some y => simp
set_option maxRecDepth 100000 in
set_option maxHeartbeats 8000000 in
theorem fromSixes_any (s l : List UInt8) (w : World) (hs : s.length ≤ 8388608) (hl : l.length = 64) : Calls Tryz.prog 46 #[S s, S l] w fun e w' => e = .returned (.tuple #[S (fsx l s).1, .bool (fsx l s).2]) ∧ Kept (fun _ => True) w w' := by
  obtain ⟨N, hN⟩ : ∃ N, s.length = N := ⟨_, rfl⟩
  have hsz : (⟨s.toArray⟩ : ByteArray).size = N := by rw [size_mk, hN]
  have hN1 : N ≤ 8388608 := by omega
  have HN := Lib.hid hN
  have HL := Lib.hid hl
  have PL := Lib.hid (fun c w => place_any l c w (by omega))
  clear hN hl hs
  go_enter Tryz.func46, Tryz.ntmps46
  go_wp2_with (first | (refine wpList_bytes 9 84 5 Tryz.underlying9 Tryz.underlying84 Tryz.underlying5 rfl _ rfl s rfl ?_; refine Hid.out ?_))
  refine Lib.hid ?_
  intro v1 w1 ho1 hk1
  obtain ⟨g, cap, cur, fz, hv1, hg1, hrow, h4, h5, h6, h7⟩ := ho1
  rw [HN.out] at hv1
  have hgl : g < w1.heap.size := (Array.getElem?_eq_some_iff.1 hrow).1
  have HC : Hid (∀ W, Kept (fun k => k < w1.heap.size) w1 W → ∀ j c, s[j]? = some c → W.cell? ⟨g, j, none⟩ = some (.int .u8 (c.toNat : Int))) := Lib.hid fun W hW j c hj => by
    have hjl := (List.getElem?_eq_some_iff.1 hj).1
    rw [hW.cell hgl hgl, OwnZ.cell (n := 0) (cap := 0) hrow h7 hjl, (List.getElem?_eq_some_iff.1 hj).2]
  have HK1 := Lib.hid hk1
  clear h4 h5 h6 h7 hrow hk1 hg1
  rw [hv1]
  clear hv1
  obtain ⟨B, hB⟩ : ∃ B, w1.heap.size = B := ⟨_, rfl⟩
  rw [hB] at HC hgl
  have HB := Lib.hid hB
  clear hB
  go_wp2_with fail
  go_loopg [6, 7, 8, 16] N (fun q ov hv nv iv wx => ∃ (acc : List UInt8) (h n i : Nat), hv = .int .i64 (h : Int) ∧ nv = .int .i64 (n : Int) ∧ iv = .int .i64 (i : Int) ∧ i ≤ N ∧ q = N - i ∧ (n = 0 ∨ n = 2 ∨ n = 4 ∨ n = 6) ∧ h < 2 ^ n ∧ acc.length ≤ i ∧ Hid ((dc l h n (s.drop i)).map (acc ++ ·) = dc l 0 0 s) ∧ Hid (OwnB 5 B ov acc wx) ∧ Hid (Kept (fun k => k < B) w1 wx) ∧ B ≤ wx.heap.size)
  case atStart => exact ⟨[], 0, 0, 0, rfl, rfl, rfl, by omega, rfl, .inl rfl, by decide, by simp, Lib.hid (by simp), Lib.hid (OwnB.nil _ _ _), Lib.hid (Kept.refl _ _), by rw [HB.out]; exact Nat.le_refl _⟩
  case round =>
    obtain ⟨acc, h, n, i, rfl, rfl, rfl, hi, rfl, hn, hh, hal, HT, HO, HK, hz⟩ := hrel
    have hhb : h < 64 := by rcases hn with rfl | rfl | rfl | rfl <;> simp at hh <;> omega
    have HKw : Hid (Kept (fun _ => True) w wr) := Lib.hid (HK1.out.trans HK.out fun k hk _ => by have := HK1.out.size; have := HB.out; omega)
    by_cases hlt : i < N
    · obtain ⟨c, hc⟩ : ∃ c, s[i]? = some c := ⟨_, List.getElem?_eq_getElem (by rw [HN.out]; exact hlt)⟩
      have c0 := HC.out wr HK.out i c hc
      have hdr : s.drop i = c :: s.drop (i + 1) := by
        have hi' : i < s.length := by rw [HN.out]; exact hlt
        rw [List.drop_eq_getElem_cons hi', (List.getElem?_eq_some_iff.1 hc).2]
      rw [hdr] at HT
      have hi1 : (i : Int) < (N : Int) := by omega
      have P1 := Lib.hid (PL.out c)
      clear hc hdr
      cases hk : plc l c with
      | none =>
        have HF : Hid (fsx l s = ([], false)) := Lib.hid (by
          have := HT.out
          rw [dc_none hk] at this
          unfold fsx
          rw [← this]
          rfl)
        have hpi : plcI l c = -1 := by unfold plcI; rw [hk]
        rw [hpi] at P1
        clear hk hpi
        go_wp2_with fail
        refine (P1.out _).mono ?_
        rintro e w' ⟨rfl, rfl⟩
        go_wp2
        go_ret2
        exact ⟨by rw [HF.out]; rfl, HKw.out⟩
      | some k =>
        have hk64 : k < 64 := by have := plc_lt hk; have := HL.out; omega
        have hpi : plcI l c = (k : Int) := by unfold plcI; rw [hk]
        rw [hpi] at P1
        have ho := or6_i h k (by omega) hk64
        obtain ⟨H, hH⟩ : ∃ H, h * 64 + k = H := ⟨_, rfl⟩
        rw [hH] at ho
        have hHb : H < 4096 := by omega
        rw [dc_step hk, hH] at HT
        have hkn : ¬ (k : Int) < 0 := by omega
        by_cases hn2 : n < 2
        · obtain rfl : n = 0 := by omega
          obtain rfl : h = 0 := by simpa using hh
          rw [if_pos hn2] at HT
          have hHk : H < 64 := by omega
          have ha : bits .and .i64 (H : Int) 63 = (H : Int) := (mask_i 6 63 H rfl (by omega) (by omega)).trans (congrArg Int.ofNat (show H % 2 ^ 6 = H by omega))
          have ho0 : bits .or .i64 0 (k : Int) = (H : Int) := by simpa using ho
          clear hk hpi hH hn2
          go_wp2_with fail
          refine (P1.out _).mono ?_
          rintro e w' ⟨rfl, rfl⟩
          go_wp2
          go_roundg (N - (i + 1))
          case rel => exact ⟨acc, H, 6, i + 1, by first | rfl | rw [ha], rfl, by go_num, by omega, rfl, .inr (.inr (.inr rfl)), by omega, by omega, HT, HO, HK, hz⟩
          case measure => omega
        · rw [if_neg hn2, map_cons_app] at HT
          obtain ⟨d, hd⟩ : ∃ d, n - 2 = d := ⟨_, rfl⟩
          have hd3 : d = 0 ∨ d = 2 ∨ d = 4 := by omega
          rw [hd] at HT
          obtain ⟨x, hx⟩ : ∃ x, UInt8.ofNat (H / 2 ^ d) = x := ⟨_, rfl⟩
          rw [hx] at HT
          have hHn : H < 2 ^ (n + 6) := by
            rcases hn with rfl | rfl | rfl | rfl
            all_goals
              simp only [Nat.reducePow, Nat.reduceAdd] at hh ⊢
              omega
          have hxv : ((H / 2 ^ d : Nat) : Int) = (x.toNat : Int) := by
            rw [← hx, UInt8.toNat_ofNat']
            have : H / 2 ^ d < 256 := by
              rcases hd3 with rfl | rfl | rfl
              · obtain rfl : n = 2 := by omega
                simp only [Nat.reducePow, Nat.reduceAdd] at hHn ⊢
                omega
              · obtain rfl : n = 4 := by omega
                simp only [Nat.reducePow, Nat.reduceAdd] at hHn ⊢
                omega
              · obtain rfl : n = 6 := by omega
                simp only [Nat.reducePow, Nat.reduceAdd] at hHn ⊢
                omega
            rw [Nat.mod_eq_of_lt this]
          have hal2 : acc.length ≤ 100000000 := by omega
          have hdv : (H : Int) / 2 ^ d = (x.toNat : Int) := by
            rw [← hxv]
            simp
          have hxl := x.toNat_lt
          have hdi : (n : Int) + 6 - 8 = (d : Int) := by omega
          have h8 : (8 : Int) ≤ (n : Int) + 6 := by omega
          clear hk hpi hH hx hHn hxv
          go_wp2_with fail
          refine (P1.out _).mono ?_
          rintro e w' ⟨rfl, rfl⟩
          go_wp2_with (at_builtin; refine wpList_pushes 84 5 Tryz.underlying84 infoByte rfl _ _ rfl B acc u6 [x] _ _ rfl rfl 1 1 rfl _ rfl rfl rfl HO.out (by simp only [List.length_cons, List.length_nil]; omega) hz ?_)
          intro v5 w5 k1 k2 _
          have HO5 := Lib.hid k1
          have HK5 : Hid (Kept (fun k => k < B) w1 w5) := Lib.hid (HK.out.tr (Kept.of_belowK k2))
          have hz5 : B ≤ w5.heap.size := by have := k2.size; omega
          have hal5 : (acc ++ [x]).length ≤ i + 1 := by rw [List.length_append, List.length_singleton]; omega
          clear k1 k2 c0
          rcases hd3 with rfl | rfl | rfl
          · have h0 : H % 2 ^ 0 = 0 := Nat.mod_one H
            have ha : bits .and .i64 (H : Int) 0 = 0 := by rw [show (0 : Int) = ((0 : Nat) : Int) from rfl, mask_i 0 0 H rfl (by omega) (by omega), h0]
            go_wp2
            go_roundg (N - (i + 1))
            case rel => exact ⟨acc ++ [x], H % 2 ^ 0, 0, i + 1, by first | rw [h0]; rfl | rw [ha, h0]; rfl, rfl, by go_num, by omega, rfl, .inl rfl, by omega, hal5, HT, HO5, HK5, hz5⟩
            case measure => omega
          · have ha : bits .and .i64 (H : Int) 3 = ((H % 2 ^ 2 : Nat) : Int) := mask_i 2 3 H rfl (by omega) (by omega)
            go_wp2
            go_roundg (N - (i + 1))
            case rel => exact ⟨acc ++ [x], H % 2 ^ 2, 2, i + 1, by first | rfl | rw [ha], rfl, by go_num, by omega, rfl, .inr (.inl rfl), by omega, hal5, HT, HO5, HK5, hz5⟩
            case measure => omega
          · have ha : bits .and .i64 (H : Int) 15 = ((H % 2 ^ 4 : Nat) : Int) := mask_i 4 15 H rfl (by omega) (by omega)
            go_wp2
            go_roundg (N - (i + 1))
            case rel => exact ⟨acc ++ [x], H % 2 ^ 4, 4, i + 1, by first | rfl | rw [ha], rfl, by go_num, by omega, rfl, .inr (.inr (.inl rfl)), by omega, hal5, HT, HO5, HK5, hz5⟩
            case measure => omega
    · obtain rfl : i = N := by omega
      have hdn : s.drop i = [] := List.drop_eq_nil_of_le (by rw [HN.out]; exact Nat.le_refl _)
      rw [hdn, dc, Option.map_some, List.append_nil] at HT
      have HF : Hid (fsx l s = (acc, sx l 0 0 acc == s)) := Lib.hid (by unfold fsx; rw [← HT.out])
      have CS := HO.out.string (P := Tryz.prog) Tryz.underlying84 Tryz.underlying5 Tryz.underlying9
      have SX := Lib.hid (fun w => sixes_any acc l w (by omega) HL.out)
      clear hdn HT
      go_wp2_with fail
      refine (SX.out _).mono ?_
      rintro e w' ⟨rfl, hk'⟩
      go_wp2
      go_ret2
      exact ⟨by rw [HF.out]; rfl, HKw.out.tr hk'⟩
theorem ofNames_len : ofNames.length = 64 := rfl
theorem Base64_any (s : List UInt8) (w : World) (hs : s.length ≤ 16777216) : Calls Tryz.prog 35 #[S s] w fun e w' => e = .returned (S (b64 s)) ∧ Kept (fun _ => True) w w' := by
  have SX := Lib.hid (fun w => sixes_any s ofNames w hs ofNames_len)
  go_enter Tryz.func35, Tryz.ntmps35
  go_wp2_with fail
  refine (SX.out _).mono ?_
  rintro e w' ⟨rfl, hk'⟩
  go_wp2
  go_ret
  exact ⟨rfl, hk'⟩
/-- What FromBase64 answers. -/
def fbV (s : List UInt8) : Value := match unb64 s with | none => .tuple #[S [], .int .i64 24] | some t => .tuple #[S t, .int .i64 0]
theorem fsx_fb (s : List UInt8) : ((fsx ofNames s).2 = true ∧ unb64 s = some (fsx ofNames s).1) ∨ ((fsx ofNames s).2 = false ∧ unb64 s = none) := by
  unfold fsx unb64 b64
  cases dc ofNames 0 0 s with
  | none => exact .inr ⟨rfl, rfl⟩
  | some t =>
    by_cases h : sx ofNames 0 0 t = s
    · exact .inl ⟨by simpa using h, if_pos h⟩
    · exact .inr ⟨by simpa using h, if_neg h⟩
theorem FromBase64_any (s : List UInt8) (w : World) (hs : s.length ≤ 8388608) : Calls Tryz.prog 21 #[S s] w fun e w' => e = .returned (fbV s) ∧ Kept (fun _ => True) w w' := by
  have SX := Lib.hid (fun w => fromSixes_any s ofNames w hs ofNames_len)
  obtain ⟨t, ht⟩ : ∃ t, (fsx ofNames s).1 = t := ⟨_, rfl⟩
  obtain ⟨b, hb⟩ : ∃ b, (fsx ofNames s).2 = b := ⟨_, rfl⟩
  have hf := fsx_fb s
  rw [ht, hb] at SX hf
  clear ht hb
  go_enter Tryz.func21, Tryz.ntmps21
  go_wp2_with fail
  refine (SX.out _).mono ?_
  rintro e w' ⟨rfl, hk'⟩
  rcases hf with ⟨rfl, hu⟩ | ⟨rfl, hu⟩
  · have HU : Hid (fbV s = .tuple #[S t, .int .i64 0]) := Lib.hid (by unfold fbV; rw [hu])
    clear hu
    go_wp2
    go_ret2
    exact ⟨by rw [HU.out]; rfl, hk'⟩
  · have HU : Hid (fbV s = .tuple #[S [], .int .i64 24]) := Lib.hid (by unfold fbV; rw [hu])
    clear hu
    go_wp2
    go_ret2
    exact ⟨by rw [HU.out]; rfl, hk'⟩
end Go.Proofs.YtpcgfhleloonfaaGreatDoor
namespace Go.Proofs.YtpcgfhleloonfaaGreatDoor
open Go.RowKit Jo Ac
end Go.Proofs.YtpcgfhleloonfaaGreatDoor
namespace Go.Proofs.YtpcgfhleloonfaaGreatDoor
open Go.RowKit Jo Ac
end Go.Proofs.YtpcgfhleloonfaaGreatDoor
