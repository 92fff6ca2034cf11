/- What the proof of this law needs, part 3: walks of the program's functions and plain laws (texts AcH5, AcH6, AcF1, AcF2, AcH7, AcHW, AcH8). -/
import Derived.Test.YtpcgfhleloonfaaGreatDoorZb2
import Derived.Lib.BufferWrite
namespace Go.Proofs.YtpcgfhleloonfaaGreatDoor
open Go.RowKit Jo Ac
section
variable {s : List Nat} {b : List UInt8} {g : Nat} {W3 : World} {ops : Array Oper} {Q : Exit → Act → World → Prop}
/-- One more operation of the region has come up. -/
theorem stepB (_hsz10 : ops.size = 10) (H0 : Has ops 0 (some 15) (.load 136 (.tmp 3)) []) (H1 : Has ops 1 (some 16) (.call { callee := .value (.func 117), args := #[.tmp 15], argTypes := #[136] }) [0]) (H2 : Has ops 2 (some 17) (.call { callee := .value (.func 118), args := #[], argTypes := #[] }) [1]) (H3 : Has ops 3 (some 18) (.load 134 (.tmp 2)) []) (H4 : Has ops 4 (some 5) (.alloc 151) []) (H5 : Has ops 5 (some 6) (.alloc 151) []) (H6 : Has ops 6 (some 7) (.alloc 134) []) (H7 : Has ops 7 none (.store 151 (.tmp 5) (.tmp 16)) [4, 1]) (H8 : Has ops 8 none (.store 151 (.tmp 6) (.tmp 17)) [5, 2]) (H9 : Has ops 9 none (.store 134 (.tmp 7) (.tmp 18)) [6, 3]) (hs : s.length = 8) (hb : b.length = 64) (hz : W3.heap.size = g + 3)
    (h1 : W3.heap[g]? = some (.cells (cellsU s).toArray 134 (0, 0))) (h2 : W3.heap[g + 1]? = some (.cells (Lib.byteCells b).toArray 136 (0, 0)))
    (listed : Array Bool) (a : Act) (w : World) (i : Nat) (hsz : listed.size = ops.size) (hf : listed.getD i true = false) (he : ∀ o, ops[i]? = some o → ∀ e ∈ o.after, Region.binds .any e = true → listed.getD e.on false = true) (hI : InvB s b g W3 listed a w) :
    wpOp Tryz.prog ops Q i (InvB s b g W3 (listed.setIfInBounds i true)) a w := by
  obtain ⟨l0, l1, l2, l3, l4, l5, l6, l7, l8, l9, v5, v6, v7, v15, v16, v17, v18, rfl, rfl, hk, p0, p1, p2, p3, r5, r6, r7, d56, d57, d67, m7, m8, m9⟩ := hI
  have hi : i < 10 := by
    apply Nat.lt_of_not_le
    intro hn
    rw [Array.getD_eq_getD_getElem?, Array.getElem?_eq_none (by omega)] at hf
    cases hf
  have hsize := hk.size
  obtain rfl | rfl | rfl | rfl | rfl | rfl | rfl | rfl | rfl | rfl : i = 0 ∨ i = 1 ∨ i = 2 ∨ i = 3 ∨ i = 4 ∨ i = 5 ∨ i = 6 ∨ i = 7 ∨ i = 8 ∨ i = 9 := by omega
  · obtain ⟨o, ho, hg, hd, hop, hn⟩ := H0
    refine wpOp_load ho hg hop rfl (run_loadAt_mid w (g + 1) 0 136 (Lib.byteCells b) _ (range_of ((hk.block _ (by omega) trivial).trans h2)) Tryz.underlying136 rfl (by rw [show (Lib.byteCells b).length = 64 by simpa [Lib.byteCells] using hb]; kernel_rfl)) ?_
    rw [hd]
    exact ⟨true, l1, l2, l3, l4, l5, l6, l7, l8, l9, v5, v6, v7, bytesV b, v16, v17, v18, rfl, rfl, hk, fun _ => rfl, p1, p2, p3, r5, r6, r7, d56, d57, d67, m7, m8, m9⟩
  · have e0 : l0 = true := H1.need he (k := 0) (by simp)
    obtain ⟨o, ho, hg, hd, hop, hn⟩ := H1
    refine wpOp_call1 ho hg hop (fun w => by kernel_rfl) (p0 e0) (schedule_any b w hb) ?_
    rintro e w' ⟨rfl, hk'⟩
    refine ⟨_, rfl, ?_⟩
    rw [hd]
    exact ⟨l0, true, l2, l3, l4, l5, l6, l7, l8, l9, v5, v6, v7, v15, wordsV .u32 (sched b), v17, v18, rfl, rfl, hk.tr hk', p0, fun _ => rfl, p2, p3, r5.all hk', r6.all hk', r7.all hk', d56, d57, d67, m7, m8, m9⟩
  · obtain ⟨o, ho, hg, hd, hop, hn⟩ := H2
    refine wpOp_call0 ho hg hop (fun w => by kernel_rfl) (rounds_any w) ?_
    rintro e w' ⟨rfl, hk'⟩
    refine ⟨_, rfl, ?_⟩
    rw [hd]
    exact ⟨l0, l1, true, l3, l4, l5, l6, l7, l8, l9, v5, v6, v7, v15, v16, wordsV .u32 kTab, v18, rfl, rfl, hk.tr hk', p0, p1, fun _ => rfl, p3, r5.all hk', r6.all hk', r7.all hk', d56, d57, d67, m7, m8, m9⟩
  · obtain ⟨o, ho, hg, hd, hop, hn⟩ := H3
    refine wpOp_load ho hg hop rfl (run_loadAt_mid w g 0 134 (cellsU s) _ (range_of ((hk.block _ (by omega) trivial).trans h1)) Tryz.underlying134 rfl (by rw [List.length_map, hs]; kernel_rfl)) ?_
    rw [hd]
    exact ⟨l0, l1, l2, true, l4, l5, l6, l7, l8, l9, v5, v6, v7, v15, v16, v17, wordsV .u32 s, rfl, rfl, hk, p0, p1, p2, fun _ => rfl, r5, r6, r7, d56, d57, d67, m7, m8, m9⟩
  · obtain rfl : l4 = false := hf
    obtain rfl : l7 = false := by cases l7 with | false => rfl | true => exact absurd (m7 rfl) (by decide)
    have hka := (Kept.refl (fun _ => True) w).alloc (.cells (zer 64) 151)
    obtain ⟨o, ho, hg, hd, hop, hn⟩ := H4
    refine wpOp_alloc ho hg hop (c := zer 64) (zero_alloc _ _ _ Tryz.zeroValue151 rfl w) ?_
    rw [hd]
    exact ⟨l0, l1, l2, l3, true, l5, l6, false, l8, l9, _, v6, v7, v15, v16, v17, v18, rfl, rfl, hk.tr hka, p0, p1, p2, p3, RowAt.new rfl (by omega), r6.all hka, r7.all hka, Dif.new r6, Dif.new r7, d67, fun _ => rfl, m8, m9⟩
  · obtain rfl : l5 = false := hf
    obtain rfl : l8 = false := by cases l8 with | false => rfl | true => exact absurd (m8 rfl) (by decide)
    have hka := (Kept.refl (fun _ => True) w).alloc (.cells (zer 64) 151)
    obtain ⟨o, ho, hg, hd, hop, hn⟩ := H5
    refine wpOp_alloc ho hg hop (c := zer 64) (zero_alloc _ _ _ Tryz.zeroValue151 rfl w) ?_
    rw [hd]
    exact ⟨l0, l1, l2, l3, l4, true, l6, l7, false, l9, v5, _, v7, v15, v16, v17, v18, rfl, rfl, hk.tr hka, p0, p1, p2, p3, r5.all hka, RowAt.new rfl (by omega), r7.all hka, (Dif.new r5).symm, d57, Dif.new r7, m7, fun _ => rfl, m9⟩
  · obtain rfl : l6 = false := hf
    obtain rfl : l9 = false := by cases l9 with | false => rfl | true => exact absurd (m9 rfl) (by decide)
    have hka := (Kept.refl (fun _ => True) w).alloc (.cells (zer 8) 134)
    obtain ⟨o, ho, hg, hd, hop, hn⟩ := H6
    refine wpOp_alloc ho hg hop (c := zer 8) (zero_alloc _ _ _ Tryz.zeroValue134 rfl w) ?_
    rw [hd]
    exact ⟨l0, l1, l2, l3, l4, l5, true, l7, l8, false, v5, v6, _, v15, v16, v17, v18, rfl, rfl, hk.tr hka, p0, p1, p2, p3, r5.all hka, r6.all hka, RowAt.new rfl (by omega), d56, (Dif.new r5).symm, (Dif.new r6).symm, m7, m8, fun _ => rfl⟩
  · have e4 : l4 = true := H7.need he (k := 4) (by simp)
    have e1 : l1 = true := H7.need he (k := 1) (by simp)
    obtain ⟨k, hv, hlo, hst, hr⟩ := r5.store e4 (sched_len b) (by kernel_rfl)
    have hks := setCells_kept w k (cellsU (sched b))
    obtain ⟨o, ho, hg, hd, hop, hn⟩ := H7
    refine wpOp_store ho hg hop rfl (p1 e1) hst ?_
    rw [hd]
    refine ⟨l0, l1, l2, l3, l4, l5, l6, true, l8, l9, v5, v6, v7, v15, v16, v17, v18, rfl, rfl, hk.trans hks fun j hj _ e => by omega, p0, p1, p2, p3, hr, ?_, ?_, d56, d57, d67, fun _ => e4, m8, m9⟩
    · intro e; exact r6.kept hks (fun j hj ejk => d56 e4 e (by rw [hv, hj, ejk])) e
    · intro e; exact r7.kept hks (fun j hj ejk => d57 e4 e (by rw [hv, hj, ejk])) e
  · have e5 : l5 = true := H8.need he (k := 5) (by simp)
    have e2 : l2 = true := H8.need he (k := 2) (by simp)
    obtain ⟨k, hv, hlo, hst, hr⟩ := r6.store e5 kTab_len (by kernel_rfl)
    have hks := setCells_kept w k (cellsU kTab)
    obtain ⟨o, ho, hg, hd, hop, hn⟩ := H8
    refine wpOp_store ho hg hop rfl (p2 e2) hst ?_
    rw [hd]
    refine ⟨l0, l1, l2, l3, l4, l5, l6, l7, true, l9, v5, v6, v7, v15, v16, v17, v18, rfl, rfl, hk.trans hks fun j hj _ e => by omega, p0, p1, p2, p3, ?_, hr, ?_, d56, d57, d67, m7, fun _ => e5, m9⟩
    · intro e; exact r5.kept hks (fun j hj ejk => d56 e e5 (by rw [hv, hj, ejk])) e
    · intro e; exact r7.kept hks (fun j hj ejk => d67 e5 e (by rw [hv, hj, ejk])) e
  · have e6 : l6 = true := H9.need he (k := 6) (by simp)
    have e3 : l3 = true := H9.need he (k := 3) (by simp)
    obtain ⟨k, hv, hlo, hst, hr⟩ := r7.store e6 hs (by kernel_rfl)
    have hks := setCells_kept w k (cellsU s)
    obtain ⟨o, ho, hg, hd, hop, hn⟩ := H9
    refine wpOp_store ho hg hop rfl (p3 e3) hst ?_
    rw [hd]
    refine ⟨l0, l1, l2, l3, l4, l5, l6, l7, l8, true, v5, v6, v7, v15, v16, v17, v18, rfl, rfl, hk.trans hks fun j hj _ e => by omega, p0, p1, p2, p3, ?_, ?_, hr, d56, d57, d67, m7, m8, fun _ => e6⟩
    · intro e; exact r5.kept hks (fun j hj ejk => d57 e e6 (by rw [hv, hj, ejk])) e
    · intro e; exact r6.kept hks (fun j hj ejk => d67 e e6 (by rw [hv, hj, ejk])) e
end
end Go.Proofs.YtpcgfhleloonfaaGreatDoor
namespace Go.Proofs.YtpcgfhleloonfaaGreatDoor
open Go.RowKit Jo Ac
/-- The eight words, while they turn. -/
def VA (g : Nat) (a b c d e f h i : Nat) (w : World) : Prop := w.heap[g]? = some (.cells #[U a, U b, U c, U d, U e, U f, U h, U i] 134 (0, 0))
theorem VA.facts {g a b c d e f h i : Nat} {w : World} (v : VA g a b c d e f h i w) : (w.cell? ⟨g, 0, none⟩ = some (U a) ∧ w.cell? ⟨g, 1, none⟩ = some (U b) ∧ w.cell? ⟨g, 2, none⟩ = some (U c) ∧ w.cell? ⟨g, 3, none⟩ = some (U d) ∧ w.cell? ⟨g, 4, none⟩ = some (U e) ∧ w.cell? ⟨g, 5, none⟩ = some (U f) ∧ w.cell? ⟨g, 6, none⟩ = some (U h) ∧ w.cell? ⟨g, 7, none⟩ = some (U i)) ∧ ∀ o, w.frozen? ⟨g, o, none⟩ = false := by
  have hc : ∀ j, w.cell? ⟨g, j, none⟩ = #[U a, U b, U c, U d, U e, U f, U h, U i][j]? := fun j => cell_of_row w g j _ _ _ v
  exact ⟨⟨hc 0, hc 1, hc 2, hc 3, hc 4, hc 5, hc 6, hc 7⟩, frozen_row v⟩
theorem VA.set8 {g a b c d e f h i : Nat} {w : World} (v : VA g a b c d e f h i w) {x0 x1 x2 x3 x4 x5 x6 x7 : Value} (a' b' c' d' e' f' h' i' : Nat) (e0 : x0 = U a') (e1 : x1 = U b') (e2 : x2 = U c') (e3 : x3 = U d') (e4 : x4 = U e') (e5 : x5 = U f') (e6 : x6 = U h') (e7 : x7 = U i') :
    VA g a' b' c' d' e' f' h' i' ((((((((w.setCell ⟨g, 0, none⟩ x0).setCell ⟨g, 1, none⟩ x1).setCell ⟨g, 2, none⟩ x2).setCell ⟨g, 3, none⟩ x3).setCell ⟨g, 4, none⟩ x4).setCell ⟨g, 5, none⟩ x5).setCell ⟨g, 6, none⟩ x6).setCell ⟨g, 7, none⟩ x7) := by
  subst e0 e1 e2 e3 e4 e5 e6 e7
  have q0 := setCell_heap (o := 0) v (U a')
  have q1 := setCell_heap (o := 1) q0 (U b')
  have q2 := setCell_heap (o := 2) q1 (U c')
  have q3 := setCell_heap (o := 3) q2 (U d')
  have q4 := setCell_heap (o := 4) q3 (U e')
  have q5 := setCell_heap (o := 5) q4 (U f')
  have q6 := setCell_heap (o := 6) q5 (U h')
  have q7 := setCell_heap (o := 7) q6 (U i')
  simp only [List.setIfInBounds_toArray, List.set_cons_zero, List.set_cons_succ] at q7
  exact q7
theorem kept_set8 {g : Nat} {w w' : World} (h : Kept (fun k => k ≠ g) w w') (x0 x1 x2 x3 x4 x5 x6 x7 : Value) :
    Kept (fun k => k ≠ g) w ((((((((w'.setCell ⟨g, 0, none⟩ x0).setCell ⟨g, 1, none⟩ x1).setCell ⟨g, 2, none⟩ x2).setCell ⟨g, 3, none⟩ x3).setCell ⟨g, 4, none⟩ x4).setCell ⟨g, 5, none⟩ x5).setCell ⟨g, 6, none⟩ x6).setCell ⟨g, 7, none⟩ x7) :=
  (((((((h.setCell (.inr (by simp)) _).setCell (.inr (by simp)) _).setCell (.inr (by simp)) _).setCell (.inr (by simp)) _).setCell (.inr (by simp)) _).setCell (.inr (by simp)) _).setCell (.inr (by simp)) _).setCell (.inr (by simp)) _
theorem bg0_bits {x : Nat} (hx : x < 4294967296) : bits .xor .u32 (bits .xor .u32 (rotr x 2 : Int) (rotr x 13 : Int)) (rotr x 22 : Int) = (bg0 x : Int) := xor3 (rotr_lt _ _ hx) (rotr_lt _ _ hx) (rotr_lt _ _ hx)
theorem bg1_bits {x : Nat} (hx : x < 4294967296) : bits .xor .u32 (bits .xor .u32 (rotr x 6 : Int) (rotr x 11 : Int)) (rotr x 25 : Int) = (bg1 x : Int) := xor3 (rotr_lt _ _ hx) (rotr_lt _ _ hx) (rotr_lt _ _ hx)
theorem ch_bits {e f g : Nat} (he : e < 4294967296) (hf : f < 4294967296) (hg : g < 4294967296) : bits .xor .u32 (bits .and .u32 (e : Int) (f : Int)) (bits .and .u32 (bits .xor .u32 IntKind.u32.max (e : Int)) (g : Int)) = (chf e f g : Int) := by
  have hm : IntKind.u32.max = ((4294967295 : Nat) : Int) := by decide
  have h1 : 4294967295 ^^^ e < 4294967296 := Nat.xor_lt_two_pow (n := 32) (by omega) he
  rw [hm, u32_and_nat e f he hf, u32_xor_nat _ e (by omega) he, u32_and_nat _ g h1 hg, u32_xor_nat _ _ (Nat.and_lt_two_pow (n := 32) _ hf) (Nat.and_lt_two_pow (n := 32) _ hg), chf]
theorem mj_bits {a b c : Nat} (ha : a < 4294967296) (hb : b < 4294967296) (hc : c < 4294967296) : bits .xor .u32 (bits .xor .u32 (bits .and .u32 (a : Int) (b : Int)) (bits .and .u32 (a : Int) (c : Int))) (bits .and .u32 (b : Int) (c : Int)) = (mjf a b c : Int) := by
  rw [u32_and_nat a b ha hb, u32_and_nat a c ha hc, u32_and_nat b c hb hc, xor3 (Nat.and_lt_two_pow (n := 32) _ hb) (Nat.and_lt_two_pow (n := 32) _ hc) (Nat.and_lt_two_pow (n := 32) _ hc), mjf]
theorem rnds_snoc : ∀ (l : List (Nat × Nat)) (v : List Nat) (k w : Nat), rnds (l ++ [(k, w)]) v = rnd (rnds l v) k w
  | [], _, _, _ => rfl
  | (k', w') :: l, v, k, w => by rw [List.cons_append, rnds, rnds_snoc l]; rfl
theorem rnds_next {l : List (Nat × Nat)} {v : List Nat} {t k w : Nat} (h : l[t]? = some (k, w)) : rnds (l.take (t + 1)) v = rnd (rnds (l.take t) v) k w := by
  rw [List.take_add_one, h]
  exact rnds_snoc _ _ _ _
theorem zip_at {t k x : Nat} {b : List UInt8} (ht : t < 64) (hk : kTab.getD t 0 = k) (hx : (sched b).getD t 0 = x) : (kTab.zip (sched b))[t]? = some (k, x) := by
  have h1 : t < kTab.length := by rw [kTab_len]; exact ht
  have h2 : t < (sched b).length := by rw [sched_len]; exact ht
  rw [List.getElem?_eq_getElem (by rw [List.length_zip]; omega), List.getElem_zip]
  rw [List.getD_eq_getElem?_getD, List.getElem?_eq_getElem h1] at hk
  rw [List.getD_eq_getElem?_getD, List.getElem?_eq_getElem h2] at hx
  simp only [Option.getD_some] at hk hx
  rw [hk, hx]
set_option maxRecDepth 100000 in
set_option maxHeartbeats 8000000 in
theorem block_any (s : List Nat) (b : List UInt8) (w : World) (hs : s.length = 8) (hsl : ∀ x ∈ s, x < 4294967296) (hb : b.length = 64) :
    Calls Tryz.prog 98 #[wordsV .u32 s, bytesV b] w fun e w' => e = .returned (wordsV .u32 (blockS s b)) ∧ Kept (fun _ => True) w w' := by
  obtain ⟨g, hg⟩ : ∃ g, w.heap.size = g := ⟨_, rfl⟩
  obtain ⟨W1, hW1⟩ : ∃ W1, w.alloc (.cells (cellsU s).toArray 134) = W1 := ⟨_, rfl⟩
  obtain ⟨W2, hW2⟩ : ∃ W2, W1.alloc (.cells (Lib.byteCells b).toArray 136) = W2 := ⟨_, rfl⟩
  obtain ⟨W3, hW3⟩ : ∃ W3, W2.alloc (.cells #[.int .u32 0, .int .u32 0, .int .u32 0, .int .u32 0, .int .u32 0, .int .u32 0, .int .u32 0, .int .u32 0] 134) = W3 := ⟨_, rfl⟩
  have hz1 : W1.heap.size = g + 1 := by rw [← hW1, ← hg]; simp
  have hz2 : W2.heap.size = g + 2 := by rw [← hW2]; simp [hz1]
  have hz3 : W3.heap.size = g + 3 := by rw [← hW3]; simp [hz2]
  have h1 : W3.heap[g]? = some (.cells (cellsU s).toArray 134 (0, 0)) := by
    rw [← hW3, ← hW2]
    refine (((Kept.refl (fun _ => True) W1).alloc _).alloc _).block g (by omega) trivial |>.trans ?_
    rw [← hW1, ← hg]
    exact heap_alloc_new w _
  have h2 : W3.heap[g + 1]? = some (.cells (Lib.byteCells b).toArray 136 (0, 0)) := by
    rw [← hW3]
    refine ((Kept.refl (fun _ => True) W2).alloc _).block (g + 1) (by omega) trivial |>.trans ?_
    rw [← hW2, ← hz1]
    exact heap_alloc_new W1 _
  have h3 : FA .u32 134 8 (g + 2) (fun _ => 0) W3 := by rw [← hW3, ← hz2]; exact fa_new _ _ _ _ _ rfl
  have hK : Kept (fun _ => True) w W3 := by rw [← hW3, ← hW2, ← hW1]; exact (((Kept.refl _ w).alloc _).alloc _).alloc _
  have HK := Lib.hid hK
  have H1 := Lib.hid h1
  have H2 := Lib.hid h2
  have H3 := Lib.hid h3
  have HZ := Lib.hid hz3
  have HG := Lib.hid hg
  clear hK h1 h2 h3 hz3
  go_enter Tryz.func98, Tryz.ntmps98
  go_wp2_with fail
  refine wp_region_any (by kernel_rfl) ?_
  refine wpAny_inv (InvB s b g W3) (fun listed a w i => stepB rfl ⟨_, rfl, rfl, rfl, rfl, by simp⟩ ⟨_, rfl, rfl, rfl, rfl, by simp [Region.binds]⟩ ⟨_, rfl, rfl, rfl, rfl, by simp [Region.binds]⟩ ⟨_, rfl, rfl, rfl, rfl, by simp⟩ ⟨_, rfl, rfl, rfl, rfl, by simp⟩ ⟨_, rfl, rfl, rfl, rfl, by simp⟩ ⟨_, rfl, rfl, rfl, rfl, by simp⟩ ⟨_, rfl, rfl, rfl, rfl, by simp [Region.binds]⟩ ⟨_, rfl, rfl, rfl, rfl, by simp [Region.binds]⟩ ⟨_, rfl, rfl, rfl, rfl, by simp [Region.binds]⟩ hs hb HZ.out H1.out H2.out listed a w i) ?_ 10 _ _ _ rfl (by decide) ?_
  · intro listed a w4 _ hr hI
    obtain ⟨l0, l1, l2, l3, l4, l5, l6, l7, l8, l9, v5, v6, v7, v15, v16, v17, v18, rfl, rfl, hk, p0, p1, p2, p3, r5, r6, r7, d56, d57, d67, m7, m8, m9⟩ := hI
    have e0 : l0 = true := by have := hr 0; simpa [mem_ready, Region.binds] using this
    have e1 : l1 = true := by have := hr 1; simpa [mem_ready, Region.binds, e0] using this
    have e2 : l2 = true := by have := hr 2; simpa [mem_ready, Region.binds, e1] using this
    have e3 : l3 = true := by have := hr 3; simpa [mem_ready, Region.binds] using this
    have e4 : l4 = true := by have := hr 4; simpa [mem_ready, Region.binds] using this
    have e5 : l5 = true := by have := hr 5; simpa [mem_ready, Region.binds] using this
    have e6 : l6 = true := by have := hr 6; simpa [mem_ready, Region.binds] using this
    have e7 : l7 = true := by have := hr 7; simpa [mem_ready, Region.binds, e0, e1, e2, e3, e4, e5, e6] using this
    have e8 : l8 = true := by have := hr 8; simpa [mem_ready, Region.binds, e0, e1, e2, e3, e4, e5, e6, e7] using this
    have e9 : l9 = true := by have := hr 9; simpa [mem_ready, Region.binds, e0, e1, e2, e3, e4, e5, e6, e7, e8] using this
    obtain ⟨k5, c5, rfl, lo5, q5, _, f5⟩ := r5 e4
    obtain ⟨k6, c6, rfl, lo6, q6, _, f6⟩ := r6 e5
    obtain ⟨k7, c7, rfl, lo7, q7, _, f7⟩ := r7 e6
    obtain rfl := f5 e7
    obtain rfl := f6 e8
    obtain rfl := f7 e9
    have n57 : k5 ≠ k7 := fun e => d57 e4 e6 (by rw [e])
    have n67 : k6 ≠ k7 := fun e => d67 e5 e6 (by rw [e])
    have HKW := Lib.hid hk
    clear hr hk p0 p1 p2 p3 r5 r6 r7 d56 d57 d67 m7 m8 m9 f5 f6 f7
    have HQ5 := Lib.hid (show FA .u32 151 64 k5 (fun i => (sched b).getD i 0) w4 by unfold FA; rw [words_of (sched_len b) fun i _ => rfl]; exact q5)
    have HQ6 := Lib.hid (show FA .u32 151 64 k6 (fun i => kTab.getD i 0) w4 by unfold FA; rw [words_of kTab_len fun i _ => rfl]; exact q6)
    clear q5 q6
    obtain ⟨A0, B0, C0, D0, E0, F0, G0, I0, rfl⟩ : ∃ A0 B0 C0 D0 E0 F0 G0 I0, s = [A0, B0, C0, D0, E0, F0, G0, I0] := by
      match s, hs with
      | [a, b, c, d, e, f, g, h], _ => exact ⟨a, b, c, d, e, f, g, h, rfl⟩
    have HV : Hid (VA k7 A0 B0 C0 D0 E0 F0 G0 I0 w4) := Lib.hid q7
    have HSL := Lib.hid hsl
    clear q7 hsl hs
    unfold frB
    go_wp2
    go_loopg [19] 64 (fun q tv wx => ∃ t A B C D E F G I : Nat, tv = .int .i64 t ∧ t ≤ 64 ∧ q = 64 - t ∧ Hid (VA k7 A B C D E F G I wx) ∧ Hid (rnds ((kTab.zip (sched b)).take t) [A0, B0, C0, D0, E0, F0, G0, I0] = [A, B, C, D, E, F, G, I]) ∧ Hid (∀ x ∈ [A, B, C, D, E, F, G, I], x < 4294967296) ∧ Hid (Kept (fun k => k ≠ k7) w4 wx))
    case atStart => exact ⟨0, A0, B0, C0, D0, E0, F0, G0, I0, rfl, by omega, rfl, HV, Lib.hid rfl, HSL, Lib.hid (Kept.refl _ _)⟩
    case round =>
      obtain ⟨t, A, B, C, D, E, F, G, I, rfl, ht, rfl, HV, HR, HL, HKx⟩ := hrel
      by_cases hlt : t < 64
      · have h1 : (t : Int) < 64 := by omega
        obtain ⟨⟨c0, c1, c2, c3, c4, c5, c6, c7⟩, cf⟩ := HV.out.facts
        obtain ⟨x, hx⟩ : ∃ x, (sched b).getD t 0 = x := ⟨_, rfl⟩
        obtain ⟨k, hk⟩ : ∃ k, kTab.getD t 0 = k := ⟨_, rfl⟩
        have lx : x < 4294967296 := hx ▸ sched_lt b t
        have lk : k < 4294967296 := hk ▸ kTab_lt t
        have d5 := (HQ5.out.kept HKx.out n57).at hlt
        have d6 := (HQ6.out.kept HKx.out n67).at hlt
        rw [hx] at d5
        rw [hk] at d6
        have hA : A < 4294967296 := HL.out A (by simp)
        have hB : B < 4294967296 := HL.out B (by simp)
        have hC : C < 4294967296 := HL.out C (by simp)
        have hD : D < 4294967296 := HL.out D (by simp)
        have hE : E < 4294967296 := HL.out E (by simp)
        have hF : F < 4294967296 := HL.out F (by simp)
        have hG : G < 4294967296 := HL.out G (by simp)
        have hI : I < 4294967296 := HL.out I (by simp)
        have T1 := Lib.hid (fun w => turn_6 E w hE)
        have T2 := Lib.hid (fun w => turn_11 E w hE)
        have T3 := Lib.hid (fun w => turn_25 E w hE)
        have T4 := Lib.hid (fun w => turn_2 A w hA)
        have T5 := Lib.hid (fun w => turn_13 A w hA)
        have T6 := Lib.hid (fun w => turn_22 A w hA)
        have HXK := Lib.hid (And.intro hx hk)
        clear hx hk
        go_wp2_with fail
        go_quiet (first | (go_at_call 119; with_reducible exact Calls.quiet_of_same (T1.out _)) | (go_at_call 119; with_reducible exact Calls.quiet_of_same (T2.out _)) | (go_at_call 119; with_reducible exact Calls.quiet_of_same (T3.out _)))
        obtain ⟨w5, hw5⟩ : ∃ w', wr.drewN nq = w' := ⟨_, rfl⟩
        rw [hw5]
        replace HV : Hid (VA k7 A B C D E F G I w5) := Lib.hid (by rw [← hw5]; exact HV.out)
        replace HKx : Hid (Kept (fun k => k ≠ k7) w4 w5) := Lib.hid (by rw [← hw5]; exact HKx.out.drewN _)
        clear c0 c1 c2 c3 c4 c5 c6 c7 cf d5 d6 hw5
        obtain ⟨⟨c0, c1, c2, c3, c4, c5, c6, c7⟩, cf⟩ := HV.out.facts
        have d5 := (HQ5.out.kept HKx.out n57).at hlt
        have d6 := (HQ6.out.kept HKx.out n67).at hlt
        rw [HXK.out.1] at d5
        rw [HXK.out.2] at d6
        go_wp2_with fail
        go_quiet (fail)
        obtain ⟨w6, hw6⟩ : ∃ w', w5.drewN nq = w' := ⟨_, rfl⟩
        rw [hw6]
        replace HV : Hid (VA k7 A B C D E F G I w6) := Lib.hid (by rw [← hw6]; exact HV.out)
        replace HKx : Hid (Kept (fun k => k ≠ k7) w4 w6) := Lib.hid (by rw [← hw6]; exact HKx.out.drewN _)
        clear c0 c1 c2 c3 c4 c5 c6 c7 cf d5 d6 hw6
        obtain ⟨⟨c0, c1, c2, c3, c4, c5, c6, c7⟩, cf⟩ := HV.out.facts
        have d5 := (HQ5.out.kept HKx.out n57).at hlt
        have d6 := (HQ6.out.kept HKx.out n67).at hlt
        rw [HXK.out.1] at d5
        rw [HXK.out.2] at d6
        go_wp2_with fail
        go_quiet (first | (go_at_call 119; with_reducible exact Calls.quiet_of_same (T4.out _)) | (go_at_call 119; with_reducible exact Calls.quiet_of_same (T5.out _)) | (go_at_call 119; with_reducible exact Calls.quiet_of_same (T6.out _)))
        go_wp2
        go_roundg (64 - (t + 1))
        case rel =>
          have HR2 := rnds_next (v := [A0, B0, C0, D0, E0, F0, G0, I0]) (zip_at hlt HXK.out.2 HXK.out.1)
          rw [HR.out] at HR2
          refine ⟨t + 1, (I + bg1 E + chf E F G + k + x + (bg0 A + mjf A B C)) % 4294967296, A, B, C, (D + (I + bg1 E + chf E F G + k + x)) % 4294967296, E, F, G, by go_num, by omega, rfl, Lib.hid (VA.set8 (w := w6.drewN nq) HV.out _ _ _ _ _ _ _ _ ?_ rfl rfl rfl ?_ rfl rfl rfl), Lib.hid HR2, Lib.hid ?_, Lib.hid (kept_set8 (HKx.out.drewN _) _ _ _ _ _ _ _ _)⟩
          · rw [bg1_bits hE, ch_bits hE hF hG, bg0_bits hA, mj_bits hA hB hC]
            congr 1 <;> omega
          · rw [bg1_bits hE, ch_bits hE hF hG]
            congr 1 <;> omega
          · intro z hz
            simp only [List.mem_cons, List.not_mem_nil, or_false] at hz
            rcases hz with rfl | rfl | rfl | rfl | rfl | rfl | rfl | rfl <;> first | assumption | omega
        case measure => omega
      · obtain rfl : t = 64 := by omega
        rw [show ((64 : Nat) : Int) = 64 from rfl]
        have HRE : Hid (rnds (kTab.zip (sched b)) [A0, B0, C0, D0, E0, F0, G0, I0] = [A, B, C, D, E, F, G, I]) := Lib.hid (by have := HR.out; rwa [List.take_of_length_le (by rw [List.length_zip, kTab_len, sched_len]; decide)] at this)
        have hS : FA .u32 134 8 g (fun i => [A0, B0, C0, D0, E0, F0, G0, I0].getD i 0) wr := by
          refine FA.kept (ok := fun k => k ≠ k7) ?_ HKx.out (by omega)
          refine FA.kept (w := W3) (ok := fun _ => True) ?_ HKW.out trivial
          exact H1.out
        have hRes := (H3.out.kept HKW.out trivial).kept HKx.out (show g + 2 ≠ k7 by omega)
        have hVV : FA .u32 134 8 k7 (fun i => [A, B, C, D, E, F, G, I].getD i 0) wr := HV.out
        have HKwr : Hid (Kept (fun _ => True) w wr) := Lib.hid ((HK.out.tr HKW.out).trans HKx.out fun k hk _ e => by have := HG.out; omega)
        have HS := Lib.hid hS
        have HRes := Lib.hid hRes
        have HVV := Lib.hid hVV
        clear HR HV HKx hS hRes hVV
        obtain ⟨w8, rfl⟩ : ∃ w8, w8 = wr := ⟨wr, rfl⟩
        go_wp2
        go_loopg [110] 8 (fun q iv wx => ∃ (j : Nat) (f : Nat → Nat), iv = .int .i64 j ∧ j ≤ 8 ∧ q = 8 - j ∧ Hid (FA .u32 134 8 g f wx) ∧ Hid (∀ i, i < 8 → f i = if i < j then ([A0, B0, C0, D0, E0, F0, G0, I0].getD i 0 + [A, B, C, D, E, F, G, I].getD i 0) % 4294967296 else [A0, B0, C0, D0, E0, F0, G0, I0].getD i 0) ∧ Hid (Kept (fun k => k ≠ g) w8 wx))
        case atStart => exact ⟨0, _, rfl, by omega, rfl, HS, Lib.hid fun i _ => by simp, Lib.hid (Kept.refl _ _)⟩
        case round =>
          obtain ⟨j, f, rfl, hj, rfl, HF, HFv, HKy⟩ := hrel
          by_cases hjlt : j < 8
          · obtain ⟨a, ha⟩ : ∃ a, [A0, B0, C0, D0, E0, F0, G0, I0].getD j 0 = a := ⟨_, rfl⟩
            obtain ⟨c, hc⟩ : ∃ c, [A, B, C, D, E, F, G, I].getD j 0 = c := ⟨_, rfl⟩
            have r0 := HF.out.at hjlt
            have r1 := HF.out.fz j
            have r2 := (HVV.out.kept HKy.out (by omega)).at hjlt
            rw [HFv.out j hjlt, if_neg (by omega), ha] at r0
            rw [hc] at r2
            have HAC := Lib.hid (And.intro ha hc)
            have hj1 : (j : Int) < 8 := by omega
            have hne : g ≠ k7 := by omega
            clear ha hc
            go_wp2
            go_region
            go_wp2
            go_roundg (8 - (j + 1))
            case rel =>
              refine ⟨j + 1, _, by go_num, by omega, rfl, Lib.hid (FA.set (w := wr.drew) HF.out ((a + c) % 4294967296) _ (by go_num)), Lib.hid fun i hi => ?_, Lib.hid (HKy.out.drew.setCell (.inr (by simp)) _)⟩
              by_cases e : i = j
              · rw [e, upd_same, if_pos (by omega), HAC.out.1, HAC.out.2]
              · rw [upd_ne _ e, HFv.out i hi]
                by_cases e2 : i < j
                · rw [if_pos e2, if_pos (by omega)]
                · rw [if_neg e2, if_neg (by omega)]
            case measure => omega
          · obtain rfl : j = 8 := by omega
            rw [show ((8 : Nat) : Int) = 8 from rfl]
            have hB : blockS [A0, B0, C0, D0, E0, F0, G0, I0] b = addW [A0, B0, C0, D0, E0, F0, G0, I0] [A, B, C, D, E, F, G, I] := by unfold blockS; rw [HRE.out]
            have hBl : (blockS [A0, B0, C0, D0, E0, F0, G0, I0] b).length = 8 := by rw [hB]; rfl
            have hBv : ∀ i, i < 8 → f i = (blockS [A0, B0, C0, D0, E0, F0, G0, I0] b).getD i 0 := fun i hi => by
              rw [HFv.out i hi, if_pos hi, hB]
              obtain rfl | rfl | rfl | rfl | rfl | rfl | rfl | rfl : i = 0 ∨ i = 1 ∨ i = 2 ∨ i = 3 ∨ i = 4 ∨ i = 5 ∨ i = 6 ∨ i = 7 := by omega
              all_goals rfl
            have hr := words_range HF.out hBl hBv
            have hF2 := HRes.out.kept HKy.out (by omega)
            have hth := fa_there hF2 (m := (cellsU (blockS [A0, B0, C0, D0, E0, F0, G0, I0] b)).toArray.size) (by simp [hBl])
            have hth2 : wr.there (g + 2) 0 (cellsU (blockS [A0, B0, C0, D0, E0, F0, G0, I0] b)).length := by simpa using hth
            have hone := words_one .u32 (blockS [A0, B0, C0, D0, E0, F0, G0, I0] b)
            have hi1 : (Tryz.prog.info? 134).map (·.size) = some (cellsU (blockS [A0, B0, C0, D0, E0, F0, G0, I0] b)).length := by rw [List.length_map, hBl]; kernel_rfl
            have hi2 : (Tryz.prog.info? 134).map (·.size) = some (cellsU (blockS [A0, B0, C0, D0, E0, F0, G0, I0] b)).toArray.size := by rw [List.size_toArray, List.length_map, hBl]; kernel_rfl
            have HKZ : Hid (Kept (fun _ => True) w wr) := Lib.hid (HKwr.out.trans HKy.out fun k hk _ e => by have := HG.out; omega)
            clear hB hBv hBl hF2
            go_wp2_with (first | (refine wpList_load_mid rfl 134 _ rfl g 0 rfl _ _ hr Tryz.underlying134 rfl hi1 ?_) | (refine wpList_store_mid rfl 134 _ _ rfl (g + 2) 0 _ rfl rfl hth hi2 hone ?_; refine Hid.out ?_))
            refine Lib.hid ?_
            go_wp2_with (refine bodyPost_ret (v := wordsV .u32 (blockS [A0, B0, C0, D0, E0, F0, G0, I0] b)) (results_cell Tryz.results98 rfl (run_loadVar_mid _ _ _ _ _ _ (World.rangeAt_setCells_same _ _ _ _ hth2) Tryz.underlying134 rfl hi1)) rfl ?_)
            exact Kept.setCells (.inl (by have := HG.out; omega)) _ _ HKZ.out
  · exact ⟨false, false, false, false, false, false, false, false, false, false, undef, undef, undef, undef, undef, undef, undef, rfl, rfl, (Kept.refl _ W3).drew, nofun, nofun, nofun, nofun, nofun, nofun, nofun, nofun, nofun, nofun, nofun, nofun, nofun⟩
end Go.Proofs.YtpcgfhleloonfaaGreatDoor
namespace Go.Proofs.YtpcgfhleloonfaaGreatDoor
open Go.RowKit Jo Ac
theorem drewN_add (w : World) (n m : Nat) : (w.drewN n).drewN m = w.drewN (n + m) := by
  unfold World.drewN
  simp [Nat.add_assoc]
theorem ofInt_i64 (a : Nat) (ha : a < 9223372036854775808) : (BitVec.ofInt 64 (a : Int)).toNat = a := by
  rw [BitVec.ofInt_natCast, BitVec.toNat_ofNat]; exact Nat.mod_eq_of_lt (by omega)
theorem wrap_small (n : Nat) (h : n < 9223372036854775808) : IntKind.i64.wrap (n : Int) = (n : Int) := by
  rw [IntKind.wrap_i64]; omega
theorem i64_and_nat (a b : Nat) (ha : a < 9223372036854775808) (hb : b < 9223372036854775808) : bits .and .i64 (a : Int) (b : Int) = ((a &&& b : Nat) : Int) := by
  have hx : a &&& b < 2 ^ 63 := Nat.and_lt_two_pow _ (by omega)
  show IntKind.i64.wrap ((BitVec.ofInt 64 (a : Int) &&& BitVec.ofInt 64 (b : Int)).toNat : Int) = _
  rw [BitVec.toNat_and, ofInt_i64 a ha, ofInt_i64 b hb, wrap_small _ (by omega)]
theorem i64_orN (a b : Nat) (ha : a < 9223372036854775808) (hb : b < 9223372036854775808) : bits .or .i64 (a : Int) (b : Int) = ((a ||| b : Nat) : Int) := by
  have hx : a ||| b < 2 ^ 63 := Nat.or_lt_two_pow (by omega) (by omega)
  show IntKind.i64.wrap ((BitVec.ofInt 64 (a : Int) ||| BitVec.ofInt 64 (b : Int)).toNat : Int) = _
  rw [BitVec.toNat_or, ofInt_i64 a ha, ofInt_i64 b hb, wrap_small _ (by omega)]
end Go.Proofs.YtpcgfhleloonfaaGreatDoor
namespace Go.Proofs.YtpcgfhleloonfaaGreatDoor
open Go.RowKit Jo Ac
theorem or_shift {a b k : Nat} (hb : b < 2 ^ k) : a * 2 ^ k ||| b = a * 2 ^ k + b := by
  have := Nat.shiftLeft_add_eq_or_of_lt (b := b) (i := k) hb a
  rw [Nat.shiftLeft_eq] at this
  exact this.symm
end Go.Proofs.YtpcgfhleloonfaaGreatDoor
namespace Go.Proofs.YtpcgfhleloonfaaGreatDoor
open Go.RowKit Jo Ac
theorem setRow_kept {w : World} {g : Nat} {cs : Array Value} : Kept (fun k => k ≠ g) w (w.setRow g cs) :=
  ⟨rfl, rfl, rfl, by simp [World.setRow], fun i _ hi => by simp [World.setRow, Array.getElem?_modify, Ne.symm hi]⟩
section
variable {P : Program}
/-- copy(dst, s), dst in a row from place o on: as much of s as fits. -/
theorem run_copy_part (w : World) (dT sT ty elem : TypeId) (g o dLen dCap : Nat) (l : List UInt8) (cur : Array Value) (t : TypeId)
    (hu : P.underlying dT = some (.slice elem)) (hs : (P.info? elem).map (·.size) = some 1) (hg : w.heap[g]? = some (.cells cur t (0, 0))) (hfit : o + dLen ≤ cur.size) :
    (Builtin.copy_ #[dT, sT] ty #[.slice (some ⟨g, o, none⟩) dLen dCap, S l]).run P w =
      .ok (.int .i64 ((min l.length dLen : Nat) : Int)) (w.setRow g (cur.toList.take o ++ Lib.byteCells (l.take dLen) ++ cur.toList.drop (o + min l.length dLen)).toArray) := by
  have hlen : (Lib.byteCells (l.take dLen)).length = min l.length dLen := by rw [Lib.byteCells_length, List.length_take, Nat.min_comm]
  have hst := run_storeCells_at P g o t (Lib.byteCells (l.take dLen)) 0 cur w hg (by rw [hlen]; omega) (Lib.byteCells_one _)
  rw [hlen] at hst
  simp only [Nat.add_zero] at hst
  have hsz : (⟨l.toArray⟩ : ByteArray).size = l.length := size_mk l
  have hmin : Nat.min (⟨l.toArray⟩ : ByteArray).size dLen = min l.length dLen := by rw [hsz]
  have htk : List.take (min l.length dLen) (List.map (fun b : UInt8 => Value.int IntKind.u8 (b.toNat : Int)) l) = Lib.byteCells (l.take dLen) := by
    unfold Lib.byteCells
    rw [← List.map_take]
    congr 1
    rw [List.take_eq_take_iff]
    omega
  cases hq : P.info? elem with
  | none => simp [hq] at hs
  | some i =>
    simp [Builtin.copy_, run_underlying hu, Builtin.lenOf, Builtin.firstCells, sizeOf, typeInfo, hq, hmin]
    rw [htk, hst]
    simp [Result.andThen, goInt]
end
theorem addW_len : ∀ (s v : List Nat), s.length = v.length → (addW s v).length = s.length := fun s v h => by unfold addW; rw [List.length_zipWith]; omega
theorem rnd_len {v : List Nat} (h : v.length = 8) (k w : Nat) : (rnd v k w).length = 8 := by
  match v, h with
  | [a, b, c, d, e, f, g, i], _ => rfl
theorem rnds_len : ∀ (l : List (Nat × Nat)) {v : List Nat}, v.length = 8 → (rnds l v).length = 8
  | [], _, h => h
  | (k, w) :: l, _v, h => rnds_len l (rnd_len h k w)
theorem blockS_len {s : List Nat} {b : List UInt8} (h : s.length = 8) : (blockS s b).length = 8 := by
  unfold blockS
  rw [addW_len _ _ (by rw [rnds_len _ h, h]), h]
theorem blockS_lt {s : List Nat} {b : List UInt8} : ∀ x ∈ blockS s b, x < 4294967296 := fun x hx => by
  unfold blockS addW at hx
  obtain ⟨i, hi, rfl⟩ := List.getElem_of_mem hx
  rw [List.getElem_zipWith]
  omega
theorem blocksS_len : ∀ (n : Nat) {s : List Nat} {b : List UInt8}, s.length = 8 → (blocksS n s b).length = 8
  | 0, _, _, h => h
  | n + 1, _, _, h => blocksS_len n (blockS_len h)
theorem blocksS_lt : ∀ (n : Nat) {s : List Nat} {b : List UInt8}, (∀ x ∈ s, x < 4294967296) → ∀ x ∈ blocksS n s b, x < 4294967296
  | 0, _, _, h => h
  | n + 1, _, _, _ => blocksS_lt n blockS_lt
theorem blocksS_app : ∀ (n : Nat) (s : List Nat) (b x : List UInt8), 64 * n ≤ b.length → blocksS n s (b ++ x) = blocksS n s b
  | 0, _, _, _, _ => rfl
  | n + 1, s, b, x, h => by
    rw [blocksS, blocksS, List.take_append_of_le_length (by omega), List.drop_append_of_le_length (by omega)]
    exact blocksS_app n _ _ x (by rw [List.length_drop]; omega)
theorem blocksS_snoc : ∀ (n : Nat) (s : List Nat) (b x : List UInt8), b.length = 64 * n → x.length = 64 → blocksS (n + 1) s (b ++ x) = blockS (blocksS n s b) x
  | 0, s, b, x, h, hx => by
    obtain rfl : b = [] := List.eq_nil_of_length_eq_zero (by omega)
    show blocksS 0 (blockS s (x.take 64)) (x.drop 64) = _
    rw [List.take_of_length_le (by omega)]
    rfl
  | n + 1, s, b, x, h, hx => by
    rw [blocksS, List.take_append_of_le_length (by omega), List.drop_append_of_le_length (by omega), blocksS_snoc n _ _ x (by rw [List.length_drop]; omega) hx, blocksS]
theorem h0_lt : ∀ x ∈ h0, x < 4294967296 := by decide
def stH (t : List UInt8) : List Nat := blocksS (t.length / 64) h0 t
theorem stH_len (t : List UInt8) : (stH t).length = 8 := blocksS_len _ rfl
theorem stH_lt (t : List UInt8) : ∀ x ∈ stH t, x < 4294967296 := blocksS_lt _ h0_lt
def hasherCells (st : List Nat) (rest : List UInt8) (n : Nat) : List Value := cellsU st ++ Lib.byteCells rest ++ [Value.int .i64 n]
/-- A hasher that has taken a text. -/
def HS (g : Nat) (t : List UInt8) (w : World) : Prop := ∃ rest : List UInt8, rest.length = 64 ∧ rest.take (t.length % 64) = t.drop (64 * (t.length / 64)) ∧ w.heap[g]? = some (.cells (hasherCells (stH t) rest t.length).toArray 138 (0, 0))
theorem HS.lt {g : Nat} {t : List UInt8} {w : World} (h : HS g t w) : g < w.heap.size := by
  obtain ⟨r, _, _, h⟩ := h
  exact (Array.getElem?_eq_some_iff.1 h).1
theorem HS.kept {g : Nat} {t : List UInt8} {w w' : World} {ok : Nat → Prop} (h : HS g t w) (hk : Kept ok w w') (ho : ok g) : HS g t w' := by
  have hl := h.lt
  obtain ⟨r, h1, h2, h3⟩ := h
  exact ⟨r, h1, h2, (hk.block g hl ho).trans h3⟩
end Go.Proofs.YtpcgfhleloonfaaGreatDoor
namespace Go.Proofs.YtpcgfhleloonfaaGreatDoor
open Go.RowKit Jo Ac
theorem hasher_range0 {st : List Nat} {rest : List UInt8} {n g : Nat} {w : World} (h : w.heap[g]? = some (.cells (hasherCells st rest n).toArray 138 (0, 0))) : w.rangeAt g 0 (cellsU st) := fun j v hj => by
  rw [Nat.zero_add, cell_of_row w g j _ _ _ h]
  have hjl := (List.getElem?_eq_some_iff.1 hj).1
  unfold hasherCells
  rw [List.getElem?_toArray, List.append_assoc, List.getElem?_append_left hjl]
  exact hj
theorem hasher_range8 {st : List Nat} {rest : List UInt8} {n g : Nat} {w : World} (h : w.heap[g]? = some (.cells (hasherCells st rest n).toArray 138 (0, 0))) (hst : st.length = 8) : w.rangeAt g 8 (Lib.byteCells rest) := fun j v hj => by
  rw [cell_of_row w g (8 + j) _ _ _ h]
  have h1 : (cellsU st).length = 8 := by simpa using hst
  have hjl := (List.getElem?_eq_some_iff.1 hj).1
  unfold hasherCells
  rw [List.getElem?_toArray, List.append_assoc, List.getElem?_append_right (by omega), h1, show 8 + j - 8 = j by omega, List.getElem?_append_left hjl]
  exact hj
theorem hasher_there {st : List Nat} {rest : List UInt8} {n g : Nat} {w : World} (h : w.heap[g]? = some (.cells (hasherCells st rest n).toArray 138 (0, 0))) (hst : st.length = 8) {m : Nat} (hm : m = 8) : w.there g 0 m := fun j hj => by
  subst hm
  have h1 : (cellsU st).length = 8 := by simpa using hst
  have := hasher_range0 h j (cellsU st)[j] (List.getElem?_eq_getElem _)
  rw [this, frozen_row h]
  exact ⟨rfl, rfl⟩
/-- A hasher's state, stored anew. -/
theorem hasher_state {st st' : List Nat} {rest : List UInt8} {n g : Nat} {w : World} (h : w.heap[g]? = some (.cells (hasherCells st rest n).toArray 138 (0, 0))) (hst : st.length = 8) (hst' : st'.length = 8) : (w.setCells g 0 (cellsU st')).heap[g]? = some (.cells (hasherCells st' rest n).toArray 138 (0, 0)) := by
  obtain ⟨c, h1, h2⟩ := setCells_heap (cellsU st') 0 h
  rw [h1]
  have l1 : (cellsU st).length = 8 := by simpa using hst
  have l2 : (cellsU st').length = 8 := by simpa using hst'
  have hs : c.size = 8 + rest.length + 1 := by rw [h2]; simp [hasherCells, hst, Lib.byteCells]; omega
  congr 2
  apply Array.ext_getElem?
  intro j
  have hcj : c[j]? = (w.setCells g 0 (cellsU st')).cell? ⟨g, j, none⟩ := (cell_of_row _ g j _ _ _ h1).symm
  by_cases hj : j < 8
  · have hr := World.rangeAt_setCells_same w g 0 (cellsU st') (by rw [l2]; exact hasher_there h hst rfl) j (cellsU st')[j] (List.getElem?_eq_getElem _)
    rw [Nat.zero_add] at hr
    rw [hcj, hr]
    unfold hasherCells
    rw [List.getElem?_toArray, List.append_assoc, List.getElem?_append_left (by omega), List.getElem?_eq_getElem]
  · rw [hcj, World.cell?_setCells_out g (cellsU st') 0 w ⟨g, j, none⟩ (fun _ _ => .inr (by rw [l2]; show 0 + 8 ≤ j; omega)), cell_of_row w g j _ _ _ h]
    unfold hasherCells
    rw [List.getElem?_toArray, List.getElem?_toArray, List.append_assoc, List.append_assoc, List.getElem?_append_right (show (cellsU st).length ≤ j by omega), List.getElem?_append_right (show (cellsU st').length ≤ j by omega), l1, l2]
/-- The frame of Write in that statement. -/
def frW (g : Nat) (u1 u2 u3 u4 u5 u6 u7 u8 u9 u10 u11 u12 u13 u14 u15 u16 u17 u18 u19 u20 u21 u22 u23 u24 u25 u26 u27 u28 u29 u30 u31 u32 u33 u34 u35 u36 v37 v38 v39 v40 v41 v42 v43 v44 v45 v46 v47 v48 : Value) : Act := ⟨#[.pointer (some ⟨g, 0, none⟩), u1, u2, u3, u4, u5, u6, u7, u8, u9, u10, u11, u12, u13, u14, u15, u16, u17, u18, u19, u20, u21, u22, u23, u24, u25, u26, u27, u28, u29, u30, u31, u32, u33, u34, u35, u36, v37, v38, v39, v40, v41, v42, v43, v44, v45, v46, v47, v48], []⟩
section
variable {g : Nat} {st : List Nat} {rest : List UInt8} {u1 u2 u3 u4 u5 u6 u7 u8 u9 u10 u11 u12 u13 u14 u15 u16 u17 u18 u19 u20 u21 u22 u23 u24 u25 u26 u27 u28 u29 u30 u31 u32 u33 u34 u35 u36 : Value} {W : World} {ops : Array Oper} {Q : Exit → Act → World → Prop}
def InvW (g : Nat) (st : List Nat) (rest : List UInt8) (u1 u2 u3 u4 u5 u6 u7 u8 u9 u10 u11 u12 u13 u14 u15 u16 u17 u18 u19 u20 u21 u22 u23 u24 u25 u26 u27 u28 u29 u30 u31 u32 u33 u34 u35 u36 : Value) (W : World) (listed : Array Bool) (a : Act) (w : World) : Prop :=
  ∃ (l0 l1 l2 l3 l4 l5 l6 l7 l8 l9 l10 l11 l12 : Bool) (v37 v38 v39 v40 v41 v42 v43 v44 v45 v46 v47 v48 : Value), listed = #[l0, l1, l2, l3, l4, l5, l6, l7, l8, l9, l10, l11, l12] ∧ a = frW g u1 u2 u3 u4 u5 u6 u7 u8 u9 u10 u11 u12 u13 u14 u15 u16 u17 u18 u19 u20 u21 u22 u23 u24 u25 u26 u27 u28 u29 u30 u31 u32 u33 u34 u35 u36 v37 v38 v39 v40 v41 v42 v43 v44 v45 v46 v47 v48 ∧
    (l0 = true → v37 = .pointer (some ⟨g, 0, none⟩)) ∧ (l1 = true → v38 = .pointer (some ⟨g, 0, none⟩)) ∧ (l2 = true → v39 = .pointer (some ⟨g, 0, none⟩)) ∧ (l3 = true → v40 = .pointer (some ⟨g, 0, none⟩)) ∧ (l4 = true → v41 = wordsV .u32 st) ∧ (l5 = true → v42 = .pointer (some ⟨g, 0, none⟩)) ∧ (l6 = true → v43 = .pointer (some ⟨g, 0, none⟩)) ∧ (l7 = true → v44 = .pointer (some ⟨g, 8, none⟩)) ∧ (l8 = true → v45 = bytesV rest) ∧ (l9 = true → v46 = wordsV .u32 (blockS st rest)) ∧ (l10 = true → v47 = .pointer (some ⟨g, 0, none⟩)) ∧ (l11 = true → v48 = .pointer (some ⟨g, 0, none⟩)) ∧
    (l9 = false → w = W) ∧ (l9 = true → l12 = false → Kept (fun _ => True) W w) ∧ (l12 = true → ∃ w1, Kept (fun _ => True) W w1 ∧ w = w1.setCells g 0 (cellsU (blockS st rest))) ∧
    (l9 = true → l4 = true ∧ l8 = true) ∧ (l12 = true → l9 = true)
theorem fld0 (w : World) : (Instr.fieldAt 138 (.pointer (some ⟨g, 0, none⟩)) 0).run Tryz.prog w = .ok (.pointer (some ⟨g, 0, none⟩)) w := by kernel_rfl
theorem fld1 (w : World) : (Instr.fieldAt 138 (.pointer (some ⟨g, 0, none⟩)) 1).run Tryz.prog w = .ok (.pointer (some ⟨g, 8, none⟩)) w := by kernel_rfl
theorem stepW (_hsz13 : ops.size = 13) (H0 : Has ops 0 (some 37) (.move (.tmp 0)) []) (H1 : Has ops 1 (some 38) (.move (.tmp 0)) []) (H2 : Has ops 2 (some 39) (.nilCheck (.tmp 38)) [1]) (H3 : Has ops 3 (some 40) (.fieldAddr 138 (.tmp 39) 0) [2]) (H4 : Has ops 4 (some 41) (.load 134 (.tmp 40)) [3]) (H5 : Has ops 5 (some 42) (.move (.tmp 0)) []) (H6 : Has ops 6 (some 43) (.nilCheck (.tmp 42)) [5]) (H7 : Has ops 7 (some 44) (.fieldAddr 138 (.tmp 43) 1) [6]) (H8 : Has ops 8 (some 45) (.load 136 (.tmp 44)) [7]) (H9 : Has ops 9 (some 46) (.call { callee := .value (.func 98), args := #[.tmp 41, .tmp 45], argTypes := #[134, 136] }) [4, 8]) (H10 : Has ops 10 (some 47) (.nilCheck (.tmp 37)) [0]) (H11 : Has ops 11 (some 48) (.fieldAddr 138 (.tmp 47) 0) [10]) (H12 : Has ops 12 none (.store 134 (.tmp 48) (.tmp 46)) [11, 9])
    (hst : st.length = 8) (hsl : ∀ x ∈ st, x < 4294967296) (hr : rest.length = 64) (n : Nat) (hrow : W.heap[g]? = some (.cells (hasherCells st rest n).toArray 138 (0, 0)))
    (listed : Array Bool) (a : Act) (w : World) (i : Nat) (hsz : listed.size = ops.size) (hf : listed.getD i true = false) (he : ∀ o, ops[i]? = some o → ∀ e ∈ o.after, Region.binds .any e = true → listed.getD e.on false = true) (hI : InvW g st rest u1 u2 u3 u4 u5 u6 u7 u8 u9 u10 u11 u12 u13 u14 u15 u16 u17 u18 u19 u20 u21 u22 u23 u24 u25 u26 u27 u28 u29 u30 u31 u32 u33 u34 u35 u36 W listed a w) :
    wpOp Tryz.prog ops Q i (InvW g st rest u1 u2 u3 u4 u5 u6 u7 u8 u9 u10 u11 u12 u13 u14 u15 u16 u17 u18 u19 u20 u21 u22 u23 u24 u25 u26 u27 u28 u29 u30 u31 u32 u33 u34 u35 u36 W (listed.setIfInBounds i true)) a w := by
  obtain ⟨l0, l1, l2, l3, l4, l5, l6, l7, l8, l9, l10, l11, l12, v37, v38, v39, v40, v41, v42, v43, v44, v45, v46, v47, v48, rfl, rfl, p0, p1, p2, p3, p4, p5, p6, p7, p8, p9, p10, p11, k0, k1, k2, m9, m12⟩ := hI
  have hi : i < 13 := by
    apply Nat.lt_of_not_le
    intro hn
    rw [Array.getD_eq_getD_getElem?, Array.getElem?_eq_none (by omega)] at hf
    cases hf
  obtain rfl | rfl | rfl | rfl | rfl | rfl | rfl | rfl | rfl | rfl | rfl | rfl | rfl : i = 0 ∨ i = 1 ∨ i = 2 ∨ i = 3 ∨ i = 4 ∨ i = 5 ∨ i = 6 ∨ i = 7 ∨ i = 8 ∨ i = 9 ∨ i = 10 ∨ i = 11 ∨ i = 12 := by omega
  · obtain ⟨o, ho, hg, hd, hop, hn⟩ := H0
    refine wpOp_move ho hg hop (v := .pointer (some ⟨g, 0, none⟩)) rfl ?_
    rw [hd]
    exact ⟨true, l1, l2, l3, l4, l5, l6, l7, l8, l9, l10, l11, l12, .pointer (some ⟨g, 0, none⟩), v38, v39, v40, v41, v42, v43, v44, v45, v46, v47, v48, rfl, rfl, fun _ => rfl, p1, p2, p3, p4, p5, p6, p7, p8, p9, p10, p11, k0, k1, k2, m9, m12⟩
  · obtain ⟨o, ho, hg, hd, hop, hn⟩ := H1
    refine wpOp_move ho hg hop (v := .pointer (some ⟨g, 0, none⟩)) rfl ?_
    rw [hd]
    exact ⟨l0, true, l2, l3, l4, l5, l6, l7, l8, l9, l10, l11, l12, v37, .pointer (some ⟨g, 0, none⟩), v39, v40, v41, v42, v43, v44, v45, v46, v47, v48, rfl, rfl, p0, fun _ => rfl, p2, p3, p4, p5, p6, p7, p8, p9, p10, p11, k0, k1, k2, m9, m12⟩
  · obtain ⟨o, ho, hg, hd, hop, hn⟩ := H2
    have e1 : l1 = true := Has.need ⟨o, ho, hg, hd, hop, hn⟩ he (k := 1) (by simp)
    refine wpOp_nil ho hg hop (p := ⟨g, 0, none⟩) (p1 e1) ?_
    rw [hd]
    exact ⟨l0, l1, true, l3, l4, l5, l6, l7, l8, l9, l10, l11, l12, v37, v38, .pointer (some ⟨g, 0, none⟩), v40, v41, v42, v43, v44, v45, v46, v47, v48, rfl, rfl, p0, p1, fun _ => rfl, p3, p4, p5, p6, p7, p8, p9, p10, p11, k0, k1, k2, m9, m12⟩
  · obtain ⟨o, ho, hg, hd, hop, hn⟩ := H3
    have e2 : l2 = true := Has.need ⟨o, ho, hg, hd, hop, hn⟩ he (k := 2) (by simp)
    refine wpOp_fld ho hg hop (p := ⟨g, 0, none⟩) (q := ⟨g, 0, none⟩) (p2 e2) (fld0 w) ?_
    rw [hd]
    exact ⟨l0, l1, l2, true, l4, l5, l6, l7, l8, l9, l10, l11, l12, v37, v38, v39, .pointer (some ⟨g, 0, none⟩), v41, v42, v43, v44, v45, v46, v47, v48, rfl, rfl, p0, p1, p2, fun _ => rfl, p4, p5, p6, p7, p8, p9, p10, p11, k0, k1, k2, m9, m12⟩
  · obtain ⟨o, ho, hg, hd, hop, hn⟩ := H4
    have e3 : l3 = true := Has.need ⟨o, ho, hg, hd, hop, hn⟩ he (k := 3) (by simp)
    obtain rfl : l4 = false := hf
    have e9 : l9 = false := by
      cases l9 with
      | false => rfl
      | true => exact absurd (m9 rfl).1 (by decide)
    obtain rfl := k0 e9
    refine wpOp_load ho hg hop (v := .pointer (some ⟨g, 0, none⟩)) (p3 e3) (run_loadAt_mid w g 0 134 (cellsU st) _ (hasher_range0 hrow) Tryz.underlying134 rfl (by rw [List.length_map, hst]; kernel_rfl)) ?_
    rw [hd]
    exact ⟨l0, l1, l2, l3, true, l5, l6, l7, l8, l9, l10, l11, l12, v37, v38, v39, v40, wordsV .u32 st, v42, v43, v44, v45, v46, v47, v48, rfl, rfl, p0, p1, p2, p3, fun _ => rfl, p5, p6, p7, p8, p9, p10, p11, k0, k1, k2, fun e => absurd (e9.symm.trans e) (by decide), m12⟩
  · obtain ⟨o, ho, hg, hd, hop, hn⟩ := H5
    refine wpOp_move ho hg hop (v := .pointer (some ⟨g, 0, none⟩)) rfl ?_
    rw [hd]
    exact ⟨l0, l1, l2, l3, l4, true, l6, l7, l8, l9, l10, l11, l12, v37, v38, v39, v40, v41, .pointer (some ⟨g, 0, none⟩), v43, v44, v45, v46, v47, v48, rfl, rfl, p0, p1, p2, p3, p4, fun _ => rfl, p6, p7, p8, p9, p10, p11, k0, k1, k2, m9, m12⟩
  · obtain ⟨o, ho, hg, hd, hop, hn⟩ := H6
    have e5 : l5 = true := Has.need ⟨o, ho, hg, hd, hop, hn⟩ he (k := 5) (by simp)
    refine wpOp_nil ho hg hop (p := ⟨g, 0, none⟩) (p5 e5) ?_
    rw [hd]
    exact ⟨l0, l1, l2, l3, l4, l5, true, l7, l8, l9, l10, l11, l12, v37, v38, v39, v40, v41, v42, .pointer (some ⟨g, 0, none⟩), v44, v45, v46, v47, v48, rfl, rfl, p0, p1, p2, p3, p4, p5, fun _ => rfl, p7, p8, p9, p10, p11, k0, k1, k2, m9, m12⟩
  · obtain ⟨o, ho, hg, hd, hop, hn⟩ := H7
    have e6 : l6 = true := Has.need ⟨o, ho, hg, hd, hop, hn⟩ he (k := 6) (by simp)
    refine wpOp_fld ho hg hop (p := ⟨g, 0, none⟩) (q := ⟨g, 8, none⟩) (p6 e6) (fld1 w) ?_
    rw [hd]
    exact ⟨l0, l1, l2, l3, l4, l5, l6, true, l8, l9, l10, l11, l12, v37, v38, v39, v40, v41, v42, v43, .pointer (some ⟨g, 8, none⟩), v45, v46, v47, v48, rfl, rfl, p0, p1, p2, p3, p4, p5, p6, fun _ => rfl, p8, p9, p10, p11, k0, k1, k2, m9, m12⟩
  · obtain ⟨o, ho, hg, hd, hop, hn⟩ := H8
    have e7 : l7 = true := Has.need ⟨o, ho, hg, hd, hop, hn⟩ he (k := 7) (by simp)
    obtain rfl : l8 = false := hf
    have e9 : l9 = false := by
      cases l9 with
      | false => rfl
      | true => exact absurd (m9 rfl).2 (by decide)
    obtain rfl := k0 e9
    refine wpOp_load ho hg hop (v := .pointer (some ⟨g, 8, none⟩)) (p7 e7) (run_loadAt_mid w g 8 136 (Lib.byteCells rest) _ (hasher_range8 hrow hst) Tryz.underlying136 rfl (by rw [show (Lib.byteCells rest).length = 64 by simpa [Lib.byteCells] using hr]; kernel_rfl)) ?_
    rw [hd]
    exact ⟨l0, l1, l2, l3, l4, l5, l6, l7, true, l9, l10, l11, l12, v37, v38, v39, v40, v41, v42, v43, v44, bytesV rest, v46, v47, v48, rfl, rfl, p0, p1, p2, p3, p4, p5, p6, p7, fun _ => rfl, p9, p10, p11, k0, k1, k2, fun e => absurd (e9.symm.trans e) (by decide), m12⟩
  · obtain ⟨o, ho, hg, hd, hop, hn⟩ := H9
    have e4 : l4 = true := Has.need ⟨o, ho, hg, hd, hop, hn⟩ he (k := 4) (by simp)
    have e8 : l8 = true := Has.need ⟨o, ho, hg, hd, hop, hn⟩ he (k := 8) (by simp)
    obtain rfl : l9 = false := hf
    have e12 : l12 = false := by
      cases l12 with
      | false => rfl
      | true => exact absurd (m12 rfl) (by decide)
    obtain rfl := k0 rfl
    refine wpOp_call2 ho hg hop (fun w => by kernel_rfl) (p4 e4) (p8 e8) (block_any st rest w hst hsl hr) ?_
    rintro e w' ⟨rfl, hk'⟩
    refine ⟨_, rfl, ?_⟩
    rw [hd]
    exact ⟨l0, l1, l2, l3, l4, l5, l6, l7, l8, true, l10, l11, l12, v37, v38, v39, v40, v41, v42, v43, v44, v45, wordsV .u32 (blockS st rest), v47, v48, rfl, rfl, p0, p1, p2, p3, p4, p5, p6, p7, p8, fun _ => rfl, p10, p11, fun e => absurd e (by decide), fun _ _ => hk', fun e => absurd (e12.symm.trans e) (by decide), fun _ => ⟨e4, e8⟩, fun _ => rfl⟩
  · obtain ⟨o, ho, hg, hd, hop, hn⟩ := H10
    have e0 : l0 = true := Has.need ⟨o, ho, hg, hd, hop, hn⟩ he (k := 0) (by simp)
    refine wpOp_nil ho hg hop (p := ⟨g, 0, none⟩) (p0 e0) ?_
    rw [hd]
    exact ⟨l0, l1, l2, l3, l4, l5, l6, l7, l8, l9, true, l11, l12, v37, v38, v39, v40, v41, v42, v43, v44, v45, v46, .pointer (some ⟨g, 0, none⟩), v48, rfl, rfl, p0, p1, p2, p3, p4, p5, p6, p7, p8, p9, fun _ => rfl, p11, k0, k1, k2, m9, m12⟩
  · obtain ⟨o, ho, hg, hd, hop, hn⟩ := H11
    have e10 : l10 = true := Has.need ⟨o, ho, hg, hd, hop, hn⟩ he (k := 10) (by simp)
    refine wpOp_fld ho hg hop (p := ⟨g, 0, none⟩) (q := ⟨g, 0, none⟩) (p10 e10) (fld0 w) ?_
    rw [hd]
    exact ⟨l0, l1, l2, l3, l4, l5, l6, l7, l8, l9, l10, true, l12, v37, v38, v39, v40, v41, v42, v43, v44, v45, v46, v47, .pointer (some ⟨g, 0, none⟩), rfl, rfl, p0, p1, p2, p3, p4, p5, p6, p7, p8, p9, p10, fun _ => rfl, k0, k1, k2, m9, m12⟩
  · obtain ⟨o, ho, hg, hd, hop, hn⟩ := H12
    have e11 : l11 = true := Has.need ⟨o, ho, hg, hd, hop, hn⟩ he (k := 11) (by simp)
    have e9 : l9 = true := Has.need ⟨o, ho, hg, hd, hop, hn⟩ he (k := 9) (by simp)
    obtain rfl : l12 = false := hf
    have hkw := k1 e9 rfl
    have hrw : w.heap[g]? = some (.cells (hasherCells st rest n).toArray 138 (0, 0)) := (hkw.block g (Array.getElem?_eq_some_iff.1 hrow).1 trivial).trans hrow
    refine wpOp_store ho hg hop (p11 e11) (p9 e9) (run_storeAt_mid w g 0 134 (cellsU (blockS st rest)).toArray (hasher_there hrw hst (by simp [blockS_len hst])) (by rw [List.size_toArray, List.length_map, blockS_len hst]; kernel_rfl) (words_one .u32 _)) ?_
    rw [hd]
    exact ⟨l0, l1, l2, l3, l4, l5, l6, l7, l8, l9, l10, l11, true, v37, v38, v39, v40, v41, v42, v43, v44, v45, v46, v47, v48, rfl, rfl, p0, p1, p2, p3, p4, p5, p6, p7, p8, p9, p10, p11, fun e => absurd (e9.symm.trans e) (by decide), fun _ e => absurd e (by decide), fun _ => ⟨w, hkw, rfl⟩, m9, fun _ => e9⟩
end
end Go.Proofs.YtpcgfhleloonfaaGreatDoor
namespace Go.Proofs.YtpcgfhleloonfaaGreatDoor
open Go.RowKit Jo Ac
theorem arr_slice_at (T e : TypeId) (n g o i : Nat) (hu : Tryz.prog.underlying T = some (.array n e)) (he : ∀ W, (sizeOf e).run Tryz.prog W = .ok 1 W) (hi : i < n) (x : Int) (hx : x = i) (W : World) :
    (Instr.sliceAt T (.pointer (some ⟨g, o, none⟩)) (some (.int .i64 x)) none none).run Tryz.prog W = .ok (.slice (some ⟨g, o + i, none⟩) (n - i) (n - i)) W := by
  subst hx
  have hl : Tryz.prog.arrayLen T = n := by simp [Program.arrayLen, hu]
  have hel : Tryz.prog.elem T = e := by simp [Program.elem, hu]
  rw [run_sliceAt_array_l W T ⟨g, o, none⟩ (by rw [hl, hel]; exact hu) .i64 i (by omega) (by rw [hl]; omega), hel, he]
  simp only [Result.andThen, slicedAt, hl, Int.toNat_natCast, Nat.mul_one]
  rw [if_neg (by omega)]
  simp [Addr.add]
/-- What was taken, and more: the block is not whole yet. -/
theorem hs_part {g n a k : Nat} {p r rest rest' : List UInt8} {st : List Nat} {w : World} (hn : p.length = n) (ha : n % 64 = a) (hst : stH p = st) (hr : rest.take (p.length % 64) = p.drop (64 * (p.length / 64))) (hr' : rest'.take (a + k) = rest.take a ++ r.take k) (hl' : rest'.length = 64) (hk : k ≤ r.length) (hak : k ≤ 64 - a) (hf : ¬ (n + k) % 64 = 0)
    (h : w.heap[g]? = some (.cells (hasherCells st rest' (n + k)).toArray 138 (0, 0))) : HS g (p ++ r.take k) w := by
  have h1 : (p ++ r.take k).length = n + k := by rw [List.length_append, List.length_take]; omega
  have h2 : (n + k) / 64 = n / 64 := by omega
  have h3 : (n + k) % 64 = a + k := by omega
  refine ⟨rest', hl', ?_, ?_⟩
  · rw [h1, h3, hr', h2, List.drop_append_of_le_length (by omega), ← hn, ← hr, hn, ha]
  · rw [h1]
    have : stH (p ++ r.take k) = st := by
      rw [← hst]
      unfold stH
      rw [h1, h2, hn, blocksS_app _ _ _ _ (by omega)]
    rw [this]
    exact h
/-- .. it is whole. -/
theorem hs_whole {g n a k : Nat} {p r rest rest' : List UInt8} {st : List Nat} {w : World} (hn : p.length = n) (ha : n % 64 = a) (hst : stH p = st) (hr : rest.take (p.length % 64) = p.drop (64 * (p.length / 64))) (hr' : rest'.take (a + k) = rest.take a ++ r.take k) (hl' : rest'.length = 64) (hk : k ≤ r.length) (hk0 : 0 < k) (hak : k ≤ 64 - a) (hf : (n + k) % 64 = 0)
    (h : w.heap[g]? = some (.cells (hasherCells (blockS st rest') rest' (n + k)).toArray 138 (0, 0))) : HS g (p ++ r.take k) w := by
  have h1 : (p ++ r.take k).length = n + k := by rw [List.length_append, List.length_take]; omega
  have h2 : (n + k) / 64 = n / 64 + 1 := by omega
  have h3 : a + k = 64 := by omega
  refine ⟨rest', hl', ?_, ?_⟩
  · rw [h1, hf, List.take_zero, List.drop_eq_nil_of_le (by omega)]
  · rw [h1]
    have e : stH (p ++ r.take k) = blockS st rest' := by
      rw [h3, List.take_of_length_le (by omega)] at hr'
      unfold stH at *
      rw [h1, h2, ← hst]
      have hp : p ++ r.take k = p.take (64 * (n / 64)) ++ rest' := by
        rw [hr', ← ha, ← hn, hr, hn, ← List.append_assoc, List.take_append_drop]
      rw [hp, blocksS_snoc _ _ _ _ (by rw [List.length_take]; omega) hl', hn]
      have e2 := blocksS_app (n / 64) h0 (p.take (64 * (n / 64))) (p.drop (64 * (n / 64))) (by rw [List.length_take]; omega)
      rw [List.take_append_drop] at e2
      rw [e2]
    rw [e]
    exact h
theorem splice_cells {st : List Nat} {rest r : List UInt8} {n a : Nat} (hst : st.length = 8) (hr : rest.length = 64) (ha : a < 64) :
    ((hasherCells st rest n).toArray.toList.take (8 + a) ++ Lib.byteCells (r.take (64 - a)) ++ (hasherCells st rest n).toArray.toList.drop (8 + a + min r.length (64 - a))) = hasherCells st (rest.take a ++ r.take (64 - a) ++ rest.drop (a + min r.length (64 - a))) n := by
  have h1 : (cellsU st).length = 8 := by simpa using hst
  have h2 : (Lib.byteCells rest).length = 64 := by simpa [Lib.byteCells] using hr
  simp only [hasherCells]
  rw [List.take_append_of_le_length (by rw [List.length_append]; omega), List.take_append, List.take_of_length_le (by omega), h1, show 8 + a - 8 = a by omega,
    List.drop_append_of_le_length (by rw [List.length_append]; omega), List.drop_append, List.drop_eq_nil_of_le (by omega), h1, List.nil_append, show 8 + a + min r.length (64 - a) - 8 = a + min r.length (64 - a) by omega]
  simp [Lib.byteCells, List.map_take, List.map_drop]
theorem splice_len {rest r : List UInt8} {a : Nat} (hr : rest.length = 64) (ha : a < 64) : (rest.take a ++ r.take (64 - a) ++ rest.drop (a + min r.length (64 - a))).length = 64 := by
  simp only [List.length_append, List.length_take, List.length_drop]
  omega
theorem splice_take {rest r : List UInt8} {a k : Nat} (hr : rest.length = 64) (ha : a < 64) (hk : k = min r.length (64 - a)) : (rest.take a ++ r.take (64 - a) ++ rest.drop (a + min r.length (64 - a))).take (a + k) = rest.take a ++ r.take k := by
  have h1 : (rest.take a ++ r.take (64 - a)).length = a + k := by simp only [List.length_append, List.length_take]; omega
  rw [List.take_append_of_le_length (by omega), List.take_of_length_le (by omega)]
  congr 1
  rw [List.take_eq_take_iff]
  omega
theorem hasher_set {w : World} {g n m : Nat} {st : List Nat} {rest : List UInt8} (h : w.heap[g]? = some (.cells (hasherCells st rest n).toArray 138 (0, 0))) (hst : st.length = 8) (hr : rest.length = 64) (v : Value) (hv : v = .int .i64 (m : Int)) :
    (w.setCell ⟨g, 72, none⟩ v).heap[g]? = some (.cells (hasherCells st rest m).toArray 138 (0, 0)) := by
  subst hv
  rw [setCell_heap (o := 72) h]
  have h1 : (cellsU st ++ Lib.byteCells rest).length = 72 := by rw [List.length_append]; simp [Lib.byteCells, hst, hr]
  simp only [hasherCells, List.setIfInBounds_toArray]
  rw [List.set_append_right _ _ (by omega), h1]
  rfl
set_option maxRecDepth 100000 in
set_option maxHeartbeats 4000000 in
theorem Write_any (g : Nat) (t s : List UInt8) (w : World) (hh : HS g t w) (hl : t.length + s.length ≤ 1099511627776) :
    Calls Tryz.prog 64 #[.pointer (some ⟨g, 0, none⟩), S s] w fun e w' => e = .returned (.tuple #[]) ∧ HS g (t ++ s) w' ∧ Kept (fun k => k ≠ g) w w' := by
  have HH := Lib.hid hh
  have HL := Lib.hid hl
  clear hh hl
  go_enter Tryz.func64, Tryz.ntmps64
  go_wp2_with fail
  go_loopg [1] s.length (fun q sv wr => ∃ p r : List UInt8, sv = S r ∧ q = r.length ∧ Hid (t ++ s = p ++ r) ∧ Hid (HS g p wr) ∧ Hid (Kept (fun k => k ≠ g) w wr))
  case atStart => exact ⟨t, s, rfl, rfl, Lib.hid rfl, HH, Lib.hid (Kept.refl _ _)⟩
  case round =>
    clear HH
    obtain ⟨p, r, rfl, rfl, HE, HP, HK⟩ := hrel
    by_cases hr : r = []
    · subst hr
      go_wp2
      go_end0
      exact ⟨rfl, by rw [HE.out, List.append_nil]; exact HP.out, HK.out⟩
    · have hne : r.isEmpty = false := by simpa using hr
      obtain ⟨rest, hrl, hrt, hrow⟩ := HP.out
      obtain ⟨n, hn⟩ : ∃ n, p.length = n := ⟨_, rfl⟩
      obtain ⟨a, ha⟩ : ∃ a, n % 64 = a := ⟨_, rfl⟩
      obtain ⟨st, hst⟩ : ∃ st, stH p = st := ⟨_, rfl⟩
      have hstl : st.length = 8 := by rw [← hst]; exact stH_len p
      rw [hn, hst] at hrow
      have hsz : (hasherCells st rest n).length = 73 := by simp [hasherCells, hstl, Lib.byteCells, hrl]
      have hcn : wr.cell? ⟨g, 72, none⟩ = some (.int .i64 (n : Int)) := by
        rw [cell_of_row wr g 72 _ _ _ hrow]
        simp [hasherCells, hstl, Lib.byteCells, hrl]
      have hnl : n ≤ 1099511627776 := by
        have h1 := congrArg List.length HE.out
        have h2 := HL.out
        simp only [List.length_append] at h1
        omega
      have hal : a < 64 := by omega
      have hrem : (n : Int) % 64 = (a : Int) := by omega
      have hrem2 : Int.tmod (n : Int) 64 = (a : Int) := by rw [Int.tmod_eq_emod_of_nonneg (by omega)]; omega
      have SL := arr_slice_at 136 5 64 g 8 a (by kernel_rfl) (by intro W; kernel_rfl) hal (a : Int) rfl
      obtain ⟨k, hk⟩ : ∃ k, min r.length (64 - a) = k := ⟨_, rfl⟩
      obtain ⟨rest', hrest⟩ : ∃ rest', rest.take a ++ r.take (64 - a) ++ rest.drop (a + min r.length (64 - a)) = rest' := ⟨_, rfl⟩
      have CP := run_copy_part (P := Tryz.prog) wr 84 9 3 5 g (8 + a) (64 - a) (64 - a) r _ _ Tryz.underlying84 (by kernel_rfl) hrow (by rw [List.size_toArray, hsz]; omega)
      rw [splice_cells hstl hrl hal, hrest, hk] at CP
      have hrl' : rest'.length = 64 := by rw [← hrest]; exact splice_len hrl hal
      have hrt' : rest'.take (a + k) = rest.take a ++ r.take k := by rw [← hrest]; exact splice_take hrl hal hk.symm
      obtain ⟨W2, hW2⟩ : ∃ W2, wr.setRow g (hasherCells st rest' n).toArray = W2 := ⟨_, rfl⟩
      have hrow2 : W2.heap[g]? = some (.cells (hasherCells st rest' n).toArray 138 (0, 0)) := by rw [← hW2]; exact setRow_heap _ _ _ _ _ _ hrow
      have hkW : Kept (fun k => k ≠ g) wr W2 := by rw [← hW2]; exact setRow_kept
      rw [hW2] at CP
      have hcn2 : W2.cell? ⟨g, 72, none⟩ = some (.int .i64 (n : Int)) := by
        rw [cell_of_row W2 g 72 _ _ _ hrow2]
        simp [hasherCells, hstl, Lib.byteCells, hrl']
      have hfz2 : W2.frozen? ⟨g, 72, none⟩ = false := frozen_row hrow2 72
      have hkr : k ≤ r.length := by omega
      have hk0 : 0 < k := by have : 0 < r.length := List.length_pos_iff.2 hr; omega
      have hkb : k ≤ 64 := by omega
      have EX : (⟨r.toArray⟩ : ByteArray).extract k r.length = ⟨(r.drop k).toArray⟩ := by
        have e := extract_mk r k r.length
        rw [List.take_of_length_le (by rw [List.length_drop]; omega)] at e
        injection e
      have hszr : (⟨r.toArray⟩ : ByteArray).size = r.length := size_mk r
      obtain ⟨W3, hW3⟩ : ∃ W3, W2.setCell ⟨g, 72, none⟩ (.int .i64 ((n : Int) + (k : Int))) = W3 := ⟨_, rfl⟩
      have hrow3 : W3.heap[g]? = some (.cells (hasherCells st rest' (n + k)).toArray 138 (0, 0)) := by rw [← hW3]; exact hasher_set hrow2 hstl hrl' _ (by go_num)
      have hkW3 : Kept (fun k => k ≠ g) wr W3 := by rw [← hW3]; exact hkW.setCell (.inr (by simp)) _
      have hcn3 : W3.cell? ⟨g, 72, none⟩ = some (.int .i64 ((n : Int) + (k : Int))) := by
        rw [cell_of_row W3 g 72 _ _ _ hrow3]
        simp [hasherCells, hstl, Lib.byteCells, hrl']
      have HROW := Lib.hid hrow3
      have HKW := Lib.hid hkW3
      have HX := Lib.hid (And.intro hn (And.intro ha (And.intro hst (And.intro hrl' (And.intro hrt (And.intro hstl (And.intro hrt' hk)))))))
      clear hn ha hst hrl hrt hstl hsz hr hrow hrow2 hkW hrl' hrt' hk hrest hW2 hrow3 hkW3
      have hka : k ≤ 64 - a := by have := HX.out.2.2.2.2.2.2.2; omega
      have hdl : (r.drop k).length < r.length := by rw [List.length_drop]; omega
      have HDE : Hid (t ++ s = p ++ r.take k ++ r.drop k) := Lib.hid (by rw [HE.out, List.append_assoc, List.take_append_drop])
      by_cases hfull : (n + k) % 64 = 0
      · have hf2 : (((n : Int) + (k : Int)) % 64 == 0) = true := by simp; omega
        obtain ⟨x1, x2, x3, x4, x5, x6, x7, x8⟩ := HX.out
        have hsl : ∀ x ∈ st, x < 4294967296 := fun x hx => stH_lt p x (by rw [x3]; exact hx)
        have HX := Lib.hid (And.intro x1 (And.intro x2 (And.intro x3 (And.intro x4 (And.intro x5 (And.intro x6 (And.intro x7 x8)))))))
        go_wp2_with fail
        refine wp_region_any (by kernel_rfl) ?_
        refine wpAny_inv (InvW g st rest' _ _ _ _ _ _ _ _ _ _ _ _ _ _ _ _ _ _ _ _ _ _ _ _ _ _ _ _ _ _ _ _ _ _ _ _ W3.drew) ?step ?fin 13 _ _ _ rfl (by decide) ⟨false, false, false, false, false, false, false, false, false, false, false, false, false, _, _, _, _, _, _, _, _, _, _, _, _, rfl, rfl, nofun, nofun, nofun, nofun, nofun, nofun, nofun, nofun, nofun, nofun, nofun, nofun, fun _ => rfl, nofun, nofun, nofun, nofun⟩
        case step =>
          intro listed a w i h1 h2 h3 h4
          refine stepW ?_ ?_ ?_ ?_ ?_ ?_ ?_ ?_ ?_ ?_ ?_ ?_ ?_ ?_ x6 hsl x4 (n + k) (show W3.drew.heap[g]? = some _ from HROW.out) listed a w i h1 h2 h3 h4
          · rfl
          all_goals exact ⟨_, rfl, rfl, rfl, rfl, by simp [Region.binds]⟩
        intro listed a' w4 _ hrd hI
        obtain ⟨l0, l1, l2, l3, l4, l5, l6, l7, l8, l9, l10, l11, l12, v37, v38, v39, v40, v41, v42, v43, v44, v45, v46, v47, v48, rfl, rfl, p0, p1, p2, p3, p4, p5, p6, p7, p8, p9, p10, p11, q0, q1, q2, m9, m12⟩ := hI
        have e0 : l0 = true := by have := hrd 0; simpa [mem_ready, Region.binds] using this
        have e1 : l1 = true := by have := hrd 1; simpa [mem_ready, Region.binds] using this
        have e2 : l2 = true := by have := hrd 2; simpa [mem_ready, Region.binds, e1] using this
        have e3 : l3 = true := by have := hrd 3; simpa [mem_ready, Region.binds, e2] using this
        have e4 : l4 = true := by have := hrd 4; simpa [mem_ready, Region.binds, e3] using this
        have e5 : l5 = true := by have := hrd 5; simpa [mem_ready, Region.binds] using this
        have e6 : l6 = true := by have := hrd 6; simpa [mem_ready, Region.binds, e5] using this
        have e7 : l7 = true := by have := hrd 7; simpa [mem_ready, Region.binds, e6] using this
        have e8 : l8 = true := by have := hrd 8; simpa [mem_ready, Region.binds, e7] using this
        have e9 : l9 = true := by have := hrd 9; simpa [mem_ready, Region.binds, e4, e8] using this
        have e10 : l10 = true := by have := hrd 10; simpa [mem_ready, Region.binds, e0, e1, e2, e3, e4, e5, e6, e7, e8, e9] using this
        have e11 : l11 = true := by have := hrd 11; simpa [mem_ready, Region.binds, e0, e1, e2, e3, e4, e5, e6, e7, e8, e9, e10] using this
        have e12 : l12 = true := by have := hrd 12; simpa [mem_ready, Region.binds, e0, e1, e2, e3, e4, e5, e6, e7, e8, e9, e10, e11] using this
        obtain ⟨wb, hkb, rfl⟩ := q2 e12
        have hrowb : wb.heap[g]? = some (.cells (hasherCells st rest' (n + k)).toArray 138 (0, 0)) := (hkb.block g (Array.getElem?_eq_some_iff.1 HROW.out).1 trivial).trans HROW.out
        have HSN : Hid (HS g (p ++ r.take k) (wb.setCells g 0 (cellsU (blockS st rest')))) := Lib.hid (hs_whole x1 x2 x3 x5 x7 x4 hkr hk0 hka hfull (hasher_state hrowb x6 (blockS_len x6)))
        have HKN : Hid (Kept (fun k => k ≠ g) w (wb.setCells g 0 (cellsU (blockS st rest')))) := Lib.hid (Kept.setCells (.inr (by simp)) _ _ ((HK.out.tr (HKW.out.drew)).tr (hkb.mono fun _ _ _ => trivial)))
        clear hrd p0 p1 p2 p3 p4 p5 p6 p7 p8 p9 p10 p11 q0 q1 q2 m9 m12 hrowb hkb hsl x1 x2 x3 x4 x5 x6 x7 x8
        unfold frW
        go_wp2
        go_roundg (r.drop k).length
        case rel => exact ⟨p ++ r.take k, r.drop k, rfl, rfl, HDE, HSN, HKN⟩
        case measure => exact hdl
      · have hf2 : (((n : Int) + (k : Int)) % 64 == 0) = false := by simp; omega
        go_wp2
        go_roundg (r.drop k).length
        case rel =>
          obtain ⟨x1, x2, x3, x4, x5, x6, x7, x8⟩ := HX.out
          exact ⟨p ++ r.take k, r.drop k, rfl, rfl, HDE, Lib.hid (hs_part x1 x2 x3 x5 x7 x4 hkr hka hfull HROW.out), Lib.hid (HK.out.tr HKW.out)⟩
        case measure => exact hdl
end Go.Proofs.YtpcgfhleloonfaaGreatDoor
