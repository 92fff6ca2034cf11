/- Walks of the law of layer 5, twelfth part: rows of messages that grow; a raw number that picks among many. -/
import Derived.Test.YtaomhkgdbobpkaaGreatDoorWiLB
import Derived.Test.YtaomhkgdbobpkaaGreatDoorWiPlainI
namespace Go.Proofs.YtaomhkgdbobpkaaGreatDoor
open Go.RowKit Wi

set_option maxHeartbeats 1000000 in
theorem pick_big (c : Int) (n : Nat) (w : World) (hc : -9223372036854775808 ≤ c ∧ c ≤ 9223372036854775807) (hn : 1 ≤ n ∧ n ≤ 4611686018427387904) :
    Calls Tryz.prog 12 #[.int .i64 c, .int .i64 n] w fun e w' => e = .returned (.int .i64 (pickZ c n)) ∧ w' = w := by
  obtain ⟨c1, c2⟩ := hc
  obtain ⟨n1, n2⟩ := hn
  have hp := Lib.hid (pickZ_int c n n1)
  obtain ⟨p, hpe⟩ : ∃ p, pickZ c n = p := ⟨_, rfl⟩
  rw [hpe] at hp ⊢
  clear hpe
  have hn0 : (1 : Int) ≤ (n : Int) := by omega
  have hnz : ((n : Int) == 0) = false := by rw [beq_eq_false_iff_ne]; omega
  by_cases h : c < 0
  · have ht : Hid ((c + 1).tmod (n : Int) = -((-(c + 1)) % (n : Int))) := Lib.hid (by
      have h3 := Int.neg_tmod (-(c + 1)) (n : Int)
      rw [Int.neg_neg] at h3
      rw [h3, Int.tmod_eq_emod_of_nonneg (by omega)])
    have hq : Hid ((p : Int) = (-(c + 1)) % (n : Int)) := Lib.hid (by rw [hp.out, if_pos h])
    clear hp
    go_enter Tryz.func12, Tryz.ntmps12
    go_wp2
    go_ret
    exact ⟨wret_i (by rw [ht.out, hq.out]; omega), rfl⟩
  · have h2 : 0 ≤ c := by omega
    have hq : Hid ((p : Int) = c % (n : Int)) := Lib.hid (by rw [hp.out, if_neg h])
    clear hp
    go_enter Tryz.func12, Tryz.ntmps12
    go_wp2
    go_ret
    exact ⟨wret_i (by rw [hq.out]), rfl⟩
def wtCells (xs : List (Msg × Value)) : List Value := xs.flatMap fun x => [S x.1.m, S x.1.p, x.2, S x.1.body]
theorem wtCells_len (xs : List (Msg × Value)) : (wtCells xs).length = xs.length * 4 := by
  induction xs with
  | nil => rfl
  | cons x xs ih => simp only [wtCells, List.flatMap_cons, List.length_append, List.length_cons, List.length_nil] at ih ⊢; omega
theorem wtCells_app (xs ys : List (Msg × Value)) : wtCells (xs ++ ys) = wtCells xs ++ wtCells ys := by simp [wtCells]
theorem wtCells_at : ∀ {l : List (Msg × Value)} {j : Nat} {x : Msg × Value}, l[j]? = some x → (wtCells l)[j * 4]? = some (S x.1.m) ∧ (wtCells l)[j * 4 + 1]? = some (S x.1.p) ∧ (wtCells l)[j * 4 + 2]? = some x.2 ∧ (wtCells l)[j * 4 + 3]? = some (S x.1.body)
  | [], _, _, h => by simp at h
  | g :: l, 0, x, h => by
    obtain rfl : g = x := by simpa using h
    exact ⟨rfl, rfl, rfl, rfl⟩
  | g :: l, j + 1, x, h => by
    have := wtCells_at (l := l) (j := j) (x := x) (by simpa using h)
    have e : wtCells (g :: l) = S g.1.m :: S g.1.p :: g.2 :: S g.1.body :: wtCells l := rfl
    rw [e, show (j + 1) * 4 = j * 4 + 1 + 1 + 1 + 1 by omega]
    exact this
theorem wt_of_out (l : List (R × Value)) : outCells l = wtCells (l.map fun x => (msgOf x.1, x.2)) := by
  induction l with
  | nil => rfl
  | cons x l ih => rw [List.map_cons]; show msgCells x ++ outCells l = _; rw [ih]; rfl
/-- Messages in a row of its own, their headers in rows of their own. -/
structure Wt (B : Nat) (v : Value) (xs : List (Msg × Value)) (w : World) : Prop where
  row : w.ownsRow B 50 4 v xs.length (wtCells xs)
  hs : ∀ x ∈ xs, OwnF x.2 x.1.hs w
theorem Wt.nil (B : Nat) (w : World) : Wt B (.slice none 0 0) [] w := ⟨World.ownsRow_nil _ _ _ _, by simp⟩
theorem Wt.kept {B : Nat} {v : Value} {xs : List (Msg × Value)} {w w' : World} {ok : Nat → Prop} (h : Wt B v xs w) (hk : Kept ok w w') (h1 : ∀ b, v.ownBlock = some b → ok b) (h2 : ∀ x ∈ xs, ∀ b, x.2.ownBlock = some b → ok b) : Wt B v xs w' :=
  ⟨ownsRow_kept h.row hk h1, fun x hx => ownsRow_kept (h.hs x hx) hk (h2 x hx)⟩
theorem Wt.keptT {B : Nat} {v : Value} {xs : List (Msg × Value)} {w w' : World} (h : Wt B v xs w) (hk : Kept (fun _ => True) w w') : Wt B v xs w' := h.kept hk (fun _ _ => trivial) fun _ _ _ _ => trivial
theorem Wt.rowm {B : Nat} {v : Value} {xs : List (Msg × Value)} {w : World} (h : Wt B v xs w) : RowM w v (xs.map (·.1)) := by
  have hrow := h.row
  rcases hrow.2 with ⟨rfl, h0⟩ | ⟨g, cap, cur, rfl, hB, hg, hnc, hcap, hat⟩
  · exact .inl ⟨none, 0, by simp, by rw [List.eq_nil_of_length_eq_zero h0]; rfl⟩
  · refine .inr ⟨g, 0, cap, by simp, by simpa using hnc, (Array.getElem?_eq_some_iff.1 hg).1, fun j m hj => ?_⟩
    rw [List.getElem?_map] at hj
    obtain ⟨x, hx, rfl⟩ := Option.map_eq_some_iff.1 hj
    have hl : j < xs.length := (List.getElem?_eq_some_iff.1 hx).1
    obtain ⟨e0, e1, e2, e3⟩ := wtCells_at hx
    rw [Nat.zero_add]
    exact ⟨(World.ownsRow.cellAt hrow (j * 4) (by omega)).trans e0, (World.ownsRow.cellAt hrow (j * 4 + 1) (by omega)).trans e1, (World.ownsRow.cellAt hrow (j * 4 + 3) (by omega)).trans e3, x.2, (World.ownsRow.cellAt hrow (j * 4 + 2) (by omega)).trans e2, rowf_of (h.hs x (List.mem_of_getElem? hx))⟩
/-- More messages behind them. -/
theorem Wt.append {B : Nat} {v v' : Value} {xs ys : List (Msg × Value)} {w w1 : World} (h : Wt B v xs w) (hy : ∀ y ∈ ys, OwnF y.2 y.1.hs w)
    (k1 : w1.ownsRow B 50 4 v' (xs.length + ys.length) (wtCells xs ++ wtCells ys)) (k2 : Below B w w1) (k3 : Moved v v' w w1) : Wt B v' (xs ++ ys) w1 := by
  have hk : Kept (fun b => v.ownBlock ≠ some b) w w1 := ⟨k2.os, k2.tape, k2.output, k3.kept.1, fun k hk ho => k3.kept.2 k hk fun e => ho e.symm⟩
  have hfr : ∀ (u : Value) n xs, w.ownsRow 0 61 2 u n xs → ∀ b, u.ownBlock = some b → v.ownBlock ≠ some b := fun u n xs hu b hb e => by
    obtain ⟨x, h1⟩ := own_cells hu hb
    obtain ⟨y, h2⟩ := own_cells h.row e
    exact ty_ne h1 h2 (by decide) rfl
  refine ⟨by rw [List.length_append, wtCells_app]; exact k1, fun x hx => ?_⟩
  have ho : OwnF x.2 x.1.hs w := by
    rcases List.mem_append.1 hx with hx | hx
    · exact h.hs x hx
    · exact hy x hx
  exact ownsRow_kept ho hk (hfr _ _ _ ho)
theorem Wt.rd {B : Nat} {v : Value} {xs : List (Msg × Value)} {w : World} (h : Wt B v xs w) : Rd w v xs.length (wtCells xs) := by
  have hrow := h.row
  rcases hrow.2 with ⟨rfl, h0⟩ | ⟨g, cap, cur, rfl, hB, hg, hnc, hcap, hat⟩
  · exact .inl ⟨none, 0, rfl, h0, by rw [List.eq_nil_of_length_eq_zero h0]; rfl⟩
  · by_cases h0 : xs.length = 0
    · exact .inl ⟨_, _, by rw [h0], h0, by rw [List.eq_nil_of_length_eq_zero h0]; rfl⟩
    · refine .inr ⟨g, 0, cap, rfl, by omega, fun j u hj => ?_⟩
      have hj2 : j < (wtCells xs).length := (List.getElem?_eq_some_iff.1 hj).1
      rw [wtCells_len] at hj2
      rw [Nat.zero_add]
      exact (World.ownsRow.cellAt hrow j hj2).trans hj
theorem wt_ones {B : Nat} {v : Value} {xs : List (Msg × Value)} {w : World} (h : Wt B v xs w) : ∀ u ∈ wtCells xs, u.oneCell' = true := by
  intro u hu
  unfold wtCells at hu
  obtain ⟨x, hx, hu⟩ := List.mem_flatMap.1 hu
  obtain ⟨a, c, e⟩ := row_slice (h.hs x hx)
  simp only [List.mem_cons, List.not_mem_nil, or_false] at hu
  rcases hu with rfl | rfl | rfl | rfl
  · rfl
  · rfl
  · rw [e]; rfl
  · rfl
/-- What Feed leaves, its messages in a row. -/
theorem FeedQ.wt {p : Nat} {r : R} {s : List UInt8} {fp : List Nat} {w w' : World} {e : Ending} (h : FeedQ p r s fp w e w') :
    ∃ (v : Value) (ys : List (Msg × Value)) (fp' : List Nat), e = .returned (.tuple #[v, .int .i64 (feedP r s).2.2]) ∧ Wt w.heap.size v ys w' ∧ ys.map (·.1) = (feedP r s).1.map msgOf ∧ (∀ y ∈ ys, y.1.hs.length ≤ 32) ∧ (∀ y ∈ ys, ∀ b, y.2.ownBlock = some b → b ∉ fp') ∧
      (∀ b ∈ fp', b ∈ fp ∨ w.heap.size ≤ b) ∧ ((feedP r s).2.2 = 0 → RrAt p (feedP r s).2.1 fp' w' ∧ RI (feedP r s).2.1) ∧ ((feedP r s).2.2 ≠ 0 → OvAt p w') ∧ Kept (· ∉ fp) w w' := by
  obtain ⟨v, l, rfl, h1, _, ⟨fp', h2, h3, h4, h5⟩, _, h7⟩ := h
  refine ⟨v, l.map (fun x => (msgOf x.1, x.2)), fp', rfl, ⟨by rw [List.length_map, ← wt_of_out]; exact h2.row, fun y hy => ?_⟩, ?_, fun y hy => ?_, fun y hy => ?_, h3, h4, h5, h7⟩
  · obtain ⟨x, hx, rfl⟩ := List.mem_map.1 hy
    exact (h2.hs x hx).1
  · rw [← h1, List.map_map, List.map_map]; rfl
  · obtain ⟨x, hx, rfl⟩ := List.mem_map.1 hy
    exact (h2.hs x hx).2
  · obtain ⟨x, hx, rfl⟩ := List.mem_map.1 hy
    exact h2.apart x hx
end Go.Proofs.YtaomhkgdbobpkaaGreatDoor
