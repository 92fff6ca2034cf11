/- Walks of the law of layer 5, ninth part: the first calls, whose answers are fixed. -/
import Derived.Test.YtaomhkgdbobpkaaGreatDoorWiL8
import Derived.Test.YtaomhkgdbobpkaaGreatDoorWiPlainH
namespace Go.Proofs.YtaomhkgdbobpkaaGreatDoor
open Go.RowKit Wi

/-- The text that is printed first. -/
def awT : List UInt8 := [80, 79, 83, 84, 32, 47, 116, 111, 107, 101, 110, 32, 72, 84, 84, 80, 47, 49, 46, 49, 13, 10, 72, 111, 115, 116, 58, 32, 97, 46, 101, 120, 97, 109, 112, 108, 101, 13, 10, 67, 111, 110, 116, 101, 110, 116, 45, 76, 101, 110, 103, 116, 104, 58, 32, 51, 13, 10, 13, 10, 120, 61, 49]
def awM : Msg := ⟨[80, 79, 83, 84], [47, 116, 111, 107, 101, 110], [([72, 111, 115, 116], [97, 46, 101, 120, 97, 109, 112, 108, 101])], [120, 61, 49]⟩
def awE : List UInt8 := [72, 84, 84, 80, 47, 49, 46, 49, 32, 52, 48, 52, 32, 78, 111, 116, 32, 70, 111, 117, 110, 100, 13, 10, 67, 111, 110, 116, 101, 110, 116, 45, 76, 101, 110, 103, 116, 104, 58, 32, 48, 13, 10, 13, 10]
theorem aw_ok : restOk awM.hs awM.body = true ∧ isMethodP awM.m = true ∧ isPathP awM.p = true := by decide +kernel
theorem aw_print : printM awM = (awT, 0) := by decide +kernel
theorem aw_answer : printA ⟨404, [], []⟩ = (awE, 0) := by decide +kernel
theorem aw_bad : (feedP (begin' false) [120, 10]).2.2 = 50 := by decide +kernel
def msgOf (r : R) : Msg := ⟨r.first.getD 0 [], r.first.getD 1 [], r.hs, r.body⟩
theorem outCells_at : ∀ {l : List (R × Value)} {j : Nat} {x : R × Value}, l[j]? = some x → (outCells l)[j * 4]? = some (S (x.1.first.getD 0 [])) ∧ (outCells l)[j * 4 + 1]? = some (S (x.1.first.getD 1 [])) ∧ (outCells l)[j * 4 + 2]? = some x.2 ∧ (outCells l)[j * 4 + 3]? = some (S x.1.body)
  | [], _, _, h => by simp at h
  | g :: l, 0, x, h => by
    obtain rfl : g = x := by simpa using h
    exact ⟨rfl, rfl, rfl, rfl⟩
  | g :: l, j + 1, x, h => by
    have := outCells_at (l := l) (j := j) (x := x) (by simpa using h)
    have e : outCells (g :: l) = S (g.1.first.getD 0 []) :: S (g.1.first.getD 1 []) :: g.2 :: S g.1.body :: outCells l := rfl
    rw [e, show (j + 1) * 4 = j * 4 + 1 + 1 + 1 + 1 by omega]
    exact this
/-- Messages that came out are a row of messages. -/
theorem Outs.rowm {B : Nat} {v : Value} {l : List (R × Value)} {fp : List Nat} {w : World} (h : Outs B v l fp w) : RowM w v ((l.map (·.1)).map msgOf) := by
  have hrow := h.row
  rcases hrow.2 with ⟨rfl, h0⟩ | ⟨g, cap, cur, rfl, hB, hg, hnc, hcap, hat⟩
  · exact .inl ⟨none, 0, by simp, by rw [List.eq_nil_of_length_eq_zero h0]; rfl⟩
  · refine .inr ⟨g, 0, cap, by simp, by simpa using hnc, (Array.getElem?_eq_some_iff.1 hg).1, fun j m hj => ?_⟩
    rw [List.map_map, List.getElem?_map] at hj
    obtain ⟨x, hx, rfl⟩ := Option.map_eq_some_iff.1 hj
    have hl : j < l.length := (List.getElem?_eq_some_iff.1 hx).1
    obtain ⟨e0, e1, e2, e3⟩ := outCells_at hx
    rw [Nat.zero_add]
    exact ⟨(World.ownsRow.cellAt hrow (j * 4) (by omega)).trans e0, (World.ownsRow.cellAt hrow (j * 4 + 1) (by omega)).trans e1, (World.ownsRow.cellAt hrow (j * 4 + 3) (by omega)).trans e3, x.2, (World.ownsRow.cellAt hrow (j * 4 + 2) (by omega)).trans e2, rowf_of (h.hs x (List.mem_of_getElem? hx)).1⟩
theorem FeedQ.rows {p : Nat} {r : R} {s : List UInt8} {fp : List Nat} {w w' : World} {e : Ending} (h : FeedQ p r s fp w e w') :
    ∃ a c fp', e = .returned (.tuple #[.slice a (feedP r s).1.length c, .int .i64 (feedP r s).2.2]) ∧ RowM w' (.slice a (feedP r s).1.length c) ((feedP r s).1.map msgOf) ∧ (∀ m ∈ (feedP r s).1.map msgOf, m.hs.length ≤ 32) ∧
      (∀ b ∈ fp', b ∈ fp ∨ w.heap.size ≤ b) ∧ ((feedP r s).2.2 = 0 → RrAt p (feedP r s).2.1 fp' w' ∧ RI (feedP r s).2.1) ∧ ((feedP r s).2.2 ≠ 0 → OvAt p w') ∧ Kept (· ∉ fp) w w' := by
  obtain ⟨v, l, rfl, h1, _, ⟨fp', h2, h3, h4, h5⟩, _, h7⟩ := h
  obtain ⟨a, c, rfl⟩ := row_slice h2.row
  have hl : (feedP r s).1.length = l.length := by rw [← h1, List.length_map]
  rw [hl, ← h1]
  refine ⟨a, c, fp', rfl, h2.rowm, fun m hm => ?_, h3, h4, h5, h7⟩
  rw [List.map_map] at hm
  obtain ⟨x, hx, rfl⟩ := List.mem_map.1 hm
  exact (h2.hs x hx).2
theorem FeedQ.ok {p : Nat} {r rk : R} {ws : List R} {s : List UInt8} {fp : List Nat} {w w' : World} {e : Ending} (h : FeedQ p r s fp w e w') (hf : feedP r s = (ws, rk, 0)) :
    ∃ a c fp', e = .returned (.tuple #[.slice a ws.length c, .int .i64 0]) ∧ RowM w' (.slice a ws.length c) (ws.map msgOf) ∧ (∀ m ∈ ws.map msgOf, m.hs.length ≤ 32) ∧ (∀ b ∈ fp', b ∈ fp ∨ w.heap.size ≤ b) ∧ RrAt p rk fp' w' ∧ RI rk ∧ Kept (· ∉ fp) w w' := by
  have h := h.rows
  rw [hf] at h
  obtain ⟨a, c, fp', h1, h2, h3, h4, h5, _, h6⟩ := h
  exact ⟨a, c, fp', h1, h2, h3, h4, (h5 rfl).1, (h5 rfl).2, h6⟩
theorem FeedQ.bad {p : Nat} {r rk : R} {ws : List R} {s : List UInt8} {fp : List Nat} {w w' : World} {e : Ending} {n : Int} (h : FeedQ p r s fp w e w') (hf : feedP r s = (ws, rk, n)) (hn : n ≠ 0) :
    ∃ a c, e = .returned (.tuple #[.slice a ws.length c, .int .i64 n]) ∧ RowM w' (.slice a ws.length c) (ws.map msgOf) ∧ (∀ m ∈ ws.map msgOf, m.hs.length ≤ 32) ∧ OvAt p w' ∧ Kept (· ∉ fp) w w' := by
  have h := h.rows
  rw [hf] at h
  obtain ⟨a, c, fp', h1, h2, h3, h4, _, h5, h6⟩ := h
  exact ⟨a, c, h1, h2, h3, h5 hn, h6⟩
theorem RrAt.lt {p : Nat} {r : R} {fp : List Nat} {w : World} (h : RrAt p r fp w) : ∀ b ∈ fp, b < w.heap.size := by
  obtain ⟨g, fp0, hb, hr, _, rfl⟩ := h
  intro b hm
  rcases List.mem_cons.1 hm with rfl | hm
  · exact (Array.getElem?_eq_some_iff.1 hb).1
  · exact hr.lt b hm
theorem RrAt.kept {p : Nat} {r : R} {fp : List Nat} {w w' : World} (h : RrAt p r fp w) (hk : Kept (fun _ => True) w w') : RrAt p r fp w' := by
  obtain ⟨g, fp0, hb, hr, hn, rfl⟩ := h
  exact ⟨g, fp0, (hk.block p (Array.getElem?_eq_some_iff.1 hb).1 trivial).trans hb, hr.kept hk fun _ _ => trivial, hn, rfl⟩
theorem OvAt.kept {p : Nat} {w w' : World} (h : OvAt p w) (hk : Kept (fun _ => True) w w') : OvAt p w' := by
  obtain ⟨g, hb⟩ := h
  exact ⟨g, (hk.block p (Array.getElem?_eq_some_iff.1 hb).1 trivial).trans hb⟩
/-- A row of one message, laid by its cells. -/
theorem rowM_one {w : World} {b cap : Nat} {x : Msg} {hv : Value} (hb : four b x.m x.p hv x.body w) (hr : RowF (fun _ => True) w hv x.hs) (hc : 1 ≤ cap) : RowM w (.slice (some ⟨b, 0, none⟩) 1 cap) [x] := by
  obtain ⟨c0, c1, c2, c3⟩ := hb.facts
  refine .inr ⟨b, 0, cap, rfl, hc, hb.lt, fun j y hj => ?_⟩
  obtain ⟨rfl, rfl⟩ : j = 0 ∧ y = x := by
    match j, hj with
    | 0, hj => exact ⟨rfl, by simpa using hj.symm⟩
    | j + 1, hj => simp at hj
  exact ⟨c0, c1, c3, hv, c2, hr⟩
end Go.Proofs.YtaomhkgdbobpkaaGreatDoor
