/- Layer 5: a reading in memory, with its blocks. -/
import Derived.Test.YtaomhkgdbobpkaaGreatDoorWiW6
namespace Go.Proofs.YtaomhkgdbobpkaaGreatDoor
open Go.RowKit Wi

def fieldCells (l : List Fl) : List Value := l.flatMap fun f => [S f.1, S f.2]
theorem fieldCells_len (l : List Fl) : (fieldCells l).length = l.length * 2 := by
  induction l with
  | nil => rfl
  | cons f l ih => simp only [fieldCells, List.flatMap_cons, List.length_append, List.length_cons, List.length_nil] at ih ⊢; omega
theorem fieldCells_snoc (l : List Fl) (f : Fl) : fieldCells (l ++ [f]) = fieldCells l ++ [S f.1, S f.2] := by simp [fieldCells]
/-- The fields l stand in the slice value v, a row of its own. -/
def OwnF (v : Value) (l : List Fl) (w : World) : Prop := w.ownsRow 0 61 2 v l.length (fieldCells l)
theorem infoField : (Tryz.prog.info? 61).map (fun i => (i.zero, i.size, i.bytes)) = some (some (.agg #[S [], S []]), 2, 32) := by kernel_rfl
theorem ty_ne {w : World} {b c : Nat} {x y : Array Value} {T U : TypeId} {f g : Nat × Nat} (h1 : w.heap[b]? = some (.cells x T f)) (h2 : w.heap[c]? = some (.cells y U g)) (hne : T ≠ U) : b ≠ c := fun e => by
  subst e
  rw [h1] at h2
  simp only [Option.some.injEq, Obj.cells.injEq] at h2
  exact hne h2.2.1
theorem own_cells {e : TypeId} {B size n : Nat} {v : Value} {xs : List Value} {w : World} (h : w.ownsRow B e size v n xs) {b : Nat} (hb : v.ownBlock = some b) : ∃ cs, w.heap[b]? = some (.cells cs e (0, 0)) := by
  rcases h.2 with ⟨rfl, _⟩ | ⟨g, cap, cur, rfl, _, hg, _⟩
  · cases hb
  · obtain rfl : g = b := by simpa [Value.ownBlock] using hb
    exact ⟨cur, hg⟩
/-- What a first line said: texts in a row. -/
def RowT (w : World) (v : Value) (ls : List (List UInt8)) : Prop := (v = .slice none 0 0 ∧ ls = []) ∨ ∃ b cap cs fz, v = .slice (some ⟨b, 0, none⟩) ls.length cap ∧ w.heap[b]? = some (.cells cs 9 fz) ∧ ls.length ≤ cap ∧ ∀ (j : Nat) l, ls[j]? = some l → cs[j]? = some (S l)
theorem RowT.kept {w w' : World} {v : Value} {ls : List (List UInt8)} {ok : Nat → Prop} (h : RowT w v ls) (hk : Kept ok w w') (ho : ∀ b, v.ownBlock = some b → ok b) : RowT w' v ls := by
  rcases h with h | ⟨b, cap, cs, fz, rfl, hb, r⟩
  · exact .inl h
  · exact .inr ⟨b, cap, cs, fz, rfl, (hk.block b (Array.getElem?_eq_some_iff.1 hb).1 (ho b rfl)).trans hb, r⟩
theorem RowT.ty {w : World} {v : Value} {ls : List (List UInt8)} (h : RowT w v ls) {b : Nat} (hb : v.ownBlock = some b) : ∃ cs fz, w.heap[b]? = some (.cells cs 9 fz) := by
  rcases h with ⟨rfl, _⟩ | ⟨b', cap, cs, fz, rfl, hh, _⟩
  · cases hb
  · obtain rfl : b' = b := by simpa [Value.ownBlock] using hb
    exact ⟨cs, fz, hh⟩
/-- A reading at g: bx the block that its taker of bytes holds; lv, fv, hv, bv its rows. -/
structure RdC (g bx : Nat) (lv fv hv bv : Value) (r : R) (w : World) : Prop where
  box : w.heap[g]? = some (.cells #[.int .i64 r.ph, .bool r.ans, .func (.func (if r.ph = 2 then 117 else 87)) #[] #[.pointer (some ⟨bx, 0, none⟩)], .int .i64 r.cnt, lv, fv, hv, .int .i64 r.len, bv] 83 (0, 0))
  ptr : w.heap[bx]? = some (.cells #[.pointer (some ⟨g, 0, none⟩)] 73 (0, 0))
  line : OwnB 5 0 lv r.line w
  first : RowT w fv r.first
  hs : OwnF hv r.hs w
  body : OwnB 5 0 bv r.body w
  one : (r.ph = 2 ∧ lv = .slice none 0 0) ∨ (r.ph < 2 ∧ bv = .slice none 0 0)
/-- Its blocks. -/
def fpC (g bx : Nat) (lv fv hv bv : Value) : List Nat := g :: bx :: (lv.ownBlock.toList ++ (fv.ownBlock.toList ++ (hv.ownBlock.toList ++ bv.ownBlock.toList)))
def RdAt (g : Nat) (r : R) (fp : List Nat) (w : World) : Prop := ∃ bx lv fv hv bv, RdC g bx lv fv hv bv r w ∧ fp = fpC g bx lv fv hv bv
section
variable {g bx : Nat} {lv fv hv bv : Value} {r : R} {w w' : World}
theorem RdC.kept {ok : Nat → Prop} (h : RdC g bx lv fv hv bv r w) (hk : Kept ok w w') (ho : ∀ b ∈ fpC g bx lv fv hv bv, ok b) : RdC g bx lv fv hv bv r w' where
  box := (hk.block g (Array.getElem?_eq_some_iff.1 h.box).1 (ho g (by simp [fpC]))).trans h.box
  ptr := (hk.block bx (Array.getElem?_eq_some_iff.1 h.ptr).1 (ho bx (by simp [fpC]))).trans h.ptr
  line := ownsRow_kept h.line hk fun b hb => ho b (by simp [fpC, hb])
  first := h.first.kept hk fun b hb => ho b (by simp [fpC, hb])
  hs := ownsRow_kept h.hs hk fun b hb => ho b (by simp [fpC, hb])
  body := ownsRow_kept h.body hk fun b hb => ho b (by simp [fpC, hb])
  one := h.one
theorem RdC.lt (h : RdC g bx lv fv hv bv r w) : ∀ b ∈ fpC g bx lv fv hv bv, b < w.heap.size := by
  intro b hb
  simp only [fpC, List.mem_cons, List.mem_append, Option.mem_toList] at hb
  rcases hb with rfl | rfl | hb | hb | hb | hb
  · exact (Array.getElem?_eq_some_iff.1 h.box).1
  · exact (Array.getElem?_eq_some_iff.1 h.ptr).1
  · obtain ⟨cs, hc⟩ := own_cells h.line hb; exact (Array.getElem?_eq_some_iff.1 hc).1
  · obtain ⟨cs, fz, hc⟩ := h.first.ty hb; exact (Array.getElem?_eq_some_iff.1 hc).1
  · obtain ⟨cs, hc⟩ := own_cells h.hs hb; exact (Array.getElem?_eq_some_iff.1 hc).1
  · obtain ⟨cs, hc⟩ := own_cells h.body hb; exact (Array.getElem?_eq_some_iff.1 hc).1
theorem RdC.bx_ne (h : RdC g bx lv fv hv bv r w) : bx ≠ g := ty_ne h.ptr h.box (by decide)
theorem RdC.lv_ne (h : RdC g bx lv fv hv bv r w) : ∀ b, lv.ownBlock = some b → b ≠ g ∧ b ≠ bx ∧ fv.ownBlock ≠ some b ∧ hv.ownBlock ≠ some b ∧ bv.ownBlock ≠ some b := by
  intro b hb
  obtain ⟨cs, hc⟩ := own_cells h.line hb
  refine ⟨ty_ne hc h.box (by decide), ty_ne hc h.ptr (by decide), fun e => ?_, fun e => ?_, fun e => ?_⟩
  · obtain ⟨x, y, k⟩ := h.first.ty e; exact ty_ne hc k (by decide) rfl
  · obtain ⟨x, k⟩ := own_cells h.hs e; exact ty_ne hc k (by decide) rfl
  · rcases h.one with ⟨_, rfl⟩ | ⟨_, rfl⟩
    · cases hb
    · cases e
theorem RdC.hv_ne (h : RdC g bx lv fv hv bv r w) : ∀ b, hv.ownBlock = some b → b ≠ g ∧ b ≠ bx ∧ lv.ownBlock ≠ some b ∧ fv.ownBlock ≠ some b ∧ bv.ownBlock ≠ some b := by
  intro b hb
  obtain ⟨cs, hc⟩ := own_cells h.hs hb
  refine ⟨ty_ne hc h.box (by decide), ty_ne hc h.ptr (by decide), fun e => ?_, fun e => ?_, fun e => ?_⟩
  · obtain ⟨x, k⟩ := own_cells h.line e; exact ty_ne hc k (by decide) rfl
  · obtain ⟨x, y, k⟩ := h.first.ty e; exact ty_ne hc k (by decide) rfl
  · obtain ⟨x, k⟩ := own_cells h.body e; exact ty_ne hc k (by decide) rfl
theorem RdC.bv_ne (h : RdC g bx lv fv hv bv r w) : ∀ b, bv.ownBlock = some b → b ≠ g ∧ b ≠ bx ∧ lv.ownBlock ≠ some b ∧ fv.ownBlock ≠ some b ∧ hv.ownBlock ≠ some b := by
  intro b hb
  obtain ⟨cs, hc⟩ := own_cells h.body hb
  refine ⟨ty_ne hc h.box (by decide), ty_ne hc h.ptr (by decide), fun e => ?_, fun e => ?_, fun e => ?_⟩
  · exact (h.lv_ne b e).2.2.2.2 hb
  · obtain ⟨x, y, k⟩ := h.first.ty e; exact ty_ne hc k (by decide) rfl
  · obtain ⟨x, k⟩ := own_cells h.hs e; exact ty_ne hc k (by decide) rfl
theorem RdC.fv_ne (h : RdC g bx lv fv hv bv r w) : ∀ b, fv.ownBlock = some b → b ≠ g ∧ b ≠ bx := by
  intro b hb
  obtain ⟨x, y, k⟩ := h.first.ty hb
  exact ⟨ty_ne k h.box (by decide), ty_ne k h.ptr (by decide)⟩
theorem RdC.facts (h : RdC g bx lv fv hv bv r w) : w.cell? ⟨g, 0, none⟩ = some (.int .i64 r.ph) ∧ w.cell? ⟨g, 1, none⟩ = some (.bool r.ans) ∧
    w.cell? ⟨g, 2, none⟩ = some (.func (.func (if r.ph = 2 then 117 else 87)) #[] #[.pointer (some ⟨bx, 0, none⟩)]) ∧ w.cell? ⟨g, 3, none⟩ = some (.int .i64 r.cnt) ∧
    w.cell? ⟨g, 4, none⟩ = some lv ∧ w.cell? ⟨g, 5, none⟩ = some fv ∧ w.cell? ⟨g, 6, none⟩ = some hv ∧ w.cell? ⟨g, 7, none⟩ = some (.int .i64 r.len) ∧ w.cell? ⟨g, 8, none⟩ = some bv ∧ (∀ o, w.frozen? ⟨g, o, none⟩ = false) ∧ w.cell? ⟨bx, 0, none⟩ = some (.pointer (some ⟨g, 0, none⟩)) := by
  have hb := h.box
  have hp := h.ptr
  refine ⟨?_, ?_, ?_, ?_, ?_, ?_, ?_, ?_, ?_, fun o => frozen_row hb o, ?_⟩
  any_goals (rw [cell_of_row w g _ _ _ (0, 0) hb]; rfl)
  rw [cell_of_row w bx _ _ _ (0, 0) hp]; rfl
/-- A cell of its block is set, and nothing else. -/
theorem RdC.set (h : RdC g bx lv fv hv bv r w) (o : Nat) (v : Value) : Kept (· ≠ g) w (w.setCell ⟨g, o, none⟩ v) ∧ OwnB 5 0 lv r.line (w.setCell ⟨g, o, none⟩ v) ∧ RowT (w.setCell ⟨g, o, none⟩ v) fv r.first ∧ OwnF hv r.hs (w.setCell ⟨g, o, none⟩ v) ∧ OwnB 5 0 bv r.body (w.setCell ⟨g, o, none⟩ v) ∧
    (w.setCell ⟨g, o, none⟩ v).heap[bx]? = some (.cells #[.pointer (some ⟨g, 0, none⟩)] 73 (0, 0)) := by
  have hk : Kept (· ≠ g) w (w.setCell ⟨g, o, none⟩ v) := (Kept.refl _ w).setCell (.inr (by simp)) v
  exact ⟨hk, ownsRow_kept h.line hk fun b hb => (h.lv_ne b hb).1, h.first.kept hk fun b hb => (h.fv_ne b hb).1, ownsRow_kept h.hs hk fun b hb => (h.hv_ne b hb).1, ownsRow_kept h.body hk fun b hb => (h.bv_ne b hb).1,
    (hk.block bx (Array.getElem?_eq_some_iff.1 h.ptr).1 h.bx_ne).trans h.ptr⟩
theorem RdC.setCnt (h : RdC g bx lv fv hv bv r w) (n : Nat) : RdC g bx lv fv hv bv { r with cnt := n } (w.setCell ⟨g, 3, none⟩ (.int .i64 n)) := by
  obtain ⟨_, h2, h3, h4, h5, h6⟩ := h.set 3 (.int .i64 n)
  exact ⟨(setCell_heap h.box _).trans rfl, h6, h2, h3, h4, h5, h.one⟩
theorem RdC.setLen (h : RdC g bx lv fv hv bv r w) (n : Int) : RdC g bx lv fv hv bv { r with len := n } (w.setCell ⟨g, 7, none⟩ (.int .i64 n)) := by
  obtain ⟨_, h2, h3, h4, h5, h6⟩ := h.set 7 (.int .i64 n)
  exact ⟨(setCell_heap h.box _).trans rfl, h6, h2, h3, h4, h5, h.one⟩
theorem RdC.noLine (h : RdC g bx lv fv hv bv r w) : RdC g bx (.slice none 0 0) fv hv bv { r with line := [] } (w.setCell ⟨g, 4, none⟩ (.slice none 0 0)) := by
  obtain ⟨_, _, h3, h4, h5, h6⟩ := h.set 4 (.slice none 0 0)
  exact ⟨(setCell_heap h.box _).trans rfl, h6, World.ownsRow_nil _ _ _ _, h3, h4, h5, h.one.imp (fun e => ⟨e.1, rfl⟩) id⟩
theorem RdC.setPh1 (h : RdC g bx lv fv hv bv r w) (hp : r.ph < 2) : RdC g bx lv fv hv bv { r with ph := 1 } (w.setCell ⟨g, 0, none⟩ (.int .i64 1)) := by
  obtain ⟨_, h2, h3, h4, h5, h6⟩ := h.set 0 (.int .i64 1)
  refine ⟨(setCell_heap h.box _).trans ?_, h6, h2, h3, h4, h5, .inr ⟨by simp, ?_⟩⟩
  · rw [if_neg (by omega)]; rfl
  · rcases h.one with ⟨e, _⟩ | ⟨_, e⟩
    · omega
    · exact e
end
end Go.Proofs.YtaomhkgdbobpkaaGreatDoor
