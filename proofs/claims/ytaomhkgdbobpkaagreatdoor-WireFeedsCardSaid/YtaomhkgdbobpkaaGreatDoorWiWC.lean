/- Walks of wire (layer 5): a reading in memory; a reading begun; a length told. -/
import Derived.Test.YtaomhkgdbobpkaaGreatDoorWiW6
import Derived.Laws.EntriesVeiled
import Derived.Lib.ConvBytes
namespace Go.Proofs.YtaomhkgdbobpkaaGreatDoor
open Go.RowKit Wi

def fieldCells (l : List Fl) : List Value := l.flatMap fun f => [S f.1, S f.2]
theorem fieldCells_len (l : List Fl) : (fieldCells l).length = l.length * 2 := by
  induction l with
  | nil => rfl
  | cons f l ih => simp only [fieldCells, List.flatMap_cons, List.length_append, List.length_cons, List.length_nil] at ih ⊢; omega
theorem fieldCells_snoc (l : List Fl) (f : Fl) : fieldCells (l ++ [f]) = fieldCells l ++ [S f.1, S f.2] := by simp [fieldCells]
/-- The fields l stand in the slice value v, a row of its own. -/
def OwnF (v : Value) (l : List Fl) (w : World) : Prop := w.ownsRow 0 61 2 v l.length (fieldCells l)
theorem infoField : (Tryz.prog.info? 61).map (fun i => (i.zero, i.size, i.bytes)) = some (some (.agg #[S [], S []]), 2, 32) := by kernel_rfl
theorem ty_ne {w : World} {b c : Nat} {x y : Array Value} {T U : TypeId} {f g : Nat × Nat} (h1 : w.heap[b]? = some (.cells x T f)) (h2 : w.heap[c]? = some (.cells y U g)) (hne : T ≠ U) : b ≠ c := fun e => by
  subst e
  rw [h1] at h2
  simp only [Option.some.injEq, Obj.cells.injEq] at h2
  exact hne h2.2.1
theorem own_cells {e : TypeId} {B size n : Nat} {v : Value} {xs : List Value} {w : World} (h : w.ownsRow B e size v n xs) {b : Nat} (hb : v.ownBlock = some b) : ∃ cs, w.heap[b]? = some (.cells cs e (0, 0)) := by
  rcases h.2 with ⟨rfl, _⟩ | ⟨g, cap, cur, rfl, _, hg, _⟩
  · cases hb
  · obtain rfl : g = b := by simpa [Value.ownBlock] using hb
    exact ⟨cur, hg⟩
/-- What a first line said: texts in a row. -/
def RowT (w : World) (v : Value) (ls : List (List UInt8)) : Prop := (v = .slice none 0 0 ∧ ls = []) ∨ ∃ b cap cs fz, v = .slice (some ⟨b, 0, none⟩) ls.length cap ∧ w.heap[b]? = some (.cells cs 9 fz) ∧ ls.length ≤ cap ∧ ∀ (j : Nat) l, ls[j]? = some l → cs[j]? = some (S l)
theorem RowT.kept {w w' : World} {v : Value} {ls : List (List UInt8)} {ok : Nat → Prop} (h : RowT w v ls) (hk : Kept ok w w') (ho : ∀ b, v.ownBlock = some b → ok b) : RowT w' v ls := by
  rcases h with h | ⟨b, cap, cs, fz, rfl, hb, r⟩
  · exact .inl h
  · exact .inr ⟨b, cap, cs, fz, rfl, (hk.block b (Array.getElem?_eq_some_iff.1 hb).1 (ho b rfl)).trans hb, r⟩
theorem RowT.ty {w : World} {v : Value} {ls : List (List UInt8)} (h : RowT w v ls) {b : Nat} (hb : v.ownBlock = some b) : ∃ cs fz, w.heap[b]? = some (.cells cs 9 fz) := by
  rcases h with ⟨rfl, _⟩ | ⟨b', cap, cs, fz, rfl, hh, _⟩
  · cases hb
  · obtain rfl : b' = b := by simpa [Value.ownBlock] using hb
    exact ⟨cs, fz, hh⟩
/-- A reading at g: bx the block that its taker of bytes holds; lv, fv, hv, bv its rows. -/
structure RdC (g bx : Nat) (lv fv hv bv : Value) (r : R) (w : World) : Prop where
  box : w.heap[g]? = some (.cells #[.int .i64 r.ph, .bool r.ans, .func (.func (if r.ph = 2 then 117 else 87)) #[] #[.pointer (some ⟨bx, 0, none⟩)], .int .i64 r.cnt, lv, fv, hv, .int .i64 r.len, bv] 83 (0, 0))
  ptr : w.heap[bx]? = some (.cells #[.pointer (some ⟨g, 0, none⟩)] 73 (0, 0))
  line : OwnB 5 0 lv r.line w
  first : RowT w fv r.first
  hs : OwnF hv r.hs w
  body : OwnB 5 0 bv r.body w
  one : (r.ph = 2 ∧ lv = .slice none 0 0) ∨ (r.ph < 2 ∧ bv = .slice none 0 0)
/-- Its blocks. -/
def fpC (g bx : Nat) (lv fv hv bv : Value) : List Nat := g :: bx :: (lv.ownBlock.toList ++ (fv.ownBlock.toList ++ (hv.ownBlock.toList ++ bv.ownBlock.toList)))
def RdAt (g : Nat) (r : R) (fp : List Nat) (w : World) : Prop := ∃ bx lv fv hv bv, RdC g bx lv fv hv bv r w ∧ fp = fpC g bx lv fv hv bv
section
variable {g bx : Nat} {lv fv hv bv : Value} {r : R} {w w' : World}
theorem RdC.kept {ok : Nat → Prop} (h : RdC g bx lv fv hv bv r w) (hk : Kept ok w w') (ho : ∀ b ∈ fpC g bx lv fv hv bv, ok b) : RdC g bx lv fv hv bv r w' where
  box := (hk.block g (Array.getElem?_eq_some_iff.1 h.box).1 (ho g (by simp [fpC]))).trans h.box
  ptr := (hk.block bx (Array.getElem?_eq_some_iff.1 h.ptr).1 (ho bx (by simp [fpC]))).trans h.ptr
  line := ownsRow_kept h.line hk fun b hb => ho b (by simp [fpC, hb])
  first := h.first.kept hk fun b hb => ho b (by simp [fpC, hb])
  hs := ownsRow_kept h.hs hk fun b hb => ho b (by simp [fpC, hb])
  body := ownsRow_kept h.body hk fun b hb => ho b (by simp [fpC, hb])
  one := h.one
theorem RdC.lt (h : RdC g bx lv fv hv bv r w) : ∀ b ∈ fpC g bx lv fv hv bv, b < w.heap.size := by
  intro b hb
  simp only [fpC, List.mem_cons, List.mem_append, Option.mem_toList] at hb
  rcases hb with rfl | rfl | hb | hb | hb | hb
  · exact (Array.getElem?_eq_some_iff.1 h.box).1
  · exact (Array.getElem?_eq_some_iff.1 h.ptr).1
  · obtain ⟨cs, hc⟩ := own_cells h.line hb; exact (Array.getElem?_eq_some_iff.1 hc).1
  · obtain ⟨cs, fz, hc⟩ := h.first.ty hb; exact (Array.getElem?_eq_some_iff.1 hc).1
  · obtain ⟨cs, hc⟩ := own_cells h.hs hb; exact (Array.getElem?_eq_some_iff.1 hc).1
  · obtain ⟨cs, hc⟩ := own_cells h.body hb; exact (Array.getElem?_eq_some_iff.1 hc).1
theorem RdC.bx_ne (h : RdC g bx lv fv hv bv r w) : bx ≠ g := ty_ne h.ptr h.box (by decide)
theorem RdC.lv_ne (h : RdC g bx lv fv hv bv r w) : ∀ b, lv.ownBlock = some b → b ≠ g ∧ b ≠ bx ∧ fv.ownBlock ≠ some b ∧ hv.ownBlock ≠ some b ∧ bv.ownBlock ≠ some b := by
  intro b hb
  obtain ⟨cs, hc⟩ := own_cells h.line hb
  refine ⟨ty_ne hc h.box (by decide), ty_ne hc h.ptr (by decide), fun e => ?_, fun e => ?_, fun e => ?_⟩
  · obtain ⟨x, y, k⟩ := h.first.ty e; exact ty_ne hc k (by decide) rfl
  · obtain ⟨x, k⟩ := own_cells h.hs e; exact ty_ne hc k (by decide) rfl
  · rcases h.one with ⟨_, rfl⟩ | ⟨_, rfl⟩
    · cases hb
    · cases e
theorem RdC.hv_ne (h : RdC g bx lv fv hv bv r w) : ∀ b, hv.ownBlock = some b → b ≠ g ∧ b ≠ bx ∧ lv.ownBlock ≠ some b ∧ fv.ownBlock ≠ some b ∧ bv.ownBlock ≠ some b := by
  intro b hb
  obtain ⟨cs, hc⟩ := own_cells h.hs hb
  refine ⟨ty_ne hc h.box (by decide), ty_ne hc h.ptr (by decide), fun e => ?_, fun e => ?_, fun e => ?_⟩
  · obtain ⟨x, k⟩ := own_cells h.line e; exact ty_ne hc k (by decide) rfl
  · obtain ⟨x, y, k⟩ := h.first.ty e; exact ty_ne hc k (by decide) rfl
  · obtain ⟨x, k⟩ := own_cells h.body e; exact ty_ne hc k (by decide) rfl
theorem RdC.bv_ne (h : RdC g bx lv fv hv bv r w) : ∀ b, bv.ownBlock = some b → b ≠ g ∧ b ≠ bx ∧ lv.ownBlock ≠ some b ∧ fv.ownBlock ≠ some b ∧ hv.ownBlock ≠ some b := by
  intro b hb
  obtain ⟨cs, hc⟩ := own_cells h.body hb
  refine ⟨ty_ne hc h.box (by decide), ty_ne hc h.ptr (by decide), fun e => ?_, fun e => ?_, fun e => ?_⟩
  · exact (h.lv_ne b e).2.2.2.2 hb
  · obtain ⟨x, y, k⟩ := h.first.ty e; exact ty_ne hc k (by decide) rfl
  · obtain ⟨x, k⟩ := own_cells h.hs e; exact ty_ne hc k (by decide) rfl
theorem RdC.fv_ne (h : RdC g bx lv fv hv bv r w) : ∀ b, fv.ownBlock = some b → b ≠ g ∧ b ≠ bx := by
  intro b hb
  obtain ⟨x, y, k⟩ := h.first.ty hb
  exact ⟨ty_ne k h.box (by decide), ty_ne k h.ptr (by decide)⟩
theorem RdC.facts (h : RdC g bx lv fv hv bv r w) : w.cell? ⟨g, 0, none⟩ = some (.int .i64 r.ph) ∧ w.cell? ⟨g, 1, none⟩ = some (.bool r.ans) ∧
    w.cell? ⟨g, 2, none⟩ = some (.func (.func (if r.ph = 2 then 117 else 87)) #[] #[.pointer (some ⟨bx, 0, none⟩)]) ∧ w.cell? ⟨g, 3, none⟩ = some (.int .i64 r.cnt) ∧
    w.cell? ⟨g, 4, none⟩ = some lv ∧ w.cell? ⟨g, 5, none⟩ = some fv ∧ w.cell? ⟨g, 6, none⟩ = some hv ∧ w.cell? ⟨g, 7, none⟩ = some (.int .i64 r.len) ∧ w.cell? ⟨g, 8, none⟩ = some bv ∧ (∀ o, w.frozen? ⟨g, o, none⟩ = false) ∧ w.cell? ⟨bx, 0, none⟩ = some (.pointer (some ⟨g, 0, none⟩)) := by
  have hb := h.box
  have hp := h.ptr
  refine ⟨?_, ?_, ?_, ?_, ?_, ?_, ?_, ?_, ?_, fun o => frozen_row hb o, ?_⟩
  any_goals (rw [cell_of_row w g _ _ _ (0, 0) hb]; rfl)
  rw [cell_of_row w bx _ _ _ (0, 0) hp]; rfl
/-- A cell of its block is set, and nothing else. -/
theorem RdC.set (h : RdC g bx lv fv hv bv r w) (o : Nat) (v : Value) : Kept (· ≠ g) w (w.setCell ⟨g, o, none⟩ v) ∧ OwnB 5 0 lv r.line (w.setCell ⟨g, o, none⟩ v) ∧ RowT (w.setCell ⟨g, o, none⟩ v) fv r.first ∧ OwnF hv r.hs (w.setCell ⟨g, o, none⟩ v) ∧ OwnB 5 0 bv r.body (w.setCell ⟨g, o, none⟩ v) ∧
    (w.setCell ⟨g, o, none⟩ v).heap[bx]? = some (.cells #[.pointer (some ⟨g, 0, none⟩)] 73 (0, 0)) := by
  have hk : Kept (· ≠ g) w (w.setCell ⟨g, o, none⟩ v) := (Kept.refl _ w).setCell (.inr (by simp)) v
  exact ⟨hk, ownsRow_kept h.line hk fun b hb => (h.lv_ne b hb).1, h.first.kept hk fun b hb => (h.fv_ne b hb).1, ownsRow_kept h.hs hk fun b hb => (h.hv_ne b hb).1, ownsRow_kept h.body hk fun b hb => (h.bv_ne b hb).1,
    (hk.block bx (Array.getElem?_eq_some_iff.1 h.ptr).1 h.bx_ne).trans h.ptr⟩
theorem RdC.setCnt (h : RdC g bx lv fv hv bv r w) (n : Nat) : RdC g bx lv fv hv bv { r with cnt := n } (w.setCell ⟨g, 3, none⟩ (.int .i64 n)) := by
  obtain ⟨_, h2, h3, h4, h5, h6⟩ := h.set 3 (.int .i64 n)
  exact ⟨(setCell_heap h.box _).trans rfl, h6, h2, h3, h4, h5, h.one⟩
theorem RdC.setLen (h : RdC g bx lv fv hv bv r w) (n : Int) : RdC g bx lv fv hv bv { r with len := n } (w.setCell ⟨g, 7, none⟩ (.int .i64 n)) := by
  obtain ⟨_, h2, h3, h4, h5, h6⟩ := h.set 7 (.int .i64 n)
  exact ⟨(setCell_heap h.box _).trans rfl, h6, h2, h3, h4, h5, h.one⟩
theorem RdC.noLine (h : RdC g bx lv fv hv bv r w) : RdC g bx (.slice none 0 0) fv hv bv { r with line := [] } (w.setCell ⟨g, 4, none⟩ (.slice none 0 0)) := by
  obtain ⟨_, _, h3, h4, h5, h6⟩ := h.set 4 (.slice none 0 0)
  exact ⟨(setCell_heap h.box _).trans rfl, h6, World.ownsRow_nil _ _ _ _, h3, h4, h5, h.one.imp (fun e => ⟨e.1, rfl⟩) id⟩
theorem RdC.setPh1 (h : RdC g bx lv fv hv bv r w) (hp : r.ph < 2) : RdC g bx lv fv hv bv { r with ph := 1 } (w.setCell ⟨g, 0, none⟩ (.int .i64 1)) := by
  obtain ⟨_, h2, h3, h4, h5, h6⟩ := h.set 0 (.int .i64 1)
  refine ⟨(setCell_heap h.box _).trans ?_, h6, h2, h3, h4, h5, .inr ⟨by simp, ?_⟩⟩
  · rw [if_neg (by omega)]; rfl
  · rcases h.one with ⟨e, _⟩ | ⟨_, e⟩
    · omega
    · exact e
end
end Go.Proofs.YtaomhkgdbobpkaaGreatDoor

namespace Go.Proofs.YtaomhkgdbobpkaaGreatDoor
open Go.RowKit Wi

set_option maxHeartbeats 1000000 in
theorem inLine_is (g : Nat) (w : World) : Calls Tryz.prog 65 #[.pointer (some ⟨g, 0, none⟩)] w fun e w' => e = .returned (.func (.func 87) #[] #[.pointer (some ⟨w.heap.size, 0, none⟩)]) ∧ w' = w.alloc (.cells #[.pointer (some ⟨g, 0, none⟩)] 73) := by
  have hmf : ∀ (fn : Fn) (first cap : Array Value) (w : World), (Instr.makeFunc fn first cap).run Tryz.prog w = .ok (.func fn first cap) w := fun _ _ _ _ => rfl
  go_enter Tryz.func65, Tryz.ntmps65
  go_wp2
  go_ret
  exact ⟨rfl, rfl⟩
set_option maxHeartbeats 1000000 in
theorem inBody_is (g : Nat) (w : World) : Calls Tryz.prog 102 #[.pointer (some ⟨g, 0, none⟩)] w fun e w' => e = .returned (.func (.func 117) #[] #[.pointer (some ⟨w.heap.size, 0, none⟩)]) ∧ w' = w.alloc (.cells #[.pointer (some ⟨g, 0, none⟩)] 73) := by
  have hmf : ∀ (fn : Fn) (first cap : Array Value) (w : World), (Instr.makeFunc fn first cap).run Tryz.prog w = .ok (.func fn first cap) w := fun _ _ _ _ => rfl
  go_enter Tryz.func102, Tryz.ntmps102
  go_wp2
  go_ret
  exact ⟨rfl, rfl⟩
/-- A reading that has just begun, in blocks of its own. -/
def BeginQ (ans : Bool) (w : World) (e : Ending) (w' : World) : Prop := ∃ g fp, e = .returned (.pointer (some ⟨g, 0, none⟩)) ∧ RdAt g (begin' ans) fp w' ∧ (∀ b ∈ fp, w.heap.size ≤ b) ∧ Kept (fun _ => True) w w'
set_option maxHeartbeats 2000000 in
theorem begin_any (ans : Bool) (w : World) : Calls Tryz.prog 35 #[.bool ans] w (BeginQ ans w) := by
  obtain ⟨g, hg⟩ : ∃ g, w.heap.size = g := ⟨_, rfl⟩
  have HQ : Hid (∀ e, e = Ending.returned (.pointer (some ⟨g, 0, none⟩)) → BeginQ ans w e ((w.alloc (.cells #[.int .i64 0, .bool ans, .func (.func 87) #[] #[.pointer (some ⟨g + 1, 0, none⟩)], .int .i64 0, .slice none 0 0, .slice none 0 0, .slice none 0 0, .int .i64 (-1), .slice none 0 0] 83)).alloc (.cells #[.pointer (some ⟨g, 0, none⟩)] 73))) := Lib.hid fun e he => by
    subst he
    have h1 := heap_alloc_new w (.cells #[.int .i64 0, .bool ans, .func (.func 87) #[] #[.pointer (some ⟨g + 1, 0, none⟩)], .int .i64 0, .slice none 0 0, .slice none 0 0, .slice none 0 0, .int .i64 (-1), .slice none 0 0] 83)
    obtain ⟨w1, hw1⟩ : ∃ w1, w.alloc (.cells #[.int .i64 0, .bool ans, .func (.func 87) #[] #[.pointer (some ⟨g + 1, 0, none⟩)], .int .i64 0, .slice none 0 0, .slice none 0 0, .slice none 0 0, .int .i64 (-1), .slice none 0 0] 83) = w1 := ⟨_, rfl⟩
    have hz1 : w1.heap.size = g + 1 := by rw [← hw1, ← hg]; simp
    have hk1 : Kept (fun _ => True) w w1 := by rw [← hw1]; exact (Kept.refl _ w).alloc _
    rw [hg] at h1
    rw [hw1] at h1 ⊢
    have h2 := heap_alloc_new w1 (.cells #[.pointer (some ⟨g, 0, none⟩)] 73)
    rw [hz1] at h2
    have hk2 : Kept (fun _ => True) w1 (w1.alloc (.cells #[.pointer (some ⟨g, 0, none⟩)] 73)) := (Kept.refl _ w1).alloc _
    have h3 := (hk2.block g (by omega) trivial).trans h1
    refine ⟨g, [g, g + 1], rfl, ⟨g + 1, .slice none 0 0, .slice none 0 0, .slice none 0 0, .slice none 0 0, ⟨h3, h2, World.ownsRow_nil _ _ _ _, .inl ⟨rfl, rfl⟩, World.ownsRow_nil _ _ _ _, World.ownsRow_nil _ _ _ _, .inr ⟨by simp [begin'], rfl⟩⟩, rfl⟩, ?_, hk1.tr hk2⟩
    intro b hb
    simp at hb
    omega
  have IL := Lib.hid (fun W => inLine_is g W)
  go_enter Tryz.func35, Tryz.ntmps35
  go_wp2_with fail
  refine (IL.out _).mono ?_
  rintro e w1 ⟨rfl, rfl⟩
  go_wp2
  go_ret
  exact HQ.out _ rfl
end Go.Proofs.YtaomhkgdbobpkaaGreatDoor

namespace Go.Proofs.YtaomhkgdbobpkaaGreatDoor
open Go.RowKit Wi

theorem Kept.bytesW {ok : Nat → Prop} (w : World) (e : TypeId) (s : ByteArray) : Kept ok w (Lib.bytesWorld w e s) :=
  ⟨rfl, rfl, rfl, by rw [Lib.bytesWorld_size]; omega, fun k hk _ => Lib.bytesWorld_at_old w e s k hk⟩
theorem dig_val {b : UInt8} (h : digitP b = true) : Lib.digitVal b = some (b.toNat - 48) := by
  unfold digitP at h
  simp only [Bool.and_eq_true, decide_eq_true_eq] at h
  have h1 := UInt8.le_iff_toNat_le.1 h.1
  have h2 := UInt8.le_iff_toNat_le.1 h.2
  unfold Lib.digitVal
  rw [if_pos ⟨h1, h2⟩]
theorem dec_digits : ∀ (l : List UInt8) (acc : Nat), l.all digitP = true → ∃ n, Lib.decFrom acc l = some n ∧ n < (acc + 1) * 10 ^ l.length
  | [], acc, _ => ⟨acc, rfl, by simp⟩
  | b :: r, acc, h => by
    simp only [List.all_cons, Bool.and_eq_true] at h
    obtain ⟨n, h1, h2⟩ := dec_digits r (acc * 10 + (b.toNat - 48)) h.2
    refine ⟨n, ?_, ?_⟩
    · unfold Lib.decFrom; rw [dig_val h.1]; exact h1
    · have hb : b.toNat - 48 ≤ 9 := by
        have := h.1
        unfold digitP at this
        simp only [Bool.and_eq_true, decide_eq_true_eq] at this
        have h3 := UInt8.le_iff_toNat_le.1 this.2
        have e : (57 : UInt8).toNat = 57 := rfl
        omega
      rw [List.length_cons, Nat.pow_succ]
      have h3 : (acc * 10 + (b.toNat - 48) + 1) * 10 ^ r.length ≤ ((acc + 1) * 10) * 10 ^ r.length := Nat.mul_le_mul_right _ (by omega)
      rw [Nat.mul_assoc] at h3
      rw [Nat.mul_comm (10 ^ r.length) 10]
      omega
theorem atoi_digits {v : List UInt8} (h : v.all digitP = true) (hn : v ≠ []) : Lib.atoi v = some (decP v : Int) ∧ decP v < 10 ^ v.length := by
  obtain ⟨n, h1, h2⟩ := dec_digits v 0 h
  have hd : decP v = n := by unfold decP; rw [h1]; rfl
  refine ⟨?_, by rw [hd]; omega⟩
  cases v with
  | nil => exact absurd rfl hn
  | cons b r =>
    simp only [List.all_cons, Bool.and_eq_true] at h
    have hb := h.1
    unfold digitP at hb
    simp only [Bool.and_eq_true, decide_eq_true_eq] at hb
    have h3 := UInt8.le_iff_toNat_le.1 hb.1
    have e : (48 : UInt8).toNat = 48 := rfl
    have n1 : ¬ (b == 45) = true := fun k => by rw [beq_iff_eq.1 k] at h3; exact absurd h3 (by decide)
    have n2 : ¬ (b == 43) = true := fun k => by rw [beq_iff_eq.1 k] at h3; exact absurd h3 (by decide)
    show (if (b == 45) = true then (Lib.decNat r).map (fun (m : Nat) => -(m : Int)) else if (b == 43) = true then (Lib.decNat r).map (fun (m : Nat) => (m : Int)) else (Lib.decNat (b :: r)).map (fun (m : Nat) => (m : Int))) = _
    rw [if_neg n1, if_neg n2]
    unfold Lib.decNat
    rw [if_neg (by simp), h1, hd]
    rfl
/-- What a method of a reading leaves. -/
def ReadQ (g bx : Nat) (lv fv hv bv : Value) (x : R × Int) (w : World) (e : Ending) (w' : World) : Prop := e = .returned (.int .i64 x.2) ∧ RdC g bx lv fv hv bv x.1 w' ∧ Kept (· ≠ g) w w'
set_option maxHeartbeats 4000000 in
set_option maxRecDepth 100000 in
theorem told_any (g bx : Nat) (lv fv hv bv : Value) (r : R) (v : List UInt8) (w : World) (h : RdC g bx lv fv hv bv r w) (hl : Sml v) :
    Calls Tryz.prog 120 #[.pointer (some ⟨g, 0, none⟩), S v] w (ReadQ g bx lv fv hv bv (toldP r v) w) := by
  unfold Sml at hl
  have OV := Lib.hid (fun W => only_any v 1 1000 _ digitP W digit_may (by omega) (by omega) (by omega))
  have HC := Lib.hid h
  have hvz : (⟨v.toArray⟩ : ByteArray).size = v.length := size_mk v
  obtain ⟨c0, c1, c2, c3, c4, c5, c6, c7, c8, c9, c10⟩ := h.facts
  clear h c0 c1 c2 c3 c4 c5 c6 c8 c9 c10
  have hq0 := @Kept.refl (· ≠ g) w
  by_cases hn : 0 ≤ r.len
  · have HR : Hid (toldP r v = (r, 52)) := Lib.hid (by unfold toldP; rw [if_pos (.inl hn)])
    go_enter Tryz.func120, Tryz.ntmps120
    go_wp2
    go_ret
    unfold ReadQ
    rw [HR.out]
    exact ⟨rfl, HC.out, Kept.refl _ _⟩
  obtain ⟨q, hq⟩ : ∃ q, onlyP v 1 1000 digitP = q := ⟨_, rfl⟩
  rw [hq] at OV
  cases q with
  | false =>
    have HR : Hid (toldP r v = (r, 52)) := Lib.hid (by unfold toldP; rw [if_pos (.inr (.inl hq))])
    clear hq
    go_enter Tryz.func120, Tryz.ntmps120
    go_wp2_with (refine (OV.out _).mono ?_; rintro e w1 ⟨rfl, hk1⟩)
    go_ret
    unfold ReadQ
    rw [HR.out]
    exact ⟨rfl, HC.out.kept hk1 fun _ _ => trivial, hk1.mono fun _ _ _ => trivial⟩
  | true =>
    have hq2 := hq
    unfold onlyP at hq2
    simp only [Bool.and_eq_true, decide_eq_true_eq] at hq2
    obtain ⟨⟨hall, h1⟩, h1000⟩ := hq2
    have hne : v ≠ [] := fun e => by rw [e] at h1; simp at h1
    obtain ⟨hat, hlt⟩ := atoi_digits hall hne
    cases v with
    | nil => exact absurd rfl hne
    | cons x s =>
      have hx2 := run_at (x :: s) 0 x rfl
      have h0s : 0 < (⟨(x :: s).toArray⟩ : ByteArray).size := by rw [hvz]; simp
      have e1 := byte_is x 48 48 rfl
      simp only [List.length_cons] at hvz h1000 hlt hl
      by_cases hz : x = 48 ∧ x :: s ≠ [48]
      · have HR : Hid (toldP r (x :: s) = (r, 52)) := Lib.hid (by unfold toldP; rw [if_pos (.inr (.inr ⟨by rw [hz.1]; rfl, hz.2⟩))])
        obtain ⟨rfl, hz2⟩ := hz
        have q1 : ((48 : UInt8) :: s == [48]) = false := beq_eq_false_iff_ne.2 hz2
        have e3 : ((((⟨(48 :: s).toArray⟩ : ByteArray)[0]'h0s).toNat : Int) == 48) = true := e1
        clear hz2 hq hall hat hlt hne h1
        go_enter Tryz.func120, Tryz.ntmps120
        go_wp2_with (refine (OV.out _).mono ?_; rintro e w1 ⟨rfl, hk1⟩)
        all_goals
          first
            | (exfalso; simp_all; done)
            | (go_ret
               unfold ReadQ
               rw [HR.out]
               exact ⟨rfl, HC.out.kept hk1 fun _ _ => trivial, hk1.mono fun _ _ _ => trivial⟩)
      · have hcs : x ≠ 48 ∨ (x = 48 ∧ s = []) := by
          by_cases hx : x = 48
          · refine .inr ⟨hx, ?_⟩
            by_cases hs : s = []
            · exact hs
            · exact absurd ⟨hx, fun e => hs (by injection e)⟩ hz
          · exact .inl hx
        have HN : Hid (¬ (0 ≤ r.len ∨ onlyP (x :: s) 1 1000 digitP = false ∨ ((x :: s).head? = some 48 ∧ x :: s ≠ [48]))) := Lib.hid (by
          rintro (h | h | h)
          · exact hn h
          · rw [hq] at h; cases h
          · exact hz ⟨by simpa using h.1, h.2⟩)
        have HR : Hid (toldP r (x :: s) = if 4 < s.length + 1 ∨ 4000 < decP (x :: s) then (r, 53) else ({ r with len := (decP (x :: s) : Nat) }, 0)) := Lib.hid (by unfold toldP; rw [if_neg HN.out]; rfl)
        rcases hcs with hx | ⟨rfl, rfl⟩
        · have e3 : ((((⟨(x :: s).toArray⟩ : ByteArray)[0]'h0s).toNat : Int) == 48) = false := by rw [show ((((⟨(x :: s).toArray⟩ : ByteArray)[0]'h0s).toNat : Int) == 48) = decide (x = 48) from e1]; exact decide_eq_false hx
          obtain ⟨d, hd⟩ : ∃ d, decP (x :: s) = d := ⟨_, rfl⟩
          rw [hd] at HR hat hlt
          by_cases h4 : s.length + 1 ≤ 4
          · have hd4 : d < 10000 := Nat.lt_of_lt_of_le hlt (Nat.pow_le_pow_right (by omega) h4)
            have h4' : ((s.length + 1 : Nat) : Int) ≤ 4 := by omega
            have AT := Lib.hid (fun W => Tryz.strconv_Atoi ⟨(x :: s).toArray⟩ d (by rw [hvz]; omega) hat W)
            clear HN hd hq hall hne h1 hz hlt hat hx
            by_cases h5 : 4000 < d
            · have HRR : Hid (toldP r (x :: s) = (r, 53)) := Lib.hid (by rw [HR.out, if_pos (.inr h5)])
              have h5' : (4000 : Int) < (d : Int) := by omega
              clear HR
              go_enter Tryz.func120, Tryz.ntmps120
              go_wp2_with (first
                | (go_at_call 78; refine (OV.out _).mono ?_; rintro e w1 ⟨rfl, hk1⟩)
                | (go_at_call 64; refine (AT.out _).mono ?_; rintro e w2 ⟨rfl, t, hw2⟩; have hk2 : Kept (fun _ => True) w1 w2 := (by rw [hw2]; exact Kept.bytesW _ _ _); have hf := (HC.out.kept (hk1.tr hk2) fun _ _ => trivial).facts; obtain ⟨-, -, -, -, -, -, -, f7, -, f9, -⟩ := hf; have f9 := f9 7; clear hw2))
              go_ret
              unfold ReadQ
              rw [HRR.out]
              exact ⟨rfl, HC.out.kept (hk1.tr hk2) fun _ _ => trivial, (hk1.tr hk2).mono fun _ _ _ => trivial⟩
            · have HRR : Hid (toldP r (x :: s) = ({ r with len := (d : Nat) }, 0)) := Lib.hid (by rw [HR.out, if_neg (by omega)])
              have h5' : ¬ (4000 : Int) < (d : Int) := by omega
              clear HR
              go_enter Tryz.func120, Tryz.ntmps120
              go_wp2_with (first
                | (go_at_call 78; refine (OV.out _).mono ?_; rintro e w1 ⟨rfl, hk1⟩)
                | (go_at_call 64; refine (AT.out _).mono ?_; rintro e w2 ⟨rfl, t, hw2⟩; have hk2 : Kept (fun _ => True) w1 w2 := (by rw [hw2]; exact Kept.bytesW _ _ _); have hf := (HC.out.kept (hk1.tr hk2) fun _ _ => trivial).facts; obtain ⟨-, -, -, -, -, -, -, f7, -, f9, -⟩ := hf; have f9 := f9 7; clear hw2))
              go_ret
              unfold ReadQ
              rw [HRR.out]
              exact ⟨rfl, RdC.setLen (HC.out.kept (hk1.tr hk2) fun _ _ => trivial) (d : Nat), ((hk1.tr hk2).mono fun _ _ _ => trivial).setCell (.inr (by simp)) _⟩
          · have HRR : Hid (toldP r (x :: s) = (r, 53)) := Lib.hid (by rw [HR.out, if_pos (.inl (by omega))])
            have h4' : ¬ ((s.length + 1 : Nat) : Int) ≤ 4 := by omega
            clear HR HN hd hq hall hne h1 hz hlt hat hx
            go_enter Tryz.func120, Tryz.ntmps120
            go_wp2_with (refine (OV.out _).mono ?_; rintro e w1 ⟨rfl, hk1⟩)
            go_ret
            unfold ReadQ
            rw [HRR.out]
            exact ⟨rfl, HC.out.kept hk1 fun _ _ => trivial, hk1.mono fun _ _ _ => trivial⟩
        · have HRR : Hid (toldP r [48] = ({ r with len := (0 : Nat) }, 0)) := Lib.hid (by rw [HR.out]; rfl)
          have AT := Lib.hid (fun W => Tryz.strconv_Atoi ⟨#[48]⟩ 0 (by decide) rfl W)
          clear HR HN hq hall hne h1 hz hlt hat
          go_enter Tryz.func120, Tryz.ntmps120
          go_wp2_with (first
            | (go_at_call 78; refine (OV.out _).mono ?_; rintro e w1 ⟨rfl, hk1⟩)
            | (go_at_call 64; refine (AT.out _).mono ?_; rintro e w2 ⟨rfl, t, hw2⟩; have hk2 : Kept (fun _ => True) w1 w2 := (by rw [hw2]; exact Kept.bytesW _ _ _); have hf := (HC.out.kept (hk1.tr hk2) fun _ _ => trivial).facts; obtain ⟨-, -, -, -, -, -, -, f7, -, f9, -⟩ := hf; have f9 := f9 7; clear hw2))
          go_ret
          unfold ReadQ
          rw [HRR.out]
          exact ⟨rfl, RdC.setLen (HC.out.kept (hk1.tr hk2) fun _ _ => trivial) (0 : Nat), ((hk1.tr hk2).mono fun _ _ _ => trivial).setCell (.inr (by simp)) _⟩
end Go.Proofs.YtaomhkgdbobpkaaGreatDoor
