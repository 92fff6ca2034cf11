/- Layer 4: values handed out, with the blocks of their lists; values handed in. -/
import Derived.Test.YtmajpambfblhnaaGreatDoorJoVA
import Derived.Test.YtmajpambfblhnaaGreatDoorJKit
namespace Go.Proofs.YtmajpambfblhnaaGreatDoor
open Go.RowKit Jo

theorem infoStr : (Tryz.prog.info? 9).map (fun i => (i.zero, i.size, i.bytes)) = some (some (S []), 1, 16) := by kernel_rfl
theorem infoJot : (Tryz.prog.info? 25).map (fun i => (i.zero, i.size, i.bytes)) = some (some (.agg #[.int .i64 0, .int .i64 0, S [], .slice none 0 0, .slice none 0 0]), 5, 80) := by kernel_rfl

/-- The five cells of a value. -/
abbrev jotV (k n : Int) (t : List UInt8) (nv iv : Value) : Value := .agg #[.int .i64 k, .int .i64 n, S t, nv, iv]
/-- The cells of several values. -/
def jotCells (us : List Value) : List Value := us.flatMap fun u => u.cells.toList

/-- The value x stands at v; each list of it lies in a block of its own; fp: those blocks. -/
inductive JOwn (w : World) : J → Value → List Nat → Prop where
  | mk (k n : Int) (t : List UInt8) (ns : List (List UInt8)) (xs : List J) (nv iv : Value) (us : List Value) (fss : List (List Nat)) (hu : us.length = xs.length) (hf : fss.length = xs.length)
      (hn : w.ownsRow 0 9 1 nv ns.length (ns.map S)) (hi : w.ownsRow 0 25 5 iv xs.length (jotCells us))
      (h : ∀ (j : Nat) x, xs[j]? = some x → JOwn w x (us.getD j .nilIface) (fss.getD j [])) :
      JOwn w (.mk k n t ns xs) (jotV k n t nv iv) (nv.ownBlock.toList ++ iv.ownBlock.toList ++ fss.flatten)

theorem JOwn.form {w : World} {x : J} {v : Value} {fp : List Nat} (h : JOwn w x v fp) : ∃ nv iv, v = jotV x.kind x.num x.text nv iv := by
  cases h with | mk k n t ns xs nv iv us fss hu hf hn hi h => exact ⟨nv, iv, rfl⟩
theorem JOwn.lt {w : World} {x : J} {v : Value} {fp : List Nat} (h : JOwn w x v fp) : ∀ b ∈ fp, b < w.heap.size := by
  induction h with
  | mk k n t ns xs nv iv us fss hu hf hn hi _ ih =>
    intro b hb
    rw [List.mem_append, List.mem_append] at hb
    rcases hb with (hb | hb) | hb
    · exact (hn.lt b (by simpa using hb)).2
    · exact (hi.lt b (by simpa using hb)).2
    · obtain ⟨fs, hfs, hb⟩ := List.mem_flatten.1 hb
      obtain ⟨j, hj, rfl⟩ := List.getElem_of_mem hfs
      have := ih j (xs[j]'(by omega)) (List.getElem?_eq_getElem _) b
      rw [List.getD_eq_getElem?_getD, List.getElem?_eq_getElem hj] at this
      exact this hb
theorem ownsRow_keptL {e : TypeId} {size B n : Nat} {v : Value} {xs : List Value} {w w' : World} (h : w.ownsRow B e size v n xs) (_hz : w.heap.size ≤ w'.heap.size) (hk : ∀ b, v.ownBlock = some b → w'.heap[b]? = w.heap[b]?) : w'.ownsRow B e size v n xs := by
  refine ⟨h.1, ?_⟩
  rcases h.2 with hn | ⟨g, cap, cur, rfl, hB, hgg, rest⟩
  · exact .inl hn
  · exact .inr ⟨g, cap, cur, rfl, hB, (hk g rfl).trans hgg, rest⟩
theorem JOwn.kept {w w' : World} {x : J} {v : Value} {fp : List Nat} (h : JOwn w x v fp) (hz : w.heap.size ≤ w'.heap.size) (hk : ∀ b ∈ fp, w'.heap[b]? = w.heap[b]?) : JOwn w' x v fp := by
  induction h with
  | mk k n t ns xs nv iv us fss hu hf hn hi _ ih =>
    refine .mk k n t ns xs nv iv us fss hu hf (ownsRow_keptL hn hz fun b hb => hk b (by simp [hb])) (ownsRow_keptL hi hz fun b hb => hk b (by simp [hb])) fun j x hx => ih j x hx fun b hb => hk b ?_
    have hj : j < fss.length := by rw [hf]; exact (List.getElem?_eq_some_iff.1 hx).1
    rw [List.getD_eq_getElem?_getD, List.getElem?_eq_getElem hj] at hb
    exact List.mem_append_right _ (List.mem_flatten.2 ⟨_, List.getElem_mem hj, hb⟩)
theorem jotCells_snoc (us : List Value) (u : Value) : jotCells (us ++ [u]) = jotCells us ++ u.cells.toList := by simp [jotCells]
theorem jotCells_len (us : List Value) (h : ∀ u ∈ us, u.cells.size = 5) : (jotCells us).length = us.length * 5 := by
  induction us with
  | nil => rfl
  | cons u r ih =>
    have h1 := h u (by simp)
    have h2 := ih fun u hu => h u (by simp [hu])
    simp only [jotCells, List.flatMap_cons, List.length_append, List.length_cons, Array.length_toList] at h2 ⊢
    omega
theorem JOwn.five {w : World} {x : J} {v : Value} {fp : List Nat} (h : JOwn w x v fp) : v.cells.size = 5 := by
  obtain ⟨nv, iv, rfl⟩ := h.form; rfl
theorem JOwn.ones {w : World} {x : J} {v : Value} {fp : List Nat} (h : JOwn w x v fp) : ∀ u ∈ v.cells.toList, u.oneCell' = true := by
  cases h with
  | mk k n t ns xs nv iv us fss hu hf hn hi h =>
    intro u hu
    simp [Value.cells] at hu
    have sl : ∀ {e : TypeId} {size n : Nat} {v : Value} {ys : List Value}, w.ownsRow 0 e size v n ys → v.oneCell' = true := by
      intro e size n v ys h
      rcases h.2 with ⟨rfl, _⟩ | ⟨_, _, _, rfl, _⟩ <;> rfl
    rcases hu with rfl | rfl | rfl | rfl | rfl
    · rfl
    · rfl
    · rfl
    · exact sl hn
    · exact sl hi

/-- What a call that hands out a value leaves: all its lists are new, and apart. -/
def JotQ (w : World) (x : J) (e : Ending) (w' : World) : Prop := (∃ v fp, e = .returned v ∧ JOwn w' x v fp ∧ fp.Nodup ∧ ∀ b ∈ fp, w.heap.size ≤ b) ∧ Kept (fun _ => True) w w'
end Go.Proofs.YtmajpambfblhnaaGreatDoor

namespace Go.Proofs.YtmajpambfblhnaaGreatDoor
open Go.RowKit Jo

/-- The values xs stand in the slice value iv, a row of the call's own (in a block from B on); their lists lie apart, none in that row nor in block av. -/
def OwnJ (B : Nat) (av : Option Nat) (iv : Value) (xs : List J) (w : World) : Prop :=
  ∃ (us : List Value) (fss : List (List Nat)), us.length = xs.length ∧ fss.length = xs.length ∧ w.ownsRow B 25 5 iv xs.length (jotCells us) ∧
    (∀ (j : Nat) x, xs[j]? = some x → JOwn w x (us.getD j .nilIface) (fss.getD j [])) ∧ fss.flatten.Nodup ∧ ∀ b ∈ fss.flatten, B ≤ b ∧ some b ≠ iv.ownBlock ∧ some b ≠ av
theorem OwnJ.nil (B : Nat) (av : Option Nat) (w : World) : OwnJ B av (.slice none 0 0) [] w := ⟨[], [], rfl, rfl, World.ownsRow_nil _ _ _ _, fun j x h => by simp at h, List.nodup_nil, fun b hb => by simp at hb⟩
theorem mem_flat_lt {fss : List (List Nat)} {w : World} {xs : List J} {us : List Value} (hf : fss.length = xs.length) (h : ∀ (j : Nat) x, xs[j]? = some x → JOwn w x (us.getD j .nilIface) (fss.getD j [])) : ∀ b ∈ fss.flatten, b < w.heap.size := by
  intro b hb
  obtain ⟨fs, hfs, hb⟩ := List.mem_flatten.1 hb
  obtain ⟨j, hj, rfl⟩ := List.getElem_of_mem hfs
  have := (h j (xs[j]'(by omega)) (List.getElem?_eq_getElem _)).lt b
  rw [List.getD_eq_getElem?_getD, List.getElem?_eq_getElem hj] at this
  exact this hb
theorem jown_kept {fss : List (List Nat)} {w w' : World} {xs : List J} {us : List Value} (hf : fss.length = xs.length) (h : ∀ (j : Nat) x, xs[j]? = some x → JOwn w x (us.getD j .nilIface) (fss.getD j []))
    (hz : w.heap.size ≤ w'.heap.size) (hk : ∀ b ∈ fss.flatten, w'.heap[b]? = w.heap[b]?) : ∀ (j : Nat) x, xs[j]? = some x → JOwn w' x (us.getD j .nilIface) (fss.getD j []) := by
  intro j x hx
  refine (h j x hx).kept hz fun b hb => hk b ?_
  have hj : j < fss.length := by rw [hf]; exact (List.getElem?_eq_some_iff.1 hx).1
  rw [List.getD_eq_getElem?_getD, List.getElem?_eq_getElem hj] at hb
  exact List.mem_flatten.2 ⟨_, List.getElem_mem hj, hb⟩
theorem OwnJ.kept {B : Nat} {av : Option Nat} {ok : Nat → Prop} {iv : Value} {xs : List J} {w w' : World} (h : OwnJ B av iv xs w) (hk : Kept ok w w') (ho : ∀ b, B ≤ b → ok b) : OwnJ B av iv xs w' := by
  obtain ⟨us, fss, h1, h2, h3, h4, h5, h6⟩ := h
  exact ⟨us, fss, h1, h2, ownsRow_kept h3 hk (fun b hb => ho b (h3.lt b hb).1), jown_kept h2 h4 hk.size (fun b hb => hk.block b (mem_flat_lt h2 h4 b hb) (ho b (h6 b hb).1)), h5, h6⟩
/-- One value more. -/
theorem ownJ_push {B : Nat} {av : Option Nat} {iv iv' : Value} {xs : List J} {us : List Value} {fss : List (List Nat)} {x : J} {u : Value} {fp : List Nat} {w w' : World} (h1 : us.length = xs.length) (h2 : fss.length = xs.length)
    (h4 : ∀ (j : Nat) x, xs[j]? = some x → JOwn w x (us.getD j .nilIface) (fss.getD j [])) (h5 : fss.flatten.Nodup) (h6 : ∀ b ∈ fss.flatten, B ≤ b ∧ some b ≠ iv.ownBlock ∧ some b ≠ av)
    (hx : JOwn w x u fp) (hnd : fp.Nodup) (hfp : ∀ b ∈ fp, B ≤ b ∧ some b ≠ iv.ownBlock ∧ some b ≠ av ∧ b ∉ fss.flatten)
    (hr : w'.ownsRow B 25 5 iv' (xs.length + 1) (jotCells us ++ u.cells.toList)) (hm : Moved iv iv' w w') : OwnJ B av iv' (xs ++ [x]) w' := by
  have hz : w.heap.size ≤ w'.heap.size := by rcases hm with h | h; · exact h.2.1
                                             · exact h.2.1
  have hkeep : ∀ b, b < w.heap.size → some b ≠ iv.ownBlock → w'.heap[b]? = w.heap[b]? ∧ some b ≠ iv'.ownBlock := by
    intro b hb hne
    rcases hm with ⟨e, hk⟩ | ⟨e, hk⟩
    · exact ⟨hk.2 b hb hne, by rw [e]; exact hne⟩
    · exact ⟨hk.2 b hb (by simp), fun e2 => by have := e b e2.symm; omega⟩
  have hlt := mem_flat_lt h2 h4
  refine ⟨us ++ [u], fss ++ [fp], by simp [h1], by simp [h2], by rw [List.length_append, jotCells_snoc]; exact hr, fun j y hy => ?_, ?_, fun b hb => ?_⟩
  · rw [List.getElem?_append] at hy
    by_cases hj : j < xs.length
    · rw [if_pos hj] at hy
      rw [List.getD_eq_getElem?_getD, List.getElem?_append_left (by omega), ← List.getD_eq_getElem?_getD, List.getD_eq_getElem?_getD (l := fss ++ [fp]), List.getElem?_append_left (by omega), ← List.getD_eq_getElem?_getD]
      exact jown_kept h2 h4 hz (fun b hb => (hkeep b (hlt b hb) (h6 b hb).2.1).1) j y hy
    · rw [if_neg hj] at hy
      have hj0 : j - xs.length = 0 := by
        have := (List.getElem?_eq_some_iff.1 hy).1
        simp at this
        omega
      rw [hj0] at hy
      obtain rfl : x = y := by simpa using hy
      have ej : j = xs.length := by
        have := (List.getElem?_eq_some_iff.1 hy).1
        omega
      subst ej
      rw [List.getD_eq_getElem?_getD, List.getElem?_append_right (by omega), List.getD_eq_getElem?_getD (l := fss ++ [fp]), List.getElem?_append_right (by omega), h1, h2]
      simp only [Nat.sub_self, List.getElem?_cons_zero, Option.getD_some]
      exact hx.kept hz fun b hb => (hkeep b (hx.lt b hb) (hfp b hb).2.1).1
  · rw [List.flatten_append]
    refine List.nodup_append.2 ⟨h5, by simpa using hnd, fun a ha b hb e => ?_⟩
    subst e
    exact (hfp a (by simpa using hb)).2.2.2 ha
  · rw [List.flatten_append, List.mem_append] at hb
    rcases hb with hb | hb
    · exact ⟨(h6 b hb).1, (hkeep b (hlt b hb) (h6 b hb).2.1).2, (h6 b hb).2.2⟩
    · have hb' : b ∈ fp := by simpa using hb
      exact ⟨(hfp b hb').1, (hkeep b (hx.lt b hb') (hfp b hb').2.1).2, (hfp b hb').2.2.1⟩
/-- The row of names has moved. -/
theorem OwnJ.moved {B : Nat} {nv nv' iv : Value} {xs : List J} {w w' : World} (h : OwnJ B nv.ownBlock iv xs w) (hm : Moved nv nv' w w') (hne : ∀ b, nv.ownBlock = some b → some b ≠ iv.ownBlock) : OwnJ B nv'.ownBlock iv xs w' ∧ ∀ b, nv'.ownBlock = some b → some b ≠ iv.ownBlock := by
  obtain ⟨us, fss, h1, h2, h3, h4, h5, h6⟩ := h
  have hlt := mem_flat_lt h2 h4
  have hk := hm.kept
  have hivk : ∀ b, iv.ownBlock = some b → w'.heap[b]? = w.heap[b]? := fun b hb => hk.2 b (h3.lt b hb).2 (fun e => hne b e.symm hb.symm)
  refine ⟨⟨us, fss, h1, h2, ownsRow_keptL h3 hk.1 hivk, jown_kept h2 h4 hk.1 (fun b hb => hk.2 b (hlt b hb) (h6 b hb).2.2), h5, fun b hb => ⟨(h6 b hb).1, (h6 b hb).2.1, ?_⟩⟩, fun b hb e => ?_⟩
  · rcases hm with ⟨e, _⟩ | ⟨e, _⟩
    · rw [e]; exact (h6 b hb).2.2
    · intro e2; have := e b e2.symm; have := hlt b hb; omega
  · rcases hm with ⟨e2, _⟩ | ⟨e2, _⟩
    · exact hne b (e2 ▸ hb) e
    · have := e2 b hb; have := (h3.lt b e.symm).2; omega
/-- The whole value, out of a row of names and a row of items. -/
theorem OwnJ.value {B : Nat} {iv nv : Value} {xs : List J} {ns : List (List UInt8)} {w : World} (k n : Int) (t : List UInt8) (h : OwnJ B nv.ownBlock iv xs w) (hn : w.ownsRow B 9 1 nv ns.length (ns.map S))
    (hne : ∀ b, nv.ownBlock = some b → some b ≠ iv.ownBlock) : ∃ fp, JOwn w (.mk k n t ns xs) (jotV k n t nv iv) fp ∧ fp.Nodup ∧ ∀ b ∈ fp, B ≤ b := by
  obtain ⟨us, fss, h1, h2, h3, h4, h5, h6⟩ := h
  refine ⟨_, .mk k n t ns xs nv iv us fss h1 h2 (ownsRow_base hn (Nat.zero_le _)) (ownsRow_base h3 (Nat.zero_le _)) h4, ?_, fun b hb => ?_⟩
  · refine List.nodup_append.2 ⟨List.nodup_append.2 ⟨?_, ?_, ?_⟩, h5, ?_⟩
    · cases nv.ownBlock <;> simp
    · cases iv.ownBlock <;> simp
    · intro a ha b hb e
      subst e
      have h7 : nv.ownBlock = some a := by simpa using ha
      have h8 : iv.ownBlock = some a := by simpa using hb
      exact hne a h7 h8.symm
    · intro a ha b hb e
      subst e
      rcases List.mem_append.1 ha with ha | ha
      · have h7 : nv.ownBlock = some a := by simpa using ha
        exact (h6 a hb).2.2 h7.symm
      · have h8 : iv.ownBlock = some a := by simpa using ha
        exact (h6 a hb).2.1 h8.symm
  · rw [List.mem_append, List.mem_append] at hb
    rcases hb with (hb | hb) | hb
    · exact (hn.lt b (by simpa using hb)).1
    · exact (h3.lt b (by simpa using hb)).1
    · exact (h6 b hb).1
theorem ownsRow_some {e : TypeId} {size B n : Nat} {v : Value} {xs : List Value} {w : World} (h : w.ownsRow B e size v (n + 1) xs) : ∃ b cap, v = .slice (some ⟨b, 0, none⟩) (n + 1) cap := by
  rcases h.2 with ⟨_, h0⟩ | ⟨b, cap, cur, e4, _⟩
  · omega
  · exact ⟨b, cap, e4⟩
/-- The box of a value that is being made: its five cells. -/
def OutAt (g : Nat) (k n : Int) (t : List UInt8) (nv iv : Value) (w : World) : Prop := w.heap[g]? = some (.cells #[.int .i64 k, .int .i64 n, S t, nv, iv] 25 (0, 0))
theorem OutAt.lt {g : Nat} {k n : Int} {t : List UInt8} {nv iv : Value} {w : World} (h : OutAt g k n t nv iv w) : g < w.heap.size := (Array.getElem?_eq_some_iff.1 h).1
theorem OutAt.new (w : World) (k n : Int) (t : List UInt8) (nv iv : Value) : OutAt w.heap.size k n t nv iv (w.alloc (.cells #[.int .i64 k, .int .i64 n, S t, nv, iv] 25)) := heap_alloc_new w _
theorem OutAt.facts {g : Nat} {k n : Int} {t : List UInt8} {nv iv : Value} {w : World} (h : OutAt g k n t nv iv w) :
    w.cell? ⟨g, 0, none⟩ = some (.int .i64 k) ∧ w.cell? ⟨g, 1, none⟩ = some (.int .i64 n) ∧ w.cell? ⟨g, 2, none⟩ = some (S t) ∧ w.cell? ⟨g, 3, none⟩ = some nv ∧ w.cell? ⟨g, 4, none⟩ = some iv ∧ w.frozen? ⟨g, 3, none⟩ = false ∧ w.frozen? ⟨g, 4, none⟩ = false := by
  unfold OutAt at h
  refine ⟨?_, ?_, ?_, ?_, ?_, frozen_row h 3, frozen_row h 4⟩ <;> rw [cell_of_row w g _ _ _ (0, 0) h] <;> rfl
theorem OutAt.free {g : Nat} {k n : Int} {t : List UInt8} {nv iv : Value} {w : World} (h : OutAt g k n t nv iv w) : w.frozen? ⟨g, 0, none⟩ = false ∧ w.frozen? ⟨g, 1, none⟩ = false ∧ w.frozen? ⟨g, 2, none⟩ = false ∧ w.frozen? ⟨g, 3, none⟩ = false ∧ w.frozen? ⟨g, 4, none⟩ = false :=
  ⟨frozen_row h 0, frozen_row h 1, frozen_row h 2, frozen_row h 3, frozen_row h 4⟩
theorem ownsRow_slice {e : TypeId} {size B n : Nat} {v : Value} {xs : List Value} {w : World} (h : w.ownsRow B e size v n xs) : ∃ a l c, v = .slice a l c := by
  rcases h.2 with ⟨rfl, _⟩ | ⟨b, cap, cur, rfl, _⟩ <;> exact ⟨_, _, _, rfl⟩
theorem OwnJ.slice {B : Nat} {av : Option Nat} {iv : Value} {xs : List J} {w : World} (h : OwnJ B av iv xs w) : ∃ a l c, iv = .slice a l c := by
  obtain ⟨us, fss, h1, h2, h3, _⟩ := h
  exact ownsRow_slice h3
theorem OutAt.kept {g : Nat} {k n : Int} {t : List UInt8} {nv iv : Value} {w w' : World} {ok : Nat → Prop} (h : OutAt g k n t nv iv w) (hk : Kept ok w w') (ho : ok g) : OutAt g k n t nv iv w' := (hk.block g h.lt ho).trans h
theorem OutAt.below {g : Nat} {k n : Int} {t : List UInt8} {nv iv : Value} {B : Nat} {w w' : World} (h : OutAt g k n t nv iv w) (hb : Below B w w') (hg : g < B) : OutAt g k n t nv iv w' := (hb.block g hg).trans h
theorem OutAt.setItems {g : Nat} {k n : Int} {t : List UInt8} {nv iv : Value} {w : World} (h : OutAt g k n t nv iv w) (v : Value) : OutAt g k n t nv v (w.setCell ⟨g, 4, none⟩ v) := (setCell_heap h _).trans rfl
theorem OutAt.setNames {g : Nat} {k n : Int} {t : List UInt8} {nv iv : Value} {w : World} (h : OutAt g k n t nv iv w) (v : Value) : OutAt g k n t v iv (w.setCell ⟨g, 3, none⟩ v) := (setCell_heap h _).trans rfl
theorem JOwn.form2 {w : World} {x : J} {v : Value} {fp : List Nat} (h : JOwn w x v fp) : ∃ na nl nc ia il ic, v = jotV x.kind x.num x.text (.slice na nl nc) (.slice ia il ic) := by
  cases h with | mk k n t ns xs nv iv us fss hu hf hn hi h =>
    obtain ⟨a, b, c, rfl⟩ := ownsRow_slice hn
    obtain ⟨a', b', c', rfl⟩ := ownsRow_slice hi
    exact ⟨a, b, c, a', b', c', rfl⟩
theorem OutAt.five {g : Nat} {k n : Int} {t : List UInt8} {nv iv : Value} {w : World} (h : OutAt g k n t nv iv w) (k' n' : Int) (t' : List UInt8) (nv' iv' : Value) : OutAt g k' n' t' nv' iv' (((((w.setCell ⟨g, 0, none⟩ (.int .i64 k')).setCell ⟨g, 1, none⟩ (.int .i64 n')).setCell ⟨g, 2, none⟩ (S t')).setCell ⟨g, 3, none⟩ nv').setCell ⟨g, 4, none⟩ iv') :=
  (setCell_heap (setCell_heap (setCell_heap (setCell_heap (setCell_heap h _) _) _) _) _).trans rfl
theorem kept_box (w : World) (g : Nat) (a b c d e : Value) : Kept (· ≠ g) w (((((w.setCell ⟨g, 0, none⟩ a).setCell ⟨g, 1, none⟩ b).setCell ⟨g, 2, none⟩ c).setCell ⟨g, 3, none⟩ d).setCell ⟨g, 4, none⟩ e) :=
  (((((Kept.refl _ w).setCell (.inr (by simp)) _).setCell (.inr (by simp)) _).setCell (.inr (by simp)) _).setCell (.inr (by simp)) _).setCell (.inr (by simp)) _
/-- What is handed out at the end: the box's block is written once more, the value stays. -/
theorem JotQ.of {w wr w' : World} {x : J} {v : Value} {B g : Nat} (hv : ∃ fp, JOwn wr x v fp ∧ fp.Nodup ∧ ∀ b ∈ fp, B ≤ b) (_hB : w.heap.size ≤ B) (hg : w.heap.size ≤ g) (hgB : g < B) (hk : Kept (fun _ => True) w wr) (hk' : Kept (· ≠ g) wr w') : JotQ w x (.returned v) w' := by
  obtain ⟨fp, h1, h2, h3⟩ := hv
  refine ⟨⟨v, fp, rfl, h1.kept hk'.size (fun b hb => hk'.block b (h1.lt b hb) (by have := h3 b hb; omega)), h2, fun b hb => by have := h3 b hb; omega⟩, hk.trans hk' fun i hi _ => by omega⟩
end Go.Proofs.YtmajpambfblhnaaGreatDoor

namespace Go.Proofs.YtmajpambfblhnaaGreatDoor
open Go.RowKit Jo

/-- What machine integers and lengths allow. -/
def Rng (k n : Int) (t : List UInt8) (ns : List (List UInt8)) (m : Nat) : Prop :=
  -9223372036854775808 ≤ k ∧ k ≤ 9223372036854775807 ∧ -9223372036854775808 ≤ n ∧ n ≤ 9223372036854775807 ∧ t.length ≤ 9223372036854775807 ∧ ns.length ≤ 9223372036854775807 ∧ (∀ l ∈ ns, l.length ≤ 9223372036854775807) ∧ m ≤ 9223372036854775807
/-- A value that may stand in memory. -/
inductive Fine : J → Prop where
  | mk (k n : Int) (t : List UInt8) (ns : List (List UInt8)) (xs : List J) (hr : Rng k n t ns xs.length) (h : ∀ (j : Nat) x, xs[j]? = some x → Fine x) : Fine (.mk k n t ns xs)
/-- The slice value v holds the names ns. -/
def RowS (ok : Nat → Prop) (w : World) (v : Value) (ns : List (List UInt8)) : Prop :=
  (∃ a c, v = .slice a 0 c ∧ ns = []) ∨ ∃ b off cap, v = .slice (some ⟨b, off, none⟩) ns.length cap ∧ ns.length ≤ cap ∧ ok b ∧ b < w.heap.size ∧ ∀ (j : Nat) l, ns[j]? = some l → w.cell? ⟨b, off + j, none⟩ = some (S l)
/-- Five cells are those of u. -/
def Cells5 (w : World) (b o : Nat) (u : Value) : Prop :=
  ∃ k n t na nl nc ia il ic, u = jotV k n t (.slice na nl nc) (.slice ia il ic) ∧ w.cell? ⟨b, o, none⟩ = some (.int .i64 k) ∧ w.cell? ⟨b, o + 1, none⟩ = some (.int .i64 n) ∧ w.cell? ⟨b, o + 2, none⟩ = some (S t) ∧
    w.cell? ⟨b, o + 3, none⟩ = some (.slice na nl nc) ∧ w.cell? ⟨b, o + 4, none⟩ = some (.slice ia il ic)
/-- The slice value v holds n values. -/
def RowJ (ok : Nat → Prop) (w : World) (v : Value) (n : Nat) (us : Nat → Value) : Prop :=
  (∃ a c, v = .slice a 0 c ∧ n = 0) ∨ ∃ b off cap, v = .slice (some ⟨b, off, none⟩) n cap ∧ n ≤ cap ∧ ok b ∧ b < w.heap.size ∧ ∀ j, j < n → Cells5 w b (off + j * 5) (us j)
/-- The value x stands at v; all its lists in blocks that are 'ok'. -/
inductive JIn (ok : Nat → Prop) (w : World) : J → Value → Prop where
  | mk (k n : Int) (t : List UInt8) (ns : List (List UInt8)) (xs : List J) (nv iv : Value) (us : Nat → Value) (hr : Rng k n t ns xs.length) (hn : RowS ok w nv ns) (hi : RowJ ok w iv xs.length us)
      (h : ∀ (j : Nat) x, xs[j]? = some x → JIn ok w x (us j)) : JIn ok w (.mk k n t ns xs) (jotV k n t nv iv)

theorem RowS.kept {ok ok2 : Nat → Prop} {w w' : World} {v : Value} {ns : List (List UInt8)} (h : RowS ok w v ns) (hk : Kept ok2 w w') (hi : ∀ b, b < w.heap.size → ok b → ok2 b) : RowS ok w' v ns := by
  rcases h with h | ⟨b, off, cap, rfl, h1, h2, h3, h4⟩
  · exact .inl h
  · exact .inr ⟨b, off, cap, rfl, h1, h2, by have := hk.size; omega, fun j l hj => (hk.cell h3 (hi b h3 h2)).trans (h4 j l hj)⟩
theorem Cells5.kept {ok : Nat → Prop} {w w' : World} {b o : Nat} {u : Value} (h : Cells5 w b o u) (hk : Kept ok w w') (hb : b < w.heap.size) (ho : ok b) : Cells5 w' b o u := by
  obtain ⟨k, n, t, na, nl, nc, ia, il, ic, e, h0, h1, h2, h3, h4⟩ := h
  exact ⟨k, n, t, na, nl, nc, ia, il, ic, e, (hk.cell hb ho).trans h0, (hk.cell hb ho).trans h1, (hk.cell hb ho).trans h2, (hk.cell hb ho).trans h3, (hk.cell hb ho).trans h4⟩
theorem RowJ.kept {ok ok2 : Nat → Prop} {w w' : World} {v : Value} {n : Nat} {us : Nat → Value} (h : RowJ ok w v n us) (hk : Kept ok2 w w') (hi : ∀ b, b < w.heap.size → ok b → ok2 b) : RowJ ok w' v n us := by
  rcases h with h | ⟨b, off, cap, rfl, h1, h2, h3, h4⟩
  · exact .inl h
  · exact .inr ⟨b, off, cap, rfl, h1, h2, by have := hk.size; omega, fun j hj => (h4 j hj).kept hk h3 (hi b h3 h2)⟩
theorem JIn.kept {ok ok2 : Nat → Prop} {w w' : World} {x : J} {u : Value} (h : JIn ok w x u) (hk : Kept ok2 w w') (hi : ∀ b, b < w.heap.size → ok b → ok2 b) : JIn ok w' x u := by
  induction h with
  | mk k n t ns xs nv iv us hr hn hi2 _ ih => exact .mk k n t ns xs nv iv us hr (hn.kept hk hi) (hi2.kept hk hi) ih
theorem RowS.mono {ok ok2 : Nat → Prop} {w : World} {v : Value} {ns : List (List UInt8)} (h : RowS ok w v ns) (hi : ∀ b, b < w.heap.size → ok b → ok2 b) : RowS ok2 w v ns := by
  rcases h with h | ⟨b, off, cap, rfl, h1, h2, h3, h4⟩
  · exact .inl h
  · exact .inr ⟨b, off, cap, rfl, h1, hi b h3 h2, h3, h4⟩
theorem RowJ.mono {ok ok2 : Nat → Prop} {w : World} {v : Value} {n : Nat} {us : Nat → Value} (h : RowJ ok w v n us) (hi : ∀ b, b < w.heap.size → ok b → ok2 b) : RowJ ok2 w v n us := by
  rcases h with h | ⟨b, off, cap, rfl, h1, h2, h3, h4⟩
  · exact .inl h
  · exact .inr ⟨b, off, cap, rfl, h1, hi b h3 h2, h3, h4⟩
theorem JIn.mono {ok ok2 : Nat → Prop} {w : World} {x : J} {u : Value} (h : JIn ok w x u) (hi : ∀ b, b < w.heap.size → ok b → ok2 b) : JIn ok2 w x u := by
  induction h with
  | mk k n t ns xs nv iv us hr hn hi2 _ ih => exact .mk k n t ns xs nv iv us hr (hn.mono hi) (hi2.mono hi) ih
theorem JIn.fine {ok : Nat → Prop} {w : World} {x : J} {u : Value} (h : JIn ok w x u) : Fine x := by
  induction h with
  | mk k n t ns xs nv iv us hr hn hi2 _ ih => exact .mk k n t ns xs hr ih
theorem RowS.slice {ok : Nat → Prop} {w : World} {v : Value} {ns : List (List UInt8)} (h : RowS ok w v ns) : ∃ a c, v = .slice a ns.length c := by
  rcases h with ⟨a, c, rfl, rfl⟩ | ⟨b, off, cap, rfl, _⟩
  · exact ⟨_, _, rfl⟩
  · exact ⟨_, _, rfl⟩
theorem RowJ.slice {ok : Nat → Prop} {w : World} {v : Value} {n : Nat} {us : Nat → Value} (h : RowJ ok w v n us) : ∃ a c, v = .slice a n c := by
  rcases h with ⟨a, c, rfl, rfl⟩ | ⟨b, off, cap, rfl, _⟩
  · exact ⟨_, _, rfl⟩
  · exact ⟨_, _, rfl⟩
/-- The j-th name, where there is one. -/
theorem RowS.at {ok : Nat → Prop} {w : World} {a : Option Addr} {m c : Nat} {ns : List (List UInt8)} (h : RowS ok w (.slice a m c) ns) {j : Nat} (hj : j < ns.length) : ∃ b off, a = some ⟨b, off, none⟩ ∧ b < w.heap.size ∧ ok b ∧ m = ns.length ∧ ∃ l, ns[j]? = some l ∧ w.cell? ⟨b, off + j, none⟩ = some (S l) := by
  rcases h with ⟨a', c', e, rfl⟩ | ⟨b, off, cap, e, h1, h2, h3, h4⟩
  · simp at hj
  · obtain ⟨rfl, rfl, rfl⟩ : a = some ⟨b, off, none⟩ ∧ m = ns.length ∧ c = cap := by simpa using e
    exact ⟨b, off, rfl, h3, h2, rfl, ns[j]'hj, List.getElem?_eq_getElem hj, h4 j _ (List.getElem?_eq_getElem hj)⟩
theorem RowJ.at {ok : Nat → Prop} {w : World} {a : Option Addr} {m c n : Nat} {us : Nat → Value} (h : RowJ ok w (.slice a m c) n us) {j : Nat} (hj : j < n) : ∃ b off, a = some ⟨b, off, none⟩ ∧ b < w.heap.size ∧ ok b ∧ m = n ∧ Cells5 w b (off + j * 5) (us j) := by
  rcases h with ⟨a', c', e, rfl⟩ | ⟨b, off, cap, e, h1, h2, h3, h4⟩
  · omega
  · obtain ⟨rfl, rfl, rfl⟩ : a = some ⟨b, off, none⟩ ∧ m = n ∧ c = cap := by simpa using e
    exact ⟨b, off, rfl, h3, h2, rfl, h4 j hj⟩
/-- What a list of values is made of. -/
theorem JIn.inv {ok : Nat → Prop} {w : World} {x : J} {u : Value} (h : JIn ok w x u) : ∃ na nc ia ic us, u = jotV x.kind x.num x.text (.slice na x.names.length nc) (.slice ia x.items.length ic) ∧ Rng x.kind x.num x.text x.names x.items.length ∧
    RowS ok w (.slice na x.names.length nc) x.names ∧ RowJ ok w (.slice ia x.items.length ic) x.items.length us ∧ ∀ (j : Nat) y, x.items[j]? = some y → JIn ok w y (us j) := by
  cases h with
  | mk k n t ns xs nv iv us hr hn hi h =>
    obtain ⟨na, nc, rfl⟩ := hn.slice
    obtain ⟨ia, ic, rfl⟩ := hi.slice
    exact ⟨na, nc, ia, ic, us, rfl, hr, hn, hi, h⟩
theorem JIn.invM {ok : Nat → Prop} {w : World} {k n : Int} {t : List UInt8} {ns : List (List UInt8)} {xs : List J} {u : Value} (h : JIn ok w (.mk k n t ns xs) u) : ∃ na nc ia ic us, u = jotV k n t (.slice na ns.length nc) (.slice ia xs.length ic) ∧ Rng k n t ns xs.length ∧
    RowS ok w (.slice na ns.length nc) ns ∧ RowJ ok w (.slice ia xs.length ic) xs.length us ∧ ∀ (j : Nat) y, xs[j]? = some y → JIn ok w y (us j) := h.inv
theorem jotCells_at : ∀ (us : List Value) (_h : ∀ u ∈ us, u.cells.size = 5) (j : Nat) (u : Value), us[j]? = some u → ∀ i, i < 5 → (jotCells us)[j * 5 + i]? = u.cells.toList[i]? := by
  intro us
  induction us with
  | nil => intro h j u hj; simp at hj
  | cons v r ih =>
    intro h j u hj i hi
    have h5 : v.cells.toList.length = 5 := by rw [Array.length_toList]; exact h v (by simp)
    have e : jotCells (v :: r) = v.cells.toList ++ jotCells r := by simp [jotCells]
    rw [e]
    cases j with
    | zero =>
      obtain rfl : v = u := by simpa using hj
      rw [List.getElem?_append_left (by omega)]
      simp
    | succ j =>
      rw [List.getElem?_append_right (by omega), show (j + 1) * 5 + i - v.cells.toList.length = j * 5 + i by omega]
      exact ih (fun u hu => h u (by simp [hu])) j u (by simpa using hj) i hi
theorem Fine.inv {x : J} (h : Fine x) : Rng x.kind x.num x.text x.names x.items.length ∧ ∀ (j : Nat) y, x.items[j]? = some y → Fine y := by
  cases h with | mk k n t ns xs hr h => exact ⟨hr, h⟩
theorem JOwn.toIn {w : World} {x : J} {v : Value} {fp : List Nat} (h : JOwn w x v fp) (hf : Fine x) (ok : Nat → Prop) (ho : ∀ b ∈ fp, ok b) : JIn ok w x v := by
  induction h with
  | mk k n t ns xs nv iv us fss hu hfl hn hi h ih =>
    obtain ⟨hr, hfx⟩ := hf.inv
    have hmem : ∀ (j : Nat) x, xs[j]? = some x → us[j]? = some (us.getD j .nilIface) ∧ ∀ b ∈ fss.getD j [], ok b := by
      intro j x hx
      have hj : j < xs.length := (List.getElem?_eq_some_iff.1 hx).1
      refine ⟨by rw [List.getD_eq_getElem?_getD, List.getElem?_eq_getElem (by omega)]; rfl, fun b hb => ho b ?_⟩
      rw [List.getD_eq_getElem?_getD, List.getElem?_eq_getElem (by omega)] at hb
      exact List.mem_append_right _ (List.mem_flatten.2 ⟨_, List.getElem_mem (by omega), hb⟩)
    have h5 : ∀ u ∈ us, u.cells.size = 5 := by
      intro u hu2
      obtain ⟨j, hj, rfl⟩ := List.getElem_of_mem hu2
      have := (h j (xs[j]'(by omega)) (List.getElem?_eq_getElem _)).five
      rwa [List.getD_eq_getElem?_getD, List.getElem?_eq_getElem hj] at this
    refine .mk k n t ns xs nv iv (fun j => us.getD j .nilIface) hr ?_ ?_ fun j x hx => ih j x hx (hfx j x hx) (hmem j x hx).2
    · rcases ownsRow_view hn with ⟨rfl, h0⟩ | ⟨b, cap, rfl, h1, h2, h3, h4⟩
      · exact .inl ⟨_, _, rfl, List.eq_nil_of_length_eq_zero h0⟩
      · exact .inr ⟨b, 0, cap, rfl, h1, ho b (by simp [Value.ownBlock]), h3, fun j l hj => by rw [Nat.zero_add]; exact h4 j _ (by rw [List.getElem?_map, hj]; rfl)⟩
    · rcases ownsRow_view hi with ⟨rfl, h0⟩ | ⟨b, cap, rfl, h1, h2, h3, h4⟩
      · exact .inl ⟨_, _, rfl, h0⟩
      · refine .inr ⟨b, 0, cap, rfl, h1, ho b (by simp [Value.ownBlock]), h3, fun j hj => ?_⟩
        have hx := List.getElem?_eq_getElem hj
        obtain ⟨na, nl, nc, ia, il, ic, e⟩ := (h j _ hx).form2
        refine ⟨_, _, _, na, nl, nc, ia, il, ic, e, ?_⟩
        have hc := fun i hi => jotCells_at us h5 j _ (hmem j _ hx).1 i hi
        rw [e] at hc
        rw [Nat.zero_add]
        exact ⟨h4 _ _ (hc 0 (by omega)), h4 _ _ (hc 1 (by omega)), h4 _ _ (hc 2 (by omega)), h4 _ _ (hc 3 (by omega)), h4 _ _ (hc 4 (by omega))⟩
theorem Kept.drewCell {w w' : World} (hk : Kept (fun _ => True) w.drew w') {b o : Nat} {v : Value} (h : w.cell? ⟨b, o, none⟩ = some v) : w'.cell? ⟨b, o, none⟩ = some v := (hk.cell (cell_isLt h) trivial).trans h
end Go.Proofs.YtmajpambfblhnaaGreatDoor
