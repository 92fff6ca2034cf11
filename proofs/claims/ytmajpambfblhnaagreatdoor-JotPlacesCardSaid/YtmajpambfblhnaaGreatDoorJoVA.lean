/- Layer 4: how a value stands inside jot: a tree of interface values in memory; rows of members. -/
import Derived.Test.YtmajpambfblhnaaGreatDoorJoKit
import Derived.Test.YtmajpambfblhnaaGreatDoorJKit
import Derived.Test.YtmajpambfblhnaaGreatDoorJoPlainA
namespace Go.Proofs.YtmajpambfblhnaaGreatDoor
open Go.RowKit Jo

/-- The slice value v holds n values, each one cell. -/
def Row1 (ok : Nat → Prop) (w : World) (v : Value) (n : Nat) (us : Nat → Value) : Prop :=
  (v = .slice none 0 0 ∧ n = 0) ∨ ∃ b cap, v = .slice (some ⟨b, 0, none⟩) n cap ∧ n ≤ cap ∧ ok b ∧ b < w.heap.size ∧ ∀ j, j < n → w.cell? ⟨b, j, none⟩ = some (us j)
/-- The slice value v holds n pairs of a name and a value. -/
def Row2 (ok : Nat → Prop) (w : World) (v : Value) (ns : List (List UInt8)) (us : Nat → Value) : Prop :=
  (v = .slice none 0 0 ∧ ns = []) ∨ ∃ b cap, v = .slice (some ⟨b, 0, none⟩) ns.length cap ∧ ns.length ≤ cap ∧ ok b ∧ b < w.heap.size ∧
    ∀ (j : Nat) l, ns[j]? = some l → w.cell? ⟨b, j * 2, none⟩ = some (S l) ∧ w.cell? ⟨b, j * 2 + 1, none⟩ = some (us j)
/-- The value x as it stands inside, at u; its blocks are all 'ok'. -/
inductive VIn (ok : Nat → Prop) (w : World) : J → Value → Prop where
  | null : VIn ok w J.null (.iface 81 (.agg #[]))
  | fls : VIn ok w J.fls (.iface 83 (.bool false))
  | tru : VIn ok w J.tru (.iface 83 (.bool true))
  | nr (n : Int) : VIn ok w (J.nr n) (.iface 84 (.int .i64 n))
  | tx (l : List UInt8) : VIn ok w (J.tx l) (.iface 85 (S l))
  | list (xs : List J) (v : Value) (us : Nat → Value) (hl : xs.length ≤ 1000000) (hr : Row1 ok w v xs.length us) (h : ∀ (j : Nat) x, xs[j]? = some x → VIn ok w x (us j)) : VIn ok w (J.list xs) (.iface 89 v)
  | obj (ms : List (List UInt8 × J)) (v : Value) (us : Nat → Value) (hl : ms.length ≤ 1000000) (hr : Row2 ok w v (ms.map (·.1)) us) (h : ∀ (j : Nat) m, ms[j]? = some m → VIn ok w m.2 (us j)) : VIn ok w (J.obj ms) (.iface 91 v)

theorem Row1.kept {ok ok2 : Nat → Prop} {w w' : World} {v : Value} {n : Nat} {us : Nat → Value} (h : Row1 ok w v n us) (hk : Kept ok2 w w') (hi : ∀ b, b < w.heap.size → ok b → ok2 b) : Row1 ok w' v n us := by
  rcases h with h | ⟨b, cap, rfl, h1, h2, h3, h4⟩
  · exact .inl h
  · exact .inr ⟨b, cap, rfl, h1, h2, by have := hk.size; omega, fun j hj => (hk.cell h3 (hi b h3 h2)).trans (h4 j hj)⟩
theorem Row2.kept {ok ok2 : Nat → Prop} {w w' : World} {v : Value} {ns : List (List UInt8)} {us : Nat → Value} (h : Row2 ok w v ns us) (hk : Kept ok2 w w') (hi : ∀ b, b < w.heap.size → ok b → ok2 b) : Row2 ok w' v ns us := by
  rcases h with h | ⟨b, cap, rfl, h1, h2, h3, h4⟩
  · exact .inl h
  · exact .inr ⟨b, cap, rfl, h1, h2, by have := hk.size; omega, fun j l hj => ⟨(hk.cell h3 (hi b h3 h2)).trans (h4 j l hj).1, (hk.cell h3 (hi b h3 h2)).trans (h4 j l hj).2⟩⟩
theorem Row1.mono {ok ok2 : Nat → Prop} {w : World} {v : Value} {n : Nat} {us : Nat → Value} (h : Row1 ok w v n us) (hi : ∀ b, b < w.heap.size → ok b → ok2 b) : Row1 ok2 w v n us := by
  rcases h with h | ⟨b, cap, rfl, h1, h2, h3, h4⟩
  · exact .inl h
  · exact .inr ⟨b, cap, rfl, h1, hi b h3 h2, h3, h4⟩
theorem Row2.mono {ok ok2 : Nat → Prop} {w : World} {v : Value} {ns : List (List UInt8)} {us : Nat → Value} (h : Row2 ok w v ns us) (hi : ∀ b, b < w.heap.size → ok b → ok2 b) : Row2 ok2 w v ns us := by
  rcases h with h | ⟨b, cap, rfl, h1, h2, h3, h4⟩
  · exact .inl h
  · exact .inr ⟨b, cap, rfl, h1, hi b h3 h2, h3, h4⟩
theorem VIn.kept {ok ok2 : Nat → Prop} {w w' : World} {x : J} {u : Value} (h : VIn ok w x u) (hk : Kept ok2 w w') (hi : ∀ b, b < w.heap.size → ok b → ok2 b) : VIn ok w' x u := by
  induction h with
  | null => exact .null
  | fls => exact .fls
  | tru => exact .tru
  | nr n => exact .nr n
  | tx l => exact .tx l
  | list xs v us hl hr _ ih => exact .list xs v us hl (hr.kept hk hi) ih
  | obj ms v us hl hr _ ih => exact .obj ms v us hl (hr.kept hk hi) ih
theorem VIn.kept' {ok : Nat → Prop} {w w' : World} {x : J} {u : Value} (h : VIn ok w x u) (hz : w.heap.size ≤ w'.heap.size) (hk : ∀ b, b < w.heap.size → ok b → w'.heap[b]? = w.heap[b]?) : VIn ok w' x u := by
  have hc : ∀ b o, b < w.heap.size → ok b → w'.cell? ⟨b, o, none⟩ = w.cell? ⟨b, o, none⟩ := fun b o hb ho => World.cell?_of_block (a := ⟨b, o, none⟩) (hk b hb ho)
  induction h with
  | null => exact .null
  | fls => exact .fls
  | tru => exact .tru
  | nr n => exact .nr n
  | tx l => exact .tx l
  | list xs v us hl hr _ ih =>
    refine .list xs v us hl ?_ ih
    rcases hr with h | ⟨b, cap, rfl, h1, h2, h3, h4⟩
    · exact .inl h
    · exact .inr ⟨b, cap, rfl, h1, h2, by omega, fun j hj => (hc b _ h3 h2).trans (h4 j hj)⟩
  | obj ms v us hl hr _ ih =>
    refine .obj ms v us hl ?_ ih
    rcases hr with h | ⟨b, cap, rfl, h1, h2, h3, h4⟩
    · exact .inl h
    · exact .inr ⟨b, cap, rfl, h1, h2, by omega, fun j l hj => ⟨(hc b _ h3 h2).trans (h4 j l hj).1, (hc b _ h3 h2).trans (h4 j l hj).2⟩⟩
theorem VIn.mono {ok ok2 : Nat → Prop} {w : World} {x : J} {u : Value} (h : VIn ok w x u) (hi : ∀ b, b < w.heap.size → ok b → ok2 b) : VIn ok2 w x u := by
  induction h with
  | null => exact .null
  | fls => exact .fls
  | tru => exact .tru
  | nr n => exact .nr n
  | tx l => exact .tx l
  | list xs v us hl hr _ ih => exact .list xs v us hl (hr.mono hi) ih
  | obj ms v us hl hr _ ih => exact .obj ms v us hl (hr.mono hi) ih
theorem VIn.face {ok : Nat → Prop} {w : World} {x : J} {u : Value} (h : VIn ok w x u) : ∃ t v, u = .iface t v := by
  cases h <;> exact ⟨_, _, rfl⟩
theorem VIn.one {ok : Nat → Prop} {w : World} {x : J} {u : Value} (h : VIn ok w x u) : u.oneCell' = true := by
  obtain ⟨t, v, rfl⟩ := h.face; rfl
theorem VIn.list_inv {ok : Nat → Prop} {w : World} {x : J} {u : Value} (h : VIn ok w x u) (xs : List J) (hx : x = J.list xs) :
    ∃ v us, u = .iface 89 v ∧ xs.length ≤ 1000000 ∧ Row1 ok w v xs.length us ∧ ∀ (j : Nat) y, xs[j]? = some y → VIn ok w y (us j) := by
  cases h with
  | list xs' v us hl hr h =>
    obtain rfl : xs' = xs := by simpa [J.list] using hx
    exact ⟨v, us, rfl, hl, hr, h⟩
  | _ => simp [J.list, J.null, J.fls, J.tru, J.nr, J.tx, J.obj] at hx
theorem VIn.obj_inv {ok : Nat → Prop} {w : World} {x : J} {u : Value} (h : VIn ok w x u) (ms : List (List UInt8 × J)) (hx : x = J.obj ms) :
    ∃ v us, u = .iface 91 v ∧ ms.length ≤ 1000000 ∧ Row2 ok w v (ms.map (·.1)) us ∧ ∀ (j : Nat) m, ms[j]? = some m → VIn ok w m.2 (us j) := by
  cases h with
  | obj ms' v us hl hr h =>
    have e : ms' = ms := by
      simp only [J.obj, J.mk.injEq, true_and] at hx
      obtain ⟨h1, h2⟩ := hx
      have hlen : ms'.length = ms.length := by simpa using congrArg List.length h1
      apply List.ext_getElem hlen
      intro i hi1 hi2
      have e1 : (ms'.map (·.1))[i]'(by simpa using hi1) = (ms.map (·.1))[i]'(by simpa using hi2) := by simp only [h1]
      have e2 : (ms'.map (·.2))[i]'(by simpa using hi1) = (ms.map (·.2))[i]'(by simpa using hi2) := by simp only [h2]
      rw [List.getElem_map, List.getElem_map] at e1 e2
      exact Prod.ext e1 e2
    subst e
    exact ⟨v, us, rfl, hl, hr, h⟩
  | _ => simp [J.list, J.null, J.fls, J.tru, J.nr, J.tx, J.obj] at hx
theorem infoValue : (Tryz.prog.info? 57).map (fun i => (i.zero, i.size, i.bytes)) = some (some .nilIface, 1, 16) := by kernel_rfl
theorem infoMember : (Tryz.prog.info? 93).map (fun i => (i.zero, i.size, i.bytes)) = some (some (.agg #[S [], .nilIface]), 2, 32) := by kernel_rfl

/-- The values xs stand in the slice value v, a row of the call's own (in a block from B on); what they reach is no part of that row, and lies from B on. -/
def OwnV (B : Nat) (v : Value) (xs : List J) (w : World) : Prop :=
  ∃ us : List Value, us.length = xs.length ∧ w.ownsRow B 57 1 v xs.length us ∧ ∀ (j : Nat) x, xs[j]? = some x → VIn (fun b => B ≤ b ∧ some b ≠ v.ownBlock) w x (us.getD j .nilIface)
theorem OwnV.nil (B : Nat) (w : World) : OwnV B (.slice none 0 0) [] w := ⟨[], rfl, World.ownsRow_nil _ _ _ _, fun j x h => by simp at h⟩
theorem OwnV.kept {B g : Nat} {v : Value} {xs : List J} {w w' : World} (h : OwnV B v xs w) (hk : Kept (· ≠ g) w w') (hg : g < B) : OwnV B v xs w' := by
  obtain ⟨us, h1, h2, h3⟩ := h
  exact ⟨us, h1, ownsRow_kept h2 hk (fun b hb => by have := (h2.lt b hb).1; omega), fun j x hx => (h3 j x hx).kept hk fun b _ hb => by omega⟩
/-- One value more. -/
theorem ownV_push {B : Nat} {v v' : Value} {xs : List J} {us : List Value} {x : J} {u : Value} {w w' : World} (h1 : us.length = xs.length) (h3 : ∀ (j : Nat) x, xs[j]? = some x → VIn (fun b => B ≤ b ∧ some b ≠ v.ownBlock) w x (us.getD j .nilIface))
    (hx : VIn (fun b => B ≤ b ∧ some b ≠ v.ownBlock) w x u) (hr : w'.ownsRow B 57 1 v' (xs.length + 1) (us ++ [u])) (hm : Moved v v' w w') : OwnV B v' (xs ++ [x]) w' := by
  have hkeep : ∀ (y : J) (t : Value), VIn (fun b => B ≤ b ∧ some b ≠ v.ownBlock) w y t → VIn (fun b => B ≤ b ∧ some b ≠ v'.ownBlock) w' y t := by
    intro y t hy
    rcases hm with ⟨e, hk⟩ | ⟨e, hk⟩
    · rw [e]
      have hk2 : ∀ b, b < w.heap.size → (B ≤ b ∧ some b ≠ v.ownBlock) → w'.heap[b]? = w.heap[b]? := fun b hb ho => hk.2 b hb ho.2
      exact (VIn.kept' hy hk.1 hk2)
    · have hk2 : ∀ b, b < w.heap.size → (B ≤ b ∧ some b ≠ v.ownBlock) → w'.heap[b]? = w.heap[b]? := fun b hb _ => hk.2 b hb (by simp)
      have hy2 : VIn (fun b => B ≤ b ∧ some b ≠ v'.ownBlock) w y t := hy.mono fun b hb ho => ⟨ho.1, fun e2 => by have := e b e2.symm; omega⟩
      exact VIn.kept' hy2 hk.1 fun b hb _ => hk.2 b hb (by simp)
  refine ⟨us ++ [u], by simp [h1], by rw [List.length_append]; exact hr, fun j y hy => ?_⟩
  rw [List.getElem?_append] at hy
  by_cases hj : j < xs.length
  · rw [if_pos hj] at hy
    have e : (us ++ [u]).getD j .nilIface = us.getD j .nilIface := by
      rw [List.getD_eq_getElem?_getD, List.getD_eq_getElem?_getD, List.getElem?_append_left (by omega)]
    rw [e]
    exact hkeep _ _ (h3 j y hy)
  · rw [if_neg hj] at hy
    have hj0 : j - xs.length = 0 := by
      have := (List.getElem?_eq_some_iff.1 hy).1
      simp at this
      omega
    obtain rfl : j = xs.length := by omega
    have e : (us ++ [u]).getD xs.length .nilIface = u := by
      rw [List.getD_eq_getElem?_getD, List.getElem?_append_right (by omega), h1]
      simp
    rw [e]
    obtain rfl : x = y := by simpa using hy
    exact hkeep _ _ hx
end Go.Proofs.YtmajpambfblhnaaGreatDoor

namespace Go.Proofs.YtmajpambfblhnaaGreatDoor
open Go.RowKit Jo

abbrev Mem := List UInt8 × TypeId × Value
def memEnc (e : Mem) : List Value := [S e.1, .iface e.2.1 e.2.2]
def memCells (es : List Mem) : List Value := es.flatMap memEnc
theorem memCells_len (es : List Mem) : (memCells es).length = es.length * 2 := by
  induction es with
  | nil => rfl
  | cons e r ih => simp only [memCells, memEnc, List.flatMap_cons, List.length_append, List.length_cons, List.length_nil] at ih ⊢; omega
theorem memCells_snoc (es : List Mem) (e : Mem) : memCells (es ++ [e]) = memCells es ++ memEnc e := by simp [memCells]
theorem memCells_at (es : List Mem) : ∀ (j : Nat) (e : Mem), es[j]? = some e → (memCells es)[j * 2]? = some (S e.1) ∧ (memCells es)[j * 2 + 1]? = some (.iface e.2.1 e.2.2) := by
  induction es with
  | nil => intro j e h; simp at h
  | cons x r ih =>
    intro j e h
    cases j with
    | zero => simp at h; subst h; simp [memCells, memEnc]
    | succ j =>
      have := ih j e (by simpa using h)
      have e1 : (j + 1) * 2 = j * 2 + 2 := by omega
      have e2 : memCells (x :: r) = S x.1 :: .iface x.2.1 x.2.2 :: memCells r := by simp [memCells, memEnc]
      rw [e1, e2]
      simpa using this

/-- The members ms stand in the slice value v, a row of the call's own (in a block from B on); what they reach is no part of that row, and lies from B on. -/
def OwnM (B : Nat) (v : Value) (ms : List (List UInt8 × J)) (w : World) : Prop :=
  ∃ es : List Mem, es.length = ms.length ∧ w.ownsRow B 93 2 v ms.length (memCells es) ∧ ∀ (j : Nat) m e, ms[j]? = some m → es[j]? = some e → e.1 = m.1 ∧ VIn (fun b => B ≤ b ∧ some b ≠ v.ownBlock) w m.2 (.iface e.2.1 e.2.2)
theorem OwnM.nil (B : Nat) (w : World) : OwnM B (.slice none 0 0) [] w := ⟨[], rfl, World.ownsRow_nil _ _ _ _, fun j m e h => by simp at h⟩
theorem OwnM.kept {B : Nat} {ok : Nat → Prop} {v : Value} {ms : List (List UInt8 × J)} {w w' : World} (h : OwnM B v ms w) (hk : Kept ok w w') (ho : ∀ b, B ≤ b → ok b) : OwnM B v ms w' := by
  obtain ⟨es, h1, h2, h3⟩ := h
  exact ⟨es, h1, ownsRow_kept h2 hk (fun b hb => ho b (h2.lt b hb).1), fun j m e hm he => ⟨(h3 j m e hm he).1, (h3 j m e hm he).2.kept hk fun b _ hb => ho b hb.1⟩⟩
/-- One member more. -/
theorem ownM_push {B : Nat} {v v' : Value} {ms : List (List UInt8 × J)} {es : List Mem} {m : List UInt8 × J} {e : Mem} {w w' : World} (h1 : es.length = ms.length)
    (h3 : ∀ (j : Nat) m e, ms[j]? = some m → es[j]? = some e → e.1 = m.1 ∧ VIn (fun b => B ≤ b ∧ some b ≠ v.ownBlock) w m.2 (.iface e.2.1 e.2.2))
    (hn : e.1 = m.1) (hx : VIn (fun b => B ≤ b ∧ some b ≠ v.ownBlock) w m.2 (.iface e.2.1 e.2.2)) (hr : w'.ownsRow B 93 2 v' (ms.length + 1) (memCells es ++ memEnc e)) (hm : Moved v v' w w') : OwnM B v' (ms ++ [m]) w' := by
  have hkeep : ∀ (y : J) (t : Value), VIn (fun b => B ≤ b ∧ some b ≠ v.ownBlock) w y t → VIn (fun b => B ≤ b ∧ some b ≠ v'.ownBlock) w' y t := by
    intro y t hy
    rcases hm with ⟨e, hk⟩ | ⟨e, hk⟩
    · rw [e]
      exact VIn.kept' hy hk.1 fun b hb ho => hk.2 b hb ho.2
    · have hy2 : VIn (fun b => B ≤ b ∧ some b ≠ v'.ownBlock) w y t := hy.mono fun b hb ho => ⟨ho.1, fun e2 => by have := e b e2.symm; omega⟩
      exact VIn.kept' hy2 hk.1 fun b hb _ => hk.2 b hb (by simp)
  refine ⟨es ++ [e], by simp [h1], by rw [List.length_append, memCells_snoc]; exact hr, fun j y e' hy he => ?_⟩
  rw [List.getElem?_append] at hy he
  by_cases hj : j < ms.length
  · rw [if_pos hj] at hy
    rw [if_pos (by omega)] at he
    exact ⟨(h3 j y e' hy he).1, hkeep _ _ (h3 j y e' hy he).2⟩
  · rw [if_neg hj] at hy
    rw [if_neg (by omega)] at he
    have hj0 : j - ms.length = 0 := by
      have := (List.getElem?_eq_some_iff.1 hy).1
      simp at this
      omega
    rw [hj0] at hy
    rw [h1, hj0] at he
    obtain rfl : m = y := by simpa using hy
    obtain rfl : e = e' := by simpa using he
    exact ⟨hn, hkeep _ _ hx⟩
theorem ownsRow_view {e : TypeId} {size B n : Nat} {v : Value} {xs : List Value} {w : World} (h : w.ownsRow B e size v n xs) : (v = .slice none 0 0 ∧ n = 0) ∨ ∃ b cap, v = .slice (some ⟨b, 0, none⟩) n cap ∧ n ≤ cap ∧ B ≤ b ∧ b < w.heap.size ∧ ∀ (j : Nat) u, xs[j]? = some u → w.cell? ⟨b, j, none⟩ = some u := by
  rcases h.2 with h2 | ⟨b, cap, cur, e4, e5, e6, e7, e8, e9, e10⟩
  · exact .inl h2
  · refine .inr ⟨b, cap, e4, e7, e5, (Array.getElem?_eq_some_iff.1 e6).1, fun j u hu => ?_⟩
    have := h.cells (g := b) (by rw [e4]; rfl) j u hu
    rwa [show (⟨b, 0, none⟩ : Addr).add j = ⟨b, j, none⟩ from by unfold Addr.add; split <;> simp_all] at this
theorem OwnM.value {B : Nat} {v : Value} {ms : List (List UInt8 × J)} {w : World} (h : OwnM B v ms w) (hl : ms.length ≤ 1000000) : VIn (fun b => B ≤ b) w (J.obj ms) (.iface 91 v) := by
  obtain ⟨es, e1, e2, e3⟩ := h
  refine .obj ms v (fun j => match es[j]? with | some e => .iface e.2.1 e.2.2 | none => .nilIface) hl ?_ (fun j m hm => ?_)
  · rcases ownsRow_view e2 with ⟨rfl, h0⟩ | ⟨b, cap, rfl, h1, h2, h3, h4⟩
    · exact .inl ⟨rfl, by rw [List.eq_nil_of_length_eq_zero h0]; rfl⟩
    · refine .inr ⟨b, cap, by rw [List.length_map], by rw [List.length_map]; exact h1, h2, h3, fun j l hl => ?_⟩
      rw [List.getElem?_map] at hl
      cases hm : ms[j]? with
      | none => rw [hm] at hl; cases hl
      | some m =>
        rw [hm] at hl
        have hj := (List.getElem?_eq_some_iff.1 hm).1
        obtain ⟨e, he⟩ : ∃ e, es[j]? = some e := ⟨es[j]'(by omega), List.getElem?_eq_getElem (by omega)⟩
        obtain ⟨c1, c2⟩ := memCells_at es j e he
        have hn := (e3 j m e hm he).1
        obtain rfl : m.1 = l := by simpa using hl
        simp only [he]
        exact ⟨by rw [← hn]; exact h4 _ _ c1, h4 _ _ c2⟩
  · have hj := (List.getElem?_eq_some_iff.1 hm).1
    obtain ⟨e, he⟩ : ∃ e, es[j]? = some e := ⟨es[j]'(by omega), List.getElem?_eq_getElem (by omega)⟩
    simp only [he]
    exact (e3 j m e hm he).2.mono fun b _ hb => hb.1
end Go.Proofs.YtmajpambfblhnaaGreatDoor
