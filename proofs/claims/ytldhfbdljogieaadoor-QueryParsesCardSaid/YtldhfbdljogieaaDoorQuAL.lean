/- What 'apart' (layer 3) keeps true: rows in blocks of their own, told apart by labels; recorded slices that read as their marks. -/
import Derived.Test.YtldhfbdljogieaaDoorQuMark
import Derived.Test.YtldhfbdljogieaaDoorKit4
namespace Go.Proofs.YtldhfbdljogieaaDoor
open Go.RowKit Qu

theorem ownsRow_keptRow {e : TypeId} {size B n : Nat} {v : Value} {xs : List Value} {w w' : World} {row : Option Nat} (h : w.ownsRow B e size v n xs) (hk : KeptRow row w w') (hne : ∀ b, v.ownBlock = some b → some b ≠ row) : w'.ownsRow B e size v n xs := by
  refine ⟨h.1, ?_⟩
  rcases h.2 with hn | ⟨g, cap, cur, rfl, hB, hgg, rest⟩
  · exact .inl hn
  · exact .inr ⟨g, cap, cur, rfl, hB, (hk.2 g (Array.getElem?_eq_some_iff.1 hgg).1 (hne g rfl)).trans hgg, rest⟩
theorem keptRow_setCell (w : World) (b j : Nat) (x : Value) : KeptRow (some b) w (w.setCell ⟨b, j, none⟩ x) := by
  refine ⟨by simp, fun k hk hne => ?_⟩
  have hb : k ≠ b := fun e => hne (by rw [e])
  exact heap_setCell_other w ⟨b, j, none⟩ k x hb
def relab (H : Nat) (lab : Nat → Nat) (x : Nat) : Nat → Nat := fun k => if k < H then lab k else x
theorem relab_old {H : Nat} {lab : Nat → Nat} {x k : Nat} (h : k < H) : relab H lab x k = lab k := if_pos h
/-- The value's block, if it has one, bears label x. -/
def Lab (lab : Nat → Nat) (v : Value) (x : Nat) : Prop := ∀ b, v.ownBlock = some b → lab b = x
theorem Lab.relab {lab : Nat → Nat} {v : Value} {x H y : Nat} (h : Lab lab v x) (hlt : ∀ b, v.ownBlock = some b → b < H) : Lab (relab H lab y) v x := fun b hb => (relab_old (hlt b hb)).trans (h b hb)
theorem Lab.moved {lab : Nat → Nat} {v v' : Value} {x : Nat} {w w' : World} (h : Lab lab v x) (hlt : ∀ b, v.ownBlock = some b → b < w.heap.size) (hm : Moved v v' w w') : Lab (Go.Proofs.YtldhfbdljogieaaDoor.relab w.heap.size lab x) v' x := by
  rcases hm with ⟨e, _⟩ | ⟨e, _⟩
  · intro b hb
    rw [e] at hb
    exact h.relab hlt b hb
  · intro b hb
    have := e b hb
    exact if_neg (by omega)

def marks (n i : Nat) : List Fld := List.replicate n (markF i)
theorem marks_len (n i : Nat) : (marks n i).length = n := List.length_replicate
theorem marks_get {n i j : Nat} (h : j < n) : (marks n i)[j]? = some (markF i) := by simp [marks, h]
theorem marks_snoc (n i : Nat) : marks n i ++ [markF i] = marks (n + 1) i := by simp [marks, List.replicate_succ']

structure Rws (N : Nat) (lab : Nat → Nat) (g : Nat) (vs : List Value) (ls : List (List Fld)) (i0 : Nat) (w : World) : Prop where
  len : ls.length = vs.length
  lt : g < w.heap.size
  glab : lab g = 2
  cell : ∀ (j : Nat) u, vs[j]? = some u → w.cell? ⟨g, j, none⟩ = some u
  own : ∀ (j : Nat) u fl, i0 ≤ j → vs[j]? = some u → ls[j]? = some fl → OwnF N u fl w ∧ Lab lab u (3 + j)
section
variable {N : Nat} {lab : Nat → Nat} {g : Nat} {vs : List Value} {ls : List (List Fld)} {i0 : Nat} {w w' : World}
theorem Rws.kept (h : Rws N lab g vs ls i0 w) {row : Option Nat} (hk : KeptRow row w w') (hr : ∀ b, row = some b → lab b ≠ 2 ∧ ∀ j, i0 ≤ j → lab b ≠ 3 + j) : Rws N lab g vs ls i0 w' := by
  refine ⟨h.len, Nat.lt_of_lt_of_le h.lt hk.1, h.glab, fun j u hu => ?_, fun j u fl hj hu hf => ?_⟩
  · rw [hk.cell h.lt (fun e => (hr g e.symm).1 h.glab)]
    exact h.cell j u hu
  · obtain ⟨h1, h2⟩ := h.own j u fl hj hu hf
    exact ⟨ownsRow_keptRow h1 hk (fun b hb e => (hr b e.symm).2 j hj (h2 b hb)), h2⟩
theorem Rws.below (h : Rws N lab g vs ls i0 w) (hb : Below w.heap.size w w') : Rws N lab g vs ls i0 w' := by
  refine h.kept (row := none) ⟨hb.size, fun k hk _ => heap_below hb hk⟩ (fun b hb => by cases hb)
theorem Rws.relab (h : Rws N lab g vs ls i0 w) (x : Nat) {H : Nat} (hH : w.heap.size ≤ H) : Rws N (relab H lab x) g vs ls i0 w := by
  refine ⟨h.len, h.lt, (relab_old (by have := h.lt; omega)).trans h.glab, h.cell, fun j u fl hj hu hf => ?_⟩
  obtain ⟨h1, h2⟩ := h.own j u fl hj hu hf
  exact ⟨h1, h2.relab (fun b hb => by have := (h1.lt b hb).2; omega)⟩
theorem Rws.from (h : Rws N lab g vs ls i0 w) {i1 : Nat} (hi : i0 ≤ i1) : Rws N lab g vs ls i1 w := ⟨h.len, h.lt, h.glab, h.cell, fun j u fl hj => h.own j u fl (by omega)⟩
theorem Rws.store (h : Rws N lab g vs ls i0 w) {i j b n cap : Nat} {fl : List Fld} (hi : i0 ≤ i) (hu : vs[i]? = some (.slice (some ⟨b, 0, none⟩) n cap)) (hf : ls[i]? = some fl) (hn : fl.length = n) (f : Fld) :
    Rws N lab g vs (ls.set i (fl.set j f)) i0 ((w.setCell ⟨b, j * 2, none⟩ (S f.1)).setCell ⟨b, j * 2 + 1, none⟩ (S f.2)) := by
  obtain ⟨h1, h2⟩ := h.own i _ fl hi hu hf
  have hlb : lab b = 3 + i := h2 b rfl
  have hk := (keptRow_setCell w b (j * 2) (S f.1)).trans (keptRow_setCell (w.setCell ⟨b, j * 2, none⟩ (S f.1)) b (j * 2 + 1) (S f.2))
  have hil : i < ls.length := (List.getElem?_eq_some_iff.1 hf).1
  refine ⟨by rw [List.length_set]; exact h.len, Nat.lt_of_lt_of_le h.lt hk.1, h.glab, fun k u hk' => ?_, fun k u fl' hk' hu' hf' => ?_⟩
  · rw [hk.cell h.lt (fun e => by cases e; have := h.glab; omega)]
    exact h.cell k u hk'
  · by_cases e : i = k
    · subst e
      rw [hu] at hu'
      cases hu'
      rw [List.getElem?_set_self hil] at hf'
      cases hf'
      exact ⟨h1.store hn j f, h2⟩
    · rw [List.getElem?_set_ne e] at hf'
      obtain ⟨g1, g2⟩ := h.own k u fl' hk' hu' hf'
      exact ⟨ownsRow_keptRow g1 hk (fun c hc ec => by cases ec; have := g2 b hc; omega), g2⟩
end

/-- A recorded slice: it reads as marks of i; where it lies in the current row's block it is no longer than that row. -/
def RecOk (lab : Nat → Nat) (cur : Value) (n : Nat) (w : World) (u : Value) (i : Nat) : Prop :=
  u = .slice none 0 0 ∨ ∃ b m cap, u = .slice (some ⟨b, 0, none⟩) m cap ∧ (m ≤ cap ∧ cap ≤ maxLen) ∧ b < w.heap.size ∧ lab b = 3 + i ∧ (cur.ownBlock = some b → m ≤ n) ∧
    ∀ j, j < m → w.cell? ⟨b, j * 2, none⟩ = some (S (markF i).1) ∧ w.cell? ⟨b, j * 2 + 1, none⟩ = some (S (markF i).2)
section
variable {lab : Nat → Nat} {cur cur' u : Value} {n i : Nat} {w w' : World}
theorem RecOk.kept (h : RecOk lab cur n w u i) {row : Option Nat} (hk : KeptRow row w w') (hr : ∀ b, row = some b → lab b ≠ 3 + i) : RecOk lab cur n w' u i := by
  rcases h with h | ⟨b, m, cap, rfl, h1, h2, h3, h4, h5⟩
  · exact .inl h
  · refine .inr ⟨b, m, cap, rfl, h1, Nat.lt_of_lt_of_le h2 hk.1, h3, h4, fun j hj => ?_⟩
    rw [hk.cell h2 (fun e => hr b e.symm h3), hk.cell h2 (fun e => hr b e.symm h3)]
    exact h5 j hj
theorem RecOk.below (h : RecOk lab cur n w u i) (hb : Below w.heap.size w w') : RecOk lab cur n w' u i :=
  h.kept (row := none) ⟨hb.size, fun k hk _ => heap_below hb hk⟩ (fun b hb => by cases hb)
theorem RecOk.relab (h : RecOk lab cur n w u i) (x : Nat) {H : Nat} (hH : w.heap.size ≤ H) : RecOk (relab H lab x) cur n w u i := by
  rcases h with h | ⟨b, m, cap, rfl, h1, h2, h3, h4, h5⟩
  · exact .inl h
  · exact .inr ⟨b, m, cap, rfl, h1, h2, (relab_old (by omega)).trans h3, h4, h5⟩
theorem RecOk.other (h : RecOk lab cur n w u i) {k n' : Nat} (hl : Lab lab cur' (3 + k)) (hk : i ≠ k) : RecOk lab cur' n' w u i := by
  rcases h with h | ⟨b, m, cap, rfl, h1, h2, h3, h4, h5⟩
  · exact .inl h
  · exact .inr ⟨b, m, cap, rfl, h1, h2, h3, fun e => by have := hl b e; omega, h5⟩
theorem OwnF.marks {N : Nat} (h : OwnF N cur (marks n i) w) : cur = .slice none 0 0 ∨ ∃ b cap, cur = .slice (some ⟨b, 0, none⟩) n cap ∧ (n ≤ cap ∧ cap ≤ maxLen) ∧ b < w.heap.size ∧ ∀ j, j < n → w.cell? ⟨b, j * 2, none⟩ = some (S (markF i).1) ∧ w.cell? ⟨b, j * 2 + 1, none⟩ = some (S (markF i).2) := by
  have hc := fun {g : Nat} (hg : cur.ownBlock = some g) => h.cells hg
  have hlt := h.lt
  rcases h.2 with ⟨h1, _⟩ | ⟨b, cap, c0, rfl, hB, hg, h1, h2, h3, h4⟩
  · exact .inl h1
  · rw [marks_len] at *
    refine .inr ⟨b, cap, rfl, ⟨h1, h2⟩, (hlt b rfl).2, fun j hj => ?_⟩
    have hadd : ∀ k, (⟨b, 0, none⟩ : Addr).add k = ⟨b, k, none⟩ := fun k => by unfold Addr.add; split <;> simp_all
    obtain ⟨g1, g2⟩ := cells_fields (Go.Proofs.YtldhfbdljogieaaDoor.marks n i) j (markF i) (marks_get hj)
    have e1 := hc (g := b) rfl _ _ g1
    have e2 := hc (g := b) rfl _ _ g2
    rw [hadd] at e1 e2
    exact ⟨e1, e2⟩
theorem RecOk.self {N : Nat} (h : OwnF N cur (marks n i) w) (hl : Lab lab cur (3 + i)) : RecOk lab cur n w cur i := by
  rcases h.marks with h1 | ⟨b, cap, rfl, h1, h2, h3⟩
  · exact .inl h1
  · exact .inr ⟨b, n, cap, rfl, h1, h2, hl b rfl, fun _ => Nat.le_refl _, h3⟩
theorem RecOk.push {N k : Nat} (h : RecOk lab cur n w u k) (hl : Lab lab cur (3 + i)) (hm : Moved cur cur' w w') (ho : OwnF N cur' (marks (n + 1) i) w') : RecOk lab cur' (n + 1) w' u k := by
  rcases h with h | ⟨b, m, cap, rfl, h1, h2, h3, h4, h5⟩
  · exact .inl h
  · rcases hm with ⟨e, hk⟩ | ⟨e, hk⟩
    · by_cases hb : cur.ownBlock = some b
      · have hik : i = k := by have := hl b hb; omega
        subst hik
        have hmn := h4 hb
        refine .inr ⟨b, m, cap, rfl, h1, Nat.lt_of_lt_of_le h2 hk.1, h3, fun _ => by omega, fun j hj => ?_⟩
        rcases ho.marks with rfl | ⟨b', cap', rfl, g1, g2, g3⟩
        · rw [hb] at e; cases e
        · rw [hb] at e
          cases e
          exact g3 j (by omega)
      · refine .inr ⟨b, m, cap, rfl, h1, Nat.lt_of_lt_of_le h2 hk.1, h3, fun e' => by rw [e] at e'; exact absurd e' hb, fun j hj => ?_⟩
        rw [hk.cell h2 (fun e => hb e.symm), hk.cell h2 (fun e => hb e.symm)]
        exact h5 j hj
    · refine .inr ⟨b, m, cap, rfl, h1, Nat.lt_of_lt_of_le h2 hk.1, h3, fun e' => by have := e b e'; omega, fun j hj => ?_⟩
      rw [hk.cell h2 (by simp), hk.cell h2 (by simp)]
      exact h5 j hj
end

/-- The state of the second loop: the recorded slices and their owners stand in rows of their own (rs1, rs2), the current row holds n marks. -/
structure App (N : Nat) (g : Nat) (vs : List Value) (ls : List (List Fld)) (i n : Nat) (av hv cur : Value) (rs1 rs2 : List (Value × Nat)) (lab : Nat → Nat) (w : World) : Prop where
  rws : Rws N lab g vs ls (i + 1) w
  all : w.ownsRow N 31 1 av rs1.length (rs1.map fun r => r.1)
  allL : Lab lab av 0
  who : w.ownsRow N 3 1 hv rs2.length (rs2.map fun r => .int .i64 (r.2 : Int))
  whoL : Lab lab hv 1
  row : OwnF N cur (marks n i) w
  rowL : Lab lab cur (3 + i)
  recs : ∀ r ∈ rs1, r.2 ≤ i ∧ RecOk lab cur n w r.1 r.2
section
variable {N : Nat} {g : Nat} {vs : List Value} {ls : List (List Fld)} {i n : Nat} {av hv cur av' hv' cur' : Value} {rs1 rs2 : List (Value × Nat)} {lab : Nat → Nat} {w w' : World}
theorem App.relab (h : App N g vs ls i n av hv cur rs1 rs2 lab w) (x : Nat) : App N g vs ls i n av hv cur rs1 rs2 (relab w.heap.size lab x) w :=
  ⟨h.rws.relab x (Nat.le_refl _), h.all, h.allL.relab fun b hb => (h.all.lt b hb).2, h.who, h.whoL.relab fun b hb => (h.who.lt b hb).2, h.row, h.rowL.relab fun b hb => (h.row.lt b hb).2,
    fun r hr => ⟨(h.recs r hr).1, (h.recs r hr).2.relab x (Nat.le_refl _)⟩⟩
theorem App.below (h : App N g vs ls i n av hv cur rs1 rs2 lab w) (hb : Below w.heap.size w w') : App N g vs ls i n av hv cur rs1 rs2 lab w' :=
  ⟨h.rws.below hb, ownsRow_below h.all hb, h.allL, ownsRow_below h.who hb, h.whoL, ownsRow_below h.row hb, h.rowL, fun r hr => ⟨(h.recs r hr).1, (h.recs r hr).2.below hb⟩⟩
theorem App.pushAll (h : App N g vs ls i n av hv cur rs1 rs2 lab w) (m : Moved av av' w w') (o : w'.ownsRow N 31 1 av' (rs1.length + 1) ((rs1.map fun r => r.1) ++ [cur])) :
    ∃ lab', App N g vs ls i n av' hv cur (rs1 ++ [(cur, i)]) rs2 lab' w' := by
  have L := h.allL.moved (fun b hb => (h.all.lt b hb).2) m
  have k := h.relab 0
  have hm := m.kept
  have hrow : OwnF N cur (marks n i) w' := ownsRow_keptRow k.row hm (fun b hb e => by have := k.rowL b hb; have := k.allL b e.symm; omega)
  refine ⟨_, k.rws.kept hm (fun b e => by have := k.allL b e; exact ⟨by omega, fun j _ => by omega⟩), by simpa using o, L,
    ownsRow_keptRow k.who hm (fun b hb e => by have := k.whoL b hb; have := k.allL b e.symm; omega), k.whoL, hrow, k.rowL, fun r hr => ?_⟩
  rcases List.mem_append.1 hr with hr | hr
  · exact ⟨(k.recs r hr).1, (k.recs r hr).2.kept hm (fun b e => by have := k.allL b e; omega)⟩
  · simp at hr
    subst hr
    exact ⟨Nat.le_refl _, RecOk.self hrow k.rowL⟩
theorem App.pushWho (h : App N g vs ls i n av hv cur rs1 rs2 lab w) (m : Moved hv hv' w w') (u : Value) (o : w'.ownsRow N 3 1 hv' (rs2.length + 1) ((rs2.map fun r => .int .i64 (r.2 : Int)) ++ [.int .i64 (i : Int)])) :
    ∃ lab', App N g vs ls i n av hv' cur rs1 (rs2 ++ [(u, i)]) lab' w' := by
  have L := h.whoL.moved (fun b hb => (h.who.lt b hb).2) m
  have k := h.relab 1
  have hm := m.kept
  exact ⟨_, k.rws.kept hm (fun b e => by have := k.whoL b e; exact ⟨by omega, fun j _ => by omega⟩),
    ownsRow_keptRow k.all hm (fun b hb e => by have := k.allL b hb; have := k.whoL b e.symm; omega), k.allL, by simpa using o, L,
    ownsRow_keptRow k.row hm (fun b hb e => by have := k.rowL b hb; have := k.whoL b e.symm; omega), k.rowL,
    fun r hr => ⟨(k.recs r hr).1, (k.recs r hr).2.kept hm (fun b e => by have := k.whoL b e; omega)⟩⟩
theorem App.pushRow (h : App N g vs ls i n av hv cur rs1 rs2 lab w) (m : Moved cur cur' w w') (o : OwnF N cur' (marks (n + 1) i) w') :
    ∃ lab', App N g vs ls i (n + 1) av hv cur' rs1 rs2 lab' w' := by
  have L := h.rowL.moved (fun b hb => (h.row.lt b hb).2) m
  have k := h.relab (3 + i)
  have hm := m.kept
  exact ⟨_, k.rws.kept hm (fun b e => by have := k.rowL b e; exact ⟨by omega, fun j _ => by omega⟩),
    ownsRow_keptRow k.all hm (fun b hb e => by have := k.allL b hb; have := k.rowL b e.symm; omega), k.allL,
    ownsRow_keptRow k.who hm (fun b hb e => by have := k.whoL b hb; have := k.rowL b e.symm; omega), k.whoL, o, L,
    fun r hr => ⟨(k.recs r hr).1, (k.recs r hr).2.push k.rowL m o⟩⟩
end

/-- At the head of the second loop: i rows are done. -/
structure Hd (N : Nat) (g : Nat) (vs : List Value) (ls : List (List Fld)) (i : Nat) (av hv : Value) (rs : List (Value × Nat)) (lab : Nat → Nat) (w : World) : Prop where
  rws : Rws N lab g vs ls i w
  all : w.ownsRow N 31 1 av rs.length (rs.map fun r => r.1)
  allL : Lab lab av 0
  who : w.ownsRow N 3 1 hv rs.length (rs.map fun r => .int .i64 (r.2 : Int))
  whoL : Lab lab hv 1
  recs : ∀ r ∈ rs, r.2 < i ∧ RecOk lab (.slice none 0 0) 0 w r.1 r.2
section
variable {N : Nat} {g : Nat} {vs : List Value} {ls : List (List Fld)} {i n : Nat} {av hv cur u : Value} {rs : List (Value × Nat)} {lab : Nat → Nat} {w w' : World}
theorem Lab.nil (lab : Nat → Nat) (x : Nat) : Lab lab (.slice none 0 0) x := fun b hb => by cases hb
theorem RecOk.nil {k : Nat} (h : RecOk lab cur n w u k) : RecOk lab (.slice none 0 0) 0 w u k := h.other (k := k + 1) (Lab.nil _ _) (by omega)
theorem Hd.start (h : Rws N lab g vs ls 0 w) : Hd N g vs ls 0 (.slice none 0 0) (.slice none 0 0) [] lab w :=
  ⟨h, World.ownsRow_nil _ _ _ _, Lab.nil _ _, World.ownsRow_nil _ _ _ _, Lab.nil _ _, fun r hr => by cases hr⟩
theorem Hd.enter (h : Hd N g vs ls i av hv rs lab w) (hu : vs[i]? = some cur) (hf : ls[i]? = some (marks n i)) : App N g vs ls i n av hv cur rs rs lab w := by
  obtain ⟨h1, h2⟩ := h.rws.own i cur _ (Nat.le_refl _) hu hf
  refine ⟨h.rws.from (by omega), h.all, h.allL, h.who, h.whoL, h1, h2, fun r hr => ?_⟩
  obtain ⟨g1, g2⟩ := h.recs r hr
  exact ⟨by omega, g2.other h2 (by omega)⟩
theorem App.leave (h : App N g vs ls i n av hv cur rs rs lab w) : Hd N g vs ls (i + 1) av hv rs lab w :=
  ⟨h.rws, h.all, h.allL, h.who, h.whoL, fun r hr => ⟨by have := (h.recs r hr).1; omega, (h.recs r hr).2.nil⟩⟩
end

theorem ownsRow_read {e : TypeId} {B n : Nat} {v : Value} {xs : List Value} {w : World} (h : w.ownsRow B e 1 v n xs) (hn : 0 < n) :
    ∃ b cap, v = .slice (some ⟨b, 0, none⟩) n cap ∧ n ≤ cap ∧ b < w.heap.size ∧ ∀ (j : Nat) u, xs[j]? = some u → w.cell? ⟨b, j, none⟩ = some u := by
  have hc := fun {g : Nat} (hg : v.ownBlock = some g) => h.cells hg
  have hlt := h.lt
  rcases h.2 with ⟨_, h1⟩ | ⟨b, cap, cur, rfl, hB, hg, h1, h2, h3, h4⟩
  · omega
  · refine ⟨b, cap, rfl, h1, (hlt b rfl).2, fun j u hu => ?_⟩
    have hadd : (⟨b, 0, none⟩ : Addr).add j = ⟨b, j, none⟩ := by unfold Addr.add; split <;> simp_all
    have := hc (g := b) rfl j u hu
    rwa [hadd] at this
/-- What the third loop reads. -/
def RdAll (rs : List (Value × Nat)) (ga gh M : Nat) (lab : Nat → Nat) (w : World) : Prop := ga < w.heap.size ∧ gh < w.heap.size ∧
  ∀ (k : Nat) r, rs[k]? = some r → w.cell? ⟨ga, k, none⟩ = some r.1 ∧ w.cell? ⟨gh, k, none⟩ = some (.int .i64 (r.2 : Int)) ∧ r.2 < M ∧ RecOk lab (.slice none 0 0) 0 w r.1 r.2
theorem RdAll.below {rs : List (Value × Nat)} {ga gh M : Nat} {lab : Nat → Nat} {w w' : World} (h : RdAll rs ga gh M lab w) (hb : Below w.heap.size w w') : RdAll rs ga gh M lab w' := by
  obtain ⟨h1, h2, h3⟩ := h
  have hz := hb.size
  refine ⟨by omega, by omega, fun k r hr => ?_⟩
  obtain ⟨g1, g2, g3, g4⟩ := h3 k r hr
  exact ⟨((bcell hb).1 _ _ h1).trans g1, ((bcell hb).1 _ _ h2).trans g2, g3, g4.below hb⟩
theorem Hd.read {N g M : Nat} {vs : List Value} {ls : List (List Fld)} {av hv : Value} {rs : List (Value × Nat)} {lab : Nat → Nat} {w : World} (h : Hd N g vs ls M av hv rs lab w) (hn : 0 < rs.length) :
    ∃ ga ca gh ch, av = .slice (some ⟨ga, 0, none⟩) rs.length ca ∧ hv = .slice (some ⟨gh, 0, none⟩) rs.length ch ∧ rs.length ≤ ca ∧ rs.length ≤ ch ∧ RdAll rs ga gh M lab w := by
  obtain ⟨ga, ca, rfl, a1, a2, a3⟩ := ownsRow_read h.all hn
  obtain ⟨gh, ch, rfl, b1, b2, b3⟩ := ownsRow_read h.who hn
  refine ⟨ga, ca, gh, ch, rfl, rfl, a1, b1, a2, b2, fun k r hr => ?_⟩
  obtain ⟨c1, c2⟩ := h.recs r (List.mem_of_getElem? hr)
  exact ⟨a3 k r.1 (by rw [List.getElem?_map, hr]; rfl), b3 k _ (by rw [List.getElem?_map, hr]; rfl), c1, c2⟩
theorem RecOk.form {lab : Nat → Nat} {w : World} {u : Value} {i : Nat} (h : RecOk lab (.slice none 0 0) 0 w u i) : ∃ x m cap, u = .slice x m cap ∧ m ≤ maxLen ∧ ∀ j, j < m → ∃ b, x = some ⟨b, 0, none⟩ := by
  rcases h with rfl | ⟨b, m, cap, rfl, h1, _⟩
  · exact ⟨none, 0, 0, rfl, Nat.zero_le _, fun j hj => by omega⟩
  · exact ⟨_, m, cap, rfl, by omega, fun j _ => ⟨b, rfl⟩⟩
theorem RecOk.get {lab : Nat → Nat} {w : World} {b m cap i : Nat} (h : RecOk lab (.slice none 0 0) 0 w (.slice (some ⟨b, 0, none⟩) m cap) i) :
    m ≤ cap ∧ b < w.heap.size ∧ ∀ j, j < m → w.cell? ⟨b, j * 2, none⟩ = some (S (markF i).1) ∧ w.cell? ⟨b, j * 2 + 1, none⟩ = some (S (markF i).2) := by
  rcases h with h | ⟨b', m', cap', h, h1, h2, _, _, h5⟩
  · cases h
  · cases h
    exact ⟨h1.1, h2, h5⟩
end Go.Proofs.YtldhfbdljogieaaDoor
