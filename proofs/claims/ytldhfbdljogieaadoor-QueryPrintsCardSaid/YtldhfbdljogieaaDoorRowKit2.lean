/- An argument that is a slice of fields (structs of two strings): what it reads as; how it is handed back behind 'Below'. -/
import Derived.Test.YtldhfbdljogieaaDoorRowKit
import Derived.Test.YtldhfbdljogieaaDoorQuW11
import Derived.Deep.Slices
import Derived.Deep.Fields
import Derived.ChangeSame
import Derived.Carry
namespace Go.Proofs.YtldhfbdljogieaaDoor
open Go.ChangeShapes Go.WideShapes Go.ChangeAt Go.RowKit Go.Deep Qu

section
variable {H : Type} {enc : TypeId × Value → H} {P : Program} {w : World} {base : Nat} {spare : Nat → Bool} {held : Bool}
theorem open_slice_fields {t e : TypeId} {fs : Array Field} {fuel : Nat} {cs : List Value} {x : DataW H × List MemPlace} (ht : P.underlying t = some (.slice e)) (he : P.underlying e = some (.struct fs))
    (hone : oneCellFields P fs = true) (hC : P.cellsOf e = fs.size) (h : DataW.trod enc P w base spare held fuel t cs = some x) :
    (cs = [.slice none 0 0] ∧ x = (.nil, [])) ∨
    ∃ (a : Addr) (len cap m : Nat) (D : Nat → DataW H) (Pl : Nat → List MemPlace), cs = [.slice (some a) len cap] ∧ base ≤ a.block ∧ len ≤ cap ∧ cap ≤ maxLen ∧ m = (if spare a.block then cap else len) ∧
      x = (.slice ((List.range len).map D) ((List.range (m - len)).map fun j => D (len + j)), MemPlace.row a (m * fs.size) ++ (List.range m).flatMap Pl) ∧
      ∀ i, i < m → ∃ (ys : List (DataW H × List MemPlace)) (n : Nat), D i = .agg (ys.map (·.1)) ∧ Pl i = ys.flatMap (·.2) ∧ ys.length = fs.size ∧
        ∀ (j : Nat) (f : Field), fs[j]? = some f → ∃ (v : Value) (y : DataW H × List MemPlace), w.cell? (a.add (i * fs.size + j)) = some v ∧ ys[j]? = some y ∧ DataW.trod enc P w base spare held n f.type [v] = some y := by
  rcases open_slice ht h with h0 | ⟨a, len, cap, m, n, D, Pl, hcs, hb, hl, hm, hmm, hx, hi⟩
  · exact .inl h0
  · refine .inr ⟨a, len, cap, m, D, Pl, hcs, hb, hl, hm, hmm, by rw [hC] at hx; exact hx, fun i him => ?_⟩
    obtain ⟨cs', hc, ht'⟩ := hi i him
    rw [hC] at hc
    obtain ⟨ys, n', hn', hy, hlen, hyl, hf⟩ := DataW.trod_struct he ht'
    obtain ⟨_, hcl, hat⟩ := World.cells?_some hc
    simp only [Prod.mk.injEq] at hy
    refine ⟨ys, n', hy.1, hy.2, hyl, fun j f hj => ?_⟩
    obtain ⟨ho, hk⟩ := hone_of hone j f hj
    have hjl : j < fs.size := (Array.getElem?_eq_some_iff.1 hj).1
    have hcell := hat j hjl
    have hv : cs'[j]? = some (cs'[j]'(by omega)) := List.getElem?_eq_getElem (by omega)
    have h1 := hf j f hj
    rw [ho, hk] at h1
    have hone' : (cs'.drop j).take 1 = [cs'[j]'(by omega)] := by
      rw [List.drop_eq_getElem_cons (by omega)]
      rfl
    rw [hone'] at h1
    have hys : ys[j]? = some (ys[j]'(by omega)) := List.getElem?_eq_getElem (by omega)
    refine ⟨_, _, ?_, hys, h1.trans hys⟩
    rw [← Go.Deep.add_add, hcell, hv]
/-- The argument is handed back as it came: below the heap's old size nothing has turned. -/
theorem trod_back {t : TypeId} (hl : laidOutB P = true) (hr : P.readableRec t = true) (hrow : t < P.types.size) {W W' : World} {v : Value} {d : DataW H} {ps : List MemPlace}
    (h : DataW.Trod enc P W 0 (fun _ => true) true t v d ps) (hb : Below W.heap.size W W') (hlt : ∀ x ∈ ps, x.block < W.heap.size) (sp : Nat → Bool) (hsp : ∀ x ∈ ps, sp x.block = true) : DataW.Trod enc P W' 0 sp true t v d ps :=
  WideElems.Trod_stays hl hr hrow h (fun x hx => hb.same (hlt x hx)) hsp
end

theorem addr_add (b off k : Nat) : (⟨b, off, none⟩ : Addr).add k = ⟨b, off + k, none⟩ := by unfold Addr.add; split <;> simp_all
theorem structField : ∃ f0 f1 : Field, Tryd.prog.underlying 44 = some (.struct #[f0, f1]) ∧ f0.type = 9 ∧ f1.type = 9 ∧ oneCellFields Tryd.prog #[f0, f1] = true :=
  ⟨_, _, Tryd.underlying44, rfl, rfl, by kernel_rfl⟩
theorem cellsField : Tryd.prog.cellsOf 44 = 2 := by kernel_rfl
theorem laidOut : laidOutB Tryd.prog = true := by kernel_rfl

/-- What a slice of fields that came in reads as. -/
theorem fields_of {H : Type} {enc : TypeId × Value → H} {W : World} {v : Value} {d : DataW H} {p : List MemPlace} (hs : ∃ a len cap, v = .slice a len cap) (h : DataW.Trod enc Tryd.prog W 0 (fun _ => true) true 31 v d p) :
    ∃ l : List Fld, FldIn W v l ∧ l.length ≤ 9223372036854775807 ∧ ∀ f ∈ l, f.1.length ≤ 9223372036854775807 ∧ f.2.length ≤ 9223372036854775807 := by
  obtain ⟨f0, f1, hst, ht0, ht1, hone⟩ := structField
  obtain ⟨a0, len0, cap0, rfl⟩ := hs
  obtain ⟨fuel, hf⟩ := h
  rcases open_slice_fields Tryd.underlying31 hst hone cellsField hf with ⟨hcs, hx⟩ | ⟨a, len, cap, m, D, Pl, hcs, _, hl, hm, hmm, hx, hi⟩
  · simp only [Value.cells] at hcs
    obtain ⟨rfl, rfl, rfl⟩ : a0 = none ∧ len0 = 0 ∧ cap0 = 0 := by simpa using hcs
    exact ⟨[], .inl ⟨none, rfl, rfl⟩, by decide, by simp⟩
  · obtain ⟨rfl, rfl, rfl⟩ : a0 = some a ∧ len0 = len ∧ cap0 = cap := by simpa [Value.cells] using hcs
    have hm2 : m = cap0 := by simpa using hmm
    subst hm2
    have hm3 : m ≤ 9223372036854775807 := by unfold maxLen at hm; omega
    have hcell : ∀ i, i < len0 → ∃ x y : ByteArray, W.cell? (a.add (i * 2)) = some (.string x) ∧ W.cell? (a.add (i * 2 + 1)) = some (.string y) ∧ x.size ≤ maxLen ∧ y.size ≤ maxLen := by
      intro i hil
      obtain ⟨ys, n, _, _, _, hfs⟩ := hi i (by omega)
      obtain ⟨v0, y0, c0, _, t0⟩ := hfs 0 f0 rfl
      obtain ⟨v1, y1, c1, _, t1⟩ := hfs 1 f1 rfl
      rw [ht0] at t0
      rw [ht1] at t1
      obtain ⟨x, hx0, _, hxl⟩ := DataW.trod_string Tryd.underlying9 t0
      obtain ⟨y, hy0, _, hyl⟩ := DataW.trod_string Tryd.underlying9 t1
      obtain rfl : v0 = .string x := by simpa using hx0
      obtain rfl : v1 = .string y := by simpa using hy0
      exact ⟨x, y, c0, c1, hxl, hyl⟩
    by_cases hc0 : m = 0
    · subst hc0
      obtain rfl : len0 = 0 := by omega
      exact ⟨[], .inl ⟨_, rfl, rfl⟩, by decide, by simp⟩
    · obtain ⟨ys, n, _, _, _, hfs⟩ := hi 0 (by omega)
      obtain ⟨v0, y0, c0, _, _⟩ := hfs 0 f0 rfl
      obtain ⟨b, off, spot⟩ := a
      have hspot : spot = none := by simpa [Addr.add] using World.cell?_spot c0
      subst hspot
      have hadd := addr_add b off
      rw [hadd] at c0
      have hbl := cell_lt c0
      let g : Nat → Fld := fun i => (match W.cell? ⟨b, off + i * 2, none⟩ with | some (.string x) => x.data.toList | _ => [], match W.cell? ⟨b, off + i * 2 + 1, none⟩ with | some (.string x) => x.data.toList | _ => [])
      have hg : ∀ i, i < len0 → W.cell? ⟨b, off + i * 2, none⟩ = some (S (g i).1) ∧ W.cell? ⟨b, off + i * 2 + 1, none⟩ = some (S (g i).2) ∧ (g i).1.length ≤ 9223372036854775807 ∧ (g i).2.length ≤ 9223372036854775807 := by
        intro i hil
        obtain ⟨x, y, e0, e1, l0, l1⟩ := hcell i hil
        rw [hadd] at e0 e1
        rw [← Nat.add_assoc] at e1
        have g1 : (g i).1 = x.data.toList := by simp only [g, e0]
        have g2 : (g i).2 = y.data.toList := by simp only [g, e1]
        rw [g1, g2, e0, e1]
        refine ⟨by simp, by simp, ?_, ?_⟩
        · have : x.data.toList.length = x.size := rfl
          unfold maxLen at l0; omega
        · have : y.data.toList.length = y.size := rfl
          unfold maxLen at l1; omega
      refine ⟨(List.range len0).map g, .inr ⟨b, off, m, by rw [List.length_map, List.length_range], by rw [List.length_map, List.length_range]; exact hl, hbl, fun j f hf => ?_⟩, by rw [List.length_map, List.length_range]; omega, ?_⟩
      · rw [List.getElem?_map] at hf
        by_cases hj : j < len0
        · rw [List.getElem?_range hj] at hf
          obtain rfl : g j = f := by simpa using hf
          exact ⟨(hg j hj).1, (hg j hj).2.1⟩
        · rw [List.getElem?_eq_none (by simpa using hj)] at hf
          cases hf
      · intro f hf
        obtain ⟨i, hi2, rfl⟩ := List.mem_map.1 hf
        exact ⟨(hg i (by simpa using hi2)).2.2.1, (hg i (by simpa using hi2)).2.2.2⟩
end Go.Proofs.YtldhfbdljogieaaDoor
