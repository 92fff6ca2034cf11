/- An argument that is a value of api: what it reads as; how it is handed back behind 'Below'. -/
import Derived.Test.YtmajpambfblhnaaGreatDoorJoRowKit
import Derived.Test.YtmajpambfblhnaaGreatDoorJoPlainB
import Derived.Deep.Slices
import Derived.Deep.Fields
import Derived.ChangeSame
import Derived.Carry
namespace Go.Proofs.YtmajpambfblhnaaGreatDoor
open Go.ChangeShapes Go.WideShapes Go.ChangeAt Go.RowKit Go.Deep Jo

section
variable {H : Type} {enc : TypeId × Value → H} {P : Program} {w : World} {base : Nat} {spare : Nat → Bool} {held : Bool}
/-- The argument is handed back as it came: below the heap's old size nothing has turned. -/
theorem trod_back {t : TypeId} (hl : laidOutB P = true) (hr : P.readableRec t = true) (hrow : t < P.types.size) {W W' : World} {v : Value} {d : DataW H} {ps : List MemPlace}
    (h : DataW.Trod enc P W 0 (fun _ => true) true t v d ps) (hb : Below W.heap.size W W') (hlt : ∀ x ∈ ps, x.block < W.heap.size) (sp : Nat → Bool) (hsp : ∀ x ∈ ps, sp x.block = true) : DataW.Trod enc P W' 0 sp true t v d ps :=
  WideElems.Trod_stays hl hr hrow h (fun x hx => hb.same (hlt x hx)) hsp
end

theorem addr_add (b off k : Nat) : (⟨b, off, none⟩ : Addr).add k = ⟨b, off + k, none⟩ := by unfold Addr.add; split <;> simp_all
theorem structJot : ∃ f0 f1 f2 f3 f4 : Field, Tryz.prog.underlying 25 = some (.struct #[f0, f1, f2, f3, f4]) ∧ f0.type = 3 ∧ f1.type = 3 ∧ f2.type = 9 ∧ f3.type = 22 ∧ f4.type = 23 ∧ oneCellFields Tryz.prog #[f0, f1, f2, f3, f4] = true :=
  ⟨_, _, _, _, _, Tryz.underlying25, rfl, rfl, rfl, rfl, rfl, by kernel_rfl⟩
theorem cellsJot : Tryz.prog.cellsOf 25 = 5 := by kernel_rfl
theorem cellsStr : Tryz.prog.cellsOf 9 = 1 := by kernel_rfl
theorem laidOut : laidOutB Tryz.prog = true := by kernel_rfl

section
variable {H : Type} {enc : TypeId × Value → H} {W : World} {sp : Nat → Bool}
theorem uptoAll_map (ds : List (DataW H)) : Rows.uptoBulkAll ds = (ds.map Rows.uptoBulk).sum := by
  induction ds with
  | nil => rfl
  | cons d r ih => rw [Rows.uptoBulkAll, ih]; rfl
theorem names_in {fuel : Nat} {c : Value} {y : DataW H × List MemPlace} (h : DataW.trod enc Tryz.prog W 0 sp true fuel 22 [c] = some y) :
    ∃ (ns : List (List UInt8)) (a : Option Addr) (cap : Nat), c = .slice a ns.length cap ∧ RowS (fun _ => True) W c ns ∧ ns.length ≤ maxLen ∧ (∀ l ∈ ns, l.length ≤ maxLen) ∧ (ns.map fun l => l.length + 1).sum + 1 ≤ Rows.uptoBulk y.1 := by
  rcases DataW.trod_slice Tryz.underlying22 h with ⟨hc, rfl⟩ | ⟨a, len, cap, elems, rest, n, rfl, hc, rfl, _, hl, hm, hlen, hel, _, _⟩
  · obtain rfl : c = .slice none 0 0 := by simpa using hc
    exact ⟨[], none, 0, rfl, .inl ⟨none, 0, rfl, rfl⟩, by simp, by simp, by simp [Rows.uptoBulk]⟩
  · obtain rfl : c = .slice (some a) len cap := by simpa using hc
    rw [cellsStr] at hel
    have hp : ∀ i, i < len → ∃ l : List UInt8, W.cell? (a.add i) = some (S l) ∧ l.length ≤ maxLen ∧ ∃ e, elems[i]? = some e ∧ l.length + 1 ≤ Rows.uptoBulk e.1 := by
      intro i hi
      have h1 := hel i hi
      have he : elems[i]? = some (elems[i]'(by omega)) := List.getElem?_eq_getElem (by omega)
      rw [he] at h1
      obtain ⟨cs, hcs, ht⟩ := Option.bind_eq_some_iff.1 h1
      rw [Nat.mul_one] at hcs
      obtain ⟨_, hcl, hat⟩ := World.cells?_some hcs
      obtain ⟨s, rfl, hx, hs⟩ := DataW.trod_string Tryz.underlying9 ht
      have := hat 0 (by omega)
      have ha0 : a.add i = (a.add i).add 0 := by unfold Addr.add; split <;> simp_all
      rw [← ha0] at this
      exact ⟨s.data.toList, by rw [this]; rfl, hs, _, he, by rw [hx]; simp [Rows.uptoBulk]⟩
    obtain ⟨f, hf⟩ := choose_lt hp
    have hnl : ((List.range len).map f).length = len := by rw [List.length_map, List.length_range]
    have hget : ∀ (j : Nat) l, ((List.range len).map f)[j]? = some l → j < len ∧ l = f j := by
      intro j l hj
      have hjl : j < len := by have := (List.getElem?_eq_some_iff.1 hj).1; omega
      rw [List.getElem?_map, List.getElem?_range hjl] at hj
      exact ⟨hjl, by simpa using hj.symm⟩
    refine ⟨(List.range len).map f, some a, cap, by rw [hnl], ?_, by omega, ?_, ?_⟩
    · by_cases h0 : len = 0
      · subst h0; exact .inl ⟨_, _, rfl, rfl⟩
      · obtain ⟨b, off, spot⟩ := a
        have c0 := (hf 0 (by omega)).1
        have hspot : spot = none := by simpa [Addr.add] using World.cell?_spot c0
        subst hspot
        rw [addr_add] at c0
        refine .inr ⟨b, off, cap, by rw [hnl], by rw [hnl]; exact hl, trivial, cell_isLt c0, fun j l hj => ?_⟩
        obtain ⟨hjl, rfl⟩ := hget j l hj
        have := (hf j hjl).1
        rwa [addr_add] at this
    · intro l hl
      obtain ⟨i, hi, rfl⟩ := List.mem_map.1 hl
      exact (hf i (by simpa using hi)).2.1
    · have := sum_le2 (fun l : List UInt8 => l.length + 1) Rows.uptoBulk ((List.range len).map f) (elems.map (·.1)) (by rw [hnl, List.length_map, hlen]) (fun i x d hx hd => by
        obtain ⟨hi, rfl⟩ := hget i x hx
        obtain ⟨e, he, hb⟩ := (hf i hi).2.2
        rw [List.getElem?_map, he] at hd
        obtain rfl : e.1 = d := by simpa using hd
        exact hb)
      simp only [Rows.uptoBulk, uptoAll_map]
      omega

set_option maxRecDepth 100000 in
/-- What a value of api that came in reads as. -/
theorem jot_in : ∀ (fuel : Nat) (cs : List Value) (x : DataW H × List MemPlace), DataW.trod enc Tryz.prog W 0 sp true fuel 25 cs = some x → ∃ (X : J) (v : Value), v.cells.toList = cs ∧ JIn (fun _ => True) W X v ∧ bulkJ X ≤ Rows.uptoBulk x.1 := by
  intro fuel
  induction fuel using Nat.strongRecOn with
  | _ fuel ih =>
  intro cs x h
  obtain ⟨f0, f1, f2, f3, f4, hst, t0, t1, t2, t3, t4, hone⟩ := structJot
  obtain ⟨xs, n, rfl, rfl, hcl, hxl, hf⟩ := DataW.trod_struct hst h
  rw [cellsJot] at hcl
  obtain ⟨c0, c1, c2, c3, c4, rfl⟩ : ∃ c0 c1 c2 c3 c4, cs = [c0, c1, c2, c3, c4] := by
    match cs, hcl with
    | [a, b, c, d, e], _ => exact ⟨a, b, c, d, e, rfl⟩
  obtain ⟨x0, x1, x2, x3, x4, rfl⟩ : ∃ c0 c1 c2 c3 c4, xs = [c0, c1, c2, c3, c4] := by
    match xs, (show xs.length = 5 from hxl) with
    | [a, b, c, d, e], _ => exact ⟨a, b, c, d, e, rfl⟩
  have g0 := hf 0 f0 rfl
  have g1 := hf 1 f1 rfl
  have g2 := hf 2 f2 rfl
  have g3 := hf 3 f3 rfl
  have g4 := hf 4 f4 rfl
  rw [(hone_of hone 0 f0 rfl).1, (hone_of hone 0 f0 rfl).2, t0] at g0
  rw [(hone_of hone 1 f1 rfl).1, (hone_of hone 1 f1 rfl).2, t1] at g1
  rw [(hone_of hone 2 f2 rfl).1, (hone_of hone 2 f2 rfl).2, t2] at g2
  rw [(hone_of hone 3 f3 rfl).1, (hone_of hone 3 f3 rfl).2, t3] at g3
  rw [(hone_of hone 4 f4 rfl).1, (hone_of hone 4 f4 rfl).2, t4] at g4
  replace g0 : DataW.trod enc Tryz.prog W 0 sp true n 3 [c0] = some x0 := g0
  replace g1 : DataW.trod enc Tryz.prog W 0 sp true n 3 [c1] = some x1 := g1
  replace g2 : DataW.trod enc Tryz.prog W 0 sp true n 9 [c2] = some x2 := g2
  replace g3 : DataW.trod enc Tryz.prog W 0 sp true n 22 [c3] = some x3 := g3
  replace g4 : DataW.trod enc Tryz.prog W 0 sp true n 23 [c4] = some x4 := g4
  obtain ⟨k, e0, rfl, w0⟩ := DataW.trod_int Tryz.underlying3 g0
  obtain ⟨a, e1, rfl, w1⟩ := DataW.trod_int Tryz.underlying3 g1
  obtain ⟨s, e2, rfl, hs⟩ := DataW.trod_string Tryz.underlying9 g2
  obtain rfl : c0 = .int .i64 k := by simpa using e0
  obtain rfl : c1 = .int .i64 a := by simpa using e1
  obtain rfl : c2 = .string s := by simpa using e2
  obtain ⟨ns, na, nc, rfl, hN, hnl, hnm, hnb⟩ := names_in g3
  have hrng : ∀ z : Int, (Lit.int .i64 z).wf = true → -9223372036854775808 ≤ z ∧ z ≤ 9223372036854775807 := by
    intro z hz
    simp [Lit.wf] at hz
    exact ⟨hz.1, hz.2⟩
  have hI : ∃ (ys : List J) (ia : Option Addr) (ic : Nat) (us : Nat → Value), c4 = .slice ia ys.length ic ∧ RowJ (fun _ => True) W c4 ys.length us ∧ ys.length ≤ maxLen ∧ (∀ (j : Nat) y, ys[j]? = some y → JIn (fun _ => True) W y (us j)) ∧ bulkAll ys + 1 ≤ Rows.uptoBulk x4.1 := by
    rcases DataW.trod_slice Tryz.underlying23 g4 with ⟨hc, rfl⟩ | ⟨ad, len, cap, elems, rest, n', rfl, hc, rfl, _, hl, hm, hlen, hel, _, _⟩
    · obtain rfl : c4 = .slice none 0 0 := by simpa using hc
      exact ⟨[], none, 0, fun _ => .nilIface, rfl, .inl ⟨none, 0, rfl, rfl⟩, by simp, by simp, by simp [Rows.uptoBulk, bulkAll]⟩
    · obtain rfl : c4 = .slice (some ad) len cap := by simpa using hc
      rw [cellsJot] at hel
      have : Inhabited (J × Value) := ⟨(J.null, .nilIface)⟩
      have hp : ∀ i, i < len → ∃ q : J × Value, JIn (fun _ => True) W q.1 q.2 ∧ (∀ m, m < 5 → W.cell? ((ad.add (i * 5)).add m) = q.2.cells.toList[m]?) ∧ ∃ e, elems[i]? = some e ∧ bulkJ q.1 ≤ Rows.uptoBulk e.1 := by
        intro i hi
        have h1 := hel i hi
        have he : elems[i]? = some (elems[i]'(by omega)) := List.getElem?_eq_getElem (by omega)
        rw [he] at h1
        obtain ⟨cs, hcs, ht⟩ := Option.bind_eq_some_iff.1 h1
        obtain ⟨_, hcl2, hat⟩ := World.cells?_some hcs
        obtain ⟨X, v, hv, hX, hb⟩ := ih n' (by omega) cs _ ht
        exact ⟨(X, v), hX, fun m hm => by rw [hat m hm, hv], _, he, hb⟩
      obtain ⟨f, hf⟩ := choose_lt hp
      have hnl2 : ((List.range len).map fun i => (f i).1).length = len := by rw [List.length_map, List.length_range]
      have hget : ∀ (j : Nat) y, ((List.range len).map fun i => (f i).1)[j]? = some y → j < len ∧ y = (f j).1 := by
        intro j l hj
        have hjl : j < len := by have := (List.getElem?_eq_some_iff.1 hj).1; omega
        rw [List.getElem?_map, List.getElem?_range hjl] at hj
        exact ⟨hjl, by simpa using hj.symm⟩
      refine ⟨(List.range len).map fun i => (f i).1, some ad, cap, fun i => (f i).2, by rw [hnl2], ?_, by omega, ?_, ?_⟩
      · rw [hnl2]
        by_cases h0 : len = 0
        · subst h0; exact .inl ⟨_, _, rfl, rfl⟩
        · have hfive : ∀ j, j < len → ∃ k n t na nl nc ia il ic, (f j).2 = jotV k n t (.slice na nl nc) (.slice ia il ic) := fun j hj => by
            obtain ⟨na, nc, ia, ic, us, e, _⟩ := (hf j hj).1.inv
            exact ⟨_, _, _, _, _, _, _, _, _, e⟩
          obtain ⟨b, off, spot⟩ := ad
          obtain ⟨k', n', t', na', nl', nc', ia', il', ic', e'⟩ := hfive 0 (by omega)
          have c0' := (hf 0 (by omega)).2.1 0 (by omega)
          rw [e'] at c0'
          have hspot : spot = none := by
            have := World.cell?_spot (c0'.trans rfl)
            simpa [Addr.add] using this
          subst hspot
          rw [addr_add, addr_add] at c0'
          refine .inr ⟨b, off, cap, rfl, hl, trivial, cell_isLt (c0'.trans rfl), fun j hj => ?_⟩
          obtain ⟨k', n', t', na', nl', nc', ia', il', ic', e'⟩ := hfive j hj
          have hc := (hf j hj).2.1
          rw [e'] at hc
          refine ⟨k', n', t', na', nl', nc', ia', il', ic', e', ?_, ?_, ?_, ?_, ?_⟩
          · have := hc 0 (by omega); rw [addr_add, addr_add] at this; exact this
          · have := hc 1 (by omega); rw [addr_add, addr_add] at this; exact this
          · have := hc 2 (by omega); rw [addr_add, addr_add] at this; exact this
          · have := hc 3 (by omega); rw [addr_add, addr_add] at this; exact this
          · have := hc 4 (by omega); rw [addr_add, addr_add] at this; exact this
      · intro j y hj
        obtain ⟨hjl, rfl⟩ := hget j y hj
        exact (hf j hjl).1
      · have := sum_le2 bulkJ Rows.uptoBulk ((List.range len).map fun i => (f i).1) (elems.map (·.1)) (by rw [hnl2, List.length_map, hlen]) (fun i x d hx hd => by
          obtain ⟨hi, rfl⟩ := hget i x hx
          obtain ⟨e, he, hb⟩ := (hf i hi).2.2
          rw [List.getElem?_map, he] at hd
          obtain rfl : e.1 = d := by simpa using hd
          exact hb)
        simp only [Rows.uptoBulk, uptoAll_map, bulkAll_map]
        omega
  obtain ⟨ys, ia, ic, us, rfl, hR, hyl, hY, hyb⟩ := hI
  have hsl : s.data.toList.length = s.size := rfl
  unfold maxLen at hs hnl hyl hnm
  refine ⟨.mk k a s.data.toList ns ys, jotV k a s.data.toList (.slice na ns.length nc) (.slice ia ys.length ic), by simp [Value.cells], .mk _ _ _ _ _ _ _ us ⟨(hrng k w0).1, (hrng k w0).2, (hrng a w1).1, (hrng a w1).2, by omega, by omega, fun l hl => by have := hnm l hl; omega, by omega⟩ hN hR hY, ?_⟩
  simp only [bulkJ, List.map_cons, List.map_nil, Rows.uptoBulk, Rows.uptoBulkAll]
  omega
/-- .. as an argument. -/
theorem jot_arg {v : Value} {d : DataW H} {p : List MemPlace} (h : DataW.Trod enc Tryz.prog W 0 sp true 25 v d p) : ∃ X : J, JIn (fun _ => True) W X v ∧ bulkJ X ≤ Rows.uptoBulk d := by
  obtain ⟨fuel, hf⟩ := h
  obtain ⟨X, v', hv, hX, hb⟩ := jot_in fuel _ _ hf
  obtain ⟨na, nc, ia, ic, us, rfl, _⟩ := hX.inv
  have : v = jotV X.kind X.num X.text (.slice na X.names.length nc) (.slice ia X.items.length ic) := by
    cases v <;> simp [Value.cells] at hv
    unfold jotV
    congr 1
    exact Array.toList_inj.1 hv.symm
  exact ⟨X, by rw [this]; exact hX, hb⟩
end
end Go.Proofs.YtmajpambfblhnaaGreatDoor
