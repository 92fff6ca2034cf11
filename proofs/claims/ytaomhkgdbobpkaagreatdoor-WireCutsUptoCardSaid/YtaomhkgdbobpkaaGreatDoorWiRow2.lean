/- Arguments of wire's laws that are slices of messages and of numbers. -/
import Derived.Test.YtaomhkgdbobpkaaGreatDoorWiRow
import Derived.Test.YtaomhkgdbobpkaaGreatDoorWiLD
namespace Go.Proofs.YtaomhkgdbobpkaaGreatDoor
open Go.ChangeShapes Go.WideShapes Go.ChangeAt Go.RowKit Go.Lib Go.Deep Wi

theorem cellsInt : Tryz.prog.cellsOf 3 = 1 := by kernel_rfl
section
variable {H : Type} {enc : TypeId × Value → H} {W : World} {sp : Nat → Bool}
theorem ints_in {fuel : Nat} {c : Value} {y : DataW H × List MemPlace} (h : DataW.trod enc Tryz.prog W 0 sp true fuel 35 [c] = some y) :
    ∃ (ra : Option Addr) (rl rc : Nat), c = .slice ra rl rc ∧ CutIn ra rl W ∧ rl + 1 ≤ Rows.uptoBulk y.1 := by
  rcases DataW.trod_slice Tryz.underlying35 h with ⟨hc, rfl⟩ | ⟨a, len, cap, elems, rest, n, rfl, hc, rfl, _, hl, hm, hlen, hel, _, _⟩
  · obtain rfl : c = .slice none 0 0 := by simpa using hc
    exact ⟨none, 0, 0, rfl, fun i hi => absurd hi (by omega), by simp [Rows.uptoBulk]⟩
  · obtain rfl : c = .slice (some a) len cap := by simpa using hc
    rw [cellsInt] at hel
    have hp : ∀ i, i < len → ∃ z : Int, W.cell? (a.add i) = some (.int .i64 z) ∧ (-9223372036854775808 ≤ z ∧ z ≤ 9223372036854775807) ∧ ∃ e, elems[i]? = some e ∧ 1 ≤ Rows.uptoBulk e.1 := by
      intro i hi
      have h1 := hel i hi
      have he : elems[i]? = some (elems[i]'(by omega)) := List.getElem?_eq_getElem (by omega)
      rw [he] at h1
      obtain ⟨cs, hcs, ht⟩ := Option.bind_eq_some_iff.1 h1
      rw [Nat.mul_one] at hcs
      obtain ⟨_, hcl, hat⟩ := World.cells?_some hcs
      obtain ⟨z, rfl, hx, hz⟩ := DataW.trod_int Tryz.underlying3 ht
      have := hat 0 (by omega)
      have ha0 : a.add i = (a.add i).add 0 := by unfold Addr.add; split <;> simp_all
      rw [← ha0] at this
      refine ⟨z, by rw [this]; rfl, ?_, _, he, by rw [hx]; simp [Rows.uptoBulk]⟩
      simp [Lit.wf] at hz
      exact ⟨hz.1, hz.2⟩
    unfold maxLen at hm
    refine ⟨some a, len, cap, rfl, fun j hj => ?_, ?_⟩
    · obtain ⟨z, h1, h2, -⟩ := hp j hj
      obtain ⟨z0, h0, -, -⟩ := hp 0 (by omega)
      obtain ⟨b, off, spot⟩ := a
      have hspot : spot = none := by simpa [Addr.add] using World.cell?_spot h0
      subst hspot
      rw [addr_add] at h1
      exact ⟨b, off, z, rfl, cell_isLt h1, h1, h2⟩
    · have := sum_le2 (fun _ : Nat => 1) Rows.uptoBulk (List.range len) (elems.map (·.1)) (by rw [List.length_range, List.length_map, hlen]) (fun i x d hx hd => by
        have hi : i < len := by have := (List.getElem?_eq_some_iff.1 hx).1; simpa using this
        obtain ⟨z, -, -, e, he, hb⟩ := hp i hi
        rw [List.getElem?_map, he] at hd
        obtain rfl : e.1 = d := by simpa using hd
        exact hb)
      have h1 : ∀ m : Nat, ((List.range m).map fun _ => 1).sum = m := fun m => by
        induction m with
        | zero => rfl
        | succ m ih => rw [List.range_succ, List.map_append, List.sum_append, ih]; rfl
      rw [h1] at this
      simp only [Rows.uptoBulk, uptoAll_map]
      omega
theorem ints_arg {ra : Option Addr} {rl rc : Nat} {d : DataW H} {p : List MemPlace} (h : DataW.Trod enc Tryz.prog W 0 sp true 35 (.slice ra rl rc) d p) : CutIn ra rl W ∧ rl + 1 ≤ Rows.uptoBulk d := by
  obtain ⟨fuel, hf⟩ := h
  obtain ⟨ra', rl', rc', e, h1, h2⟩ := ints_in hf
  obtain ⟨rfl, rfl, rfl⟩ : ra = ra' ∧ rl = rl' ∧ rc = rc' := by simpa using e
  exact ⟨h1, h2⟩
set_option maxRecDepth 100000 in
theorem msgs_arg {ra : Option Addr} {rl rc : Nat} {d : DataW H} {p : List MemPlace} (h : DataW.Trod enc Tryz.prog W 0 sp true 39 (.slice ra rl rc) d p) :
    ∃ ms : List Msg, ms.length = rl ∧ RowM W (.slice ra rl rc) ms ∧ sumS ms + 1 ≤ 200 * Rows.uptoBulk d := by
  obtain ⟨fuel, hf⟩ := h
  have hf : DataW.trod enc Tryz.prog W 0 sp true fuel 39 [.slice ra rl rc] = some (d, p) := hf
  rcases DataW.trod_slice Tryz.underlying39 hf with ⟨hc, hd⟩ | ⟨a, len, cap, elems, rest, n, rfl, hc, hd, _, hl, hm, hlen, hel, _, _⟩
  · obtain ⟨rfl, rfl, rfl⟩ : ra = none ∧ rl = 0 ∧ rc = 0 := by simpa using hc
    obtain rfl : d = .nil := congrArg Prod.fst hd
    exact ⟨[], rfl, .inl ⟨none, 0, rfl, rfl⟩, by simp [Rows.uptoBulk, sumS]⟩
  · obtain ⟨rfl, rfl, rfl⟩ : ra = some a ∧ rl = len ∧ rc = cap := by simpa using hc
    have hd2 := congrArg Prod.fst hd
    simp only at hd2
    subst hd2
    rw [cellsMsg] at hel
    have hp : ∀ i, i < rl → ∃ q : Msg × Value, W.cell? (a.add (i * 4)) = some (S q.1.m) ∧ W.cell? ((a.add (i * 4)).add 1) = some (S q.1.p) ∧ W.cell? ((a.add (i * 4)).add 2) = some q.2 ∧ W.cell? ((a.add (i * 4)).add 3) = some (S q.1.body) ∧ RowF (fun _ => True) W q.2 q.1.hs ∧ ∃ e, elems[i]? = some e ∧ sizeM q.1 ≤ 200 * Rows.uptoBulk e.1 := by
      intro i hi
      have h1 := hel i hi
      have he : elems[i]? = some (elems[i]'(by omega)) := List.getElem?_eq_getElem (by omega)
      rw [he] at h1
      obtain ⟨cs, hcs, ht⟩ := Option.bind_eq_some_iff.1 h1
      obtain ⟨_, hcl, hat⟩ := World.cells?_some hcs
      obtain ⟨x, v, rfl, hr, hb⟩ := msg_in ht
      have k0 := hat 0 (by omega)
      have k1 := hat 1 (by omega)
      have k2 := hat 2 (by omega)
      have k3 := hat 3 (by omega)
      have ha0 : (a.add (i * 4)).add 0 = a.add (i * 4) := by unfold Addr.add; split <;> simp_all
      rw [ha0] at k0
      exact ⟨(x, v), k0, k1, k2, k3, hr, _, he, by show sizeM x ≤ 200 * _; unfold sizeM sizeN; omega⟩
    have : Inhabited (Msg × Value) := ⟨(⟨[], [], [], []⟩, .nilIface)⟩
    obtain ⟨f, hf⟩ := choose_lt hp
    have hnl : ((List.range rl).map fun i => (f i).1).length = rl := by rw [List.length_map, List.length_range]
    have hget : ∀ (j : Nat) l, ((List.range rl).map fun i => (f i).1)[j]? = some l → j < rl ∧ l = (f j).1 := by
      intro j l hj
      have hjl : j < rl := by have := (List.getElem?_eq_some_iff.1 hj).1; omega
      rw [List.getElem?_map, List.getElem?_range hjl] at hj
      exact ⟨hjl, by simpa using hj.symm⟩
    refine ⟨(List.range rl).map fun i => (f i).1, hnl, ?_, ?_⟩
    · by_cases h0 : rl = 0
      · subst h0; exact .inl ⟨_, _, rfl, rfl⟩
      · obtain ⟨b, off, spot⟩ := a
        have c0 := (hf 0 (by omega)).1
        have hspot : spot = none := by simpa [Addr.add] using World.cell?_spot c0
        subst hspot
        rw [addr_add] at c0
        refine .inr ⟨b, off, rc, by rw [hnl], by rw [hnl]; exact hl, cell_isLt c0, fun j x hj => ?_⟩
        obtain ⟨hjl, rfl⟩ := hget j x hj
        obtain ⟨k0, k1, k2, k3, hr, -⟩ := hf j hjl
        rw [addr_add] at k0 k1 k2 k3
        rw [addr_add] at k1 k2 k3
        exact ⟨k0, k1, k3, (f j).2, k2, hr⟩
    · have := sum_le2 sizeM (fun d => 200 * Rows.uptoBulk d) ((List.range rl).map fun i => (f i).1) (elems.map (·.1)) (by rw [hnl, List.length_map, hlen]) (fun i x d hx hd => by
        obtain ⟨hi, rfl⟩ := hget i x hx
        obtain ⟨-, -, -, -, -, e, he, hb⟩ := hf i hi
        rw [List.getElem?_map, he] at hd
        obtain rfl : e.1 = d := by simpa using hd
        exact hb)
      have hmul : ∀ l : List (DataW H), (l.map fun d => 200 * Rows.uptoBulk d).sum = 200 * (l.map Rows.uptoBulk).sum := by
        intro l
        induction l with
        | nil => rfl
        | cons d l ih => simp only [List.map_cons, List.sum_cons, ih]; omega
      rw [hmul] at this
      simp only [Rows.uptoBulk, uptoAll_map]
      unfold sumS
      omega
end
end Go.Proofs.YtaomhkgdbobpkaaGreatDoor
