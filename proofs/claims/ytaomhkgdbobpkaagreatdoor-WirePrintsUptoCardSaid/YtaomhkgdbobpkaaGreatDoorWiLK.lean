/- Walks of the law of layer 5: small laws that WireBack and WirePrints share. -/
import Derived.Test.YtaomhkgdbobpkaaGreatDoorWiLA
namespace Go.Proofs.YtaomhkgdbobpkaaGreatDoor
open Go.RowKit Wi

theorem weightN_all {fs : List Fl} : ∀ {f : Fl}, f ∈ fs → f.1.length + f.2.length ≤ weightN fs := by
  induction fs with
  | nil => intro f h; cases h
  | cons g fs ih =>
    intro f h
    have e : weightN (g :: fs) = fl2 g + weightN fs := by simp [weightN]
    rw [e]
    rcases List.mem_cons.1 h with rfl | h
    · unfold fl2; omega
    · have := ih h; omega
theorem weightN_len : ∀ fs : List Fl, fs.length ≤ weightN fs
  | [] => by simp
  | g :: fs => by
    have := weightN_len fs
    have e : weightN (g :: fs) = fl2 g + weightN fs := by simp [weightN]
    rw [e, List.length_cons]
    unfold fl2; omega
theorem smlF_of {fs : List Fl} (h : weightN fs ≤ 2147483647) : SmlF fs := by
  have := weightN_len fs
  refine ⟨by omega, fun f hf => ?_⟩
  have := weightN_all hf
  unfold Sml
  omega
theorem restOk_len {fs : List Fl} {b : List UInt8} (h : restOk fs b = true) : fs.length ≤ 32 := by
  unfold restOk at h
  simp only [Bool.and_eq_true, decide_eq_true_eq] at h
  omega
theorem restOk_sml {fs : List Fl} {b : List UInt8} (h : restOk fs b = true) : SmlF fs ∧ Sml b := by
  unfold restOk at h
  simp only [Bool.and_eq_true, decide_eq_true_eq] at h
  refine ⟨⟨by omega, fun f hf => ?_⟩, by unfold Sml; omega⟩
  have := headP_len (List.all_eq_true.1 h.2 f hf)
  simp only [headP, List.length_append, List.length_cons, List.length_nil] at this
  unfold Sml
  omega
theorem set_same {cs : Array Value} {o : Nat} {v : Value} (h : cs[o]? = some v) : cs.setIfInBounds o v = cs := by
  apply Array.ext_getElem?
  intro i
  rw [Array.getElem?_setIfInBounds]
  split
  · rename_i e
    subst e
    rw [h, if_pos (Array.getElem?_eq_some_iff.1 h).1]
  · rfl
/-- A store of what stands there leaves the world as it is. -/
theorem setCell_id {w : World} {g o : Nat} {cs : Array Value} {t : TypeId} {fz : Nat × Nat} {v : Value} (h : w.heap[g]? = some (.cells cs t fz)) (hc : cs[o]? = some v) : w.setCell ⟨g, o, none⟩ v = w := by
  have e : ∀ i : Nat, (w.setCell ⟨g, o, none⟩ v).heap[i]? = w.heap[i]? := by
    intro i
    simp only [World.setCell, Array.getElem?_modify]
    split
    · rename_i e
      subst e
      rw [h]
      simp only [Option.map_some, Option.isSome_none, Bool.false_eq_true, if_false, set_same hc]
    · rfl
  have e2 : (w.setCell ⟨g, o, none⟩ v).heap = w.heap := Array.ext_getElem? e
  have : w.setCell ⟨g, o, none⟩ v = { w with heap := (w.setCell ⟨g, o, none⟩ v).heap } := rfl
  rw [this, e2]
abbrev AM (a b : Nat) (st : Int) (va : Value) (ab m p : List UInt8) (vm : Value) (mb : List UInt8) (w : World) : Prop := w.cell? ⟨a, 0, none⟩ = some (.int .i64 st) ∧ w.cell? ⟨a, 1, none⟩ = some va ∧ w.cell? ⟨a, 2, none⟩ = some (S ab) ∧
  w.cell? ⟨b, 0, none⟩ = some (S m) ∧ w.cell? ⟨b, 1, none⟩ = some (S p) ∧ w.cell? ⟨b, 2, none⟩ = some vm ∧ w.cell? ⟨b, 3, none⟩ = some (S mb)
theorem AM.of {a b : Nat} {st : Int} {va vm : Value} {ab m p mb : List UInt8} {w : World} (h1 : three a st va ab w) (h2 : four b m p vm mb w) : AM a b st va ab m p vm mb w := ⟨h1.facts.1, h1.facts.2.1, h1.facts.2.2, h2.facts⟩
end Go.Proofs.YtaomhkgdbobpkaaGreatDoor
