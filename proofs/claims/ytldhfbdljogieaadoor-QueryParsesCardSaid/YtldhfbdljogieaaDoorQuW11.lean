/- Walks of the law's own addsUp and awake (layer 3). -/
import Derived.Test.YtldhfbdljogieaaDoorQuW10
namespace Go.Proofs.YtldhfbdljogieaaDoor
open Go.RowKit
open Qu

def addI (n m : Int) : Int := if n > 2147483647 ∨ m > 2147483647 then 2147483648 else n + m
set_option maxHeartbeats 400000 in
theorem addsUp_any (n m : Int) (w : World) (hn : 0 ≤ n) (hm : 0 ≤ m) :
    Calls Tryd.prog 8 #[.int .i64 n, .int .i64 m] w fun e w' => e = .returned (.int .i64 (addI n m)) ∧ w = w' := by
  go_enter Tryd.func8, Tryd.ntmps8
  go_wp2
  all_goals
    go_ret
    refine ⟨ret_int ?_, rfl⟩
    unfold addI
    split <;> omega

theorem cells_fields (l : List Fld) (j : Nat) (f : Fld) (h : l[j]? = some f) : (fieldCells l)[j * 2]? = some (S f.1) ∧ (fieldCells l)[j * 2 + 1]? = some (S f.2) := by
  induction l generalizing j with
  | nil => cases h
  | cons a l ih =>
    cases j with
    | zero =>
      obtain rfl : a = f := Option.some.inj h
      exact ⟨rfl, rfl⟩
    | succ j =>
      have e1 : fieldCells (a :: l) = S a.1 :: S a.2 :: fieldCells l := rfl
      rw [e1, show (j + 1) * 2 = (j * 2 + 1) + 1 from by omega]
      simp only [List.getElem?_cons_succ]
      exact ih j h
theorem OwnF.fldIn {B : Nat} {v : Value} {l : List Fld} {w : World} (h : OwnF B v l w) : FldIn w v l := by
  have hc := fun g => World.ownsRow.cells (g := g) h
  rcases h.2 with ⟨rfl, h0⟩ | ⟨g, cap, cur, rfl, hB, hgg, hcap, -, -, -⟩
  · exact .inl ⟨none, rfl, List.eq_nil_of_length_eq_zero h0⟩
  · refine .inr ⟨g, 0, cap, rfl, hcap, (Array.getElem?_eq_some_iff.1 hgg).1, fun j f hf => ?_⟩
    obtain ⟨h1, h2⟩ := cells_fields l j f hf
    have e1 : ∀ k, (⟨g, 0, none⟩ : Addr).add k = ⟨g, 0 + k, none⟩ := by intro k; unfold Addr.add; split <;> simp_all
    have a1 := hc g rfl _ _ h1
    have a2 := hc g rfl _ _ h2
    rw [e1] at a1 a2
    exact ⟨a1, by rw [Nat.add_assoc]; exact a2⟩
theorem OwnF.below {B : Nat} {v : Value} {l : List Fld} {w w' : World} (h : OwnF B v l w) (hb : Below w.heap.size w w') : OwnF B v l w' := ownsRow_below h hb

theorem Unescape_S (l : List UInt8) (w : World) (hl : l.length ≤ 68719476736) : Calls Tryd.prog 10 #[S l] w fun e w' => e = .returned (.tuple #[S (rd [] 0 l).1, .int .i64 (rd [] 0 l).2.1]) ∧ Below w.heap.size w w' :=
  Unescape_any ⟨l.toArray⟩ w (by rw [size_mk]; exact hl)
theorem refUnescape_S (l : List UInt8) (w : World) (hl : l.length ≤ 68719476736) : Calls Tryd.prog 11 #[S l] w fun e w' => e = .returned (.tuple #[S (rd [] 0 l).1, .int .i64 (rd [] 0 l).2.1]) ∧ Below w.heap.size w w' :=
  refUnescape_any ⟨l.toArray⟩ w (by rw [size_mk]; exact hl)

theorem awk1 : esc [97, 32, 98, 38, 99, 61, 33] = [97, 43, 98, 37, 50, 54, 99, 37, 51, 68, 37, 50, 49] := by decide
theorem awk2 : rd [] 0 [37, 99, 51, 37, 65, 52, 43, 33] = ([195, 164, 32, 33], 0, 0) := by decide
theorem awk3 : rd [] 0 [37, 52] = ([], 30, 0) := by decide
theorem awk4 : printP [([97], [49]), ([], [120])] = [97, 61, 49, 38, 61, 120] := by decide
theorem awk5 : parse [97, 61, 49, 38, 98] = ([([97], [49]), ([98], [])], 0, 0) := by decide
theorem awk6 : parse [97, 61, 49, 38, 38, 98] = ([], 31, 4) := by decide
theorem awk7 : oneP [([97], [49]), ([98], [])] [97] = ([49], 0) := by decide
theorem awk8 : oneP [([97], [49]), ([98], [])] [99] = ([], 33) := by decide

set_option maxHeartbeats 4000000 in
set_option maxRecDepth 100000 in
theorem awake_any (w : World) (hE : Env w) : Calls Tryd.prog 9 #[] w fun e w' => e = .returned (.bool true) ∧ Below w.heap.size w w' := by
  have HE := Lib.hid hE
  clear hE
  go_enter Tryd.func9, Tryd.ntmps9
  go_wp2_with fail
  refine (Escape_S [97, 32, 98, 38, 99, 61, 33] _ HE.out (by decide)).mono ?_
  rw [awk1]
  rintro e w1 ⟨rfl, hb1⟩
  have E1 := Lib.hid (HE.out.on HE.out.size hb1)
  go_wp2_with fail
  refine (Unescape_S [37, 99, 51, 37, 65, 52, 43, 33] _ (by decide)).mono ?_
  rw [awk2]
  rintro e w2 ⟨rfl, hb2⟩
  have E2 := Lib.hid (E1.out.on E1.out.size hb2)
  go_wp2_with fail
  refine (Unescape_S [37, 52] _ (by decide)).mono ?_
  rw [awk3]
  rintro e w3 ⟨rfl, hb3⟩
  have E3 := Lib.hid (E2.out.on E2.out.size hb3)
  go_wp2_with fail
  have hz3 : w.heap.size ≤ w3.heap.size := by have := hb1.size; have := hb2.size; have := hb3.size; omega
  have hb13 : Below w.heap.size w w3 := (hb1.trans (hb2.mono hb1.size)).trans (hb3.mono (by have := hb1.size; have := hb2.size; omega))
  have F4 : FldIn (w3.alloc (.cells #[S [97], S [49], S [], S [120]] 44)) (.slice (some ⟨w3.heap.size, 0, none⟩) 2 2) [([97], [49]), ([], [120])] := by
    refine .inr ⟨w3.heap.size, 0, 2, rfl, by simp, by simp, fun j f hf => ?_⟩
    have hc := fun k => cell_of_row (w3.alloc (.cells #[S [97], S [49], S [], S [120]] 44)) w3.heap.size k _ _ (0, 0) (heap_alloc_new w3 _)
    match j, hf with
    | 0, hf => cases hf; exact ⟨hc 0, hc 1⟩
    | 1, hf => cases hf; exact ⟨hc 2, hc 3⟩
  refine (Print_any _ _ _ (E3.out.on E3.out.size ((Below.refl _ w3).alloc (Nat.le_refl _) _)) F4 (by decide)).mono ?_
  rw [awk4]
  rintro e w4 ⟨rfl, hb4⟩
  have hz4 : w3.heap.size ≤ w4.heap.size := by have := hb4.size; simp only [World.size_alloc] at this; omega
  have hb34 : Below w3.heap.size w3 w4 := ((Below.refl _ w3).alloc (Nat.le_refl _) _).trans (hb4.mono (by simp))
  have E4 := Lib.hid (E3.out.on E3.out.size hb34)
  clear F4 hb4 hb1 hb2 hb3
  go_wp2_with fail
  refine (Parse_any [97, 61, 49, 38, 98] _ (by decide)).mono ?_
  rw [awk5]
  rintro e w5 ⟨⟨v5, rfl, hown5⟩, hb5⟩
  have E5 := Lib.hid (E4.out.on E4.out.size hb5)
  go_wp2_with fail
  refine (Parse_any [97, 61, 49, 38, 38, 98] _ (by decide)).mono ?_
  rw [awk6]
  rintro e w6 ⟨⟨v6, rfl, hown6⟩, hb6⟩
  have E6 := Lib.hid (E5.out.on E5.out.size hb6)
  have F6 := (hown5.below hb6).fldIn
  have hb36 : Below w.heap.size w w6 := ((hb13.trans (hb34.mono hz3)).trans (hb5.mono (by omega))).trans (hb6.mono (by have := hb5.size; omega))
  have hz6 : w.heap.size ≤ w6.heap.size := hb36.size
  have HB := Lib.hid hb36
  clear hown5 hown6 hb5 hb6 hb34 hb13 hb36
  rcases F6 with ⟨_, _, h0⟩ | ⟨b, o, cap, rfl, hcap, hbl, hcs⟩
  · cases h0
  have F6 : FldIn w6 (.slice (some ⟨b, o, none⟩) 2 cap) [([97], [49]), ([98], [])] := .inr ⟨b, o, cap, rfl, hcap, hbl, hcs⟩
  obtain ⟨c0, c1⟩ := hcs 0 _ rfl
  obtain ⟨c2, c3⟩ := hcs 1 _ rfl
  simp only [Nat.zero_mul, Nat.one_mul, Nat.add_zero] at c0 c1 c2 c3
  clear hcs
  go_wp2_with fail
  refine (One_any _ _ [97] _ F6 (by decide)).mono ?_
  rw [awk7]
  rintro e w7 ⟨rfl, hb7⟩
  have F7 := F6.below hb7
  have d0 := ((bcell hb7).1 _ _ hbl).trans c0
  have d1 := ((bcell hb7).1 _ _ hbl).trans c1
  have d2 := ((bcell hb7).1 _ _ hbl).trans c2
  have d3 := ((bcell hb7).1 _ _ hbl).trans c3
  have hz7 : w6.heap.size ≤ w7.heap.size := hb7.size
  clear c0 c1 c2 c3 F6
  go_wp2_with fail
  refine (One_any _ _ [99] _ F7 (by decide)).mono ?_
  rw [awk8]
  rintro e w8 ⟨rfl, hb8⟩
  have hbl7 : b < w7.heap.size := by omega
  have c0 := ((bcell hb8).1 _ _ hbl7).trans d0
  have c1 := ((bcell hb8).1 _ _ hbl7).trans d1
  have c2 := ((bcell hb8).1 _ _ hbl7).trans d2
  have c3 := ((bcell hb8).1 _ _ hbl7).trans d3
  have HB8 := Lib.hid ((HB.out.trans (hb7.mono hz6)).trans (hb8.mono (by omega)))
  clear d0 d1 d2 d3 F7 hb7 hb8
  go_wp2
  go_ret
  exact ⟨rfl, HB8.out⟩
end Go.Proofs.YtldhfbdljogieaaDoor
