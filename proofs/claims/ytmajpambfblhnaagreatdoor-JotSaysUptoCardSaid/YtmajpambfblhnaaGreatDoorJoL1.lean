/- Walk of the law's left (layer 4): how many of some parts are left behind those of a value. -/
import Derived.Test.YtmajpambfblhnaaGreatDoorJoOwnW
import Derived.Test.YtmajpambfblhnaaGreatDoorJoPlainB
namespace Go.Proofs.YtmajpambfblhnaaGreatDoor
open Go.RowKit Jo
namespace Jo
mutual
def leftP : J → Int → Int
  | .mk _ _ _ ns xs, n => leftAll xs (n - 1 - ns.length)
def leftAll : List J → Int → Int
  | [], n => n
  | x :: xs, n => if n < 0 then n else leftAll xs (leftP x n)
end
theorem leftAll_neg (xs : List J) (n : Int) (h : n < 0) : leftAll xs n = n := by
  cases xs with
  | nil => rfl
  | cons x xs => rw [leftAll, if_pos h]
theorem left_bounds : ∀ x : J, Fine x → ∀ n : Int, 0 ≤ n → n ≤ 10000 → -9223372036854775808 ≤ leftP x n ∧ leftP x n ≤ n := by
  refine J.ind fun k a t ns xs IH => ?_
  intro hf n h0 h1
  obtain ⟨hr, hx⟩ := hf.inv
  simp only [J.items, J.names, J.kind, J.num, J.text] at hr hx
  have hl : ns.length ≤ 9223372036854775807 := hr.2.2.2.2.2.1
  have key : ∀ (ys : List J), (∀ y ∈ ys, y ∈ xs) → ∀ m : Int, -9223372036854775808 ≤ m → m ≤ 10000 → -9223372036854775808 ≤ leftAll ys m ∧ leftAll ys m ≤ m := by
    intro ys
    induction ys with
    | nil => intro _ m h2 h3; simp [leftAll]; exact h2
    | cons y ys ih =>
      intro hy m h2 h3
      rw [leftAll]
      split
      · exact ⟨h2, Int.le_refl _⟩
      · have hym := hy y (by simp)
        obtain ⟨j, hj⟩ := List.mem_iff_getElem?.1 hym
        have h4 := IH y hym (hx j y hj) m (by omega) h3
        have h5 := ih (fun z hz => hy z (by simp [hz])) (leftP y m) h4.1 (by omega)
        omega
  have := key xs (fun _ h => h) (n - 1 - ns.length) (by omega) (by omega)
  rw [leftP]
  omega
/-- What of a value is small where parts are left. -/
theorem left_small : ∀ x : J, ∀ n : Int, n ≤ 10000 → 0 ≤ leftP x n → leftP x n + 1 ≤ n ∧ leftP x n + depthP x ≤ n ∧ Few 10000 x := by
  refine J.ind fun k a t ns xs IH => ?_
  intro n h1 h0
  rw [leftP] at h0 ⊢
  have key : ∀ (ys : List J), (∀ y ∈ ys, y ∈ xs) → ∀ m : Int, m ≤ 10000 → 0 ≤ leftAll ys m → leftAll ys m + deepest ys ≤ m ∧ leftAll ys m + ys.length ≤ m ∧ ∀ y ∈ ys, Few 10000 y := by
    intro ys
    induction ys with
    | nil => intro _ m h2 h3; simp [leftAll, deepest]
    | cons y ys ih =>
      intro hy m h2 h3
      rw [leftAll] at h3 ⊢
      by_cases hm : m < 0
      · rw [if_pos hm] at h3; omega
      · rw [if_neg hm] at h3 ⊢
        have hnn : 0 ≤ leftP y m := by
          rcases Int.lt_or_le (leftP y m) 0 with h | h
          · rw [leftAll_neg _ _ h] at h3; omega
          · exact h
        obtain ⟨q0, q1, q2⟩ := IH y (hy y (by simp)) m h2 hnn
        obtain ⟨q3, q4, q5⟩ := ih (fun z hz => hy z (by simp [hz])) (leftP y m) (by omega) h3
        refine ⟨?_, ?_, fun z hz => ?_⟩
        · simp only [deepest]; omega
        · simp only [List.length_cons]; omega
        · rcases List.mem_cons.1 hz with rfl | hz
          · exact q2
          · exact q5 z hz
  obtain ⟨q1, q2, q3⟩ := key xs (fun _ h => h) (n - 1 - ns.length) (by omega) h0
  have hd : depthP (.mk k a t ns xs) ≤ deepest xs + 1 := by unfold depthP; split <;> omega
  exact ⟨by omega, by omega, .mk _ _ _ _ _ (by omega) (by omega) fun j x hx => q3 x (List.mem_of_getElem? hx)⟩
end Jo
theorem Few.mono {m m' : Nat} {x : J} (h : Few m x) (hm : m ≤ m') : Few m' x := by
  induction h with
  | mk k n t ns xs h1 h2 _ ih => exact .mk k n t ns xs (by omega) (by omega) ih

set_option maxHeartbeats 8000000 in
set_option maxRecDepth 100000 in
theorem left_any : ∀ x : J, ∀ (v : Value) (w : World) (n : Int), JIn (fun _ => True) w x v → 0 ≤ n → n ≤ 10000 → Calls Tryz.prog 9 #[v, .int .i64 n] w fun e w' => e = .returned (.int .i64 (leftP x n)) ∧ Kept (fun _ => True) w w' := by
  refine J.ind fun k a t ns xs IH => ?_
  intro v w n hx hn0 hn1
  have hfine := hx.fine
  obtain ⟨na, nc, ia, ic, us, rfl, hr, hn, hi, h⟩ := hx.invM
  obtain ⟨R, hR⟩ : ∃ R, leftP (.mk k a t ns xs) n = R := ⟨_, rfl⟩
  have HR : Hid (leftAll xs (n - 1 - ns.length) = R) := Lib.hid (by rw [← hR]; rfl)
  rw [hR]
  have hl : ns.length ≤ 9223372036854775807 := hr.2.2.2.2.2.1
  obtain ⟨W0, hW0⟩ : ∃ W0, w.alloc (.cells #[.int .i64 k, .int .i64 a, S t, .slice na ns.length nc, .slice ia xs.length ic] 25) = W0 := ⟨_, rfl⟩
  have hk0 : Kept (fun _ => True) w W0 := by rw [← hW0]; exact (Kept.refl _ w).alloc _
  have hbox : OutAt w.heap.size k a t (.slice na ns.length nc) (.slice ia xs.length ic) W0 := by rw [← hW0]; exact OutAt.new w k a t _ _
  have hxl : xs.length ≤ 9223372036854775807 := hr.2.2.2.2.2.2.2
  have HI := Lib.hid hi
  have HH := Lib.hid (And.intro h (And.intro IH hfine.inv.2))
  obtain ⟨o0, o1, o2, o3, o4, o5, o6⟩ := hbox.facts
  have HBOX := Lib.hid hbox
  have HK0 := Lib.hid hk0
  clear hx hr hn hi h IH hfine hbox hk0 hR
  go_enter Tryz.func9, Tryz.ntmps9
  go_wp2
  go_loopg [1, 5] xs.length (fun q m i wr => ∃ (j : Nat) (z : Int), i = .int .i64 j ∧ m = .int .i64 z ∧ q = xs.length - j ∧ j ≤ xs.length ∧ Hid (leftAll (xs.drop j) z = R) ∧ -9223372036854775808 ≤ z ∧ z ≤ 10000 ∧ Kept (fun _ => True) W0 wr)
  case atStart => exact ⟨0, n - 1 - ns.length, rfl, by go_num, by omega, Nat.zero_le _, Lib.hid (by rw [List.drop_zero]; exact HR.out), by omega, by omega, Kept.refl _ _⟩
  case round =>
    clear HR hW0 o0 o1 o2 o3 o4 o5 o6
    obtain ⟨j, z, rfl, rfl, rfl, hjl, hz, hz0, hz1, hk⟩ := hrel
    obtain ⟨o0, o1, o2, o3, o4, o5, o6⟩ := (HBOX.out.kept hk trivial).facts
    have hkw := HK0.out.tr hk
    by_cases hlt : j < xs.length
    · by_cases hzn : 0 ≤ z
      · obtain ⟨b, off, rfl, hb, -, -, kx, nx, tx, nax, nlx, ncx, iax, ilx, icx, e1, c0, c1, c2, c3, c4⟩ := HI.out.at hlt
        replace c0 := (hkw.cell hb trivial).trans c0
        replace c1 := (hkw.cell hb trivial).trans c1
        replace c2 := (hkw.cell hb trivial).trans c2
        replace c3 := (hkw.cell hb trivial).trans c3
        replace c4 := (hkw.cell hb trivial).trans c4
        obtain ⟨x, hx⟩ : ∃ x, xs[j]? = some x := ⟨xs[j]'hlt, List.getElem?_eq_getElem hlt⟩
        have hC := HH.out.2.1 x (List.mem_of_getElem? hx) (us j) wr z ((HH.out.1 j x hx).kept hkw fun _ _ _ => trivial) hzn hz1
        rw [e1] at hC
        have HC := Lib.hid hC
        have HLB := left_bounds x (HH.out.2.2 j x hx) z hzn hz1
        have hdrop : xs.drop j = x :: xs.drop (j + 1) := by
          rw [List.drop_eq_getElem_cons hlt]
          congr 1
          rw [List.getElem?_eq_getElem hlt] at hx
          simpa using hx
        have HN : Hid (leftAll (xs.drop (j + 1)) (leftP x z) = R) := Lib.hid (by
          have := hz.out
          rw [hdrop, leftAll, if_neg (by omega)] at this
          exact this)
        obtain ⟨y, hy⟩ : ∃ y, leftP x z = y := ⟨_, rfl⟩
        rw [hy] at HC HN HLB
        clear e1 hx hC hdrop hy hz
        go_wp2_with (refine HC.out.mono ?_; rintro e w2 ⟨rfl, hk2⟩)
        go_roundg (xs.length - (j + 1))
        case rel => exact ⟨j + 1, y, by go_num, rfl, rfl, by omega, HN, HLB.1, by omega, hk.tr hk2⟩
        case measure => omega
      · have HN : Hid (R = z) := Lib.hid (by rw [← hz.out, leftAll_neg _ _ (by omega)])
        clear hz
        go_wp2
        refine bodyPost_ret (v := .int .i64 z) (by simp [results, Tryz.results9, go_sem]) rfl ?_
        exact ⟨by rw [HN.out], hkw⟩
    · obtain rfl : j = xs.length := by omega
      have HN : Hid (R = z) := Lib.hid (by rw [← hz.out, List.drop_length]; rfl)
      clear hz
      go_wp2
      refine bodyPost_ret (v := .int .i64 z) (by simp [results, Tryz.results9, go_sem]) rfl ?_
      exact ⟨by rw [HN.out], hkw⟩
end Go.Proofs.YtmajpambfblhnaaGreatDoor
