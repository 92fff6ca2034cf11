/- Walks of the reference's Depth and May (layer 4). Printed by gen_may.py. -/
import Derived.Test.YtmajpambfblhnaaGreatDoorJoU1
import Derived.Test.YtmajpambfblhnaaGreatDoorJoQ4
namespace Go.Proofs.YtmajpambfblhnaaGreatDoor
open Go.RowKit Jo

set_option maxHeartbeats 4000000 in
set_option maxRecDepth 100000 in
theorem refDepth_any : ∀ x : J, ∀ (v : Value) (w : World), depthP x ≤ 1000000000 → JIn (fun _ => True) w x v → Calls Tryz.prog 26 #[v] w fun e w' => e = .returned (.int .i64 (depthP x : Int)) ∧ Kept (fun _ => True) w w' := by
  refine J.ind fun k a t ns xs IH => ?_
  intro v w hd hx
  obtain ⟨na, nc, ia, ic, us, rfl, hr, hn, hi, h⟩ := hx.invM
  have hxl : xs.length ≤ 9223372036854775807 := hr.2.2.2.2.2.2.2
  obtain ⟨W0, hW0⟩ : ∃ W0, w.alloc (.cells #[.int .i64 k, .int .i64 a, S t, .slice na ns.length nc, .slice ia xs.length ic] 25) = W0 := ⟨_, rfl⟩
  have hk0 : Kept (fun _ => True) w W0 := by rw [← hW0]; exact (Kept.refl _ w).alloc _
  have hbox : OutAt w.heap.size k a t (.slice na ns.length nc) (.slice ia xs.length ic) W0 := by rw [← hW0]; exact OutAt.new w k a t _ _
  obtain ⟨o0, o1, o2, o3, o4, o5, o6⟩ := hbox.facts
  have HBOX := Lib.hid hbox
  have HK0 := Lib.hid hk0
  by_cases hk : k = 5 ∨ k = 6
  · obtain ⟨D, hD⟩ : ∃ D, depthP (.mk k a t ns xs) = D := ⟨_, rfl⟩
    have HD : Hid (D = deepest xs + 1) := Lib.hid (by rw [← hD]; unfold depthP; rw [if_pos hk])
    rw [hD] at hd ⊢
    have HDB := Lib.hid (deepest_le (xs := xs) (k := 1000000000) (by have := HD.out; omega))
    have HI := Lib.hid hi
    have HH := Lib.hid (And.intro h IH)
    have hdd : D ≤ 1000000000 := hd
    clear hx hr hn hi h IH hbox hk0 hD hd
    rcases hk with rfl | rfl
    all_goals
      go_enter Tryz.func26, Tryz.ntmps26
      go_wp2
      go_loopg [3, 4] xs.length (fun q d i wr => ∃ (j m : Nat), d = .int .i64 m ∧ i = .int .i64 j ∧ q = xs.length - j ∧ j ≤ xs.length ∧ Hid (m = deepest (xs.take j)) ∧ m ≤ 1000000000 ∧ Kept (fun _ => True) W0 wr)
      case atStart => exact ⟨0, 0, rfl, rfl, by omega, Nat.zero_le _, Lib.hid rfl, Nat.zero_le _, Kept.refl _ _⟩
      case round =>
        clear hW0 o0 o1 o2 o3 o4 o5 o6
        obtain ⟨j, m, rfl, rfl, rfl, hjl, hm, hmb, hk⟩ := hrel
        obtain ⟨o0, o1, o2, o3, o4, o5, o6⟩ := (HBOX.out.kept hk trivial).facts
        have hkw := HK0.out.tr hk
        by_cases hlt : j < xs.length
        · obtain ⟨b, off, rfl, hb, -, -, kx, nx, tx, nax, nlx, ncx, iax, ilx, icx, e1, c0, c1, c2, c3, c4⟩ := HI.out.at hlt
          replace c0 := (hkw.cell hb trivial).trans c0
          replace c1 := (hkw.cell hb trivial).trans c1
          replace c2 := (hkw.cell hb trivial).trans c2
          replace c3 := (hkw.cell hb trivial).trans c3
          replace c4 := (hkw.cell hb trivial).trans c4
          obtain ⟨x, hx⟩ : ∃ x, xs[j]? = some x := ⟨xs[j]'hlt, List.getElem?_eq_getElem hlt⟩
          have hdx := HDB.out x (List.mem_of_getElem? hx)
          have hC := HH.out.2 x (List.mem_of_getElem? hx) (us j) wr hdx ((HH.out.1 j x hx).kept hkw fun _ _ _ => trivial)
          rw [e1] at hC
          have HC := Lib.hid hC
          have HN : Hid (deepest (xs.take (j + 1)) = max m (depthP x)) := Lib.hid (by rw [List.take_add_one, hx, hm.out]; exact deepest_snoc _ _)
          obtain ⟨dx, hdx2⟩ : ∃ dx, depthP x = dx := ⟨_, rfl⟩
          rw [hdx2] at HC HN hdx
          clear e1 hC hx hdx2
          by_cases hgt : m < dx
          · go_wp2_with (refine HC.out.mono ?_; rintro e w2 ⟨rfl, hk2⟩)
            go_roundg (xs.length - (j + 1))
            case rel => exact ⟨j + 1, dx, rfl, by go_num, rfl, by omega, Lib.hid (by rw [HN.out]; omega), by omega, hk.tr hk2⟩
            case measure => omega
          · go_wp2_with (refine HC.out.mono ?_; rintro e w2 ⟨rfl, hk2⟩)
            go_roundg (xs.length - (j + 1))
            case rel => exact ⟨j + 1, m, rfl, by go_num, rfl, by omega, Lib.hid (by rw [HN.out]; omega), by omega, hk.tr hk2⟩
            case measure => omega
        · obtain rfl : j = xs.length := by omega
          have HN : Hid (D = m + 1) := Lib.hid (by have := hm.out; rw [List.take_of_length_le (Nat.le_refl _)] at this; rw [HD.out, this])
          clear hm
          go_wp2
          refine bodyPost_ret (v := .int .i64 (m + 1)) (by simp [results, Tryz.results26, go_sem]) rfl ?_
          exact ⟨by rw [HN.out]; rfl, hkw⟩
  · have hD : depthP (.mk k a t ns xs) = 0 := by unfold depthP; rw [if_neg hk]
    rw [hD]
    have n5 : (k != 5) = true := by simp; omega
    have n6 : (k != 6) = true := by simp; omega
    clear hx hr hn hi h IH hbox hk0 hD hd hk
    go_enter Tryz.func26, Tryz.ntmps26
    go_wp2
    refine bodyPost_ret (v := .int .i64 0) (by simp [results, Tryz.results26, go_sem]) rfl ?_
    exact ⟨rfl, HK0.out⟩

/-- All texts of a value are of a length that machines bear. -/
inductive Short9 : J → Prop where
  | mk (k n : Int) (t : List UInt8) (ns : List (List UInt8)) (xs : List J) (h1 : t.length ≤ 4611686018427387904) (h2 : ∀ l ∈ ns, l.length ≤ 4611686018427387904) (h : ∀ (j : Nat) x, xs[j]? = some x → Short9 x) : Short9 (.mk k n t ns xs)
theorem Short9.inv {x : J} (h : Short9 x) : x.text.length ≤ 4611686018427387904 ∧ (∀ l ∈ x.names, l.length ≤ 4611686018427387904) ∧ ∀ (j : Nat) y, x.items[j]? = some y → Short9 y := by
  cases h with | mk k n t ns xs h1 h2 h => exact ⟨h1, h2, h⟩

/-- What May leaves. -/
def MayQ (M : Bool) (w : World) (e : Ending) (w' : World) : Prop := e = .returned (.bool M) ∧ Kept (fun _ => True) w w'
def MayC (v : Value) (x : J) : Prop := ∀ w, JIn (fun _ => True) w x v → Calls Tryz.prog 25 #[v] w (MayQ (mayP x) w)

set_option maxHeartbeats 8000000 in
set_option maxRecDepth 100000 in
theorem may_null (n : Int) (t : List UInt8) (ns : List (List UInt8)) (xs : List J) (na ia : Option Addr) (nc ic : Nat) (us : Nat → Value) (w : World) (hr : Rng 0 n t ns xs.length) (hn : RowS (fun _ => True) w (.slice na ns.length nc) ns) (hi : RowJ (fun _ => True) w (.slice ia xs.length ic) xs.length us)
    (hin : ∀ (j : Nat) x, xs[j]? = some x → JIn (fun _ => True) w x (us j)) (hih : ∀ (j : Nat) x, xs[j]? = some x → MayC (us j) x) (hnl0 : ns.length ≤ 1000000) (hl0 : xs.length ≤ 1000000) (htl : t.length ≤ 4611686018427387904) (hnm : ∀ l ∈ ns, l.length ≤ 4611686018427387904) :
    Calls Tryz.prog 25 #[jotV 0 n t (.slice na ns.length nc) (.slice ia xs.length ic)] w (MayQ (mayP (.mk 0 n t ns xs)) w) := by
  obtain ⟨M, hM⟩ : ∃ M, mayP (.mk 0 n t ns xs) = M := ⟨_, rfl⟩
  have HMM := Lib.hid hM
  rw [hM]
  obtain ⟨nl, hnl⟩ : ∃ y, ns.length = y := ⟨_, rfl⟩
  obtain ⟨il, hil⟩ : ∃ y, xs.length = y := ⟨_, rfl⟩
  rw [hnl] at hn hnl0 ⊢
  rw [hil] at hi hl0 ⊢
  obtain ⟨W0, hW0⟩ : ∃ W0, w.alloc (.cells #[.int .i64 0, .int .i64 n, S t, .slice na nl nc, .slice ia il ic] 25) = W0 := ⟨_, rfl⟩
  have hk0 : Kept (fun _ => True) w W0 := by rw [← hW0]; exact (Kept.refl _ w).alloc _
  have hbox : OutAt w.heap.size 0 n t (.slice na nl nc) (.slice ia il ic) W0 := by rw [← hW0]; exact OutAt.new w 0 n t _ _
  obtain ⟨o0, o1, o2, o3, o4, o5, o6⟩ := hbox.facts
  have HB1 := Lib.hid hbox
  have HR := Lib.hid (And.intro hr (And.intro htl hnm))
  have HN := Lib.hid hn
  have HI := Lib.hid hi
  have HIN := Lib.hid (And.intro hin hih)
  have HNL := Lib.hid hnl
  have HIL := Lib.hid hil
  have HK0 := Lib.hid hk0
  clear hr hn hi hin hih hbox hM hnl hil hk0 htl hnm
  have HM : Hid (M = (n == 0 && t == [] && ns == [] && xs.isEmpty)) := Lib.hid (by rw [← HMM.out]; simp [mayP])
  by_cases hn1 : n < -9007199254740991
  · have HF : Hid (M = false) := Lib.hid (by rw [HM.out]; simp [show n ≠ 0 by omega])
    clear HM
    go_enter Tryz.func25, Tryz.ntmps25
    go_wp2
    refine bodyPost_ret (v := .bool false) (by simp [results, Tryz.results25, go_sem]) rfl ?_
    exact ⟨by rw [HF.out], HK0.out⟩
  by_cases hn2 : 9007199254740991 < n
  · have HF : Hid (M = false) := Lib.hid (by rw [HM.out]; simp [show n ≠ 0 by omega])
    clear HM
    go_enter Tryz.func25, Tryz.ntmps25
    go_wp2
    refine bodyPost_ret (v := .bool false) (by simp [results, Tryz.results25, go_sem]) rfl ?_
    exact ⟨by rw [HF.out], HK0.out⟩
  by_cases hn0 : ¬ n = 0
  · have HF : Hid (M = false) := Lib.hid (by rw [HM.out]; simp [hn0])
    have hz : (n != 0) = true := by simpa using hn0
    clear HM hn0
    go_enter Tryz.func25, Tryz.ntmps25
    go_wp2
    refine bodyPost_ret (v := .bool false) (by simp [results, Tryz.results25, go_sem]) rfl ?_
    exact ⟨by rw [HF.out], HK0.out⟩
  replace hn0 : n = 0 := Classical.not_not.1 hn0
  subst hn0
  by_cases ht0 : ¬ t = []
  · have HF : Hid (M = false) := Lib.hid (by rw [HM.out]; simp [ht0])
    have hz : (t == []) = false := by simpa using ht0
    clear HM
    go_enter Tryz.func25, Tryz.ntmps25
    go_wp2
    refine bodyPost_ret (v := .bool false) (by simp [results, Tryz.results25, go_sem]) rfl ?_
    exact ⟨by rw [HF.out], HK0.out⟩
  replace ht0 : t = [] := Classical.not_not.1 ht0
  subst ht0
  by_cases hs0 : ¬ nl = 0
  · have HF : Hid (M = false) := Lib.hid (by
      have hne : ns ≠ [] := fun e => hs0 (by rw [← HNL.out, e]; rfl)
      rw [HM.out]; simp [hne])
    have hz : 0 < nl := by omega
    clear HM hs0
    go_enter Tryz.func25, Tryz.ntmps25
    go_wp2
    refine bodyPost_ret (v := .bool false) (by simp [results, Tryz.results25, go_sem]) rfl ?_
    exact ⟨by rw [HF.out], HK0.out⟩
  replace hs0 : nl = 0 := Classical.not_not.1 hs0
  subst hs0
  obtain rfl : ns = [] := List.eq_nil_of_length_eq_zero HNL.out
  by_cases hi0 : ¬ il = 0
  · have HF : Hid (M = false) := Lib.hid (by
      have hne : xs ≠ [] := fun e => hi0 (by rw [← HIL.out, e]; rfl)
      rw [HM.out]; simp [hne])
    have hz : 0 < il := by omega
    clear HM hi0
    go_enter Tryz.func25, Tryz.ntmps25
    go_wp2
    refine bodyPost_ret (v := .bool false) (by simp [results, Tryz.results25, go_sem]) rfl ?_
    exact ⟨by rw [HF.out], HK0.out⟩
  replace hi0 : il = 0 := Classical.not_not.1 hi0
  subst hi0
  obtain rfl : xs = [] := List.eq_nil_of_length_eq_zero HIL.out
  have UT := Lib.hid (fun w => utf8_any [] w (by simp))
  rw [show Lib.validD [] = true from rfl] at UT
  have HF : Hid (M = true) := Lib.hid (by rw [HM.out]; simp)
  clear HM
  go_enter Tryz.func25, Tryz.ntmps25
  go_wp2_with (go_at_call 42; refine (UT.out _).mono ?_; rintro e w1 ⟨rfl, rfl⟩)
  go_loopg [8] 0 (fun q i wr => i = .int .i64 0 ∧ wr = w1)
  case atStart => exact ⟨rfl, rfl⟩
  case round =>
    clear hW0
    obtain ⟨rfl, rfl⟩ := hrel
    go_wp2
    go_loopg [9] 0 (fun q i wr2 => i = .int .i64 0 ∧ wr2 = wr)
    case atStart => exact ⟨rfl, rfl⟩
    case round =>
      obtain ⟨rfl, rfl⟩ := hrel
      go_wp2
      refine bodyPost_ret (v := .bool true) (by simp [results, Tryz.results25, go_sem]) rfl ?_
      exact ⟨by rw [HF.out], HK0.out⟩

set_option maxHeartbeats 8000000 in
set_option maxRecDepth 100000 in
theorem may_fls (n : Int) (t : List UInt8) (ns : List (List UInt8)) (xs : List J) (na ia : Option Addr) (nc ic : Nat) (us : Nat → Value) (w : World) (hr : Rng 1 n t ns xs.length) (hn : RowS (fun _ => True) w (.slice na ns.length nc) ns) (hi : RowJ (fun _ => True) w (.slice ia xs.length ic) xs.length us)
    (hin : ∀ (j : Nat) x, xs[j]? = some x → JIn (fun _ => True) w x (us j)) (hih : ∀ (j : Nat) x, xs[j]? = some x → MayC (us j) x) (hnl0 : ns.length ≤ 1000000) (hl0 : xs.length ≤ 1000000) (htl : t.length ≤ 4611686018427387904) (hnm : ∀ l ∈ ns, l.length ≤ 4611686018427387904) :
    Calls Tryz.prog 25 #[jotV 1 n t (.slice na ns.length nc) (.slice ia xs.length ic)] w (MayQ (mayP (.mk 1 n t ns xs)) w) := by
  obtain ⟨M, hM⟩ : ∃ M, mayP (.mk 1 n t ns xs) = M := ⟨_, rfl⟩
  have HMM := Lib.hid hM
  rw [hM]
  obtain ⟨nl, hnl⟩ : ∃ y, ns.length = y := ⟨_, rfl⟩
  obtain ⟨il, hil⟩ : ∃ y, xs.length = y := ⟨_, rfl⟩
  rw [hnl] at hn hnl0 ⊢
  rw [hil] at hi hl0 ⊢
  obtain ⟨W0, hW0⟩ : ∃ W0, w.alloc (.cells #[.int .i64 1, .int .i64 n, S t, .slice na nl nc, .slice ia il ic] 25) = W0 := ⟨_, rfl⟩
  have hk0 : Kept (fun _ => True) w W0 := by rw [← hW0]; exact (Kept.refl _ w).alloc _
  have hbox : OutAt w.heap.size 1 n t (.slice na nl nc) (.slice ia il ic) W0 := by rw [← hW0]; exact OutAt.new w 1 n t _ _
  obtain ⟨o0, o1, o2, o3, o4, o5, o6⟩ := hbox.facts
  have HB1 := Lib.hid hbox
  have HR := Lib.hid (And.intro hr (And.intro htl hnm))
  have HN := Lib.hid hn
  have HI := Lib.hid hi
  have HIN := Lib.hid (And.intro hin hih)
  have HNL := Lib.hid hnl
  have HIL := Lib.hid hil
  have HK0 := Lib.hid hk0
  clear hr hn hi hin hih hbox hM hnl hil hk0 htl hnm
  have HM : Hid (M = (n == 0 && t == [] && ns == [] && xs.isEmpty)) := Lib.hid (by rw [← HMM.out]; simp [mayP])
  by_cases hn1 : n < -9007199254740991
  · have HF : Hid (M = false) := Lib.hid (by rw [HM.out]; simp [show n ≠ 0 by omega])
    clear HM
    go_enter Tryz.func25, Tryz.ntmps25
    go_wp2
    refine bodyPost_ret (v := .bool false) (by simp [results, Tryz.results25, go_sem]) rfl ?_
    exact ⟨by rw [HF.out], HK0.out⟩
  by_cases hn2 : 9007199254740991 < n
  · have HF : Hid (M = false) := Lib.hid (by rw [HM.out]; simp [show n ≠ 0 by omega])
    clear HM
    go_enter Tryz.func25, Tryz.ntmps25
    go_wp2
    refine bodyPost_ret (v := .bool false) (by simp [results, Tryz.results25, go_sem]) rfl ?_
    exact ⟨by rw [HF.out], HK0.out⟩
  by_cases hn0 : ¬ n = 0
  · have HF : Hid (M = false) := Lib.hid (by rw [HM.out]; simp [hn0])
    have hz : (n != 0) = true := by simpa using hn0
    clear HM hn0
    go_enter Tryz.func25, Tryz.ntmps25
    go_wp2
    refine bodyPost_ret (v := .bool false) (by simp [results, Tryz.results25, go_sem]) rfl ?_
    exact ⟨by rw [HF.out], HK0.out⟩
  replace hn0 : n = 0 := Classical.not_not.1 hn0
  subst hn0
  by_cases ht0 : ¬ t = []
  · have HF : Hid (M = false) := Lib.hid (by rw [HM.out]; simp [ht0])
    have hz : (t == []) = false := by simpa using ht0
    clear HM
    go_enter Tryz.func25, Tryz.ntmps25
    go_wp2
    refine bodyPost_ret (v := .bool false) (by simp [results, Tryz.results25, go_sem]) rfl ?_
    exact ⟨by rw [HF.out], HK0.out⟩
  replace ht0 : t = [] := Classical.not_not.1 ht0
  subst ht0
  by_cases hs0 : ¬ nl = 0
  · have HF : Hid (M = false) := Lib.hid (by
      have hne : ns ≠ [] := fun e => hs0 (by rw [← HNL.out, e]; rfl)
      rw [HM.out]; simp [hne])
    have hz : 0 < nl := by omega
    clear HM hs0
    go_enter Tryz.func25, Tryz.ntmps25
    go_wp2
    refine bodyPost_ret (v := .bool false) (by simp [results, Tryz.results25, go_sem]) rfl ?_
    exact ⟨by rw [HF.out], HK0.out⟩
  replace hs0 : nl = 0 := Classical.not_not.1 hs0
  subst hs0
  obtain rfl : ns = [] := List.eq_nil_of_length_eq_zero HNL.out
  by_cases hi0 : ¬ il = 0
  · have HF : Hid (M = false) := Lib.hid (by
      have hne : xs ≠ [] := fun e => hi0 (by rw [← HIL.out, e]; rfl)
      rw [HM.out]; simp [hne])
    have hz : 0 < il := by omega
    clear HM hi0
    go_enter Tryz.func25, Tryz.ntmps25
    go_wp2
    refine bodyPost_ret (v := .bool false) (by simp [results, Tryz.results25, go_sem]) rfl ?_
    exact ⟨by rw [HF.out], HK0.out⟩
  replace hi0 : il = 0 := Classical.not_not.1 hi0
  subst hi0
  obtain rfl : xs = [] := List.eq_nil_of_length_eq_zero HIL.out
  have UT := Lib.hid (fun w => utf8_any [] w (by simp))
  rw [show Lib.validD [] = true from rfl] at UT
  have HF : Hid (M = true) := Lib.hid (by rw [HM.out]; simp)
  clear HM
  go_enter Tryz.func25, Tryz.ntmps25
  go_wp2_with (go_at_call 42; refine (UT.out _).mono ?_; rintro e w1 ⟨rfl, rfl⟩)
  go_loopg [8] 0 (fun q i wr => i = .int .i64 0 ∧ wr = w1)
  case atStart => exact ⟨rfl, rfl⟩
  case round =>
    clear hW0
    obtain ⟨rfl, rfl⟩ := hrel
    go_wp2
    go_loopg [9] 0 (fun q i wr2 => i = .int .i64 0 ∧ wr2 = wr)
    case atStart => exact ⟨rfl, rfl⟩
    case round =>
      obtain ⟨rfl, rfl⟩ := hrel
      go_wp2
      refine bodyPost_ret (v := .bool true) (by simp [results, Tryz.results25, go_sem]) rfl ?_
      exact ⟨by rw [HF.out], HK0.out⟩

set_option maxHeartbeats 8000000 in
set_option maxRecDepth 100000 in
theorem may_tru (n : Int) (t : List UInt8) (ns : List (List UInt8)) (xs : List J) (na ia : Option Addr) (nc ic : Nat) (us : Nat → Value) (w : World) (hr : Rng 2 n t ns xs.length) (hn : RowS (fun _ => True) w (.slice na ns.length nc) ns) (hi : RowJ (fun _ => True) w (.slice ia xs.length ic) xs.length us)
    (hin : ∀ (j : Nat) x, xs[j]? = some x → JIn (fun _ => True) w x (us j)) (hih : ∀ (j : Nat) x, xs[j]? = some x → MayC (us j) x) (hnl0 : ns.length ≤ 1000000) (hl0 : xs.length ≤ 1000000) (htl : t.length ≤ 4611686018427387904) (hnm : ∀ l ∈ ns, l.length ≤ 4611686018427387904) :
    Calls Tryz.prog 25 #[jotV 2 n t (.slice na ns.length nc) (.slice ia xs.length ic)] w (MayQ (mayP (.mk 2 n t ns xs)) w) := by
  obtain ⟨M, hM⟩ : ∃ M, mayP (.mk 2 n t ns xs) = M := ⟨_, rfl⟩
  have HMM := Lib.hid hM
  rw [hM]
  obtain ⟨nl, hnl⟩ : ∃ y, ns.length = y := ⟨_, rfl⟩
  obtain ⟨il, hil⟩ : ∃ y, xs.length = y := ⟨_, rfl⟩
  rw [hnl] at hn hnl0 ⊢
  rw [hil] at hi hl0 ⊢
  obtain ⟨W0, hW0⟩ : ∃ W0, w.alloc (.cells #[.int .i64 2, .int .i64 n, S t, .slice na nl nc, .slice ia il ic] 25) = W0 := ⟨_, rfl⟩
  have hk0 : Kept (fun _ => True) w W0 := by rw [← hW0]; exact (Kept.refl _ w).alloc _
  have hbox : OutAt w.heap.size 2 n t (.slice na nl nc) (.slice ia il ic) W0 := by rw [← hW0]; exact OutAt.new w 2 n t _ _
  obtain ⟨o0, o1, o2, o3, o4, o5, o6⟩ := hbox.facts
  have HB1 := Lib.hid hbox
  have HR := Lib.hid (And.intro hr (And.intro htl hnm))
  have HN := Lib.hid hn
  have HI := Lib.hid hi
  have HIN := Lib.hid (And.intro hin hih)
  have HNL := Lib.hid hnl
  have HIL := Lib.hid hil
  have HK0 := Lib.hid hk0
  clear hr hn hi hin hih hbox hM hnl hil hk0 htl hnm
  have HM : Hid (M = (n == 0 && t == [] && ns == [] && xs.isEmpty)) := Lib.hid (by rw [← HMM.out]; simp [mayP])
  by_cases hn1 : n < -9007199254740991
  · have HF : Hid (M = false) := Lib.hid (by rw [HM.out]; simp [show n ≠ 0 by omega])
    clear HM
    go_enter Tryz.func25, Tryz.ntmps25
    go_wp2
    refine bodyPost_ret (v := .bool false) (by simp [results, Tryz.results25, go_sem]) rfl ?_
    exact ⟨by rw [HF.out], HK0.out⟩
  by_cases hn2 : 9007199254740991 < n
  · have HF : Hid (M = false) := Lib.hid (by rw [HM.out]; simp [show n ≠ 0 by omega])
    clear HM
    go_enter Tryz.func25, Tryz.ntmps25
    go_wp2
    refine bodyPost_ret (v := .bool false) (by simp [results, Tryz.results25, go_sem]) rfl ?_
    exact ⟨by rw [HF.out], HK0.out⟩
  by_cases hn0 : ¬ n = 0
  · have HF : Hid (M = false) := Lib.hid (by rw [HM.out]; simp [hn0])
    have hz : (n != 0) = true := by simpa using hn0
    clear HM hn0
    go_enter Tryz.func25, Tryz.ntmps25
    go_wp2
    refine bodyPost_ret (v := .bool false) (by simp [results, Tryz.results25, go_sem]) rfl ?_
    exact ⟨by rw [HF.out], HK0.out⟩
  replace hn0 : n = 0 := Classical.not_not.1 hn0
  subst hn0
  by_cases ht0 : ¬ t = []
  · have HF : Hid (M = false) := Lib.hid (by rw [HM.out]; simp [ht0])
    have hz : (t == []) = false := by simpa using ht0
    clear HM
    go_enter Tryz.func25, Tryz.ntmps25
    go_wp2
    refine bodyPost_ret (v := .bool false) (by simp [results, Tryz.results25, go_sem]) rfl ?_
    exact ⟨by rw [HF.out], HK0.out⟩
  replace ht0 : t = [] := Classical.not_not.1 ht0
  subst ht0
  by_cases hs0 : ¬ nl = 0
  · have HF : Hid (M = false) := Lib.hid (by
      have hne : ns ≠ [] := fun e => hs0 (by rw [← HNL.out, e]; rfl)
      rw [HM.out]; simp [hne])
    have hz : 0 < nl := by omega
    clear HM hs0
    go_enter Tryz.func25, Tryz.ntmps25
    go_wp2
    refine bodyPost_ret (v := .bool false) (by simp [results, Tryz.results25, go_sem]) rfl ?_
    exact ⟨by rw [HF.out], HK0.out⟩
  replace hs0 : nl = 0 := Classical.not_not.1 hs0
  subst hs0
  obtain rfl : ns = [] := List.eq_nil_of_length_eq_zero HNL.out
  by_cases hi0 : ¬ il = 0
  · have HF : Hid (M = false) := Lib.hid (by
      have hne : xs ≠ [] := fun e => hi0 (by rw [← HIL.out, e]; rfl)
      rw [HM.out]; simp [hne])
    have hz : 0 < il := by omega
    clear HM hi0
    go_enter Tryz.func25, Tryz.ntmps25
    go_wp2
    refine bodyPost_ret (v := .bool false) (by simp [results, Tryz.results25, go_sem]) rfl ?_
    exact ⟨by rw [HF.out], HK0.out⟩
  replace hi0 : il = 0 := Classical.not_not.1 hi0
  subst hi0
  obtain rfl : xs = [] := List.eq_nil_of_length_eq_zero HIL.out
  have UT := Lib.hid (fun w => utf8_any [] w (by simp))
  rw [show Lib.validD [] = true from rfl] at UT
  have HF : Hid (M = true) := Lib.hid (by rw [HM.out]; simp)
  clear HM
  go_enter Tryz.func25, Tryz.ntmps25
  go_wp2_with (go_at_call 42; refine (UT.out _).mono ?_; rintro e w1 ⟨rfl, rfl⟩)
  go_loopg [8] 0 (fun q i wr => i = .int .i64 0 ∧ wr = w1)
  case atStart => exact ⟨rfl, rfl⟩
  case round =>
    clear hW0
    obtain ⟨rfl, rfl⟩ := hrel
    go_wp2
    go_loopg [9] 0 (fun q i wr2 => i = .int .i64 0 ∧ wr2 = wr)
    case atStart => exact ⟨rfl, rfl⟩
    case round =>
      obtain ⟨rfl, rfl⟩ := hrel
      go_wp2
      refine bodyPost_ret (v := .bool true) (by simp [results, Tryz.results25, go_sem]) rfl ?_
      exact ⟨by rw [HF.out], HK0.out⟩

set_option maxHeartbeats 8000000 in
set_option maxRecDepth 100000 in
theorem may_nr (n : Int) (t : List UInt8) (ns : List (List UInt8)) (xs : List J) (na ia : Option Addr) (nc ic : Nat) (us : Nat → Value) (w : World) (hr : Rng 3 n t ns xs.length) (hn : RowS (fun _ => True) w (.slice na ns.length nc) ns) (hi : RowJ (fun _ => True) w (.slice ia xs.length ic) xs.length us)
    (hin : ∀ (j : Nat) x, xs[j]? = some x → JIn (fun _ => True) w x (us j)) (hih : ∀ (j : Nat) x, xs[j]? = some x → MayC (us j) x) (hnl0 : ns.length ≤ 1000000) (hl0 : xs.length ≤ 1000000) (htl : t.length ≤ 4611686018427387904) (hnm : ∀ l ∈ ns, l.length ≤ 4611686018427387904) :
    Calls Tryz.prog 25 #[jotV 3 n t (.slice na ns.length nc) (.slice ia xs.length ic)] w (MayQ (mayP (.mk 3 n t ns xs)) w) := by
  obtain ⟨M, hM⟩ : ∃ M, mayP (.mk 3 n t ns xs) = M := ⟨_, rfl⟩
  have HMM := Lib.hid hM
  rw [hM]
  obtain ⟨nl, hnl⟩ : ∃ y, ns.length = y := ⟨_, rfl⟩
  obtain ⟨il, hil⟩ : ∃ y, xs.length = y := ⟨_, rfl⟩
  rw [hnl] at hn hnl0 ⊢
  rw [hil] at hi hl0 ⊢
  obtain ⟨W0, hW0⟩ : ∃ W0, w.alloc (.cells #[.int .i64 3, .int .i64 n, S t, .slice na nl nc, .slice ia il ic] 25) = W0 := ⟨_, rfl⟩
  have hk0 : Kept (fun _ => True) w W0 := by rw [← hW0]; exact (Kept.refl _ w).alloc _
  have hbox : OutAt w.heap.size 3 n t (.slice na nl nc) (.slice ia il ic) W0 := by rw [← hW0]; exact OutAt.new w 3 n t _ _
  obtain ⟨o0, o1, o2, o3, o4, o5, o6⟩ := hbox.facts
  have HB1 := Lib.hid hbox
  have HR := Lib.hid (And.intro hr (And.intro htl hnm))
  have HN := Lib.hid hn
  have HI := Lib.hid hi
  have HIN := Lib.hid (And.intro hin hih)
  have HNL := Lib.hid hnl
  have HIL := Lib.hid hil
  have HK0 := Lib.hid hk0
  clear hr hn hi hin hih hbox hM hnl hil hk0 htl hnm
  have HM : Hid (M = (t == [] && ns == [] && xs.isEmpty && decide (-9007199254740991 ≤ n) && decide (n ≤ 9007199254740991))) := Lib.hid (by rw [← HMM.out]; simp [mayP])
  by_cases hn1 : n < -9007199254740991
  · have HF : Hid (M = false) := Lib.hid (by rw [HM.out]; simp; omega)
    clear HM
    go_enter Tryz.func25, Tryz.ntmps25
    go_wp2
    refine bodyPost_ret (v := .bool false) (by simp [results, Tryz.results25, go_sem]) rfl ?_
    exact ⟨by rw [HF.out], HK0.out⟩
  by_cases hn2 : 9007199254740991 < n
  · have HF : Hid (M = false) := Lib.hid (by rw [HM.out]; simp; omega)
    clear HM
    go_enter Tryz.func25, Tryz.ntmps25
    go_wp2
    refine bodyPost_ret (v := .bool false) (by simp [results, Tryz.results25, go_sem]) rfl ?_
    exact ⟨by rw [HF.out], HK0.out⟩
  by_cases ht0 : ¬ t = []
  · have HF : Hid (M = false) := Lib.hid (by rw [HM.out]; simp [ht0])
    have hz : (t == []) = false := by simpa using ht0
    clear HM
    go_enter Tryz.func25, Tryz.ntmps25
    go_wp2
    refine bodyPost_ret (v := .bool false) (by simp [results, Tryz.results25, go_sem]) rfl ?_
    exact ⟨by rw [HF.out], HK0.out⟩
  replace ht0 : t = [] := Classical.not_not.1 ht0
  subst ht0
  by_cases hs0 : ¬ nl = 0
  · have HF : Hid (M = false) := Lib.hid (by
      have hne : ns ≠ [] := fun e => hs0 (by rw [← HNL.out, e]; rfl)
      rw [HM.out]; simp [hne])
    have hz : 0 < nl := by omega
    clear HM hs0
    go_enter Tryz.func25, Tryz.ntmps25
    go_wp2
    refine bodyPost_ret (v := .bool false) (by simp [results, Tryz.results25, go_sem]) rfl ?_
    exact ⟨by rw [HF.out], HK0.out⟩
  replace hs0 : nl = 0 := Classical.not_not.1 hs0
  subst hs0
  obtain rfl : ns = [] := List.eq_nil_of_length_eq_zero HNL.out
  by_cases hi0 : ¬ il = 0
  · have HF : Hid (M = false) := Lib.hid (by
      have hne : xs ≠ [] := fun e => hi0 (by rw [← HIL.out, e]; rfl)
      rw [HM.out]; simp [hne])
    have hz : 0 < il := by omega
    clear HM hi0
    go_enter Tryz.func25, Tryz.ntmps25
    go_wp2
    refine bodyPost_ret (v := .bool false) (by simp [results, Tryz.results25, go_sem]) rfl ?_
    exact ⟨by rw [HF.out], HK0.out⟩
  replace hi0 : il = 0 := Classical.not_not.1 hi0
  subst hi0
  obtain rfl : xs = [] := List.eq_nil_of_length_eq_zero HIL.out
  have UT := Lib.hid (fun w => utf8_any [] w (by simp))
  rw [show Lib.validD [] = true from rfl] at UT
  have HF : Hid (M = true) := Lib.hid (by rw [HM.out]; simp; omega)
  clear HM
  go_enter Tryz.func25, Tryz.ntmps25
  go_wp2_with (go_at_call 42; refine (UT.out _).mono ?_; rintro e w1 ⟨rfl, rfl⟩)
  go_loopg [8] 0 (fun q i wr => i = .int .i64 0 ∧ wr = w1)
  case atStart => exact ⟨rfl, rfl⟩
  case round =>
    clear hW0
    obtain ⟨rfl, rfl⟩ := hrel
    go_wp2
    go_loopg [9] 0 (fun q i wr2 => i = .int .i64 0 ∧ wr2 = wr)
    case atStart => exact ⟨rfl, rfl⟩
    case round =>
      obtain ⟨rfl, rfl⟩ := hrel
      go_wp2
      refine bodyPost_ret (v := .bool true) (by simp [results, Tryz.results25, go_sem]) rfl ?_
      exact ⟨by rw [HF.out], HK0.out⟩

set_option maxHeartbeats 8000000 in
set_option maxRecDepth 100000 in
theorem may_tx (n : Int) (t : List UInt8) (ns : List (List UInt8)) (xs : List J) (na ia : Option Addr) (nc ic : Nat) (us : Nat → Value) (w : World) (hr : Rng 4 n t ns xs.length) (hn : RowS (fun _ => True) w (.slice na ns.length nc) ns) (hi : RowJ (fun _ => True) w (.slice ia xs.length ic) xs.length us)
    (hin : ∀ (j : Nat) x, xs[j]? = some x → JIn (fun _ => True) w x (us j)) (hih : ∀ (j : Nat) x, xs[j]? = some x → MayC (us j) x) (hnl0 : ns.length ≤ 1000000) (hl0 : xs.length ≤ 1000000) (htl : t.length ≤ 4611686018427387904) (hnm : ∀ l ∈ ns, l.length ≤ 4611686018427387904) :
    Calls Tryz.prog 25 #[jotV 4 n t (.slice na ns.length nc) (.slice ia xs.length ic)] w (MayQ (mayP (.mk 4 n t ns xs)) w) := by
  obtain ⟨M, hM⟩ : ∃ M, mayP (.mk 4 n t ns xs) = M := ⟨_, rfl⟩
  have HMM := Lib.hid hM
  rw [hM]
  obtain ⟨nl, hnl⟩ : ∃ y, ns.length = y := ⟨_, rfl⟩
  obtain ⟨il, hil⟩ : ∃ y, xs.length = y := ⟨_, rfl⟩
  rw [hnl] at hn hnl0 ⊢
  rw [hil] at hi hl0 ⊢
  obtain ⟨W0, hW0⟩ : ∃ W0, w.alloc (.cells #[.int .i64 4, .int .i64 n, S t, .slice na nl nc, .slice ia il ic] 25) = W0 := ⟨_, rfl⟩
  have hk0 : Kept (fun _ => True) w W0 := by rw [← hW0]; exact (Kept.refl _ w).alloc _
  have hbox : OutAt w.heap.size 4 n t (.slice na nl nc) (.slice ia il ic) W0 := by rw [← hW0]; exact OutAt.new w 4 n t _ _
  obtain ⟨o0, o1, o2, o3, o4, o5, o6⟩ := hbox.facts
  have HB1 := Lib.hid hbox
  have HR := Lib.hid (And.intro hr (And.intro htl hnm))
  have HN := Lib.hid hn
  have HI := Lib.hid hi
  have HIN := Lib.hid (And.intro hin hih)
  have HNL := Lib.hid hnl
  have HIL := Lib.hid hil
  have HK0 := Lib.hid hk0
  clear hr hn hi hin hih hbox hM hnl hil hk0 htl hnm
  have HM : Hid (M = (n == 0 && ns == [] && xs.isEmpty && Lib.validD t)) := Lib.hid (by rw [← HMM.out]; simp [mayP])
  by_cases hn1 : n < -9007199254740991
  · have HF : Hid (M = false) := Lib.hid (by rw [HM.out]; simp [show n ≠ 0 by omega])
    clear HM
    go_enter Tryz.func25, Tryz.ntmps25
    go_wp2
    refine bodyPost_ret (v := .bool false) (by simp [results, Tryz.results25, go_sem]) rfl ?_
    exact ⟨by rw [HF.out], HK0.out⟩
  by_cases hn2 : 9007199254740991 < n
  · have HF : Hid (M = false) := Lib.hid (by rw [HM.out]; simp [show n ≠ 0 by omega])
    clear HM
    go_enter Tryz.func25, Tryz.ntmps25
    go_wp2
    refine bodyPost_ret (v := .bool false) (by simp [results, Tryz.results25, go_sem]) rfl ?_
    exact ⟨by rw [HF.out], HK0.out⟩
  by_cases hn0 : ¬ n = 0
  · have HF : Hid (M = false) := Lib.hid (by rw [HM.out]; simp [hn0])
    have hz : (n != 0) = true := by simpa using hn0
    clear HM hn0
    go_enter Tryz.func25, Tryz.ntmps25
    go_wp2
    refine bodyPost_ret (v := .bool false) (by simp [results, Tryz.results25, go_sem]) rfl ?_
    exact ⟨by rw [HF.out], HK0.out⟩
  replace hn0 : n = 0 := Classical.not_not.1 hn0
  subst hn0
  by_cases hs0 : ¬ nl = 0
  · have HF : Hid (M = false) := Lib.hid (by
      have hne : ns ≠ [] := fun e => hs0 (by rw [← HNL.out, e]; rfl)
      rw [HM.out]; simp [hne])
    have hz : 0 < nl := by omega
    clear HM hs0
    go_enter Tryz.func25, Tryz.ntmps25
    go_wp2
    refine bodyPost_ret (v := .bool false) (by simp [results, Tryz.results25, go_sem]) rfl ?_
    exact ⟨by rw [HF.out], HK0.out⟩
  replace hs0 : nl = 0 := Classical.not_not.1 hs0
  subst hs0
  obtain rfl : ns = [] := List.eq_nil_of_length_eq_zero HNL.out
  by_cases hi0 : ¬ il = 0
  · have HF : Hid (M = false) := Lib.hid (by
      have hne : xs ≠ [] := fun e => hi0 (by rw [← HIL.out, e]; rfl)
      rw [HM.out]; simp [hne])
    have hz : 0 < il := by omega
    clear HM hi0
    go_enter Tryz.func25, Tryz.ntmps25
    go_wp2
    refine bodyPost_ret (v := .bool false) (by simp [results, Tryz.results25, go_sem]) rfl ?_
    exact ⟨by rw [HF.out], HK0.out⟩
  replace hi0 : il = 0 := Classical.not_not.1 hi0
  subst hi0
  obtain rfl : xs = [] := List.eq_nil_of_length_eq_zero HIL.out
  obtain ⟨V, hV⟩ : ∃ V, Lib.validD t = V := ⟨_, rfl⟩
  have HF0 : Hid (M = V) := Lib.hid (by rw [HM.out, hV]; simp)
  have UT := Lib.hid (fun w => utf8_any t w HR.out.2.1)
  rw [hV] at UT
  clear hV HM
  cases V with
  | false =>
    have HF := HF0
    go_enter Tryz.func25, Tryz.ntmps25
    go_wp2_with (go_at_call 42; refine (UT.out _).mono ?_; rintro e w1 ⟨rfl, rfl⟩)
    refine bodyPost_ret (v := .bool false) (by simp [results, Tryz.results25, go_sem]) rfl ?_
    exact ⟨by rw [HF.out], HK0.out⟩
  | true =>
    have HF := HF0
    go_enter Tryz.func25, Tryz.ntmps25
    go_wp2_with (go_at_call 42; refine (UT.out _).mono ?_; rintro e w1 ⟨rfl, rfl⟩)
    go_loopg [8] 0 (fun q i wr => i = .int .i64 0 ∧ wr = w1)
    case atStart => exact ⟨rfl, rfl⟩
    case round =>
      clear hW0
      obtain ⟨rfl, rfl⟩ := hrel
      go_wp2
      go_loopg [9] 0 (fun q i wr2 => i = .int .i64 0 ∧ wr2 = wr)
      case atStart => exact ⟨rfl, rfl⟩
      case round =>
        obtain ⟨rfl, rfl⟩ := hrel
        go_wp2
        refine bodyPost_ret (v := .bool true) (by simp [results, Tryz.results25, go_sem]) rfl ?_
        exact ⟨by rw [HF.out], HK0.out⟩

set_option maxHeartbeats 8000000 in
set_option maxRecDepth 100000 in
theorem may_list (n : Int) (t : List UInt8) (ns : List (List UInt8)) (xs : List J) (na ia : Option Addr) (nc ic : Nat) (us : Nat → Value) (w : World) (hr : Rng 5 n t ns xs.length) (hn : RowS (fun _ => True) w (.slice na ns.length nc) ns) (hi : RowJ (fun _ => True) w (.slice ia xs.length ic) xs.length us)
    (hin : ∀ (j : Nat) x, xs[j]? = some x → JIn (fun _ => True) w x (us j)) (hih : ∀ (j : Nat) x, xs[j]? = some x → MayC (us j) x) (hnl0 : ns.length ≤ 1000000) (hl0 : xs.length ≤ 1000000) (htl : t.length ≤ 4611686018427387904) (hnm : ∀ l ∈ ns, l.length ≤ 4611686018427387904) :
    Calls Tryz.prog 25 #[jotV 5 n t (.slice na ns.length nc) (.slice ia xs.length ic)] w (MayQ (mayP (.mk 5 n t ns xs)) w) := by
  obtain ⟨M, hM⟩ : ∃ M, mayP (.mk 5 n t ns xs) = M := ⟨_, rfl⟩
  have HMM := Lib.hid hM
  rw [hM]
  obtain ⟨nl, hnl⟩ : ∃ y, ns.length = y := ⟨_, rfl⟩
  obtain ⟨il, hil⟩ : ∃ y, xs.length = y := ⟨_, rfl⟩
  rw [hnl] at hn hnl0 ⊢
  rw [hil] at hi hl0 ⊢
  obtain ⟨W0, hW0⟩ : ∃ W0, w.alloc (.cells #[.int .i64 5, .int .i64 n, S t, .slice na nl nc, .slice ia il ic] 25) = W0 := ⟨_, rfl⟩
  have hk0 : Kept (fun _ => True) w W0 := by rw [← hW0]; exact (Kept.refl _ w).alloc _
  have hbox : OutAt w.heap.size 5 n t (.slice na nl nc) (.slice ia il ic) W0 := by rw [← hW0]; exact OutAt.new w 5 n t _ _
  obtain ⟨o0, o1, o2, o3, o4, o5, o6⟩ := hbox.facts
  have HB1 := Lib.hid hbox
  have HR := Lib.hid (And.intro hr (And.intro htl hnm))
  have HN := Lib.hid hn
  have HI := Lib.hid hi
  have HIN := Lib.hid (And.intro hin hih)
  have HNL := Lib.hid hnl
  have HIL := Lib.hid hil
  have HK0 := Lib.hid hk0
  clear hr hn hi hin hih hbox hM hnl hil hk0 htl hnm
  have HM : Hid (M = (n == 0 && t == [] && ns == [] && mays xs)) := Lib.hid (by rw [← HMM.out]; simp [mayP])
  by_cases hn1 : n < -9007199254740991
  · have HF : Hid (M = false) := Lib.hid (by rw [HM.out]; simp [show n ≠ 0 by omega])
    clear HM
    go_enter Tryz.func25, Tryz.ntmps25
    go_wp2
    refine bodyPost_ret (v := .bool false) (by simp [results, Tryz.results25, go_sem]) rfl ?_
    exact ⟨by rw [HF.out], HK0.out⟩
  by_cases hn2 : 9007199254740991 < n
  · have HF : Hid (M = false) := Lib.hid (by rw [HM.out]; simp [show n ≠ 0 by omega])
    clear HM
    go_enter Tryz.func25, Tryz.ntmps25
    go_wp2
    refine bodyPost_ret (v := .bool false) (by simp [results, Tryz.results25, go_sem]) rfl ?_
    exact ⟨by rw [HF.out], HK0.out⟩
  by_cases hn0 : ¬ n = 0
  · have HF : Hid (M = false) := Lib.hid (by rw [HM.out]; simp [hn0])
    have hz : (n != 0) = true := by simpa using hn0
    clear HM hn0
    go_enter Tryz.func25, Tryz.ntmps25
    go_wp2
    refine bodyPost_ret (v := .bool false) (by simp [results, Tryz.results25, go_sem]) rfl ?_
    exact ⟨by rw [HF.out], HK0.out⟩
  replace hn0 : n = 0 := Classical.not_not.1 hn0
  subst hn0
  by_cases ht0 : ¬ t = []
  · have HF : Hid (M = false) := Lib.hid (by rw [HM.out]; simp [ht0])
    have hz : (t == []) = false := by simpa using ht0
    clear HM
    go_enter Tryz.func25, Tryz.ntmps25
    go_wp2
    refine bodyPost_ret (v := .bool false) (by simp [results, Tryz.results25, go_sem]) rfl ?_
    exact ⟨by rw [HF.out], HK0.out⟩
  replace ht0 : t = [] := Classical.not_not.1 ht0
  subst ht0
  by_cases hs0 : ¬ nl = 0
  · have HF : Hid (M = false) := Lib.hid (by
      have hne : ns ≠ [] := fun e => hs0 (by rw [← HNL.out, e]; rfl)
      rw [HM.out]; simp [hne])
    have hz : 0 < nl := by omega
    clear HM hs0
    go_enter Tryz.func25, Tryz.ntmps25
    go_wp2
    refine bodyPost_ret (v := .bool false) (by simp [results, Tryz.results25, go_sem]) rfl ?_
    exact ⟨by rw [HF.out], HK0.out⟩
  replace hs0 : nl = 0 := Classical.not_not.1 hs0
  subst hs0
  obtain rfl : ns = [] := List.eq_nil_of_length_eq_zero HNL.out
  have UT := Lib.hid (fun w => utf8_any [] w (by simp))
  rw [show Lib.validD [] = true from rfl] at UT
  have HQ : Hid (M = mays xs) := Lib.hid (by rw [HM.out]; simp)
  clear HM
  go_enter Tryz.func25, Tryz.ntmps25
  go_wp2_with (go_at_call 42; refine (UT.out _).mono ?_; rintro e w1 ⟨rfl, rfl⟩)
  go_loopg [8] 0 (fun q i wr => i = .int .i64 0 ∧ wr = w1)
  case atStart => exact ⟨rfl, rfl⟩
  case round =>
    clear hW0
    obtain ⟨rfl, rfl⟩ := hrel
    go_wp2
    go_loopg [9] xs.length (fun q i wr2 => ∃ j : Nat, i = .int .i64 j ∧ q = xs.length - j ∧ j ≤ xs.length ∧ Hid (mays (xs.take j) = true) ∧ Kept (fun _ => True) wr wr2)
    case atStart => exact ⟨0, rfl, by omega, Nat.zero_le _, Lib.hid rfl, Kept.refl _ _⟩
    case round =>
      clear o0 o1 o2 o3 o4 o5 o6
      obtain ⟨j, rfl, rfl, hjl, hm, hk⟩ := hrel
      obtain ⟨o0, o1, o2, o3, o4, o5, o6⟩ := (HB1.out.kept hk trivial).facts
      have hkw := HK0.out.tr hk
      have hil := HIL.out
      by_cases hlt : j < il
      · have hi := HI.out
        rw [← HIL.out] at hi
        obtain ⟨b, off, rfl, hb, -, -, kx, nx, tx, nax, nlx, ncx, iax, ilx, icx, e1, c0, c1, c2, c3, c4⟩ := hi.at (j := j) (by omega)
        replace c0 := (hkw.cell hb trivial).trans c0
        replace c1 := (hkw.cell hb trivial).trans c1
        replace c2 := (hkw.cell hb trivial).trans c2
        replace c3 := (hkw.cell hb trivial).trans c3
        replace c4 := (hkw.cell hb trivial).trans c4
        obtain ⟨x, hx⟩ : ∃ x, xs[j]? = some x := ⟨xs[j]'(by omega), List.getElem?_eq_getElem (by omega)⟩
        have hC := HIN.out.2 j x hx wr ((HIN.out.1 j x hx).kept hkw fun _ _ _ => trivial)
        rw [e1] at hC
        have HC := Lib.hid hC
        have HX := Lib.hid hx
        clear e1 hC hx hi hil
        cases hmx : mayP x with
        | false =>
          have HF : Hid (M = false) := Lib.hid (by rw [HQ.out, mays_false HX.out hmx])
          rw [hmx] at HC
          clear hmx hm
          go_wp2_with (refine HC.out.mono ?_; rintro e w2 ⟨rfl, hk2⟩)
          refine bodyPost_ret (v := .bool false) (by simp [results, Tryz.results25, go_sem]) rfl ?_
          exact ⟨by rw [HF.out], hkw.tr hk2⟩
        | true =>
          have HNX : Hid (mays (xs.take (j + 1)) = true) := Lib.hid (by rw [mays_take HX.out hm.out, hmx])
          rw [hmx] at HC
          clear hmx hm
          go_wp2_with (refine HC.out.mono ?_; rintro e w2 ⟨rfl, hk2⟩)
          go_roundg (xs.length - (j + 1))
          case rel => exact ⟨j + 1, by go_num, rfl, by have := HIL.out; omega, HNX, hk.tr hk2⟩
          case measure => have := HIL.out; omega
      · obtain rfl : j = il := by omega
        have HF : Hid (M = true) := Lib.hid (by have := hm.out; rw [List.take_of_length_le (by omega)] at this; rw [HQ.out, this])
        clear hm hil
        go_wp2
        refine bodyPost_ret (v := .bool true) (by simp [results, Tryz.results25, go_sem]) rfl ?_
        exact ⟨by rw [HF.out], hkw⟩

set_option maxHeartbeats 8000000 in
set_option maxRecDepth 100000 in
theorem may_obj (n : Int) (t : List UInt8) (ns : List (List UInt8)) (xs : List J) (na ia : Option Addr) (nc ic : Nat) (us : Nat → Value) (w : World) (hr : Rng 6 n t ns xs.length) (hn : RowS (fun _ => True) w (.slice na ns.length nc) ns) (hi : RowJ (fun _ => True) w (.slice ia xs.length ic) xs.length us)
    (hin : ∀ (j : Nat) x, xs[j]? = some x → JIn (fun _ => True) w x (us j)) (hih : ∀ (j : Nat) x, xs[j]? = some x → MayC (us j) x) (hnl0 : ns.length ≤ 1000000) (hl0 : xs.length ≤ 1000000) (htl : t.length ≤ 4611686018427387904) (hnm : ∀ l ∈ ns, l.length ≤ 4611686018427387904) :
    Calls Tryz.prog 25 #[jotV 6 n t (.slice na ns.length nc) (.slice ia xs.length ic)] w (MayQ (mayP (.mk 6 n t ns xs)) w) := by
  obtain ⟨M, hM⟩ : ∃ M, mayP (.mk 6 n t ns xs) = M := ⟨_, rfl⟩
  have HMM := Lib.hid hM
  rw [hM]
  obtain ⟨nl, hnl⟩ : ∃ y, ns.length = y := ⟨_, rfl⟩
  obtain ⟨il, hil⟩ : ∃ y, xs.length = y := ⟨_, rfl⟩
  rw [hnl] at hn hnl0 ⊢
  rw [hil] at hi hl0 ⊢
  obtain ⟨W0, hW0⟩ : ∃ W0, w.alloc (.cells #[.int .i64 6, .int .i64 n, S t, .slice na nl nc, .slice ia il ic] 25) = W0 := ⟨_, rfl⟩
  have hk0 : Kept (fun _ => True) w W0 := by rw [← hW0]; exact (Kept.refl _ w).alloc _
  have hbox : OutAt w.heap.size 6 n t (.slice na nl nc) (.slice ia il ic) W0 := by rw [← hW0]; exact OutAt.new w 6 n t _ _
  obtain ⟨o0, o1, o2, o3, o4, o5, o6⟩ := hbox.facts
  have HB1 := Lib.hid hbox
  have HR := Lib.hid (And.intro hr (And.intro htl hnm))
  have HN := Lib.hid hn
  have HI := Lib.hid hi
  have HIN := Lib.hid (And.intro hin hih)
  have HNL := Lib.hid hnl
  have HIL := Lib.hid hil
  have HK0 := Lib.hid hk0
  clear hr hn hi hin hih hbox hM hnl hil hk0 htl hnm
  have HM : Hid (M = (n == 0 && t == [] && ns.length == xs.length && namesOk ns && mays xs)) := Lib.hid (by rw [← HMM.out]; simp [mayP])
  by_cases hn1 : n < -9007199254740991
  · have HF : Hid (M = false) := Lib.hid (by rw [HM.out]; simp [show n ≠ 0 by omega])
    clear HM
    go_enter Tryz.func25, Tryz.ntmps25
    go_wp2
    refine bodyPost_ret (v := .bool false) (by simp [results, Tryz.results25, go_sem]) rfl ?_
    exact ⟨by rw [HF.out], HK0.out⟩
  by_cases hn2 : 9007199254740991 < n
  · have HF : Hid (M = false) := Lib.hid (by rw [HM.out]; simp [show n ≠ 0 by omega])
    clear HM
    go_enter Tryz.func25, Tryz.ntmps25
    go_wp2
    refine bodyPost_ret (v := .bool false) (by simp [results, Tryz.results25, go_sem]) rfl ?_
    exact ⟨by rw [HF.out], HK0.out⟩
  by_cases hn0 : ¬ n = 0
  · have HF : Hid (M = false) := Lib.hid (by rw [HM.out]; simp [hn0])
    have hz : (n != 0) = true := by simpa using hn0
    clear HM hn0
    go_enter Tryz.func25, Tryz.ntmps25
    go_wp2
    refine bodyPost_ret (v := .bool false) (by simp [results, Tryz.results25, go_sem]) rfl ?_
    exact ⟨by rw [HF.out], HK0.out⟩
  replace hn0 : n = 0 := Classical.not_not.1 hn0
  subst hn0
  by_cases ht0 : ¬ t = []
  · have HF : Hid (M = false) := Lib.hid (by rw [HM.out]; simp [ht0])
    have hz : (t == []) = false := by simpa using ht0
    clear HM
    go_enter Tryz.func25, Tryz.ntmps25
    go_wp2
    refine bodyPost_ret (v := .bool false) (by simp [results, Tryz.results25, go_sem]) rfl ?_
    exact ⟨by rw [HF.out], HK0.out⟩
  replace ht0 : t = [] := Classical.not_not.1 ht0
  subst ht0
  have UT := Lib.hid (fun w => utf8_any [] w (by simp))
  rw [show Lib.validD [] = true from rfl] at UT
  have HQ : Hid (M = (ns.length == xs.length && namesOk ns && mays xs)) := Lib.hid (by rw [HM.out]; simp)
  clear HM
  by_cases hlen : ¬ nl = il
  · have HF : Hid (M = false) := Lib.hid (by
      have hne : ns.length ≠ xs.length := by rw [HNL.out, HIL.out]; exact hlen
      rw [HQ.out]; simp [hne])
    have hz : ((nl : Int) != (il : Int)) = true := by simp; omega
    clear HQ hlen
    go_enter Tryz.func25, Tryz.ntmps25
    go_wp2_with (go_at_call 42; refine (UT.out _).mono ?_; rintro e w1 ⟨rfl, rfl⟩)
    refine bodyPost_ret (v := .bool false) (by simp [results, Tryz.results25, go_sem]) rfl ?_
    exact ⟨by rw [HF.out], HK0.out⟩
  replace hlen : nl = il := Classical.not_not.1 hlen
  subst hlen
  have HQ2 : Hid (M = (namesOk ns && mays xs)) := Lib.hid (by rw [HQ.out, HNL.out, HIL.out]; simp)
  clear HQ
  go_enter Tryz.func25, Tryz.ntmps25
  go_wp2_with (go_at_call 42; refine (UT.out _).mono ?_; rintro e w1 ⟨rfl, rfl⟩)
  go_loopg [8] nl (fun q i wr => ∃ j : Nat, i = .int .i64 j ∧ q = nl - j ∧ j ≤ nl ∧ Hid (namesOk (ns.take j) = true) ∧ Kept (fun _ => True) w1 wr)
  case atStart => exact ⟨0, rfl, by omega, Nat.zero_le _, Lib.hid rfl, Kept.refl _ _⟩
  case round =>
    clear hW0 o0 o1 o2 o3 o4 o5 o6
    obtain ⟨j, rfl, rfl, hjl, hm, hk⟩ := hrel
    obtain ⟨o0, o1, o2, o3, o4, o5, o6⟩ := (HB1.out.kept hk trivial).facts
    have hkw := HK0.out.tr hk
    by_cases hlt : j < nl
    · have hnn := HN.out
      rw [← HNL.out] at hnn
      obtain ⟨b, off, rfl, hb, -, -, m, hm1, hc⟩ := hnn.at (j := j) (by rw [HNL.out]; exact hlt)
      replace hc := (hkw.cell hb trivial).trans hc
      have HM1 := Lib.hid hm1
      have hml : m.length ≤ 4611686018427387904 := HR.out.2.2 m (List.mem_of_getElem? hm1)
      have HV := Lib.hid (fun w => utf8_any m w hml)
      obtain ⟨V, hV⟩ : ∃ V, Lib.validD m = V := ⟨_, rfl⟩
      rw [hV] at HV
      have HVD := Lib.hid hV
      clear hm1 hml hV UT
      cases V with
      | false =>
        have HF : Hid (M = false) := Lib.hid (by rw [HQ2.out, (namesOk_next HM1.out hm.out).2 (.inl HVD.out)]; rfl)
        clear hnn
        go_wp2_with (refine (HV.out _).mono ?_; rintro e w3 ⟨rfl, rfl⟩)
        go_quiet (fail)
        go_wp2
        refine bodyPost_ret (v := .bool false) (by simp [results, Tryz.results25, go_sem]) rfl ?_
        exact ⟨by rw [HF.out], (hkw.drewN _)⟩
      | true =>
        by_cases hj0 : j = 0
        · have hjz : ¬ 0 < j := by omega
          have hdz : decide ((0 : Int) < (j : Int)) = false := decide_eq_false (by omega)
          have HNX : Hid (namesOk (ns.take (j + 1)) = true) := Lib.hid ((namesOk_next HM1.out hm.out).1 ⟨HVD.out, fun p h => absurd h hjz⟩)
          clear hj0 hnn
          go_wp2_with (refine (HV.out _).mono ?_; rintro e w3 ⟨rfl, rfl⟩)
          go_quiet (fail)
          go_wp2
          go_roundg (nl - (j + 1))
          case rel => exact ⟨j + 1, by go_num, rfl, by omega, HNX, hk.drewN _⟩
          case measure => omega
        · obtain ⟨i, rfl⟩ : ∃ i, j = i + 1 := ⟨j - 1, by omega⟩
          obtain ⟨b', off', e', -, -, -, p, hp, hcp⟩ := hnn.at (j := i) (by rw [HNL.out]; omega)
          obtain ⟨rfl, rfl⟩ : b = b' ∧ off = off' := by simpa using e'
          replace hcp := (hkw.cell hb trivial).trans hcp
          have HP := Lib.hid hp
          have hdz : decide ((0 : Int) < ((i : Int) + 1)) = true := decide_eq_true (by omega)
          clear hp e' hnn
          cases hlt2 : ltB p m with
          | false =>
            have HF : Hid (M = false) := Lib.hid (by rw [HQ2.out, (namesOk_next HM1.out hm.out).2 (.inr ⟨p, by omega, HP.out, hlt2⟩)]; rfl)
            by_cases hmp : m = p
            · have q1 : (m == p) = true := by simpa using hmp
              have q2 : Op.bytesLess m p = false := by rw [bytesLess_eq, hmp, ltB_irrefl]
              clear hlt2 hmp
              go_wp2_with (refine (HV.out _).mono ?_; rintro e w3 ⟨rfl, rfl⟩)
              go_quiet (fail)
              go_wp2
              refine bodyPost_ret (v := .bool false) (by simp [results, Tryz.results25, go_sem]) rfl ?_
              exact ⟨by rw [HF.out], (hkw.drewN _)⟩
            · have q1 : (m == p) = false := by simpa using hmp
              have q2 : Op.bytesLess m p = true := by rw [bytesLess_eq]; exact ltB_total hlt2 (fun e => hmp e.symm)
              clear hlt2 hmp
              go_wp2_with (refine (HV.out _).mono ?_; rintro e w3 ⟨rfl, rfl⟩)
              go_quiet (fail)
              go_wp2
              refine bodyPost_ret (v := .bool false) (by simp [results, Tryz.results25, go_sem]) rfl ?_
              exact ⟨by rw [HF.out], (hkw.drewN _)⟩
          | true =>
            have HNX : Hid (namesOk (ns.take (i + 1 + 1)) = true) := Lib.hid ((namesOk_next HM1.out hm.out).1 ⟨HVD.out, fun q _ hq => by
              have e := HP.out
              rw [show i + 1 - 1 = i by omega] at hq
              rw [e] at hq
              obtain rfl : p = q := by simpa using hq
              exact hlt2⟩)
            have q1 : (m == p) = false := by
              have : m ≠ p := fun e => by rw [e, ltB_irrefl] at hlt2; cases hlt2
              simpa using this
            have q2 : Op.bytesLess m p = false := by rw [bytesLess_eq]; exact ltB_asymm hlt2
            clear hlt2
            go_wp2_with (refine (HV.out _).mono ?_; rintro e w3 ⟨rfl, rfl⟩)
            go_quiet (fail)
            go_wp2
            go_roundg (nl - (i + 1 + 1))
            case rel => exact ⟨i + 1 + 1, by go_num, rfl, by omega, HNX, hk.drewN _⟩
            case measure => omega
    · obtain rfl : nl = j := by omega
      have HQ : Hid (M = mays xs) := Lib.hid (by have := hm.out; rw [List.take_of_length_le (by rw [HNL.out]; exact Nat.le_refl _)] at this; rw [HQ2.out, this]; rfl)
      clear hm HQ2
      go_wp2
      go_loopg [9] xs.length (fun q i wr2 => ∃ j : Nat, i = .int .i64 j ∧ q = xs.length - j ∧ j ≤ xs.length ∧ Hid (mays (xs.take j) = true) ∧ Kept (fun _ => True) wr wr2)
      case atStart => exact ⟨0, rfl, by omega, Nat.zero_le _, Lib.hid rfl, Kept.refl _ _⟩
      case round =>
        clear o0 o1 o2 o3 o4 o5 o6
        obtain ⟨j, rfl, rfl, hjl, hm, hk2⟩ := hrel
        obtain ⟨o0, o1, o2, o3, o4, o5, o6⟩ := (HB1.out.kept (hk.tr hk2) trivial).facts
        have hkw := HK0.out.tr (hk.tr hk2)
        have hnl := HIL.out
        by_cases hlt : j < nl
        · have hi := HI.out
          rw [← HIL.out] at hi
          obtain ⟨b, off, rfl, hb, -, -, kx, nx, tx, nax, nlx, ncx, iax, ilx, icx, e1, c0, c1, c2, c3, c4⟩ := hi.at (j := j) (by omega)
          replace c0 := (hkw.cell hb trivial).trans c0
          replace c1 := (hkw.cell hb trivial).trans c1
          replace c2 := (hkw.cell hb trivial).trans c2
          replace c3 := (hkw.cell hb trivial).trans c3
          replace c4 := (hkw.cell hb trivial).trans c4
          obtain ⟨x, hx⟩ : ∃ x, xs[j]? = some x := ⟨xs[j]'(by omega), List.getElem?_eq_getElem (by omega)⟩
          have hC := HIN.out.2 j x hx wr ((HIN.out.1 j x hx).kept hkw fun _ _ _ => trivial)
          rw [e1] at hC
          have HC := Lib.hid hC
          have HX := Lib.hid hx
          clear e1 hC hx hi hnl
          cases hmx : mayP x with
          | false =>
            have HF : Hid (M = false) := Lib.hid (by rw [HQ.out, mays_false HX.out hmx])
            rw [hmx] at HC
            clear hmx hm
            go_wp2_with (refine HC.out.mono ?_; rintro e w2 ⟨rfl, hk3⟩)
            refine bodyPost_ret (v := .bool false) (by simp [results, Tryz.results25, go_sem]) rfl ?_
            exact ⟨by rw [HF.out], hkw.tr hk3⟩
          | true =>
            have HNX : Hid (mays (xs.take (j + 1)) = true) := Lib.hid (by rw [mays_take HX.out hm.out, hmx])
            rw [hmx] at HC
            clear hmx hm
            go_wp2_with (refine HC.out.mono ?_; rintro e w2 ⟨rfl, hk3⟩)
            go_roundg (xs.length - (j + 1))
            case rel => exact ⟨j + 1, by go_num, rfl, by have := HIL.out; omega, HNX, hk2.tr hk3⟩
            case measure => have := HIL.out; omega
        · obtain rfl : j = nl := by omega
          have HF : Hid (M = true) := Lib.hid (by have := hm.out; rw [List.take_of_length_le (by omega)] at this; rw [HQ.out, this])
          clear hm hnl
          go_wp2
          refine bodyPost_ret (v := .bool true) (by simp [results, Tryz.results25, go_sem]) rfl ?_
          exact ⟨by rw [HF.out], hkw⟩

set_option maxHeartbeats 8000000 in
set_option maxRecDepth 100000 in
theorem may_low (k : Int) (n : Int) (t : List UInt8) (ns : List (List UInt8)) (xs : List J) (na ia : Option Addr) (nc ic : Nat) (us : Nat → Value) (w : World) (hk : k < 0) (hr : Rng k n t ns xs.length) (hn : RowS (fun _ => True) w (.slice na ns.length nc) ns) (hi : RowJ (fun _ => True) w (.slice ia xs.length ic) xs.length us)
    (hin : ∀ (j : Nat) x, xs[j]? = some x → JIn (fun _ => True) w x (us j)) (hih : ∀ (j : Nat) x, xs[j]? = some x → MayC (us j) x) (_hnl0 : ns.length ≤ 1000000) (_hl0 : xs.length ≤ 1000000) (htl : t.length ≤ 4611686018427387904) (hnm : ∀ l ∈ ns, l.length ≤ 4611686018427387904) :
    Calls Tryz.prog 25 #[jotV k n t (.slice na ns.length nc) (.slice ia xs.length ic)] w (MayQ (mayP (.mk k n t ns xs)) w) := by
  obtain ⟨M, hM⟩ : ∃ M, mayP (.mk k n t ns xs) = M := ⟨_, rfl⟩
  have HMM := Lib.hid hM
  rw [hM]
  obtain ⟨nl, hnl⟩ : ∃ y, ns.length = y := ⟨_, rfl⟩
  obtain ⟨il, hil⟩ : ∃ y, xs.length = y := ⟨_, rfl⟩
  rw [hnl] at hn ⊢
  rw [hil] at hi ⊢
  obtain ⟨W0, hW0⟩ : ∃ W0, w.alloc (.cells #[.int .i64 k, .int .i64 n, S t, .slice na nl nc, .slice ia il ic] 25) = W0 := ⟨_, rfl⟩
  have hk0 : Kept (fun _ => True) w W0 := by rw [← hW0]; exact (Kept.refl _ w).alloc _
  have hbox : OutAt w.heap.size k n t (.slice na nl nc) (.slice ia il ic) W0 := by rw [← hW0]; exact OutAt.new w k n t _ _
  obtain ⟨o0, o1, o2, o3, o4, o5, o6⟩ := hbox.facts
  have HB1 := Lib.hid hbox
  have HR := Lib.hid (And.intro hr (And.intro htl hnm))
  have HN := Lib.hid hn
  have HI := Lib.hid hi
  have HIN := Lib.hid (And.intro hin hih)
  have HNL := Lib.hid hnl
  have HIL := Lib.hid hil
  have HK0 := Lib.hid hk0
  clear hr hn hi hin hih hbox hM hnl hil hk0 htl hnm
  have HF : Hid (M = false) := Lib.hid (by rw [← HMM.out]; simp only [mayP]; rw [if_neg (by omega), if_neg (by omega), if_neg (by omega), if_neg (by omega), if_neg (by omega)])
  have q3 : (k == 3) = false := by simp; omega
  have q4 : (k == 4) = false := by simp; omega
  have q5 : (k == 5) = false := by simp; omega
  have q6 : (k == 6) = false := by simp; omega
  go_enter Tryz.func25, Tryz.ntmps25
  go_wp2
  refine bodyPost_ret (v := .bool false) (by simp [results, Tryz.results25, go_sem]) rfl ?_
  exact ⟨by rw [HF.out], HK0.out⟩

set_option maxHeartbeats 8000000 in
set_option maxRecDepth 100000 in
theorem may_high (k : Int) (n : Int) (t : List UInt8) (ns : List (List UInt8)) (xs : List J) (na ia : Option Addr) (nc ic : Nat) (us : Nat → Value) (w : World) (hk : 6 < k) (hr : Rng k n t ns xs.length) (hn : RowS (fun _ => True) w (.slice na ns.length nc) ns) (hi : RowJ (fun _ => True) w (.slice ia xs.length ic) xs.length us)
    (hin : ∀ (j : Nat) x, xs[j]? = some x → JIn (fun _ => True) w x (us j)) (hih : ∀ (j : Nat) x, xs[j]? = some x → MayC (us j) x) (_hnl0 : ns.length ≤ 1000000) (_hl0 : xs.length ≤ 1000000) (htl : t.length ≤ 4611686018427387904) (hnm : ∀ l ∈ ns, l.length ≤ 4611686018427387904) :
    Calls Tryz.prog 25 #[jotV k n t (.slice na ns.length nc) (.slice ia xs.length ic)] w (MayQ (mayP (.mk k n t ns xs)) w) := by
  obtain ⟨M, hM⟩ : ∃ M, mayP (.mk k n t ns xs) = M := ⟨_, rfl⟩
  have HMM := Lib.hid hM
  rw [hM]
  obtain ⟨nl, hnl⟩ : ∃ y, ns.length = y := ⟨_, rfl⟩
  obtain ⟨il, hil⟩ : ∃ y, xs.length = y := ⟨_, rfl⟩
  rw [hnl] at hn ⊢
  rw [hil] at hi ⊢
  obtain ⟨W0, hW0⟩ : ∃ W0, w.alloc (.cells #[.int .i64 k, .int .i64 n, S t, .slice na nl nc, .slice ia il ic] 25) = W0 := ⟨_, rfl⟩
  have hk0 : Kept (fun _ => True) w W0 := by rw [← hW0]; exact (Kept.refl _ w).alloc _
  have hbox : OutAt w.heap.size k n t (.slice na nl nc) (.slice ia il ic) W0 := by rw [← hW0]; exact OutAt.new w k n t _ _
  obtain ⟨o0, o1, o2, o3, o4, o5, o6⟩ := hbox.facts
  have HB1 := Lib.hid hbox
  have HR := Lib.hid (And.intro hr (And.intro htl hnm))
  have HN := Lib.hid hn
  have HI := Lib.hid hi
  have HIN := Lib.hid (And.intro hin hih)
  have HNL := Lib.hid hnl
  have HIL := Lib.hid hil
  have HK0 := Lib.hid hk0
  clear hr hn hi hin hih hbox hM hnl hil hk0 htl hnm
  have HF : Hid (M = false) := Lib.hid (by rw [← HMM.out]; simp only [mayP]; rw [if_neg (by omega), if_neg (by omega), if_neg (by omega), if_neg (by omega), if_neg (by omega)])
  have q3 : (k == 3) = false := by simp; omega
  have q4 : (k == 4) = false := by simp; omega
  have q5 : (k == 5) = false := by simp; omega
  have q6 : (k == 6) = false := by simp; omega
  go_enter Tryz.func25, Tryz.ntmps25
  go_wp2
  refine bodyPost_ret (v := .bool false) (by simp [results, Tryz.results25, go_sem]) rfl ?_
  exact ⟨by rw [HF.out], HK0.out⟩


theorem may_any : ∀ x : J, Few 1000000 x → Short9 x → ∀ v, MayC v x := by
  refine J.ind fun k n t ns xs IH => ?_
  intro hf hs v w hx
  obtain ⟨na, nc, ia, ic, us, rfl, hr, hn, hi, h⟩ := hx.invM
  obtain ⟨hf1, hf2, hf3⟩ := hf.inv
  obtain ⟨hs1, hs2, hs3⟩ := hs.inv
  simp only [J.names, J.items, J.text] at hf1 hf2 hf3 hs1 hs2 hs3
  have hih : ∀ (j : Nat) x, xs[j]? = some x → MayC (us j) x := fun j x hx => IH x (List.mem_of_getElem? hx) (hf3 j x hx) (hs3 j x hx) (us j)
  by_cases hlo : k < 0
  · exact may_low k n t ns xs na ia nc ic us w hlo hr hn hi h hih hf1 hf2 hs1 hs2
  by_cases hhi : 6 < k
  · exact may_high k n t ns xs na ia nc ic us w hhi hr hn hi h hih hf1 hf2 hs1 hs2
  rcases (by omega : k = 0 ∨ k = 1 ∨ k = 2 ∨ k = 3 ∨ k = 4 ∨ k = 5 ∨ k = 6) with rfl | rfl | rfl | rfl | rfl | rfl | rfl
  · exact may_null n t ns xs na ia nc ic us w hr hn hi h hih hf1 hf2 hs1 hs2
  · exact may_fls n t ns xs na ia nc ic us w hr hn hi h hih hf1 hf2 hs1 hs2
  · exact may_tru n t ns xs na ia nc ic us w hr hn hi h hih hf1 hf2 hs1 hs2
  · exact may_nr n t ns xs na ia nc ic us w hr hn hi h hih hf1 hf2 hs1 hs2
  · exact may_tx n t ns xs na ia nc ic us w hr hn hi h hih hf1 hf2 hs1 hs2
  · exact may_list n t ns xs na ia nc ic us w hr hn hi h hih hf1 hf2 hs1 hs2
  · exact may_obj n t ns xs na ia nc ic us w hr hn hi h hih hf1 hf2 hs1 hs2
end Go.Proofs.YtmajpambfblhnaaGreatDoor
