/- Walks of jot's Print (layer 4), whole. -/
import Derived.Test.YtmajpambfblhnaaGreatDoorJoQ4
import Derived.Deep.RegionHeld3
namespace Go.Proofs.YtmajpambfblhnaaGreatDoor
open Go.RowKit Jo Go.Shelf

theorem may_bare (k : Int) (hk : k = 0 ∨ k = 1 ∨ k = 2) (n : Int) (t : List UInt8) (ns : List (List UInt8)) (xs : List J) : mayP (.mk k n t ns xs) = bareP false false false false n t ns.length xs.length := by
  have h1 : (ns == []) = ((ns.length : Int) == 0) := by cases ns <;> simp; omega
  have h2 : xs.isEmpty = ((xs.length : Int) == 0) := by cases xs <;> simp; omega
  simp only [mayP, bareP, if_pos hk, h1, h2, Bool.false_or]
theorem may_leaf (k : Int) (hk : k = 0 ∨ k = 1 ∨ k = 2) {n : Int} {t : List UInt8} {ns : List (List UInt8)} {xs : List J} (h : mayP (.mk k n t ns xs) = true) : J.mk k n t ns xs = .mk k 0 [] [] [] := by
  simp only [mayP, if_pos hk] at h
  simp at h
  obtain ⟨⟨⟨rfl, rfl⟩, rfl⟩, rfl⟩ := h
  rfl

set_option maxHeartbeats 8000000 in
set_option maxRecDepth 100000 in
theorem inside_null (n : Int) (t : List UInt8) (ns : List (List UInt8)) (xs : List J) (na ia : Option Addr) (nc ic : Nat) (us : Nat → Value) (w : World) (hE : JE w.heap.size w) (hr : Rng 0 n t ns xs.length) (hn : RowS (fun _ => True) w (.slice na ns.length nc) ns) (hi : RowJ (fun _ => True) w (.slice ia xs.length ic) xs.length us)
    (hin : ∀ (j : Nat) x, xs[j]? = some x → JIn (fun _ => True) w x (us j)) (hih : ∀ (j : Nat) x, xs[j]? = some x → InsideC (us j) x) (_hl : xs.length ≤ 1000000) :
    Calls Tryz.prog 30 #[jotV 0 n t (.slice na ns.length nc) (.slice ia xs.length ic)] w (InQ (.mk 0 n t ns xs) w) := by
  obtain ⟨M, hM⟩ : ∃ M, mayP (.mk 0 n t ns xs) = M := ⟨_, rfl⟩
  have HMM := Lib.hid hM
  obtain ⟨W0, hW0⟩ : ∃ W0, w.alloc (.cells #[.int .i64 0, .int .i64 n, S t, .slice na ns.length nc, .slice ia xs.length ic] 25) = W0 := ⟨_, rfl⟩
  have hk0 : Kept (fun _ => True) w W0 := by rw [← hW0]; exact (Kept.refl _ w).alloc _
  have hz0 : W0.heap.size = w.heap.size + 1 := by rw [← hW0]; simp
  have hbox : OutAt w.heap.size 0 n t (.slice na ns.length nc) (.slice ia xs.length ic) W0 := by rw [← hW0]; exact OutAt.new w 0 n t _ _
  have hbox1 : ∀ w', Kept (fun _ => True) W0 w' → OutAt w.heap.size 0 n t (.slice na ns.length nc) (.slice ia xs.length ic) w' := fun w' hk => hbox.kept hk trivial
  obtain ⟨o0, o1, o2, o3, o4, o5, o6⟩ := hbox.facts
  have HW0 := Lib.hid hW0
  have HB1 := Lib.hid hbox1
  have HR := Lib.hid hr
  have HE := Lib.hid hE
  have HN := Lib.hid hn
  have HI := Lib.hid hi
  have HIN := Lib.hid (And.intro hin hih)
  clear hr hE hn hi hin hih hW0 hbox hbox1 hM
  obtain ⟨q, hq⟩ : ∃ q, bareP false false false false n t ns.length xs.length = q := ⟨_, rfl⟩
  have HQ : Hid (M = q) := Lib.hid (by rw [← HMM.out, ← hq]; exact may_bare 0 (by simp) n t ns xs)
  have BA := Lib.hid (fun w => bare_any false false false false 0 n t na ia ns.length nc xs.length ic w)
  rw [hq] at BA
  clear hq
  go_enter Tryz.func30, Tryz.ntmps30
  go_wp2_with fail
  rw [HW0.out]
  refine (BA.out _).mono ?_
  rintro e w2 ⟨rfl, hk2⟩
  go_wp2
  refine bodyPost_ret (v := .tuple #[.iface 81 (.agg #[]), .bool q]) (by simp [results, Tryz.results30, go_sem]) rfl ?_
  exact ⟨⟨_, by rw [HMM.out, HQ.out], fun h => by rw [may_leaf 0 (by simp) h]; exact .null⟩, hk0.tr hk2⟩
set_option maxHeartbeats 8000000 in
set_option maxRecDepth 100000 in
theorem inside_fls (n : Int) (t : List UInt8) (ns : List (List UInt8)) (xs : List J) (na ia : Option Addr) (nc ic : Nat) (us : Nat → Value) (w : World) (hE : JE w.heap.size w) (hr : Rng 1 n t ns xs.length) (hn : RowS (fun _ => True) w (.slice na ns.length nc) ns) (hi : RowJ (fun _ => True) w (.slice ia xs.length ic) xs.length us)
    (hin : ∀ (j : Nat) x, xs[j]? = some x → JIn (fun _ => True) w x (us j)) (hih : ∀ (j : Nat) x, xs[j]? = some x → InsideC (us j) x) (_hl : xs.length ≤ 1000000) :
    Calls Tryz.prog 30 #[jotV 1 n t (.slice na ns.length nc) (.slice ia xs.length ic)] w (InQ (.mk 1 n t ns xs) w) := by
  obtain ⟨M, hM⟩ : ∃ M, mayP (.mk 1 n t ns xs) = M := ⟨_, rfl⟩
  have HMM := Lib.hid hM
  obtain ⟨W0, hW0⟩ : ∃ W0, w.alloc (.cells #[.int .i64 1, .int .i64 n, S t, .slice na ns.length nc, .slice ia xs.length ic] 25) = W0 := ⟨_, rfl⟩
  have hk0 : Kept (fun _ => True) w W0 := by rw [← hW0]; exact (Kept.refl _ w).alloc _
  have hz0 : W0.heap.size = w.heap.size + 1 := by rw [← hW0]; simp
  have hbox : OutAt w.heap.size 1 n t (.slice na ns.length nc) (.slice ia xs.length ic) W0 := by rw [← hW0]; exact OutAt.new w 1 n t _ _
  have hbox1 : ∀ w', Kept (fun _ => True) W0 w' → OutAt w.heap.size 1 n t (.slice na ns.length nc) (.slice ia xs.length ic) w' := fun w' hk => hbox.kept hk trivial
  obtain ⟨o0, o1, o2, o3, o4, o5, o6⟩ := hbox.facts
  have HW0 := Lib.hid hW0
  have HB1 := Lib.hid hbox1
  have HR := Lib.hid hr
  have HE := Lib.hid hE
  have HN := Lib.hid hn
  have HI := Lib.hid hi
  have HIN := Lib.hid (And.intro hin hih)
  clear hr hE hn hi hin hih hW0 hbox hbox1 hM
  obtain ⟨q, hq⟩ : ∃ q, bareP false false false false n t ns.length xs.length = q := ⟨_, rfl⟩
  have HQ : Hid (M = q) := Lib.hid (by rw [← HMM.out, ← hq]; exact may_bare 1 (by simp) n t ns xs)
  have BA := Lib.hid (fun w => bare_any false false false false 1 n t na ia ns.length nc xs.length ic w)
  rw [hq] at BA
  clear hq
  go_enter Tryz.func30, Tryz.ntmps30
  go_wp2_with fail
  rw [HW0.out]
  first | (go_region_held3 (fun wz => wz.cell? ⟨w.heap.size, 0, none⟩ = some (.int .i64 1) ∧ wz.cell? ⟨w.heap.size, 1, none⟩ = some (.int .i64 n) ∧ wz.cell? ⟨w.heap.size, 2, none⟩ = some (S t) ∧ wz.cell? ⟨w.heap.size, 3, none⟩ = some (.slice na ns.length nc) ∧ wz.cell? ⟨w.heap.size, 4, none⟩ = some (.slice ia xs.length ic)) (go_keep)
    (first
      | (go_at_call 49; (with_reducible refine (BA.out _).mono ?_); rintro e w2 ⟨rfl, hk2⟩
         have y0 := hk2.drewCell o0
         have y1 := hk2.drewCell o1
         have y2 := hk2.drewCell o2
         have y3 := hk2.drewCell o3
         have y4 := hk2.drewCell o4))) | fail
  have HK2 : Hid (Kept (fun _ => True) W0 w2) := Lib.hid (((Kept.refl _ W0).drew).tr hk2)
  clear hk2
  go_wp2
  refine bodyPost_ret (v := .tuple #[.iface 83 (.bool false), .bool q]) (by simp [results, Tryz.results30, go_sem]) rfl ?_
  exact ⟨⟨_, by rw [HMM.out, HQ.out], fun h => by rw [may_leaf 1 (by simp) h]; exact .fls⟩, hk0.tr HK2.out⟩
set_option maxHeartbeats 8000000 in
set_option maxRecDepth 100000 in
theorem inside_tru (n : Int) (t : List UInt8) (ns : List (List UInt8)) (xs : List J) (na ia : Option Addr) (nc ic : Nat) (us : Nat → Value) (w : World) (hE : JE w.heap.size w) (hr : Rng 2 n t ns xs.length) (hn : RowS (fun _ => True) w (.slice na ns.length nc) ns) (hi : RowJ (fun _ => True) w (.slice ia xs.length ic) xs.length us)
    (hin : ∀ (j : Nat) x, xs[j]? = some x → JIn (fun _ => True) w x (us j)) (hih : ∀ (j : Nat) x, xs[j]? = some x → InsideC (us j) x) (_hl : xs.length ≤ 1000000) :
    Calls Tryz.prog 30 #[jotV 2 n t (.slice na ns.length nc) (.slice ia xs.length ic)] w (InQ (.mk 2 n t ns xs) w) := by
  obtain ⟨M, hM⟩ : ∃ M, mayP (.mk 2 n t ns xs) = M := ⟨_, rfl⟩
  have HMM := Lib.hid hM
  obtain ⟨W0, hW0⟩ : ∃ W0, w.alloc (.cells #[.int .i64 2, .int .i64 n, S t, .slice na ns.length nc, .slice ia xs.length ic] 25) = W0 := ⟨_, rfl⟩
  have hk0 : Kept (fun _ => True) w W0 := by rw [← hW0]; exact (Kept.refl _ w).alloc _
  have hz0 : W0.heap.size = w.heap.size + 1 := by rw [← hW0]; simp
  have hbox : OutAt w.heap.size 2 n t (.slice na ns.length nc) (.slice ia xs.length ic) W0 := by rw [← hW0]; exact OutAt.new w 2 n t _ _
  have hbox1 : ∀ w', Kept (fun _ => True) W0 w' → OutAt w.heap.size 2 n t (.slice na ns.length nc) (.slice ia xs.length ic) w' := fun w' hk => hbox.kept hk trivial
  obtain ⟨o0, o1, o2, o3, o4, o5, o6⟩ := hbox.facts
  have HW0 := Lib.hid hW0
  have HB1 := Lib.hid hbox1
  have HR := Lib.hid hr
  have HE := Lib.hid hE
  have HN := Lib.hid hn
  have HI := Lib.hid hi
  have HIN := Lib.hid (And.intro hin hih)
  clear hr hE hn hi hin hih hW0 hbox hbox1 hM
  obtain ⟨q, hq⟩ : ∃ q, bareP false false false false n t ns.length xs.length = q := ⟨_, rfl⟩
  have HQ : Hid (M = q) := Lib.hid (by rw [← HMM.out, ← hq]; exact may_bare 2 (by simp) n t ns xs)
  have BA := Lib.hid (fun w => bare_any false false false false 2 n t na ia ns.length nc xs.length ic w)
  rw [hq] at BA
  clear hq
  go_enter Tryz.func30, Tryz.ntmps30
  go_wp2_with fail
  rw [HW0.out]
  first | (go_region_held3 (fun wz => wz.cell? ⟨w.heap.size, 0, none⟩ = some (.int .i64 2) ∧ wz.cell? ⟨w.heap.size, 1, none⟩ = some (.int .i64 n) ∧ wz.cell? ⟨w.heap.size, 2, none⟩ = some (S t) ∧ wz.cell? ⟨w.heap.size, 3, none⟩ = some (.slice na ns.length nc) ∧ wz.cell? ⟨w.heap.size, 4, none⟩ = some (.slice ia xs.length ic)) (go_keep)
    (first
      | (go_at_call 49; (with_reducible refine (BA.out _).mono ?_); rintro e w2 ⟨rfl, hk2⟩
         have y0 := hk2.drewCell o0
         have y1 := hk2.drewCell o1
         have y2 := hk2.drewCell o2
         have y3 := hk2.drewCell o3
         have y4 := hk2.drewCell o4))) | fail
  have HK2 : Hid (Kept (fun _ => True) W0 w2) := Lib.hid (((Kept.refl _ W0).drew).tr hk2)
  clear hk2
  go_wp2
  refine bodyPost_ret (v := .tuple #[.iface 83 (.bool true), .bool q]) (by simp [results, Tryz.results30, go_sem]) rfl ?_
  exact ⟨⟨_, by rw [HMM.out, HQ.out], fun h => by rw [may_leaf 2 (by simp) h]; exact .tru⟩, hk0.tr HK2.out⟩
set_option maxHeartbeats 8000000 in
set_option maxRecDepth 100000 in
theorem inside_nr (n : Int) (t : List UInt8) (ns : List (List UInt8)) (xs : List J) (na ia : Option Addr) (nc ic : Nat) (us : Nat → Value) (w : World) (hE : JE w.heap.size w) (hr : Rng 3 n t ns xs.length) (hn : RowS (fun _ => True) w (.slice na ns.length nc) ns) (hi : RowJ (fun _ => True) w (.slice ia xs.length ic) xs.length us)
    (hin : ∀ (j : Nat) x, xs[j]? = some x → JIn (fun _ => True) w x (us j)) (hih : ∀ (j : Nat) x, xs[j]? = some x → InsideC (us j) x) (hl : xs.length ≤ 1000000) :
    Calls Tryz.prog 30 #[jotV 3 n t (.slice na ns.length nc) (.slice ia xs.length ic)] w (InQ (.mk 3 n t ns xs) w) := by
  obtain ⟨M, hM⟩ : ∃ M, mayP (.mk 3 n t ns xs) = M := ⟨_, rfl⟩
  have HMM := Lib.hid hM
  obtain ⟨W0, hW0⟩ : ∃ W0, w.alloc (.cells #[.int .i64 3, .int .i64 n, S t, .slice na ns.length nc, .slice ia xs.length ic] 25) = W0 := ⟨_, rfl⟩
  have hk0 : Kept (fun _ => True) w W0 := by rw [← hW0]; exact (Kept.refl _ w).alloc _
  have hz0 : W0.heap.size = w.heap.size + 1 := by rw [← hW0]; simp
  have hbox : OutAt w.heap.size 3 n t (.slice na ns.length nc) (.slice ia xs.length ic) W0 := by rw [← hW0]; exact OutAt.new w 3 n t _ _
  have hbox1 : ∀ w', Kept (fun _ => True) W0 w' → OutAt w.heap.size 3 n t (.slice na ns.length nc) (.slice ia xs.length ic) w' := fun w' hk => hbox.kept hk trivial
  obtain ⟨o0, o1, o2, o3, o4, o5, o6⟩ := hbox.facts
  have HW0 := Lib.hid hW0
  have HB1 := Lib.hid hbox1
  have HR := Lib.hid hr
  have HE := Lib.hid hE
  have HN := Lib.hid hn
  have HI := Lib.hid hi
  have HIN := Lib.hid (And.intro hin hih)
  clear hr hE hn hi hin hih hW0 hbox hbox1 hM
  obtain ⟨q, hq⟩ : ∃ q, bareP true false false false n t ns.length xs.length = q := ⟨_, rfl⟩
  have HQ : Hid (M = (q && (decide (-9007199254740991 ≤ n) && decide (n ≤ 9007199254740991)))) := Lib.hid (by
    rw [← HMM.out, ← hq]
    have h1 : (ns == []) = ((ns.length : Int) == 0) := by cases ns <;> simp; omega
    have h2 : xs.isEmpty = ((xs.length : Int) == 0) := by cases xs <;> simp; omega
    simp [mayP, bareP, h1, h2, Bool.and_assoc])
  have HX : Hid (M = true → J.mk 3 n t ns xs = J.nr n) := Lib.hid (fun h => by
    have h := HMM.out.trans h
    simp [mayP] at h
    obtain ⟨⟨⟨⟨rfl, rfl⟩, rfl⟩, _⟩, _⟩ := h
    rfl)
  have BA := Lib.hid (fun w => bare_any true false false false 3 n t na ia ns.length nc xs.length ic w)
  rw [hq] at BA
  clear hq
  cases q with
  | false =>
    have HF : Hid (M = false) := Lib.hid (by rw [HQ.out]; simp; try omega)
    go_enter Tryz.func30, Tryz.ntmps30
    go_wp2_with fail
    rw [HW0.out]
    first | (go_region_with (go_at_call 49; refine (BA.out _).mono ?_; rintro e w2 ⟨rfl, hk2⟩; have y0 := hk2.drewCell o0; have y1 := hk2.drewCell o1; have y2 := hk2.drewCell o2; have y3 := hk2.drewCell o3; have y4 := hk2.drewCell o4)) | fail
    all_goals
      have HK2 : Hid (Kept (fun _ => True) W0 w2) := Lib.hid (((Kept.refl _ W0).drew).tr hk2)
      clear hk2
      go_wp2
      refine bodyPost_ret (v := .tuple #[.iface 84 (.int .i64 n), .bool false]) (by simp [results, Tryz.results30, go_sem]) rfl ?_
      exact ⟨⟨_, by rw [HMM.out, HF.out], fun h => by rw [HX.out (HMM.out.symm.trans h)]; exact .nr n⟩, hk0.tr HK2.out⟩
  | true =>
    by_cases h1 : -9007199254740991 ≤ n
    · by_cases h2 : n ≤ 9007199254740991
      · have d1 : decide (-9007199254740991 ≤ n) = true := by simpa using h1
        have d2 : decide (n ≤ 9007199254740991) = true := by simpa using h2
        have HF : Hid (M = true) := Lib.hid (by rw [HQ.out]; simp; try omega)
        go_enter Tryz.func30, Tryz.ntmps30
        go_wp2_with fail
        rw [HW0.out]
        first | (go_region_held3 (fun wz => wz.cell? ⟨w.heap.size, 0, none⟩ = some (.int .i64 3) ∧ wz.cell? ⟨w.heap.size, 1, none⟩ = some (.int .i64 n) ∧ wz.cell? ⟨w.heap.size, 2, none⟩ = some (S t) ∧ wz.cell? ⟨w.heap.size, 3, none⟩ = some (.slice na ns.length nc) ∧ wz.cell? ⟨w.heap.size, 4, none⟩ = some (.slice ia xs.length ic)) (go_keep)
          (first
            | (go_at_call 49; (with_reducible refine (BA.out _).mono ?_); rintro e w2 ⟨rfl, hk2⟩
               have y0 := hk2.drewCell o0
               have y1 := hk2.drewCell o1
               have y2 := hk2.drewCell o2
               have y3 := hk2.drewCell o3
               have y4 := hk2.drewCell o4))) | fail
        have HK2 : Hid (Kept (fun _ => True) W0 w2) := Lib.hid (((Kept.refl _ W0).drew).tr hk2)
        clear hk2
        go_wp2
        refine bodyPost_ret (v := .tuple #[.iface 84 (.int .i64 n), .bool true]) (by simp [results, Tryz.results30, go_sem]) rfl ?_
        exact ⟨⟨_, by rw [HMM.out, HF.out], fun h => by rw [HX.out (HMM.out.symm.trans h)]; exact .nr n⟩, hk0.tr HK2.out⟩
      · have d1 : decide (-9007199254740991 ≤ n) = true := by simpa using h1
        have d2 : decide (n ≤ 9007199254740991) = false := by simpa using h2
        have HF : Hid (M = false) := Lib.hid (by rw [HQ.out]; simp; try omega)
        go_enter Tryz.func30, Tryz.ntmps30
        go_wp2_with fail
        rw [HW0.out]
        first | (go_region_held3 (fun wz => wz.cell? ⟨w.heap.size, 0, none⟩ = some (.int .i64 3) ∧ wz.cell? ⟨w.heap.size, 1, none⟩ = some (.int .i64 n) ∧ wz.cell? ⟨w.heap.size, 2, none⟩ = some (S t) ∧ wz.cell? ⟨w.heap.size, 3, none⟩ = some (.slice na ns.length nc) ∧ wz.cell? ⟨w.heap.size, 4, none⟩ = some (.slice ia xs.length ic)) (go_keep)
          (first
            | (go_at_call 49; (with_reducible refine (BA.out _).mono ?_); rintro e w2 ⟨rfl, hk2⟩
               have y0 := hk2.drewCell o0
               have y1 := hk2.drewCell o1
               have y2 := hk2.drewCell o2
               have y3 := hk2.drewCell o3
               have y4 := hk2.drewCell o4))) | fail
        have HK2 : Hid (Kept (fun _ => True) W0 w2) := Lib.hid (((Kept.refl _ W0).drew).tr hk2)
        clear hk2
        go_wp2
        refine bodyPost_ret (v := .tuple #[.iface 84 (.int .i64 n), .bool false]) (by simp [results, Tryz.results30, go_sem]) rfl ?_
        exact ⟨⟨_, by rw [HMM.out, HF.out], fun h => by rw [HX.out (HMM.out.symm.trans h)]; exact .nr n⟩, hk0.tr HK2.out⟩
    · have d1 : decide (-9007199254740991 ≤ n) = false := by simpa using h1
      have HF : Hid (M = false) := Lib.hid (by rw [HQ.out]; simp; try omega)
      go_enter Tryz.func30, Tryz.ntmps30
      go_wp2_with fail
      rw [HW0.out]
      first | (go_region_with (go_at_call 49; refine (BA.out _).mono ?_; rintro e w2 ⟨rfl, hk2⟩; have y0 := hk2.drewCell o0; have y1 := hk2.drewCell o1; have y2 := hk2.drewCell o2; have y3 := hk2.drewCell o3; have y4 := hk2.drewCell o4)) | fail
      all_goals
        have HK2 : Hid (Kept (fun _ => True) W0 w2) := Lib.hid (((Kept.refl _ W0).drew).tr hk2)
        clear hk2
        go_wp2
        refine bodyPost_ret (v := .tuple #[.iface 84 (.int .i64 n), .bool false]) (by simp [results, Tryz.results30, go_sem]) rfl ?_
        exact ⟨⟨_, by rw [HMM.out, HF.out], fun h => by rw [HX.out (HMM.out.symm.trans h)]; exact .nr n⟩, hk0.tr HK2.out⟩
set_option maxHeartbeats 8000000 in
set_option maxRecDepth 100000 in
theorem inside_tx (n : Int) (t : List UInt8) (ns : List (List UInt8)) (xs : List J) (na ia : Option Addr) (nc ic : Nat) (us : Nat → Value) (w : World) (hE : JE w.heap.size w) (hr : Rng 4 n t ns xs.length) (hn : RowS (fun _ => True) w (.slice na ns.length nc) ns) (hi : RowJ (fun _ => True) w (.slice ia xs.length ic) xs.length us)
    (hin : ∀ (j : Nat) x, xs[j]? = some x → JIn (fun _ => True) w x (us j)) (hih : ∀ (j : Nat) x, xs[j]? = some x → InsideC (us j) x) (hl : xs.length ≤ 1000000) :
    Calls Tryz.prog 30 #[jotV 4 n t (.slice na ns.length nc) (.slice ia xs.length ic)] w (InQ (.mk 4 n t ns xs) w) := by
  obtain ⟨M, hM⟩ : ∃ M, mayP (.mk 4 n t ns xs) = M := ⟨_, rfl⟩
  have HMM := Lib.hid hM
  obtain ⟨W0, hW0⟩ : ∃ W0, w.alloc (.cells #[.int .i64 4, .int .i64 n, S t, .slice na ns.length nc, .slice ia xs.length ic] 25) = W0 := ⟨_, rfl⟩
  have hk0 : Kept (fun _ => True) w W0 := by rw [← hW0]; exact (Kept.refl _ w).alloc _
  have hz0 : W0.heap.size = w.heap.size + 1 := by rw [← hW0]; simp
  have hbox : OutAt w.heap.size 4 n t (.slice na ns.length nc) (.slice ia xs.length ic) W0 := by rw [← hW0]; exact OutAt.new w 4 n t _ _
  have hbox1 : ∀ w', Kept (fun _ => True) W0 w' → OutAt w.heap.size 4 n t (.slice na ns.length nc) (.slice ia xs.length ic) w' := fun w' hk => hbox.kept hk trivial
  obtain ⟨o0, o1, o2, o3, o4, o5, o6⟩ := hbox.facts
  have HW0 := Lib.hid hW0
  have HB1 := Lib.hid hbox1
  have HR := Lib.hid hr
  have HE := Lib.hid hE
  have HN := Lib.hid hn
  have HI := Lib.hid hi
  have HIN := Lib.hid (And.intro hin hih)
  clear hr hE hn hi hin hih hW0 hbox hbox1 hM
  obtain ⟨q, hq⟩ : ∃ q, bareP false true false false n t ns.length xs.length = q := ⟨_, rfl⟩
  have HQ : Hid (M = (q && Lib.validD t)) := Lib.hid (by
    rw [← HMM.out, ← hq]
    have h1 : (ns == []) = ((ns.length : Int) == 0) := by cases ns <;> simp; omega
    have h2 : xs.isEmpty = ((xs.length : Int) == 0) := by cases xs <;> simp; omega
    simp [mayP, bareP, h1, h2, Bool.and_assoc])
  have HX : Hid (M = true → J.mk 4 n t ns xs = J.tx t) := Lib.hid (fun h => by
    have h := HMM.out.trans h
    simp [mayP] at h
    obtain ⟨⟨⟨rfl, rfl⟩, rfl⟩, _⟩ := h
    rfl)
  have HV := Lib.hid (fun w' (hk : Kept (fun _ => True) W0 w') => valid_any t w' HR.out.2.2.2.2.1 (HE.out.kept (hk0.tr hk) fun _ _ => trivial).u8)
  have BA := Lib.hid (fun w => bare_any false true false false 4 n t na ia ns.length nc xs.length ic w)
  rw [hq] at BA
  clear hq
  cases q with
  | false =>
    have HF : Hid (M = false) := Lib.hid (by rw [HQ.out]; simp; try omega)
    go_enter Tryz.func30, Tryz.ntmps30
    go_wp2_with fail
    rw [HW0.out]
    first | (go_region_with (go_at_call 49; refine (BA.out _).mono ?_; rintro e w2 ⟨rfl, hk2⟩; have y0 := hk2.drewCell o0; have y1 := hk2.drewCell o1; have y2 := hk2.drewCell o2; have y3 := hk2.drewCell o3; have y4 := hk2.drewCell o4)) | fail
    all_goals
      have HK2 : Hid (Kept (fun _ => True) W0 w2) := Lib.hid (((Kept.refl _ W0).drew).tr hk2)
      clear hk2
      go_wp2
      refine bodyPost_ret (v := .tuple #[.iface 85 (S t), .bool false]) (by simp [results, Tryz.results30, go_sem]) rfl ?_
      exact ⟨⟨_, by rw [HMM.out, HF.out], fun h => by rw [HX.out (HMM.out.symm.trans h)]; exact .tx t⟩, hk0.tr HK2.out⟩
  | true =>
    obtain ⟨q2, hq2⟩ : ∃ q2, Lib.validD t = q2 := ⟨_, rfl⟩
    have HF : Hid (M = q2) := Lib.hid (by rw [HQ.out, hq2]; rfl)
    rw [hq2] at HV
    clear hq2
    go_enter Tryz.func30, Tryz.ntmps30
    go_wp2_with fail
    rw [HW0.out]
    first | (go_region_held3 (fun wz => wz.cell? ⟨w.heap.size, 0, none⟩ = some (.int .i64 4) ∧ wz.cell? ⟨w.heap.size, 1, none⟩ = some (.int .i64 n) ∧ wz.cell? ⟨w.heap.size, 2, none⟩ = some (S t) ∧ wz.cell? ⟨w.heap.size, 3, none⟩ = some (.slice na ns.length nc) ∧ wz.cell? ⟨w.heap.size, 4, none⟩ = some (.slice ia xs.length ic)) (go_keep)
      (first
        | (go_at_call 49; (with_reducible refine (BA.out _).mono ?_); rintro e w2 ⟨rfl, hk2⟩
           have y0 := hk2.drewCell o0
           have y1 := hk2.drewCell o1
           have y2 := hk2.drewCell o2
           have y3 := hk2.drewCell o3
           have y4 := hk2.drewCell o4)
        | (go_at_call 50; (with_reducible refine (HV.out _ (((Kept.refl _ W0).drew).tr hk2)).mono ?_); rintro e w3 ⟨rfl, hk3⟩
           have z0 := (hk3.cell (cell_isLt y0) trivial).trans y0
           have z1 := (hk3.cell (cell_isLt y1) trivial).trans y1
           have z2 := (hk3.cell (cell_isLt y2) trivial).trans y2
           have z3 := (hk3.cell (cell_isLt y3) trivial).trans y3
           have z4 := (hk3.cell (cell_isLt y4) trivial).trans y4))) | fail
    have HK2 : Hid (Kept (fun _ => True) W0 w3) := Lib.hid ((((Kept.refl _ W0).drew).tr hk2).tr hk3)
    clear hk2 hk3
    go_wp2
    refine bodyPost_ret (v := .tuple #[.iface 85 (S t), .bool q2]) (by simp [results, Tryz.results30, go_sem]) rfl ?_
    exact ⟨⟨_, by rw [HMM.out, HF.out], fun h => by rw [HX.out (HMM.out.symm.trans h)]; exact .tx t⟩, hk0.tr HK2.out⟩
set_option maxHeartbeats 8000000 in
set_option maxRecDepth 100000 in
theorem inside_list (n : Int) (t : List UInt8) (ns : List (List UInt8)) (xs : List J) (na ia : Option Addr) (nc ic : Nat) (us : Nat → Value) (w : World) (hE : JE w.heap.size w) (hr : Rng 5 n t ns xs.length) (hn : RowS (fun _ => True) w (.slice na ns.length nc) ns) (hi : RowJ (fun _ => True) w (.slice ia xs.length ic) xs.length us)
    (hin : ∀ (j : Nat) x, xs[j]? = some x → JIn (fun _ => True) w x (us j)) (hih : ∀ (j : Nat) x, xs[j]? = some x → InsideC (us j) x) (hl : xs.length ≤ 1000000) :
    Calls Tryz.prog 30 #[jotV 5 n t (.slice na ns.length nc) (.slice ia xs.length ic)] w (InQ (.mk 5 n t ns xs) w) := by
  obtain ⟨M, hM⟩ : ∃ M, mayP (.mk 5 n t ns xs) = M := ⟨_, rfl⟩
  have HMM := Lib.hid hM
  obtain ⟨W0, hW0⟩ : ∃ W0, w.alloc (.cells #[.int .i64 5, .int .i64 n, S t, .slice na ns.length nc, .slice ia xs.length ic] 25) = W0 := ⟨_, rfl⟩
  have hk0 : Kept (fun _ => True) w W0 := by rw [← hW0]; exact (Kept.refl _ w).alloc _
  have hz0 : W0.heap.size = w.heap.size + 1 := by rw [← hW0]; simp
  have hbox : OutAt w.heap.size 5 n t (.slice na ns.length nc) (.slice ia xs.length ic) W0 := by rw [← hW0]; exact OutAt.new w 5 n t _ _
  have hbox1 : ∀ w', Kept (fun _ => True) W0 w' → OutAt w.heap.size 5 n t (.slice na ns.length nc) (.slice ia xs.length ic) w' := fun w' hk => hbox.kept hk trivial
  obtain ⟨o0, o1, o2, o3, o4, o5, o6⟩ := hbox.facts
  have HW0 := Lib.hid hW0
  have HB1 := Lib.hid hbox1
  have HR := Lib.hid hr
  have HE := Lib.hid hE
  have HN := Lib.hid hn
  have HI := Lib.hid hi
  have HIN := Lib.hid (And.intro hin hih)
  clear hr hE hn hi hin hih hW0 hbox hbox1 hM
  have HIT := Lib.hid (items_any xs ia ic us W0 ((HE.out.kept hk0 fun _ _ => trivial).le (by omega)) (HI.out.kept hk0 fun _ _ _ => trivial) (fun j x hx => (HIN.out.1 j x hx).kept hk0 fun _ _ _ => trivial) HIN.out.2 hl)
  obtain ⟨q, hq⟩ : ∃ q, bareP false false false true n t ns.length xs.length = q := ⟨_, rfl⟩
  have HQ : Hid (M = (q && mays xs)) := Lib.hid (by
    rw [← HMM.out, ← hq]
    have h1 : (ns == []) = ((ns.length : Int) == 0) := by cases ns <;> simp; omega
    simp [mayP, bareP, h1, Bool.and_assoc])
  have HX : Hid (M = true → mays xs = true ∧ J.mk 5 n t ns xs = J.list xs) := Lib.hid (fun h => by
    have h := HMM.out.trans h
    simp [mayP] at h
    obtain ⟨⟨⟨rfl, rfl⟩, rfl⟩, h⟩ := h
    exact ⟨h, rfl⟩)
  have BA := Lib.hid (fun w => bare_any false false false true 5 n t na ia ns.length nc xs.length ic w)
  rw [hq] at BA
  clear hq
  go_enter Tryz.func30, Tryz.ntmps30
  go_wp2_with fail
  rw [HW0.out]
  refine HIT.out.mono ?_
  rintro e w1 ⟨⟨lv, rfl, hlv⟩, hk1⟩
  obtain ⟨p0, p1, p2, p3, p4, p5, p6⟩ := (HB1.out w1 hk1).facts
  obtain ⟨m, hm⟩ : ∃ m, mays xs = m := ⟨_, rfl⟩
  have HMS := Lib.hid hm
  have HLV := Lib.hid hlv
  rw [hm]
  clear hm hlv o0 o1 o2 o3 o4 o5 o6
  cases m with
  | false =>
    have HF : Hid (M = false) := Lib.hid (by rw [HQ.out, HMS.out]; simp)
    go_wp2
    refine bodyPost_ret (v := .tuple #[.iface 89 lv, .bool false]) (by simp [results, Tryz.results30, go_sem]) rfl ?_
    exact ⟨⟨_, by rw [HMM.out, HF.out], fun h => by rw [HMM.out, HF.out] at h; cases h⟩, hk0.tr hk1⟩
  | true =>
    have HF : Hid (M = q) := Lib.hid (by rw [HQ.out, HMS.out]; simp)
    go_wp2_with (refine (BA.out _).mono ?_; rintro e w2 ⟨rfl, hk2⟩)
    refine bodyPost_ret (v := .tuple #[.iface 89 lv, .bool q]) (by simp [results, Tryz.results30, go_sem]) rfl ?_
    refine ⟨⟨_, by rw [HMM.out, HF.out], fun h => ?_⟩, (hk0.tr hk1).tr hk2⟩
    rw [(HX.out (HMM.out.symm.trans h)).2]
    obtain ⟨us2, e1, e2, e3⟩ := (HLV.out HMS.out).keptT hk2
    refine .list xs _ (fun j => us2.getD j .nilIface) hl ?_ (fun j x hx => (e3 j x hx).mono fun b _ hb => by have := hb.1; omega)
    rcases ownsRow_view e2 with ⟨e, h0⟩ | ⟨b, cap, e, q1, q2, q3, q4⟩
    · exact .inl ⟨e, h0⟩
    · exact .inr ⟨b, cap, e, q1, by omega, q3, fun j hj => q4 j _ (by show us2[j]? = some (us2.getD j .nilIface); rw [List.getD_eq_getElem?_getD, List.getElem?_eq_getElem (by omega)]; rfl)⟩
set_option maxHeartbeats 8000000 in
set_option maxRecDepth 100000 in
theorem inside_obj (n : Int) (t : List UInt8) (ns : List (List UInt8)) (xs : List J) (na ia : Option Addr) (nc ic : Nat) (us : Nat → Value) (w : World) (hE : JE w.heap.size w) (hr : Rng 6 n t ns xs.length) (hn : RowS (fun _ => True) w (.slice na ns.length nc) ns) (hi : RowJ (fun _ => True) w (.slice ia xs.length ic) xs.length us)
    (hin : ∀ (j : Nat) x, xs[j]? = some x → JIn (fun _ => True) w x (us j)) (hih : ∀ (j : Nat) x, xs[j]? = some x → InsideC (us j) x) (hl : xs.length ≤ 1000000) :
    Calls Tryz.prog 30 #[jotV 6 n t (.slice na ns.length nc) (.slice ia xs.length ic)] w (InQ (.mk 6 n t ns xs) w) := by
  obtain ⟨M, hM⟩ : ∃ M, mayP (.mk 6 n t ns xs) = M := ⟨_, rfl⟩
  have HMM := Lib.hid hM
  obtain ⟨W0, hW0⟩ : ∃ W0, w.alloc (.cells #[.int .i64 6, .int .i64 n, S t, .slice na ns.length nc, .slice ia xs.length ic] 25) = W0 := ⟨_, rfl⟩
  have hk0 : Kept (fun _ => True) w W0 := by rw [← hW0]; exact (Kept.refl _ w).alloc _
  have hz0 : W0.heap.size = w.heap.size + 1 := by rw [← hW0]; simp
  have hbox : OutAt w.heap.size 6 n t (.slice na ns.length nc) (.slice ia xs.length ic) W0 := by rw [← hW0]; exact OutAt.new w 6 n t _ _
  have hbox1 : ∀ w', Kept (fun _ => True) W0 w' → OutAt w.heap.size 6 n t (.slice na ns.length nc) (.slice ia xs.length ic) w' := fun w' hk => hbox.kept hk trivial
  obtain ⟨o0, o1, o2, o3, o4, o5, o6⟩ := hbox.facts
  have HW0 := Lib.hid hW0
  have HB1 := Lib.hid hbox1
  have HR := Lib.hid hr
  have HE := Lib.hid hE
  have HN := Lib.hid hn
  have HI := Lib.hid hi
  have HIN := Lib.hid (And.intro hin hih)
  clear hr hE hn hi hin hih hW0 hbox hbox1 hM
  have HO := Lib.hid (insideObj_any n t ns xs na ia nc ic us W0 ((HE.out.kept hk0 fun _ _ => trivial).le (by omega)) HR.out (HN.out.kept hk0 fun _ _ _ => trivial) (HI.out.kept hk0 fun _ _ _ => trivial) (fun j x hx => (HIN.out.1 j x hx).kept hk0 fun _ _ _ => trivial) HIN.out.2 hl)
  go_enter Tryz.func30, Tryz.ntmps30
  go_wp2_with fail
  rw [HW0.out]
  refine HO.out.mono ?_
  rintro e w1 ⟨⟨u, rfl, hu⟩, hk1⟩
  obtain ⟨m, hm⟩ : ∃ m, mayP (.mk 6 n t ns xs) = m := ⟨_, rfl⟩
  have HU := Lib.hid (And.intro hm hu)
  rw [hm]
  clear hm hu
  go_wp2
  refine bodyPost_ret (v := .tuple #[u, .bool m]) (by simp [results, Tryz.results30, go_sem]) rfl ?_
  exact ⟨⟨_, by rw [HU.out.1], fun h => (HU.out.2 h).mono fun b _ hb => by omega⟩, hk0.tr hk1⟩
set_option maxHeartbeats 8000000 in
set_option maxRecDepth 100000 in
theorem inside_else (k : Int) (n : Int) (t : List UInt8) (ns : List (List UInt8)) (xs : List J) (na ia : Option Addr) (nc ic : Nat) (us : Nat → Value) (w : World) (hk : k ≠ 0 ∧ k ≠ 1 ∧ k ≠ 2 ∧ k ≠ 3 ∧ k ≠ 4 ∧ k ≠ 5 ∧ k ≠ 6) (hE : JE w.heap.size w) (hr : Rng k n t ns xs.length) (hn : RowS (fun _ => True) w (.slice na ns.length nc) ns) (hi : RowJ (fun _ => True) w (.slice ia xs.length ic) xs.length us)
    (hin : ∀ (j : Nat) x, xs[j]? = some x → JIn (fun _ => True) w x (us j)) (hih : ∀ (j : Nat) x, xs[j]? = some x → InsideC (us j) x) (_hl : xs.length ≤ 1000000) :
    Calls Tryz.prog 30 #[jotV k n t (.slice na ns.length nc) (.slice ia xs.length ic)] w (InQ (.mk k n t ns xs) w) := by
  obtain ⟨M, hM⟩ : ∃ M, mayP (.mk k n t ns xs) = M := ⟨_, rfl⟩
  have HMM := Lib.hid hM
  obtain ⟨W0, hW0⟩ : ∃ W0, w.alloc (.cells #[.int .i64 k, .int .i64 n, S t, .slice na ns.length nc, .slice ia xs.length ic] 25) = W0 := ⟨_, rfl⟩
  have hk0 : Kept (fun _ => True) w W0 := by rw [← hW0]; exact (Kept.refl _ w).alloc _
  have hz0 : W0.heap.size = w.heap.size + 1 := by rw [← hW0]; simp
  have hbox : OutAt w.heap.size k n t (.slice na ns.length nc) (.slice ia xs.length ic) W0 := by rw [← hW0]; exact OutAt.new w k n t _ _
  have hbox1 : ∀ w', Kept (fun _ => True) W0 w' → OutAt w.heap.size k n t (.slice na ns.length nc) (.slice ia xs.length ic) w' := fun w' hk => hbox.kept hk trivial
  obtain ⟨o0, o1, o2, o3, o4, o5, o6⟩ := hbox.facts
  have HW0 := Lib.hid hW0
  have HB1 := Lib.hid hbox1
  have HR := Lib.hid hr
  have HE := Lib.hid hE
  have HN := Lib.hid hn
  have HI := Lib.hid hi
  have HIN := Lib.hid (And.intro hin hih)
  clear hr hE hn hi hin hih hW0 hbox hbox1 hM
  have HF : Hid (M = false) := Lib.hid (by rw [← HMM.out]; simp [mayP, hk])
  have q0 : (k == 0) = false := by simpa using hk.1
  have q1 : (k == 1) = false := by simpa using hk.2.1
  have q2 : (k == 2) = false := by simpa using hk.2.2.1
  have q3 : (k == 3) = false := by simpa using hk.2.2.2.1
  have q4 : (k == 4) = false := by simpa using hk.2.2.2.2.1
  have q5 : (k == 5) = false := by simpa using hk.2.2.2.2.2.1
  have q6 : (k == 6) = false := by simpa using hk.2.2.2.2.2.2
  clear hk
  go_enter Tryz.func30, Tryz.ntmps30
  go_wp2_with fail
  rw [HW0.out]
  refine bodyPost_ret (v := .tuple #[.iface 81 (.agg #[]), .bool false]) (by simp [results, Tryz.results30, go_sem]) rfl ?_
  exact ⟨⟨_, by rw [HMM.out, HF.out], fun h => by rw [HMM.out, HF.out] at h; cases h⟩, hk0⟩

theorem inside_any : ∀ x : J, Few 1000000 x → ∀ v, InsideC v x := by
  refine J.ind fun k n t ns xs IH => ?_
  intro hf v w hx hE
  obtain ⟨na, nc, ia, ic, us, rfl, hr, hn, hi, h⟩ := hx.invM
  obtain ⟨hf1, hf2, hf3⟩ := hf.inv
  simp only [J.names, J.items] at hf1 hf2 hf3
  have hih : ∀ (j : Nat) x, xs[j]? = some x → InsideC (us j) x := fun j x hx => IH x (List.mem_of_getElem? hx) (hf3 j x hx) (us j)
  by_cases h0 : k = 0
  · subst h0; exact inside_null n t ns xs na ia nc ic us w hE hr hn hi h hih hf2
  by_cases h1 : k = 1
  · subst h1; exact inside_fls n t ns xs na ia nc ic us w hE hr hn hi h hih hf2
  by_cases h2 : k = 2
  · subst h2; exact inside_tru n t ns xs na ia nc ic us w hE hr hn hi h hih hf2
  by_cases h3 : k = 3
  · subst h3; exact inside_nr n t ns xs na ia nc ic us w hE hr hn hi h hih hf2
  by_cases h4 : k = 4
  · subst h4; exact inside_tx n t ns xs na ia nc ic us w hE hr hn hi h hih hf2
  by_cases h5 : k = 5
  · subst h5; exact inside_list n t ns xs na ia nc ic us w hE hr hn hi h hih hf2
  by_cases h6 : k = 6
  · subst h6; exact inside_obj n t ns xs na ia nc ic us w hE hr hn hi h hih hf2
  · exact inside_else k n t ns xs na ia nc ic us w ⟨h0, h1, h2, h3, h4, h5, h6⟩ hE hr hn hi h hih hf2
end Go.Proofs.YtmajpambfblhnaaGreatDoor

namespace Go.Proofs.YtmajpambfblhnaaGreatDoor
open Go.RowKit Jo Go.Shelf

set_option maxHeartbeats 8000000 in
set_option maxRecDepth 100000 in
theorem Print_any (x : J) (v : Value) (w : World) (hx : JIn (fun _ => True) w x v) (hE : JE w.heap.size w) (hf : Few 1000000 x) (hd : depthP x ≤ 1000000000) (hl : mayP x = true → (layP x).length ≤ 1099511627776) :
    Calls Tryz.prog 12 #[v] w fun e w' => e = .returned (.tuple #[S (printP x).1, .int .i64 (printP x).2]) ∧ Kept (fun _ => True) w w' := by
  obtain ⟨na, nc, ia, ic, us, rfl, hr, hn, hi, h⟩ := hx.inv
  obtain ⟨R, hR⟩ : ∃ R, printP x = R := ⟨_, rfl⟩
  have HR : Hid (R = if mayP x = false then ([], 43) else if 16 < depthP x then ([], 41) else if 4000 < (layP x).length then ([], 44) else (layP x, 0)) := Lib.hid (by rw [← hR]; rfl)
  rw [hR]
  clear hR
  obtain ⟨k, n, t, ns, xs⟩ := x
  simp only [J.kind, J.num, J.text, J.names, J.items] at *
  obtain ⟨X, hX⟩ : ∃ X, J.mk k n t ns xs = X := ⟨_, rfl⟩
  obtain ⟨W0, hW0⟩ : ∃ W0, w.alloc (.cells #[.int .i64 k, .int .i64 n, S t, .slice na ns.length nc, .slice ia xs.length ic] 25) = W0 := ⟨_, rfl⟩
  have hk0 : Kept (fun _ => True) w W0 := by rw [← hW0]; exact (Kept.refl _ w).alloc _
  have hz0 : W0.heap.size = w.heap.size + 1 := by rw [← hW0]; simp
  have hbox : OutAt w.heap.size k n t (.slice na ns.length nc) (.slice ia xs.length ic) W0 := by rw [← hW0]; exact OutAt.new w k n t _ _
  have HIN := Lib.hid (inside_any _ hf _ W0 (hx.kept hk0 fun _ _ _ => trivial) ((hE.kept hk0 fun _ _ => trivial).le (by omega)))
  rw [hX] at HIN HR hd hl
  obtain ⟨o0, o1, o2, o3, o4, o5, o6⟩ := hbox.facts
  have HE := Lib.hid hE
  have HW0 := Lib.hid hW0
  have HD := Lib.hid hd
  have HL := Lib.hid hl
  clear hx hr hn hi h hf hE hW0 hbox hX hd hl
  go_enter Tryz.func12, Tryz.ntmps12
  go_wp2_with fail
  rw [HW0.out]
  refine HIN.out.mono ?_
  rintro e w1 ⟨⟨u, rfl, hu⟩, hk1⟩
  have hk01 := hk0.tr hk1
  cases hm : mayP X with
  | false =>
    have HN : Hid (R = ([], 43)) := Lib.hid (by rw [HR.out, hm]; rfl)
    clear hm hu HR o0 o1 o2 o3 o4 o5 o6
    go_wp2
    refine bodyPost_ret (v := .tuple #[S [], .int .i64 43]) (by simp [results, Tryz.results12, go_sem]) rfl ?_
    rw [HN.out]
    exact ⟨rfl, hk01⟩
  | true =>
    have hu := hu hm
    have HU := Lib.hid hu
    have HDC := Lib.hid (depth_any X _ w1 u HD.out hu)
    have HM := Lib.hid hm
    have HR2 : Hid (R = if 16 < depthP X then ([], 41) else if 4000 < (layP X).length then ([], 44) else (layP X, 0)) := Lib.hid (by rw [HR.out, hm]; rfl)
    have HL2 := Lib.hid (HL.out hm)
    obtain ⟨d, hdd⟩ : ∃ d, depthP X = d := ⟨_, rfl⟩
    have HDX := Lib.hid hdd
    rw [hdd] at HDC HR2 HD
    have hd9 := HD.out
    clear hm hu hdd HR HL HIN o0 o1 o2 o3 o4 o5 o6
    by_cases h16 : 16 < d
    · have HN : Hid (R = ([], 41)) := Lib.hid (by rw [HR2.out, if_pos h16])
      clear HR2
      go_wp2_with (refine HDC.out.mono ?_; rintro e w2 ⟨rfl, hk2⟩)
      refine bodyPost_ret (v := .tuple #[S [], .int .i64 41]) (by simp [results, Tryz.results12, go_sem]) rfl ?_
      rw [HN.out]
      exact ⟨rfl, hk01.tr hk2⟩
    · have HR3 : Hid (R = if 4000 < (layP X).length then ([], 44) else (layP X, 0)) := Lib.hid (by rw [HR2.out, if_neg h16])
      clear HR2
      go_wp2_with (first
        | (go_at_call 31; refine HDC.out.mono ?_; rintro e w2 ⟨rfl, hk2⟩)
        | fail)
      have hk02 := hk01.tr hk2
      obtain ⟨W3, hW3⟩ : ∃ W3, w2.alloc (.cells #[.pointer none, .slice none 0 0] 63) = W3 := ⟨_, rfl⟩
      have hb : Bd w2.heap.size [] W3 := by rw [← hW3]; exact Lib.fresh_isBuilder _ _ _
      have hk3 : Kept (fun _ => True) w2 W3 := by rw [← hW3]; exact (Kept.refl _ w2).alloc _
      have hE3 : JE w2.heap.size W3 := (HE.out.kept (hk02.tr hk3) fun _ _ => trivial).le hk02.size
      have hV3 : VIn (· < w2.heap.size) W3 X u := ((HU.out.kept hk2 fun _ _ _ => trivial).mono (ok2 := (· < w2.heap.size)) fun b hb _ => hb).kept hk3 fun _ _ _ => trivial
      have HLY := Lib.hid (lays_any w2.heap.size (may_of X HM.out) u [] W3 hb hE3 hV3 (by simpa using HL2.out))
      have hzb : w2.heap.size ≤ W3.heap.size := hk3.size
      clear hb hE3 hV3
      rw [hW3]
      have HW3 := Lib.hid hW3
      clear hW3
      go_wp2_with fail
      refine HLY.out.mono ?_
      rintro e w4 ⟨rfl, hb4, hk4⟩
      have hk04 : Kept (fun _ => True) w w4 := (hk02.tr hk3).trans hk4.to fun i hi _ => by have := hk02.size; omega
      rw [List.nil_append] at hb4
      have hz4 := hk4.size
      have HB4 := Lib.hid hb4
      clear hb4
      have HLEN := Lib.hid (Tryz.Builder_Len w2.heap.size w2.heap.size _ w4 HB4.out)
      have hbl : (Lib.byteCells (layP X)).length = (layP X).length := by simp [Lib.byteCells]
      rw [hbl] at HLEN
      clear hbl
      obtain ⟨L, hL⟩ : ∃ L, layP X = L := ⟨_, rfl⟩
      rw [hL] at HLEN HB4 HR3 HL2
      have hll := HL2.out
      clear hL
      by_cases h4 : 4000 < L.length
      · have HN : Hid (R = ([], 44)) := Lib.hid (by rw [HR3.out, if_pos h4])
        clear HR3
        go_wp2_with (refine HLEN.out.mono ?_; rintro e w5 ⟨rfl, rfl⟩)
        refine bodyPost_ret (v := .tuple #[S [], .int .i64 44]) (by simp [results, Tryz.results12, go_sem]) rfl ?_
        rw [HN.out]
        exact ⟨rfl, hk04⟩
      · have HN : Hid (R = (L, 0)) := Lib.hid (by rw [HR3.out, if_neg h4])
        clear HR3
        have HST := Lib.hid (Tryz.Builder_String_any w2.heap.size w2.heap.size L w4 HB4.out (by omega))
        go_wp2_with (first
          | (go_at_call 33; refine HLEN.out.mono ?_; rintro e w5 ⟨rfl, rfl⟩)
          | (go_at_call 34; refine HST.out.mono ?_; rintro e w6 ⟨rfl, hb6⟩))
        refine bodyPost_ret (v := .tuple #[S L, .int .i64 0]) (by simp [results, Tryz.results12, go_sem]) rfl ?_
        rw [HN.out]
        exact ⟨rfl, hk04.trans (ok2 := fun i => i < w2.heap.size) ⟨hb6.os, hb6.tape, hb6.output, hb6.size, fun i _ h => hb6.block i h⟩ fun i hi _ => by have := hk02.size; omega⟩
end Go.Proofs.YtmajpambfblhnaaGreatDoor
