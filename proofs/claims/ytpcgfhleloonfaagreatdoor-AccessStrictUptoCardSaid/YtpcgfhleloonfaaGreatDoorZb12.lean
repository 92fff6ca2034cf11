/- What the proof of this law needs, part 12: walks of the program's functions and plain laws (texts JoQ7, AcA2, AcK4, AcA3, AcA4). -/
import Derived.Test.YtpcgfhleloonfaaGreatDoorZb11
namespace Go.Proofs.YtpcgfhleloonfaaGreatDoor
open Go.RowKit Jo Go.Shelf
theorem may_bare (k : Int) (hk : k = 0 ∨ k = 1 ∨ k = 2) (n : Int) (t : List UInt8) (ns : List (List UInt8)) (xs : List J) : mayP (.mk k n t ns xs) = bareP false false false false n t ns.length xs.length := by
  have h1 : (ns == []) = ((ns.length : Int) == 0) := by cases ns <;> simp; omega
  have h2 : xs.isEmpty = ((xs.length : Int) == 0) := by cases xs <;> simp; omega
  simp only [mayP, bareP, if_pos hk, h1, h2, Bool.false_or]
theorem may_leaf (k : Int) (hk : k = 0 ∨ k = 1 ∨ k = 2) {n : Int} {t : List UInt8} {ns : List (List UInt8)} {xs : List J} (h : mayP (.mk k n t ns xs) = true) : J.mk k n t ns xs = .mk k 0 [] [] [] := by
  simp only [mayP, if_pos hk] at h
  simp at h
  obtain ⟨⟨⟨rfl, rfl⟩, rfl⟩, rfl⟩ := h
  rfl
set_option maxHeartbeats 8000000 in
set_option maxRecDepth 100000 in
theorem inside_null (n : Int) (t : List UInt8) (ns : List (List UInt8)) (xs : List J) (na ia : Option Addr) (nc ic : Nat) (us : Nat → Value) (w : World) (hE : JE w.heap.size w) (hr : Rng 0 n t ns xs.length) (hn : RowS (fun _ => True) w (.slice na ns.length nc) ns) (hi : RowJ (fun _ => True) w (.slice ia xs.length ic) xs.length us)
    (hin : ∀ (j : Nat) x, xs[j]? = some x → JIn (fun _ => True) w x (us j)) (hih : ∀ (j : Nat) x, xs[j]? = some x → InsideC (us j) x) (_hl : xs.length ≤ 1000000) :
    Calls Tryz.prog 263 #[jotV 0 n t (.slice na ns.length nc) (.slice ia xs.length ic)] w (InQ (.mk 0 n t ns xs) w) := by
  obtain ⟨M, hM⟩ : ∃ M, mayP (.mk 0 n t ns xs) = M := ⟨_, rfl⟩
  have HMM := Lib.hid hM
  obtain ⟨W0, hW0⟩ : ∃ W0, w.alloc (.cells #[.int .i64 0, .int .i64 n, S t, .slice na ns.length nc, .slice ia xs.length ic] 72) = W0 := ⟨_, rfl⟩
  have hk0 : Kept (fun _ => True) w W0 := by rw [← hW0]; exact (Kept.refl _ w).alloc _
  have hz0 : W0.heap.size = w.heap.size + 1 := by rw [← hW0]; simp
  have hbox : OutAt w.heap.size 0 n t (.slice na ns.length nc) (.slice ia xs.length ic) W0 := by rw [← hW0]; exact OutAt.new w 0 n t _ _
  have hbox1 : ∀ w', Kept (fun _ => True) W0 w' → OutAt w.heap.size 0 n t (.slice na ns.length nc) (.slice ia xs.length ic) w' := fun w' hk => hbox.kept hk trivial
  obtain ⟨o0, o1, o2, o3, o4, o5, o6⟩ := hbox.facts
  have HW0 := Lib.hid hW0
  have HB1 := Lib.hid hbox1
  have HR := Lib.hid hr
  have HE := Lib.hid hE
  have HN := Lib.hid hn
  have HI := Lib.hid hi
  have HIN := Lib.hid (And.intro hin hih)
  clear hr hE hn hi hin hih hW0 hbox hbox1 hM
  obtain ⟨q, hq⟩ : ∃ q, bareP false false false false n t ns.length xs.length = q := ⟨_, rfl⟩
  have HQ : Hid (M = q) := Lib.hid (by rw [← HMM.out, ← hq]; exact may_bare 0 (by simp) n t ns xs)
  have BA := Lib.hid (fun w => bare_any false false false false 0 n t na ia ns.length nc xs.length ic w)
  rw [hq] at BA
  clear hq
  go_enter Tryz.func263, Tryz.ntmps263
  go_wp2_with fail
  rw [HW0.out]
  refine (BA.out _).mono ?_
  rintro e w2 ⟨rfl, hk2⟩
  go_wp2
  refine bodyPost_ret (v := .tuple #[.iface 192 (.agg #[]), .bool q]) (by simp [results, Tryz.results263, go_sem]) rfl ?_
  exact ⟨⟨_, by rw [HMM.out, HQ.out], fun h => by rw [may_leaf 0 (by simp) h]; exact .null⟩, hk0.tr hk2⟩
set_option maxHeartbeats 8000000 in
set_option maxRecDepth 100000 in
theorem inside_fls (n : Int) (t : List UInt8) (ns : List (List UInt8)) (xs : List J) (na ia : Option Addr) (nc ic : Nat) (us : Nat → Value) (w : World) (hE : JE w.heap.size w) (hr : Rng 1 n t ns xs.length) (hn : RowS (fun _ => True) w (.slice na ns.length nc) ns) (hi : RowJ (fun _ => True) w (.slice ia xs.length ic) xs.length us)
    (hin : ∀ (j : Nat) x, xs[j]? = some x → JIn (fun _ => True) w x (us j)) (hih : ∀ (j : Nat) x, xs[j]? = some x → InsideC (us j) x) (_hl : xs.length ≤ 1000000) :
    Calls Tryz.prog 263 #[jotV 1 n t (.slice na ns.length nc) (.slice ia xs.length ic)] w (InQ (.mk 1 n t ns xs) w) := by
  obtain ⟨M, hM⟩ : ∃ M, mayP (.mk 1 n t ns xs) = M := ⟨_, rfl⟩
  have HMM := Lib.hid hM
  obtain ⟨W0, hW0⟩ : ∃ W0, w.alloc (.cells #[.int .i64 1, .int .i64 n, S t, .slice na ns.length nc, .slice ia xs.length ic] 72) = W0 := ⟨_, rfl⟩
  have hk0 : Kept (fun _ => True) w W0 := by rw [← hW0]; exact (Kept.refl _ w).alloc _
  have hz0 : W0.heap.size = w.heap.size + 1 := by rw [← hW0]; simp
  have hbox : OutAt w.heap.size 1 n t (.slice na ns.length nc) (.slice ia xs.length ic) W0 := by rw [← hW0]; exact OutAt.new w 1 n t _ _
  have hbox1 : ∀ w', Kept (fun _ => True) W0 w' → OutAt w.heap.size 1 n t (.slice na ns.length nc) (.slice ia xs.length ic) w' := fun w' hk => hbox.kept hk trivial
  obtain ⟨o0, o1, o2, o3, o4, o5, o6⟩ := hbox.facts
  have HW0 := Lib.hid hW0
  have HB1 := Lib.hid hbox1
  have HR := Lib.hid hr
  have HE := Lib.hid hE
  have HN := Lib.hid hn
  have HI := Lib.hid hi
  have HIN := Lib.hid (And.intro hin hih)
  clear hr hE hn hi hin hih hW0 hbox hbox1 hM
  obtain ⟨q, hq⟩ : ∃ q, bareP false false false false n t ns.length xs.length = q := ⟨_, rfl⟩
  have HQ : Hid (M = q) := Lib.hid (by rw [← HMM.out, ← hq]; exact may_bare 1 (by simp) n t ns xs)
  have BA := Lib.hid (fun w => bare_any false false false false 1 n t na ia ns.length nc xs.length ic w)
  rw [hq] at BA
  clear hq
  go_enter Tryz.func263, Tryz.ntmps263
  go_wp2_with fail
  rw [HW0.out]
  first | (go_region_held3 (fun wz => wz.cell? ⟨w.heap.size, 0, none⟩ = some (.int .i64 1) ∧ wz.cell? ⟨w.heap.size, 1, none⟩ = some (.int .i64 n) ∧ wz.cell? ⟨w.heap.size, 2, none⟩ = some (S t) ∧ wz.cell? ⟨w.heap.size, 3, none⟩ = some (.slice na ns.length nc) ∧ wz.cell? ⟨w.heap.size, 4, none⟩ = some (.slice ia xs.length ic)) (go_keep)
    (first
      | (go_at_call 267; (with_reducible refine (BA.out _).mono ?_); rintro e w2 ⟨rfl, hk2⟩
         have y0 := hk2.drewCell o0
         have y1 := hk2.drewCell o1
         have y2 := hk2.drewCell o2
         have y3 := hk2.drewCell o3
         have y4 := hk2.drewCell o4))) | fail
  have HK2 : Hid (Kept (fun _ => True) W0 w2) := Lib.hid (((Kept.refl _ W0).drew).tr hk2)
  clear hk2
  go_wp2
  refine bodyPost_ret (v := .tuple #[.iface 193 (.bool false), .bool q]) (by simp [results, Tryz.results263, go_sem]) rfl ?_
  exact ⟨⟨_, by rw [HMM.out, HQ.out], fun h => by rw [may_leaf 1 (by simp) h]; exact .fls⟩, hk0.tr HK2.out⟩
set_option maxHeartbeats 8000000 in
set_option maxRecDepth 100000 in
theorem inside_tru (n : Int) (t : List UInt8) (ns : List (List UInt8)) (xs : List J) (na ia : Option Addr) (nc ic : Nat) (us : Nat → Value) (w : World) (hE : JE w.heap.size w) (hr : Rng 2 n t ns xs.length) (hn : RowS (fun _ => True) w (.slice na ns.length nc) ns) (hi : RowJ (fun _ => True) w (.slice ia xs.length ic) xs.length us)
    (hin : ∀ (j : Nat) x, xs[j]? = some x → JIn (fun _ => True) w x (us j)) (hih : ∀ (j : Nat) x, xs[j]? = some x → InsideC (us j) x) (_hl : xs.length ≤ 1000000) :
    Calls Tryz.prog 263 #[jotV 2 n t (.slice na ns.length nc) (.slice ia xs.length ic)] w (InQ (.mk 2 n t ns xs) w) := by
  obtain ⟨M, hM⟩ : ∃ M, mayP (.mk 2 n t ns xs) = M := ⟨_, rfl⟩
  have HMM := Lib.hid hM
  obtain ⟨W0, hW0⟩ : ∃ W0, w.alloc (.cells #[.int .i64 2, .int .i64 n, S t, .slice na ns.length nc, .slice ia xs.length ic] 72) = W0 := ⟨_, rfl⟩
  have hk0 : Kept (fun _ => True) w W0 := by rw [← hW0]; exact (Kept.refl _ w).alloc _
  have hz0 : W0.heap.size = w.heap.size + 1 := by rw [← hW0]; simp
  have hbox : OutAt w.heap.size 2 n t (.slice na ns.length nc) (.slice ia xs.length ic) W0 := by rw [← hW0]; exact OutAt.new w 2 n t _ _
  have hbox1 : ∀ w', Kept (fun _ => True) W0 w' → OutAt w.heap.size 2 n t (.slice na ns.length nc) (.slice ia xs.length ic) w' := fun w' hk => hbox.kept hk trivial
  obtain ⟨o0, o1, o2, o3, o4, o5, o6⟩ := hbox.facts
  have HW0 := Lib.hid hW0
  have HB1 := Lib.hid hbox1
  have HR := Lib.hid hr
  have HE := Lib.hid hE
  have HN := Lib.hid hn
  have HI := Lib.hid hi
  have HIN := Lib.hid (And.intro hin hih)
  clear hr hE hn hi hin hih hW0 hbox hbox1 hM
  obtain ⟨q, hq⟩ : ∃ q, bareP false false false false n t ns.length xs.length = q := ⟨_, rfl⟩
  have HQ : Hid (M = q) := Lib.hid (by rw [← HMM.out, ← hq]; exact may_bare 2 (by simp) n t ns xs)
  have BA := Lib.hid (fun w => bare_any false false false false 2 n t na ia ns.length nc xs.length ic w)
  rw [hq] at BA
  clear hq
  go_enter Tryz.func263, Tryz.ntmps263
  go_wp2_with fail
  rw [HW0.out]
  first | (go_region_held3 (fun wz => wz.cell? ⟨w.heap.size, 0, none⟩ = some (.int .i64 2) ∧ wz.cell? ⟨w.heap.size, 1, none⟩ = some (.int .i64 n) ∧ wz.cell? ⟨w.heap.size, 2, none⟩ = some (S t) ∧ wz.cell? ⟨w.heap.size, 3, none⟩ = some (.slice na ns.length nc) ∧ wz.cell? ⟨w.heap.size, 4, none⟩ = some (.slice ia xs.length ic)) (go_keep)
    (first
      | (go_at_call 267; (with_reducible refine (BA.out _).mono ?_); rintro e w2 ⟨rfl, hk2⟩
         have y0 := hk2.drewCell o0
         have y1 := hk2.drewCell o1
         have y2 := hk2.drewCell o2
         have y3 := hk2.drewCell o3
         have y4 := hk2.drewCell o4))) | fail
  have HK2 : Hid (Kept (fun _ => True) W0 w2) := Lib.hid (((Kept.refl _ W0).drew).tr hk2)
  clear hk2
  go_wp2
  refine bodyPost_ret (v := .tuple #[.iface 193 (.bool true), .bool q]) (by simp [results, Tryz.results263, go_sem]) rfl ?_
  exact ⟨⟨_, by rw [HMM.out, HQ.out], fun h => by rw [may_leaf 2 (by simp) h]; exact .tru⟩, hk0.tr HK2.out⟩
set_option maxHeartbeats 8000000 in
set_option maxRecDepth 100000 in
theorem inside_nr (n : Int) (t : List UInt8) (ns : List (List UInt8)) (xs : List J) (na ia : Option Addr) (nc ic : Nat) (us : Nat → Value) (w : World) (hE : JE w.heap.size w) (hr : Rng 3 n t ns xs.length) (hn : RowS (fun _ => True) w (.slice na ns.length nc) ns) (hi : RowJ (fun _ => True) w (.slice ia xs.length ic) xs.length us)
    (hin : ∀ (j : Nat) x, xs[j]? = some x → JIn (fun _ => True) w x (us j)) (hih : ∀ (j : Nat) x, xs[j]? = some x → InsideC (us j) x) (hl : xs.length ≤ 1000000) :
    Calls Tryz.prog 263 #[jotV 3 n t (.slice na ns.length nc) (.slice ia xs.length ic)] w (InQ (.mk 3 n t ns xs) w) := by
  obtain ⟨M, hM⟩ : ∃ M, mayP (.mk 3 n t ns xs) = M := ⟨_, rfl⟩
  have HMM := Lib.hid hM
  obtain ⟨W0, hW0⟩ : ∃ W0, w.alloc (.cells #[.int .i64 3, .int .i64 n, S t, .slice na ns.length nc, .slice ia xs.length ic] 72) = W0 := ⟨_, rfl⟩
  have hk0 : Kept (fun _ => True) w W0 := by rw [← hW0]; exact (Kept.refl _ w).alloc _
  have hz0 : W0.heap.size = w.heap.size + 1 := by rw [← hW0]; simp
  have hbox : OutAt w.heap.size 3 n t (.slice na ns.length nc) (.slice ia xs.length ic) W0 := by rw [← hW0]; exact OutAt.new w 3 n t _ _
  have hbox1 : ∀ w', Kept (fun _ => True) W0 w' → OutAt w.heap.size 3 n t (.slice na ns.length nc) (.slice ia xs.length ic) w' := fun w' hk => hbox.kept hk trivial
  obtain ⟨o0, o1, o2, o3, o4, o5, o6⟩ := hbox.facts
  have HW0 := Lib.hid hW0
  have HB1 := Lib.hid hbox1
  have HR := Lib.hid hr
  have HE := Lib.hid hE
  have HN := Lib.hid hn
  have HI := Lib.hid hi
  have HIN := Lib.hid (And.intro hin hih)
  clear hr hE hn hi hin hih hW0 hbox hbox1 hM
  obtain ⟨q, hq⟩ : ∃ q, bareP true false false false n t ns.length xs.length = q := ⟨_, rfl⟩
  have HQ : Hid (M = (q && (decide (-9007199254740991 ≤ n) && decide (n ≤ 9007199254740991)))) := Lib.hid (by
    rw [← HMM.out, ← hq]
    have h1 : (ns == []) = ((ns.length : Int) == 0) := by cases ns <;> simp; omega
    have h2 : xs.isEmpty = ((xs.length : Int) == 0) := by cases xs <;> simp; omega
    simp [mayP, bareP, h1, h2, Bool.and_assoc])
  have HX : Hid (M = true → J.mk 3 n t ns xs = J.nr n) := Lib.hid (fun h => by
    have h := HMM.out.trans h
    simp [mayP] at h
    obtain ⟨⟨⟨⟨rfl, rfl⟩, rfl⟩, _⟩, _⟩ := h
    rfl)
  have BA := Lib.hid (fun w => bare_any true false false false 3 n t na ia ns.length nc xs.length ic w)
  rw [hq] at BA
  clear hq
  cases q with
  | false =>
    have HF : Hid (M = false) := Lib.hid (by rw [HQ.out]; simp; try omega)
    go_enter Tryz.func263, Tryz.ntmps263
    go_wp2_with fail
    rw [HW0.out]
    first | (go_region_with (go_at_call 267; refine (BA.out _).mono ?_; rintro e w2 ⟨rfl, hk2⟩; have y0 := hk2.drewCell o0; have y1 := hk2.drewCell o1; have y2 := hk2.drewCell o2; have y3 := hk2.drewCell o3; have y4 := hk2.drewCell o4)) | fail
    all_goals
      have HK2 : Hid (Kept (fun _ => True) W0 w2) := Lib.hid (((Kept.refl _ W0).drew).tr hk2)
      clear hk2
      go_wp2
      refine bodyPost_ret (v := .tuple #[.iface 218 (.int .i64 n), .bool false]) (by simp [results, Tryz.results263, go_sem]) rfl ?_
      exact ⟨⟨_, by rw [HMM.out, HF.out], fun h => by rw [HX.out (HMM.out.symm.trans h)]; exact .nr n⟩, hk0.tr HK2.out⟩
  | true =>
    by_cases h1 : -9007199254740991 ≤ n
    · by_cases h2 : n ≤ 9007199254740991
      · have d1 : decide (-9007199254740991 ≤ n) = true := by simpa using h1
        have d2 : decide (n ≤ 9007199254740991) = true := by simpa using h2
        have HF : Hid (M = true) := Lib.hid (by rw [HQ.out]; simp; try omega)
        go_enter Tryz.func263, Tryz.ntmps263
        go_wp2_with fail
        rw [HW0.out]
        first | (go_region_held3 (fun wz => wz.cell? ⟨w.heap.size, 0, none⟩ = some (.int .i64 3) ∧ wz.cell? ⟨w.heap.size, 1, none⟩ = some (.int .i64 n) ∧ wz.cell? ⟨w.heap.size, 2, none⟩ = some (S t) ∧ wz.cell? ⟨w.heap.size, 3, none⟩ = some (.slice na ns.length nc) ∧ wz.cell? ⟨w.heap.size, 4, none⟩ = some (.slice ia xs.length ic)) (go_keep)
          (first
            | (go_at_call 267; (with_reducible refine (BA.out _).mono ?_); rintro e w2 ⟨rfl, hk2⟩
               have y0 := hk2.drewCell o0
               have y1 := hk2.drewCell o1
               have y2 := hk2.drewCell o2
               have y3 := hk2.drewCell o3
               have y4 := hk2.drewCell o4))) | fail
        have HK2 : Hid (Kept (fun _ => True) W0 w2) := Lib.hid (((Kept.refl _ W0).drew).tr hk2)
        clear hk2
        go_wp2
        refine bodyPost_ret (v := .tuple #[.iface 218 (.int .i64 n), .bool true]) (by simp [results, Tryz.results263, go_sem]) rfl ?_
        exact ⟨⟨_, by rw [HMM.out, HF.out], fun h => by rw [HX.out (HMM.out.symm.trans h)]; exact .nr n⟩, hk0.tr HK2.out⟩
      · have d1 : decide (-9007199254740991 ≤ n) = true := by simpa using h1
        have d2 : decide (n ≤ 9007199254740991) = false := by simpa using h2
        have HF : Hid (M = false) := Lib.hid (by rw [HQ.out]; simp; try omega)
        go_enter Tryz.func263, Tryz.ntmps263
        go_wp2_with fail
        rw [HW0.out]
        first | (go_region_held3 (fun wz => wz.cell? ⟨w.heap.size, 0, none⟩ = some (.int .i64 3) ∧ wz.cell? ⟨w.heap.size, 1, none⟩ = some (.int .i64 n) ∧ wz.cell? ⟨w.heap.size, 2, none⟩ = some (S t) ∧ wz.cell? ⟨w.heap.size, 3, none⟩ = some (.slice na ns.length nc) ∧ wz.cell? ⟨w.heap.size, 4, none⟩ = some (.slice ia xs.length ic)) (go_keep)
          (first
            | (go_at_call 267; (with_reducible refine (BA.out _).mono ?_); rintro e w2 ⟨rfl, hk2⟩
               have y0 := hk2.drewCell o0
               have y1 := hk2.drewCell o1
               have y2 := hk2.drewCell o2
               have y3 := hk2.drewCell o3
               have y4 := hk2.drewCell o4))) | fail
        have HK2 : Hid (Kept (fun _ => True) W0 w2) := Lib.hid (((Kept.refl _ W0).drew).tr hk2)
        clear hk2
        go_wp2
        refine bodyPost_ret (v := .tuple #[.iface 218 (.int .i64 n), .bool false]) (by simp [results, Tryz.results263, go_sem]) rfl ?_
        exact ⟨⟨_, by rw [HMM.out, HF.out], fun h => by rw [HX.out (HMM.out.symm.trans h)]; exact .nr n⟩, hk0.tr HK2.out⟩
    · have d1 : decide (-9007199254740991 ≤ n) = false := by simpa using h1
      have HF : Hid (M = false) := Lib.hid (by rw [HQ.out]; simp; try omega)
      go_enter Tryz.func263, Tryz.ntmps263
      go_wp2_with fail
      rw [HW0.out]
      first | (go_region_with (go_at_call 267; refine (BA.out _).mono ?_; rintro e w2 ⟨rfl, hk2⟩; have y0 := hk2.drewCell o0; have y1 := hk2.drewCell o1; have y2 := hk2.drewCell o2; have y3 := hk2.drewCell o3; have y4 := hk2.drewCell o4)) | fail
      all_goals
        have HK2 : Hid (Kept (fun _ => True) W0 w2) := Lib.hid (((Kept.refl _ W0).drew).tr hk2)
        clear hk2
        go_wp2
        refine bodyPost_ret (v := .tuple #[.iface 218 (.int .i64 n), .bool false]) (by simp [results, Tryz.results263, go_sem]) rfl ?_
        exact ⟨⟨_, by rw [HMM.out, HF.out], fun h => by rw [HX.out (HMM.out.symm.trans h)]; exact .nr n⟩, hk0.tr HK2.out⟩
set_option maxHeartbeats 8000000 in
set_option maxRecDepth 100000 in
theorem inside_tx (n : Int) (t : List UInt8) (ns : List (List UInt8)) (xs : List J) (na ia : Option Addr) (nc ic : Nat) (us : Nat → Value) (w : World) (hE : JE w.heap.size w) (hr : Rng 4 n t ns xs.length) (hn : RowS (fun _ => True) w (.slice na ns.length nc) ns) (hi : RowJ (fun _ => True) w (.slice ia xs.length ic) xs.length us)
    (hin : ∀ (j : Nat) x, xs[j]? = some x → JIn (fun _ => True) w x (us j)) (hih : ∀ (j : Nat) x, xs[j]? = some x → InsideC (us j) x) (hl : xs.length ≤ 1000000) :
    Calls Tryz.prog 263 #[jotV 4 n t (.slice na ns.length nc) (.slice ia xs.length ic)] w (InQ (.mk 4 n t ns xs) w) := by
  obtain ⟨M, hM⟩ : ∃ M, mayP (.mk 4 n t ns xs) = M := ⟨_, rfl⟩
  have HMM := Lib.hid hM
  obtain ⟨W0, hW0⟩ : ∃ W0, w.alloc (.cells #[.int .i64 4, .int .i64 n, S t, .slice na ns.length nc, .slice ia xs.length ic] 72) = W0 := ⟨_, rfl⟩
  have hk0 : Kept (fun _ => True) w W0 := by rw [← hW0]; exact (Kept.refl _ w).alloc _
  have hz0 : W0.heap.size = w.heap.size + 1 := by rw [← hW0]; simp
  have hbox : OutAt w.heap.size 4 n t (.slice na ns.length nc) (.slice ia xs.length ic) W0 := by rw [← hW0]; exact OutAt.new w 4 n t _ _
  have hbox1 : ∀ w', Kept (fun _ => True) W0 w' → OutAt w.heap.size 4 n t (.slice na ns.length nc) (.slice ia xs.length ic) w' := fun w' hk => hbox.kept hk trivial
  obtain ⟨o0, o1, o2, o3, o4, o5, o6⟩ := hbox.facts
  have HW0 := Lib.hid hW0
  have HB1 := Lib.hid hbox1
  have HR := Lib.hid hr
  have HE := Lib.hid hE
  have HN := Lib.hid hn
  have HI := Lib.hid hi
  have HIN := Lib.hid (And.intro hin hih)
  clear hr hE hn hi hin hih hW0 hbox hbox1 hM
  obtain ⟨q, hq⟩ : ∃ q, bareP false true false false n t ns.length xs.length = q := ⟨_, rfl⟩
  have HQ : Hid (M = (q && Lib.validD t)) := Lib.hid (by
    rw [← HMM.out, ← hq]
    have h1 : (ns == []) = ((ns.length : Int) == 0) := by cases ns <;> simp; omega
    have h2 : xs.isEmpty = ((xs.length : Int) == 0) := by cases xs <;> simp; omega
    simp [mayP, bareP, h1, h2, Bool.and_assoc])
  have HX : Hid (M = true → J.mk 4 n t ns xs = J.tx t) := Lib.hid (fun h => by
    have h := HMM.out.trans h
    simp [mayP] at h
    obtain ⟨⟨⟨rfl, rfl⟩, rfl⟩, _⟩ := h
    rfl)
  have HV := Lib.hid (fun w' (hk : Kept (fun _ => True) W0 w') => valid_any t w' HR.out.2.2.2.2.1 (HE.out.kept (hk0.tr hk) fun _ _ => trivial).u8)
  have BA := Lib.hid (fun w => bare_any false true false false 4 n t na ia ns.length nc xs.length ic w)
  rw [hq] at BA
  clear hq
  cases q with
  | false =>
    have HF : Hid (M = false) := Lib.hid (by rw [HQ.out]; simp; try omega)
    go_enter Tryz.func263, Tryz.ntmps263
    go_wp2_with fail
    rw [HW0.out]
    first | (go_region_with (go_at_call 267; refine (BA.out _).mono ?_; rintro e w2 ⟨rfl, hk2⟩; have y0 := hk2.drewCell o0; have y1 := hk2.drewCell o1; have y2 := hk2.drewCell o2; have y3 := hk2.drewCell o3; have y4 := hk2.drewCell o4)) | fail
    all_goals
      have HK2 : Hid (Kept (fun _ => True) W0 w2) := Lib.hid (((Kept.refl _ W0).drew).tr hk2)
      clear hk2
      go_wp2
      refine bodyPost_ret (v := .tuple #[.iface 194 (S t), .bool false]) (by simp [results, Tryz.results263, go_sem]) rfl ?_
      exact ⟨⟨_, by rw [HMM.out, HF.out], fun h => by rw [HX.out (HMM.out.symm.trans h)]; exact .tx t⟩, hk0.tr HK2.out⟩
  | true =>
    obtain ⟨q2, hq2⟩ : ∃ q2, Lib.validD t = q2 := ⟨_, rfl⟩
    have HF : Hid (M = q2) := Lib.hid (by rw [HQ.out, hq2]; rfl)
    rw [hq2] at HV
    clear hq2
    go_enter Tryz.func263, Tryz.ntmps263
    go_wp2_with fail
    rw [HW0.out]
    first | (go_region_held3 (fun wz => wz.cell? ⟨w.heap.size, 0, none⟩ = some (.int .i64 4) ∧ wz.cell? ⟨w.heap.size, 1, none⟩ = some (.int .i64 n) ∧ wz.cell? ⟨w.heap.size, 2, none⟩ = some (S t) ∧ wz.cell? ⟨w.heap.size, 3, none⟩ = some (.slice na ns.length nc) ∧ wz.cell? ⟨w.heap.size, 4, none⟩ = some (.slice ia xs.length ic)) (go_keep)
      (first
        | (go_at_call 267; (with_reducible refine (BA.out _).mono ?_); rintro e w2 ⟨rfl, hk2⟩
           have y0 := hk2.drewCell o0
           have y1 := hk2.drewCell o1
           have y2 := hk2.drewCell o2
           have y3 := hk2.drewCell o3
           have y4 := hk2.drewCell o4)
        | (go_at_call 268; (with_reducible refine (HV.out _ (((Kept.refl _ W0).drew).tr hk2)).mono ?_); rintro e w3 ⟨rfl, hk3⟩
           have z0 := (hk3.cell (cell_isLt y0) trivial).trans y0
           have z1 := (hk3.cell (cell_isLt y1) trivial).trans y1
           have z2 := (hk3.cell (cell_isLt y2) trivial).trans y2
           have z3 := (hk3.cell (cell_isLt y3) trivial).trans y3
           have z4 := (hk3.cell (cell_isLt y4) trivial).trans y4))) | fail
    have HK2 : Hid (Kept (fun _ => True) W0 w3) := Lib.hid ((((Kept.refl _ W0).drew).tr hk2).tr hk3)
    clear hk2 hk3
    go_wp2
    refine bodyPost_ret (v := .tuple #[.iface 194 (S t), .bool q2]) (by simp [results, Tryz.results263, go_sem]) rfl ?_
    exact ⟨⟨_, by rw [HMM.out, HF.out], fun h => by rw [HX.out (HMM.out.symm.trans h)]; exact .tx t⟩, hk0.tr HK2.out⟩
set_option maxHeartbeats 8000000 in
set_option maxRecDepth 100000 in
theorem inside_list (n : Int) (t : List UInt8) (ns : List (List UInt8)) (xs : List J) (na ia : Option Addr) (nc ic : Nat) (us : Nat → Value) (w : World) (hE : JE w.heap.size w) (hr : Rng 5 n t ns xs.length) (hn : RowS (fun _ => True) w (.slice na ns.length nc) ns) (hi : RowJ (fun _ => True) w (.slice ia xs.length ic) xs.length us)
    (hin : ∀ (j : Nat) x, xs[j]? = some x → JIn (fun _ => True) w x (us j)) (hih : ∀ (j : Nat) x, xs[j]? = some x → InsideC (us j) x) (hl : xs.length ≤ 1000000) :
    Calls Tryz.prog 263 #[jotV 5 n t (.slice na ns.length nc) (.slice ia xs.length ic)] w (InQ (.mk 5 n t ns xs) w) := by
  obtain ⟨M, hM⟩ : ∃ M, mayP (.mk 5 n t ns xs) = M := ⟨_, rfl⟩
  have HMM := Lib.hid hM
  obtain ⟨W0, hW0⟩ : ∃ W0, w.alloc (.cells #[.int .i64 5, .int .i64 n, S t, .slice na ns.length nc, .slice ia xs.length ic] 72) = W0 := ⟨_, rfl⟩
  have hk0 : Kept (fun _ => True) w W0 := by rw [← hW0]; exact (Kept.refl _ w).alloc _
  have hz0 : W0.heap.size = w.heap.size + 1 := by rw [← hW0]; simp
  have hbox : OutAt w.heap.size 5 n t (.slice na ns.length nc) (.slice ia xs.length ic) W0 := by rw [← hW0]; exact OutAt.new w 5 n t _ _
  have hbox1 : ∀ w', Kept (fun _ => True) W0 w' → OutAt w.heap.size 5 n t (.slice na ns.length nc) (.slice ia xs.length ic) w' := fun w' hk => hbox.kept hk trivial
  obtain ⟨o0, o1, o2, o3, o4, o5, o6⟩ := hbox.facts
  have HW0 := Lib.hid hW0
  have HB1 := Lib.hid hbox1
  have HR := Lib.hid hr
  have HE := Lib.hid hE
  have HN := Lib.hid hn
  have HI := Lib.hid hi
  have HIN := Lib.hid (And.intro hin hih)
  clear hr hE hn hi hin hih hW0 hbox hbox1 hM
  have HIT := Lib.hid (items_any xs ia ic us W0 ((HE.out.kept hk0 fun _ _ => trivial).le (by omega)) (HI.out.kept hk0 fun _ _ _ => trivial) (fun j x hx => (HIN.out.1 j x hx).kept hk0 fun _ _ _ => trivial) HIN.out.2 hl)
  obtain ⟨q, hq⟩ : ∃ q, bareP false false false true n t ns.length xs.length = q := ⟨_, rfl⟩
  have HQ : Hid (M = (q && mays xs)) := Lib.hid (by
    rw [← HMM.out, ← hq]
    have h1 : (ns == []) = ((ns.length : Int) == 0) := by cases ns <;> simp; omega
    simp [mayP, bareP, h1, Bool.and_assoc])
  have HX : Hid (M = true → mays xs = true ∧ J.mk 5 n t ns xs = J.list xs) := Lib.hid (fun h => by
    have h := HMM.out.trans h
    simp [mayP] at h
    obtain ⟨⟨⟨rfl, rfl⟩, rfl⟩, h⟩ := h
    exact ⟨h, rfl⟩)
  have BA := Lib.hid (fun w => bare_any false false false true 5 n t na ia ns.length nc xs.length ic w)
  rw [hq] at BA
  clear hq
  go_enter Tryz.func263, Tryz.ntmps263
  go_wp2_with fail
  rw [HW0.out]
  refine HIT.out.mono ?_
  rintro e w1 ⟨⟨lv, rfl, hlv⟩, hk1⟩
  obtain ⟨p0, p1, p2, p3, p4, p5, p6⟩ := (HB1.out w1 hk1).facts
  obtain ⟨m, hm⟩ : ∃ m, mays xs = m := ⟨_, rfl⟩
  have HMS := Lib.hid hm
  have HLV := Lib.hid hlv
  rw [hm]
  clear hm hlv o0 o1 o2 o3 o4 o5 o6
  cases m with
  | false =>
    have HF : Hid (M = false) := Lib.hid (by rw [HQ.out, HMS.out]; simp)
    go_wp2
    refine bodyPost_ret (v := .tuple #[.iface 211 lv, .bool false]) (by simp [results, Tryz.results263, go_sem]) rfl ?_
    exact ⟨⟨_, by rw [HMM.out, HF.out], fun h => by rw [HMM.out, HF.out] at h; cases h⟩, hk0.tr hk1⟩
  | true =>
    have HF : Hid (M = q) := Lib.hid (by rw [HQ.out, HMS.out]; simp)
    go_wp2_with (refine (BA.out _).mono ?_; rintro e w2 ⟨rfl, hk2⟩)
    refine bodyPost_ret (v := .tuple #[.iface 211 lv, .bool q]) (by simp [results, Tryz.results263, go_sem]) rfl ?_
    refine ⟨⟨_, by rw [HMM.out, HF.out], fun h => ?_⟩, (hk0.tr hk1).tr hk2⟩
    rw [(HX.out (HMM.out.symm.trans h)).2]
    obtain ⟨us2, e1, e2, e3⟩ := (HLV.out HMS.out).keptT hk2
    refine .list xs _ (fun j => us2.getD j .nilIface) hl ?_ (fun j x hx => (e3 j x hx).mono fun b _ hb => by have := hb.1; omega)
    rcases ownsRow_view e2 with ⟨e, h0⟩ | ⟨b, cap, e, q1, q2, q3, q4⟩
    · exact .inl ⟨e, h0⟩
    · exact .inr ⟨b, cap, e, q1, by omega, q3, fun j hj => q4 j _ (by show us2[j]? = some (us2.getD j .nilIface); rw [List.getD_eq_getElem?_getD, List.getElem?_eq_getElem (by omega)]; rfl)⟩
set_option maxHeartbeats 8000000 in
set_option maxRecDepth 100000 in
theorem inside_obj (n : Int) (t : List UInt8) (ns : List (List UInt8)) (xs : List J) (na ia : Option Addr) (nc ic : Nat) (us : Nat → Value) (w : World) (hE : JE w.heap.size w) (hr : Rng 6 n t ns xs.length) (hn : RowS (fun _ => True) w (.slice na ns.length nc) ns) (hi : RowJ (fun _ => True) w (.slice ia xs.length ic) xs.length us)
    (hin : ∀ (j : Nat) x, xs[j]? = some x → JIn (fun _ => True) w x (us j)) (hih : ∀ (j : Nat) x, xs[j]? = some x → InsideC (us j) x) (hl : xs.length ≤ 1000000) :
    Calls Tryz.prog 263 #[jotV 6 n t (.slice na ns.length nc) (.slice ia xs.length ic)] w (InQ (.mk 6 n t ns xs) w) := by
  obtain ⟨M, hM⟩ : ∃ M, mayP (.mk 6 n t ns xs) = M := ⟨_, rfl⟩
  have HMM := Lib.hid hM
  obtain ⟨W0, hW0⟩ : ∃ W0, w.alloc (.cells #[.int .i64 6, .int .i64 n, S t, .slice na ns.length nc, .slice ia xs.length ic] 72) = W0 := ⟨_, rfl⟩
  have hk0 : Kept (fun _ => True) w W0 := by rw [← hW0]; exact (Kept.refl _ w).alloc _
  have hz0 : W0.heap.size = w.heap.size + 1 := by rw [← hW0]; simp
  have hbox : OutAt w.heap.size 6 n t (.slice na ns.length nc) (.slice ia xs.length ic) W0 := by rw [← hW0]; exact OutAt.new w 6 n t _ _
  have hbox1 : ∀ w', Kept (fun _ => True) W0 w' → OutAt w.heap.size 6 n t (.slice na ns.length nc) (.slice ia xs.length ic) w' := fun w' hk => hbox.kept hk trivial
  obtain ⟨o0, o1, o2, o3, o4, o5, o6⟩ := hbox.facts
  have HW0 := Lib.hid hW0
  have HB1 := Lib.hid hbox1
  have HR := Lib.hid hr
  have HE := Lib.hid hE
  have HN := Lib.hid hn
  have HI := Lib.hid hi
  have HIN := Lib.hid (And.intro hin hih)
  clear hr hE hn hi hin hih hW0 hbox hbox1 hM
  have HO := Lib.hid (insideObj_any n t ns xs na ia nc ic us W0 ((HE.out.kept hk0 fun _ _ => trivial).le (by omega)) HR.out (HN.out.kept hk0 fun _ _ _ => trivial) (HI.out.kept hk0 fun _ _ _ => trivial) (fun j x hx => (HIN.out.1 j x hx).kept hk0 fun _ _ _ => trivial) HIN.out.2 hl)
  go_enter Tryz.func263, Tryz.ntmps263
  go_wp2_with fail
  rw [HW0.out]
  refine HO.out.mono ?_
  rintro e w1 ⟨⟨u, rfl, hu⟩, hk1⟩
  obtain ⟨m, hm⟩ : ∃ m, mayP (.mk 6 n t ns xs) = m := ⟨_, rfl⟩
  have HU := Lib.hid (And.intro hm hu)
  rw [hm]
  clear hm hu
  go_wp2
  refine bodyPost_ret (v := .tuple #[u, .bool m]) (by simp [results, Tryz.results263, go_sem]) rfl ?_
  exact ⟨⟨_, by rw [HU.out.1], fun h => (HU.out.2 h).mono fun b _ hb => by omega⟩, hk0.tr hk1⟩
set_option maxHeartbeats 8000000 in
set_option maxRecDepth 100000 in
theorem inside_else (k : Int) (n : Int) (t : List UInt8) (ns : List (List UInt8)) (xs : List J) (na ia : Option Addr) (nc ic : Nat) (us : Nat → Value) (w : World) (hk : k ≠ 0 ∧ k ≠ 1 ∧ k ≠ 2 ∧ k ≠ 3 ∧ k ≠ 4 ∧ k ≠ 5 ∧ k ≠ 6) (hE : JE w.heap.size w) (hr : Rng k n t ns xs.length) (hn : RowS (fun _ => True) w (.slice na ns.length nc) ns) (hi : RowJ (fun _ => True) w (.slice ia xs.length ic) xs.length us)
    (hin : ∀ (j : Nat) x, xs[j]? = some x → JIn (fun _ => True) w x (us j)) (hih : ∀ (j : Nat) x, xs[j]? = some x → InsideC (us j) x) (_hl : xs.length ≤ 1000000) :
    Calls Tryz.prog 263 #[jotV k n t (.slice na ns.length nc) (.slice ia xs.length ic)] w (InQ (.mk k n t ns xs) w) := by
  obtain ⟨M, hM⟩ : ∃ M, mayP (.mk k n t ns xs) = M := ⟨_, rfl⟩
  have HMM := Lib.hid hM
  obtain ⟨W0, hW0⟩ : ∃ W0, w.alloc (.cells #[.int .i64 k, .int .i64 n, S t, .slice na ns.length nc, .slice ia xs.length ic] 72) = W0 := ⟨_, rfl⟩
  have hk0 : Kept (fun _ => True) w W0 := by rw [← hW0]; exact (Kept.refl _ w).alloc _
  have hz0 : W0.heap.size = w.heap.size + 1 := by rw [← hW0]; simp
  have hbox : OutAt w.heap.size k n t (.slice na ns.length nc) (.slice ia xs.length ic) W0 := by rw [← hW0]; exact OutAt.new w k n t _ _
  have hbox1 : ∀ w', Kept (fun _ => True) W0 w' → OutAt w.heap.size k n t (.slice na ns.length nc) (.slice ia xs.length ic) w' := fun w' hk => hbox.kept hk trivial
  obtain ⟨o0, o1, o2, o3, o4, o5, o6⟩ := hbox.facts
  have HW0 := Lib.hid hW0
  have HB1 := Lib.hid hbox1
  have HR := Lib.hid hr
  have HE := Lib.hid hE
  have HN := Lib.hid hn
  have HI := Lib.hid hi
  have HIN := Lib.hid (And.intro hin hih)
  clear hr hE hn hi hin hih hW0 hbox hbox1 hM
  have HF : Hid (M = false) := Lib.hid (by rw [← HMM.out]; simp [mayP, hk])
  have q0 : (k == 0) = false := by simpa using hk.1
  have q1 : (k == 1) = false := by simpa using hk.2.1
  have q2 : (k == 2) = false := by simpa using hk.2.2.1
  have q3 : (k == 3) = false := by simpa using hk.2.2.2.1
  have q4 : (k == 4) = false := by simpa using hk.2.2.2.2.1
  have q5 : (k == 5) = false := by simpa using hk.2.2.2.2.2.1
  have q6 : (k == 6) = false := by simpa using hk.2.2.2.2.2.2
  clear hk
  go_enter Tryz.func263, Tryz.ntmps263
  go_wp2_with fail
  rw [HW0.out]
  refine bodyPost_ret (v := .tuple #[.iface 192 (.agg #[]), .bool false]) (by simp [results, Tryz.results263, go_sem]) rfl ?_
  exact ⟨⟨_, by rw [HMM.out, HF.out], fun h => by rw [HMM.out, HF.out] at h; cases h⟩, hk0⟩
theorem inside_any : ∀ x : J, Few 1000000 x → ∀ v, InsideC v x := by
  refine J.ind fun k n t ns xs IH => ?_
  intro hf v w hx hE
  obtain ⟨na, nc, ia, ic, us, rfl, hr, hn, hi, h⟩ := hx.invM
  obtain ⟨hf1, hf2, hf3⟩ := hf.inv
  simp only [J.names, J.items] at hf1 hf2 hf3
  have hih : ∀ (j : Nat) x, xs[j]? = some x → InsideC (us j) x := fun j x hx => IH x (List.mem_of_getElem? hx) (hf3 j x hx) (us j)
  by_cases h0 : k = 0
  · subst h0; exact inside_null n t ns xs na ia nc ic us w hE hr hn hi h hih hf2
  by_cases h1 : k = 1
  · subst h1; exact inside_fls n t ns xs na ia nc ic us w hE hr hn hi h hih hf2
  by_cases h2 : k = 2
  · subst h2; exact inside_tru n t ns xs na ia nc ic us w hE hr hn hi h hih hf2
  by_cases h3 : k = 3
  · subst h3; exact inside_nr n t ns xs na ia nc ic us w hE hr hn hi h hih hf2
  by_cases h4 : k = 4
  · subst h4; exact inside_tx n t ns xs na ia nc ic us w hE hr hn hi h hih hf2
  by_cases h5 : k = 5
  · subst h5; exact inside_list n t ns xs na ia nc ic us w hE hr hn hi h hih hf2
  by_cases h6 : k = 6
  · subst h6; exact inside_obj n t ns xs na ia nc ic us w hE hr hn hi h hih hf2
  · exact inside_else k n t ns xs na ia nc ic us w ⟨h0, h1, h2, h3, h4, h5, h6⟩ hE hr hn hi h hih hf2
end Go.Proofs.YtpcgfhleloonfaaGreatDoor
namespace Go.Proofs.YtpcgfhleloonfaaGreatDoor
open Go.RowKit Jo Go.Shelf
set_option maxHeartbeats 8000000 in
set_option maxRecDepth 100000 in
theorem Print_any (x : J) (v : Value) (w : World) (hx : JIn (fun _ => True) w x v) (hE : JE w.heap.size w) (hf : Few 1000000 x) (hd : depthP x ≤ 1000000000) (hl : mayP x = true → (layP x).length ≤ 1099511627776) :
    Calls Tryz.prog 262 #[v] w fun e w' => e = .returned (.tuple #[S (printP x).1, .int .i64 (printP x).2]) ∧ Kept (fun _ => True) w w' := by
  obtain ⟨na, nc, ia, ic, us, rfl, hr, hn, hi, h⟩ := hx.inv
  obtain ⟨R, hR⟩ : ∃ R, printP x = R := ⟨_, rfl⟩
  have HR : Hid (R = if mayP x = false then ([], 43) else if 16 < depthP x then ([], 41) else if 4000 < (layP x).length then ([], 44) else (layP x, 0)) := Lib.hid (by rw [← hR]; rfl)
  rw [hR]
  clear hR
  obtain ⟨k, n, t, ns, xs⟩ := x
  simp only [J.kind, J.num, J.text, J.names, J.items] at *
  obtain ⟨X, hX⟩ : ∃ X, J.mk k n t ns xs = X := ⟨_, rfl⟩
  obtain ⟨W0, hW0⟩ : ∃ W0, w.alloc (.cells #[.int .i64 k, .int .i64 n, S t, .slice na ns.length nc, .slice ia xs.length ic] 72) = W0 := ⟨_, rfl⟩
  have hk0 : Kept (fun _ => True) w W0 := by rw [← hW0]; exact (Kept.refl _ w).alloc _
  have hz0 : W0.heap.size = w.heap.size + 1 := by rw [← hW0]; simp
  have hbox : OutAt w.heap.size k n t (.slice na ns.length nc) (.slice ia xs.length ic) W0 := by rw [← hW0]; exact OutAt.new w k n t _ _
  have HIN := Lib.hid (inside_any _ hf _ W0 (hx.kept hk0 fun _ _ _ => trivial) ((hE.kept hk0 fun _ _ => trivial).le (by omega)))
  rw [hX] at HIN HR hd hl
  obtain ⟨o0, o1, o2, o3, o4, o5, o6⟩ := hbox.facts
  have HE := Lib.hid hE
  have HW0 := Lib.hid hW0
  have HD := Lib.hid hd
  have HL := Lib.hid hl
  clear hx hr hn hi h hf hE hW0 hbox hX hd hl
  go_enter Tryz.func262, Tryz.ntmps262
  go_wp2_with fail
  rw [HW0.out]
  refine HIN.out.mono ?_
  rintro e w1 ⟨⟨u, rfl, hu⟩, hk1⟩
  have hk01 := hk0.tr hk1
  cases hm : mayP X with
  | false =>
    have HN : Hid (R = ([], 43)) := Lib.hid (by rw [HR.out, hm]; rfl)
    clear hm hu HR o0 o1 o2 o3 o4 o5 o6
    go_wp2
    refine bodyPost_ret (v := .tuple #[S [], .int .i64 43]) (by simp [results, Tryz.results262, go_sem]) rfl ?_
    rw [HN.out]
    exact ⟨rfl, hk01⟩
  | true =>
    have hu := hu hm
    have HU := Lib.hid hu
    have HDC := Lib.hid (depth_any X _ w1 u HD.out hu)
    have HM := Lib.hid hm
    have HR2 : Hid (R = if 16 < depthP X then ([], 41) else if 4000 < (layP X).length then ([], 44) else (layP X, 0)) := Lib.hid (by rw [HR.out, hm]; rfl)
    have HL2 := Lib.hid (HL.out hm)
    obtain ⟨d, hdd⟩ : ∃ d, depthP X = d := ⟨_, rfl⟩
    have HDX := Lib.hid hdd
    rw [hdd] at HDC HR2 HD
    have hd9 := HD.out
    clear hm hu hdd HR HL HIN o0 o1 o2 o3 o4 o5 o6
    by_cases h16 : 16 < d
    · have HN : Hid (R = ([], 41)) := Lib.hid (by rw [HR2.out, if_pos h16])
      clear HR2
      go_wp2_with (refine HDC.out.mono ?_; rintro e w2 ⟨rfl, hk2⟩)
      refine bodyPost_ret (v := .tuple #[S [], .int .i64 41]) (by simp [results, Tryz.results262, go_sem]) rfl ?_
      rw [HN.out]
      exact ⟨rfl, hk01.tr hk2⟩
    · have HR3 : Hid (R = if 4000 < (layP X).length then ([], 44) else (layP X, 0)) := Lib.hid (by rw [HR2.out, if_neg h16])
      clear HR2
      go_wp2_with (first
        | (go_at_call 264; refine HDC.out.mono ?_; rintro e w2 ⟨rfl, hk2⟩)
        | fail)
      have hk02 := hk01.tr hk2
      obtain ⟨W3, hW3⟩ : ∃ W3, w2.alloc (.cells #[.pointer none, .slice none 0 0] 130) = W3 := ⟨_, rfl⟩
      have hb : Bd w2.heap.size [] W3 := by rw [← hW3]; exact Lib.fresh_isBuilder _ _ _
      have hk3 : Kept (fun _ => True) w2 W3 := by rw [← hW3]; exact (Kept.refl _ w2).alloc _
      have hE3 : JE w2.heap.size W3 := (HE.out.kept (hk02.tr hk3) fun _ _ => trivial).le hk02.size
      have hV3 : VIn (· < w2.heap.size) W3 X u := ((HU.out.kept hk2 fun _ _ _ => trivial).mono (ok2 := (· < w2.heap.size)) fun b hb _ => hb).kept hk3 fun _ _ _ => trivial
      have HLY := Lib.hid (lays_any w2.heap.size (may_of X HM.out) u [] W3 hb hE3 hV3 (by simpa using HL2.out))
      have hzb : w2.heap.size ≤ W3.heap.size := hk3.size
      clear hb hE3 hV3
      rw [hW3]
      have HW3 := Lib.hid hW3
      clear hW3
      go_wp2_with fail
      refine HLY.out.mono ?_
      rintro e w4 ⟨rfl, hb4, hk4⟩
      have hk04 : Kept (fun _ => True) w w4 := (hk02.tr hk3).trans hk4.to fun i hi _ => by have := hk02.size; omega
      rw [List.nil_append] at hb4
      have hz4 := hk4.size
      have HB4 := Lib.hid hb4
      clear hb4
      have HLEN := Lib.hid (Tryz.Builder_Len w2.heap.size w2.heap.size _ w4 HB4.out)
      have hbl : (Lib.byteCells (layP X)).length = (layP X).length := by simp [Lib.byteCells]
      rw [hbl] at HLEN
      clear hbl
      obtain ⟨L, hL⟩ : ∃ L, layP X = L := ⟨_, rfl⟩
      rw [hL] at HLEN HB4 HR3 HL2
      have hll := HL2.out
      clear hL
      by_cases h4 : 4000 < L.length
      · have HN : Hid (R = ([], 44)) := Lib.hid (by rw [HR3.out, if_pos h4])
        clear HR3
        go_wp2_with (refine HLEN.out.mono ?_; rintro e w5 ⟨rfl, rfl⟩)
        refine bodyPost_ret (v := .tuple #[S [], .int .i64 44]) (by simp [results, Tryz.results262, go_sem]) rfl ?_
        rw [HN.out]
        exact ⟨rfl, hk04⟩
      · have HN : Hid (R = (L, 0)) := Lib.hid (by rw [HR3.out, if_neg h4])
        clear HR3
        have HST := Lib.hid (Tryz.Builder_String_any w2.heap.size w2.heap.size L w4 HB4.out (by omega))
        go_wp2_with (first
          | (go_at_call 266; refine HLEN.out.mono ?_; rintro e w5 ⟨rfl, rfl⟩)
          | (go_at_call 96; refine HST.out.mono ?_; rintro e w6 ⟨rfl, hb6⟩))
        refine bodyPost_ret (v := .tuple #[S L, .int .i64 0]) (by simp [results, Tryz.results262, go_sem]) rfl ?_
        rw [HN.out]
        exact ⟨rfl, hk04.trans (ok2 := fun i => i < w2.heap.size) ⟨hb6.os, hb6.tape, hb6.output, hb6.size, fun i _ h => hb6.block i h⟩ fun i hi _ => by have := hk02.size; omega⟩
end Go.Proofs.YtpcgfhleloonfaaGreatDoor
namespace Go.Proofs.YtpcgfhleloonfaaGreatDoor
open Go.RowKit Jo Ac
/-- What the library's variables hold. -/
structure AE (w : World) : Prop where
  je : JE w.heap.size w
  ml : ∃ m, w.cell? ⟨2, 0, none⟩ = some (.int .i64 m)
  es : ∃ t p, w.cell? ⟨0, 0, none⟩ = some (.iface t p)
  er : ∃ t p, w.cell? ⟨1, 0, none⟩ = some (.iface t p)
theorem AE.kept {w w' : World} (h : AE w) (hk : Kept (fun _ => True) w w') : AE w' :=
  ⟨(h.je.kept hk fun _ _ => trivial).le hk.size, (let ⟨m, e⟩ := h.ml; ⟨m, (hk.cell (cell_isLt e) trivial).trans e⟩), (let ⟨t, p, e⟩ := h.es; ⟨t, p, (hk.cell (cell_isLt e) trivial).trans e⟩), (let ⟨t, p, e⟩ := h.er; ⟨t, p, (hk.cell (cell_isLt e) trivial).trans e⟩)⟩
/-- A text or a number in an object. -/
inductive Lf where
  | t (s : List UInt8)
  | n (x : Int)
def Lf.j : Lf → J
  | .t s => .mk 4 0 s [] []
  | .n x => .mk 3 x [] [] []
abbrev txV (s : List UInt8) : Value := jotV 4 0 s (.slice none 0 0) (.slice none 0 0)
abbrev nrV (n : Int) : Value := jotV 3 n [] (.slice none 0 0) (.slice none 0 0)
def Lf.cs : Lf → List Value
  | .t s => [.int .i64 4, .int .i64 0, S s, .slice none 0 0, .slice none 0 0]
  | .n x => [.int .i64 3, .int .i64 x, S [], .slice none 0 0, .slice none 0 0]
def Lf.v : Lf → Value
  | .t s => txV s
  | .n x => nrV x
def Lf.ok : Lf → Prop
  | .t s => s.length ≤ 16777216
  | .n x => -9223372036854775808 ≤ x ∧ x ≤ 9223372036854775807
theorem lf_at : ∀ (ls : List Lf) (j : Nat) x, ls[j]? = some x → ∀ (o : Nat) v, x.cs[o]? = some v → o < 5 → (ls.flatMap Lf.cs)[j * 5 + o]? = some v
  | [], j, x, h, _, _, _, _ => by simp at h
  | y :: r, 0, x, h, o, v, hv, ho => by
    obtain rfl := Option.some.inj (show some y = some x from h)
    have hl : y.cs.length = 5 := by cases y <;> rfl
    rw [List.flatMap_cons, Nat.zero_mul, Nat.zero_add, List.getElem?_append_left (by omega)]
    exact hv
  | y :: r, j + 1, x, h, o, v, hv, ho => by
    have hl : y.cs.length = 5 := by cases y <;> rfl
    rw [List.flatMap_cons, List.getElem?_append_right (by omega), hl, show (j + 1) * 5 + o - 5 = j * 5 + o by omega]
    exact lf_at r j x h o v hv ho
theorem jin_leaf (w : World) (x : Lf) (h : x.ok) : JIn (fun _ => True) w x.j x.v := by
  cases x with
  | t s => exact .mk 4 0 s [] [] _ _ (fun _ => undef) ⟨by omega, by omega, by omega, by omega, by have : s.length ≤ 16777216 := h; omega, by simp, by simp, by simp⟩ (.inl ⟨_, _, rfl, rfl⟩) (.inl ⟨_, _, rfl, rfl⟩) (fun j x hj => by simp at hj)
  | n x => exact .mk 3 x [] [] [] _ _ (fun _ => undef) ⟨by omega, by omega, h.1, h.2, by simp, by simp, by simp, by simp⟩ (.inl ⟨_, _, rfl, rfl⟩) (.inl ⟨_, _, rfl, rfl⟩) (fun j x hj => by simp at hj)
theorem jin_obj {w : World} {ns : List (List UInt8)} {ls : List Lf} {g1 g2 c1 c2 : Nat} (h1 : w.heap[g1]? = some (.cells (ns.map S).toArray 9 (0, 0))) (h2 : w.heap[g2]? = some (.cells (ls.flatMap Lf.cs).toArray 72 (0, 0))) (hc1 : ns.length ≤ c1) (hc2 : ls.length ≤ c2) (hn : ns.length ≤ 8) (hl : ls.length ≤ 8) (hns : ∀ s ∈ ns, s.length ≤ 16777216) (hls : ∀ x ∈ ls, x.ok) :
    JIn (fun _ => True) w (.mk 6 0 [] ns (ls.map Lf.j)) (jotV 6 0 [] (.slice (some ⟨g1, 0, none⟩) ns.length c1) (.slice (some ⟨g2, 0, none⟩) ls.length c2)) := by
  refine .mk 6 0 [] ns (ls.map Lf.j) _ _ (fun j => (ls[j]?.map Lf.v).getD undef) ⟨by omega, by omega, by omega, by omega, by simp, by omega, fun s hs => by have := hns s hs; omega, by rw [List.length_map]; omega⟩ (.inr ⟨g1, 0, c1, rfl, hc1, trivial, (Array.getElem?_eq_some_iff.1 h1).1, fun j s hj => ?_⟩) ?_ fun j x hj => ?_
  · rw [Nat.zero_add, cell_of_row _ _ _ _ _ _ h1]
    simp [hj]
  · refine .inr ⟨g2, 0, c2, by rw [List.length_map], by rw [List.length_map]; exact hc2, trivial, (Array.getElem?_eq_some_iff.1 h2).1, fun j hj => ?_⟩
    rw [List.length_map] at hj
    obtain ⟨x, hx⟩ : ∃ x, ls[j]? = some x := ⟨_, List.getElem?_eq_getElem hj⟩
    have hc : ∀ o v, o < 5 → x.cs[o]? = some v → w.cell? ⟨g2, 0 + j * 5 + o, none⟩ = some v := fun o v ho hv => by
      rw [Nat.zero_add, cell_of_row _ _ _ _ _ _ h2, List.getElem?_toArray]
      exact lf_at ls j x hx o v hv ho
    show Cells5 w g2 (0 + j * 5) ((ls[j]?.map Lf.v).getD undef)
    rw [hx]
    cases x with
    | t s => exact ⟨4, 0, s, none, 0, 0, none, 0, 0, rfl, hc 0 _ (by omega) rfl, hc 1 _ (by omega) rfl, hc 2 _ (by omega) rfl, hc 3 _ (by omega) rfl, hc 4 _ (by omega) rfl⟩
    | n y => exact ⟨3, y, [], none, 0, 0, none, 0, 0, rfl, hc 0 _ (by omega) rfl, hc 1 _ (by omega) rfl, hc 2 _ (by omega) rfl, hc 3 _ (by omega) rfl, hc 4 _ (by omega) rfl⟩
  · rw [List.getElem?_map] at hj
    obtain ⟨y, hy, rfl⟩ := Option.map_eq_some_iff.1 hj
    show JIn (fun _ => True) w y.j ((ls[j]?.map Lf.v).getD undef)
    rw [hy]
    exact jin_leaf w y (hls y (List.mem_of_getElem? hy))
theorem few_obj (ns : List (List UInt8)) (ls : List Lf) (hn : ns.length ≤ 8) (hl : ls.length ≤ 8) : Few 1000000 (.mk 6 0 [] ns (ls.map Lf.j)) := by
  refine .mk _ _ _ _ _ (by omega) (by rw [List.length_map]; omega) fun j x hj => ?_
  rw [List.getElem?_map] at hj
  obtain ⟨y, hy, rfl⟩ := Option.map_eq_some_iff.1 hj
  cases y <;> exact .mk _ _ _ _ _ (by simp) (by simp) fun j x hj => by simp at hj
theorem deep_obj (ns : List (List UInt8)) (ls : List Lf) : depthP (.mk 6 0 [] ns (ls.map Lf.j)) = 1 := by
  have : ∀ ls : List Lf, deepest (ls.map Lf.j) = 0 := fun ls => by
    induction ls with
    | nil => rfl
    | cons x r ih =>
      rw [List.map_cons, deepest, ih]
      cases x <;> rfl
  unfold depthP
  rw [if_pos (.inr rfl), this]
theorem joinC_le (M : Nat) : ∀ l : List (List UInt8), (∀ x ∈ l, x.length ≤ M) → (joinC l).length ≤ l.length * (M + 1)
  | [], _ => by simp [joinC]
  | [a], h => by
    have := h a List.mem_cons_self
    simp only [joinC, List.length_singleton]
    omega
  | a :: b :: r, h => by
    have h1 := h a List.mem_cons_self
    have ih := joinC_le M (b :: r) fun x hx => h x (List.mem_cons_of_mem _ hx)
    simp only [joinC, List.length_append, List.length_cons, Nat.add_mul] at ih ⊢
    omega
theorem itoa_le64 (n : Int) (h1 : -9223372036854775808 ≤ n) (h2 : n ≤ 9223372036854775807) : (Lib.itoa n).length ≤ 21 := by
  unfold Lib.itoa
  split
  · rw [List.length_cons, Lib.decDigits_length]
    have := nDigits_le 18 n.natAbs (by simp only [Nat.reduceAdd, Nat.reducePow]; omega)
    omega
  · rw [Lib.decDigits_length]
    have := nDigits_le 18 n.toNat (by simp only [Nat.reduceAdd, Nat.reducePow]; omega)
    omega
theorem leaf_le (x : Lf) (h : x.ok) : (layP x.j).length ≤ 100663330 := by
  cases x with
  | t s =>
    have h1 : s.length ≤ 16777216 := h
    have h2 := quoteP_le s
    show (layP (.mk 4 0 s [] [])).length ≤ _
    have : layP (.mk 4 0 s [] []) = quoteP s := by simp [layP]
    rw [this]
    omega
  | n x =>
    have h1 := itoa_le64 x h.1 h.2
    show (layP (.mk 3 x [] [] [])).length ≤ _
    have : layP (.mk 3 x [] [] []) = Lib.itoa x := by simp [layP]
    rw [this]
    omega
theorem obj_le (ns : List (List UInt8)) (ls : List Lf) (hn : ns.length ≤ 8) (hns : ∀ s ∈ ns, s.length ≤ 16777216) (hls : ∀ x ∈ ls, x.ok) : (layP (.mk 6 0 [] ns (ls.map Lf.j))).length ≤ 1099511627776 := by
  have e : layP (.mk 6 0 [] ns (ls.map Lf.j)) = 123 :: (joinC (List.zipWith (fun n y => quoteP n ++ 58 :: y) ns (layAll (ls.map Lf.j))) ++ [125]) := by simp [layP]
  have h1 := joinC_le 300000000 (List.zipWith (fun n y => quoteP n ++ 58 :: y) ns (layAll (ls.map Lf.j))) fun x hx => by
    obtain ⟨i, hi, rfl⟩ := List.getElem_of_mem hx
    rw [List.getElem_zipWith]
    have h3 := hns _ (List.getElem_mem (l := ns) (n := i) (by rw [List.length_zipWith] at hi; omega))
    have h4 := quoteP_le (ns[i]'(by rw [List.length_zipWith] at hi; omega))
    have h5 : ∀ y ∈ layAll (ls.map Lf.j), y.length ≤ 100663330 := fun y hy => by
      rw [layAll_map, List.map_map] at hy
      obtain ⟨x, hx, rfl⟩ := List.mem_map.1 hy
      exact leaf_le x (hls x hx)
    have h6 := h5 _ (List.getElem_mem (l := layAll (ls.map Lf.j)) (n := i) (by rw [List.length_zipWith] at hi; omega))
    rw [List.length_append, List.length_cons]
    omega
  have h2 : (List.zipWith (fun n y => quoteP n ++ 58 :: y) ns (layAll (ls.map Lf.j))).length ≤ 8 := by rw [List.length_zipWith]; omega
  have h3 : (List.zipWith (fun n y => quoteP n ++ 58 :: y) ns (layAll (ls.map Lf.j))).length * (300000000 + 1) ≤ 8 * (300000000 + 1) := Nat.mul_le_mul_right _ h2
  rw [e, List.length_cons, List.length_append, List.length_singleton]
  omega
def obP (ns : List (List UInt8)) (ls : List Lf) : List UInt8 := (printP (.mk 6 0 [] ns (ls.map Lf.j))).1
theorem words_any (s : List UInt8) (w : World) : Calls Tryz.prog 261 #[S s] w fun e w' => e = .returned (txV s) ∧ Kept (fun _ => True) w w' := by
  go_enter Tryz.func261, Tryz.ntmps261
  go_wp2
  refine bodyPost_ret (v := txV s) (by simp [results, Tryz.results261, go_sem]) rfl ?_
  refine ⟨rfl, ?_⟩
  repeat refine Kept.setCell ?_ (.inl (by simp)) _
  exact (Kept.refl _ _).alloc _
theorem accNumber_any (n : Int) (w : World) : Calls Tryz.prog 278 #[.int .i64 n] w fun e w' => e = .returned (nrV n) ∧ Kept (fun _ => True) w w' := by
  go_enter Tryz.func278, Tryz.ntmps278
  go_wp2
  refine bodyPost_ret (v := nrV n) (by simp [results, Tryz.results278, go_sem]) rfl ?_
  refine ⟨rfl, ?_⟩
  repeat refine Kept.setCell ?_ (.inl (by simp)) _
  exact (Kept.refl _ _).alloc _
theorem near_any (n : Int) (w : World) : Calls Tryz.prog 109 #[.int .i64 n] w fun e w' => e = .returned (.int .i64 (min (max n 0) 1099511627776)) ∧ w' = w := by
  go_enter Tryz.func109, Tryz.ntmps109
  go_wp2
  go_ret
  exact ⟨rfl, rfl⟩
theorem add0_any (n : Int) (w : World) : Calls Tryz.prog 81 #[.int .i64 n, .int .i64 0] w fun e w' => e = .returned (.int .i64 (min (max n 0) 1099511627776)) ∧ w' = w := by
  have NA := Lib.hid (near_any n w)
  obtain ⟨m, hm⟩ : ∃ m, min (max n 0) 1099511627776 = m := ⟨_, rfl⟩
  have h0 : 0 ≤ m := by omega
  have h1 : m ≤ 1099511627776 := by omega
  rw [hm] at NA ⊢
  clear hm
  go_enter Tryz.func81, Tryz.ntmps81
  go_wp2_with fail
  refine NA.out.mono ?_
  rintro e w1 ⟨rfl, rfl⟩
  go_wp2
  go_ret
  exact ⟨rfl, rfl⟩
theorem nearest_any (n : Int) (w : World) : Calls Tryz.prog 44 #[.int .i64 n] w fun e w' => e = .returned (.int .i64 (min (max n 0) 1099511627776)) ∧ w' = w := by
  have NA := Lib.hid (add0_any n w)
  go_enter Tryz.func44, Tryz.ntmps44
  go_wp2_with fail
  refine NA.out.mono ?_
  rintro e w1 ⟨rfl, rfl⟩
  go_wp2
  go_ret
  exact ⟨rfl, rfl⟩
theorem printed_any (ns : List (List UInt8)) (ls : List Lf) (g1 g2 c1 c2 n m : Nat) (w : World) (hn1 : n = ns.length) (hm1 : m = ls.length) (h1 : w.heap[g1]? = some (.cells (ns.map S).toArray 9 (0, 0))) (h2 : w.heap[g2]? = some (.cells (ls.flatMap Lf.cs).toArray 72 (0, 0))) (hc1 : ns.length ≤ c1) (hc2 : ls.length ≤ c2) (hn : ns.length ≤ 8) (hl : ls.length ≤ 8) (hns : ∀ s ∈ ns, s.length ≤ 16777216) (hls : ∀ x ∈ ls, x.ok) (hE : AE w) : Calls Tryz.prog 260 #[.slice (some ⟨g1, 0, none⟩) n c1, .slice (some ⟨g2, 0, none⟩) m c2] w fun e w' => e = .returned (S (obP ns ls)) ∧ Kept (fun _ => True) w w' := by
  subst hn1 hm1
  have PR := Lib.hid (Print_any _ _ w (jin_obj h1 h2 hc1 hc2 hn hl hns hls) hE.je (few_obj ns ls hn hl) (by rw [deep_obj]; omega) fun _ => obj_le ns ls hn hns hls)
  clear h1 h2 hc1 hc2 hn hl hns hls hE
  go_enter Tryz.func260, Tryz.ntmps260
  go_wp2_with fail
  refine PR.out.mono ?_
  rintro e w1 ⟨rfl, hk⟩
  go_wp2
  go_ret
  exact ⟨rfl, hk⟩
end Go.Proofs.YtpcgfhleloonfaaGreatDoor
namespace Go.Proofs.YtpcgfhleloonfaaGreatDoor
open Go.RowKit Jo Ac
abbrev Rel := (Nat → Prop) → Value → World → Prop
structure Last1 (r : Rel) : Prop where
  kept : ∀ ok v w w', r ok v w → Kept ok w w' → r ok v w'
  mono : ∀ ok ok2 v w, r ok v w → (∀ b, b < w.heap.size → ok b → ok2 b) → r ok2 v w
def relOf (l : List Rel) : Nat → Rel := fun i => l.getD i fun _ _ _ => True
theorem lasts_of (l : List Rel) (h : ∀ r ∈ l, Last1 r) : Lasts (relOf l) := by
  have key : ∀ i, Last1 (relOf l i) := fun i => by
    unfold relOf
    rw [List.getD_eq_getElem?_getD]
    cases hx : l[i]? with
    | none => exact ⟨fun _ _ _ _ _ _ => trivial, fun _ _ _ _ _ _ => trivial⟩
    | some r => exact h r (List.mem_of_getElem? hx)
  exact ⟨fun i => (key i).kept, fun i => (key i).mono⟩
/-- Known ahead. -/
def isV (c : Value) : Rel := fun _ v _ => v = c
theorem isV_last (c : Value) : Last1 (isV c) := ⟨fun _ _ _ _ h _ => h, fun _ _ _ _ h _ => h⟩
/-- A list that was made: m elements, its cells. -/
def isRow (T : TypeId) (m : Nat) (cs : List Value) : Rel := fun ok v w => ∃ g, v = .slice (some ⟨g, 0, none⟩) m m ∧ ok g ∧ w.heap[g]? = some (.cells cs.toArray T (0, 0))
theorem isRow_last (T : TypeId) (m : Nat) (cs : List Value) : Last1 (isRow T m cs) := ⟨fun _ok _v _w _w' ⟨g, h1, h2, h3⟩ hk => ⟨g, h1, h2, (hk.block g (Array.getElem?_eq_some_iff.1 h3).1 h2).trans h3⟩, fun _ok _ok2 _v _w ⟨g, h1, h2, h3⟩ hm => ⟨g, h1, hm g (Array.getElem?_eq_some_iff.1 h3).1 h2, h3⟩⟩
section
variable {P : Program} {ops : Array Oper} {Q : Exit → Act → World → Prop} {ds : List (Option Nat)} {base : Act} {W : World} {R : Nat → (Nat → Prop) → Value → World → Prop} {tgs : List Tgt} {L : Nat → Bool} {vs : Nat → Value} {a : Act} {w w' : World} {i : Nat} {o : Oper} {v : Value}
theorem Pre.get (p : Pre ops ds base L vs a i o) (h : WIs W R tgs L vs w) (j k : Nat) (hj : ds[j]? = some (some k)) (hd : (o.after.toList.any fun e => Region.binds .any e && e.on == j) = true) : ∃ ok, a.eval (.tmp k) = vs j ∧ R j ok (vs j) w := by
  obtain ⟨ok, G, h1, h2, h2', h3, h4⟩ := h
  exact ⟨ok, p.val j k hj (p.dep j hd), h3 j (p.dep j hd)⟩
/-- The value of an operation that this one waits for, if it is known ahead. -/
theorem Pre.isv (p : Pre ops ds base L vs a i o) (h : WIs W R tgs L vs w) (j k : Nat) {c : Value} (hr : R j = isV c) (hj : ds[j]? = some (some k)) (hd : (o.after.toList.any fun e => Region.binds .any e && e.on == j) = true) : a.eval (.tmp k) = c := by
  obtain ⟨ok, h1, h2⟩ := p.get h j k hj hd
  rw [hr] at h2
  exact h1.trans h2
theorem WIs.kept (h : WIs W R tgs L vs w) (hT : ∀ t ∈ tgs, t.al ≠ none) : Kept (fun _ => True) W w := by
  obtain ⟨ok, G, h1, h2, h2', h3, h4⟩ := h
  exact h1.mono fun b hb _ => h2' b hb fun t ht e => absurd e (hT t ht)
theorem Pre.notyet (p : Pre ops ds base L vs a i o) (j : Nat) {o' : Oper} (ho : ops[j]? = some o') (hd : (o'.after.toList.any fun e => Region.binds .any e && e.on == i) = true) : L j = false := by
  cases hL : L j with
  | false => rfl
  | true =>
    obtain ⟨e, h1, h2⟩ := List.any_eq_true.1 hd
    simp only [Bool.and_eq_true, beq_iff_eq] at h2
    have := p.clo j o' ho hL e (Array.mem_toList_iff.1 h1) h2.1
    rw [h2.2, p.fresh] at this
    cases this
abbrev FG (P : Program) (ops : Array Oper) (Q : Exit → Act → World → Prop) (W : World) (R : Nat → (Nat → Prop) → Value → World → Prop) (tgs : List Tgt) (L : Nat → Bool) (vs : Nat → Value) (a : Act) (i : Nat) (o : Oper) (w : World) : Prop := wpOp P ops Q i (fun a' w' => ∃ v, a' = a.put o.dst v ∧ WIs W R tgs (seen L i) (updV vs i v) w') a w
theorem flow_val (p : Pre ops ds base L vs a i o) (hg : o.guard = none) (h : WIs W R tgs L vs w) (hR : Lasts R) (hT : ∀ t ∈ tgs, t.al ≠ some i ∧ t.st ≠ i ∧ (L t.st = true → t.src ≠ i)) (hr : (execOp a.eval o).run P w = .ok (.value v) w') (hk : Kept (fun _ => True) w w') (hv : ∀ ok : Nat → Prop, (∀ b, w.heap.size ≤ b → ok b) → R i ok v w') : FG P ops Q W R tgs L vs a i o w :=
  wpOp_val p.isAt hg hr ⟨v, rfl, h.value hR p.fresh hT hk hv⟩
theorem flow_is (p : Pre ops ds base L vs a i o) (hg : o.guard = none) (h : WIs W R tgs L vs w) (hR : Lasts R) (hT : ∀ t ∈ tgs, t.al ≠ some i ∧ t.st ≠ i ∧ (L t.st = true → t.src ≠ i)) {c : Value} (hc : R i = isV c) (hr : (execOp a.eval o).run P w = .ok (.value c) w) : FG P ops Q W R tgs L vs a i o w :=
  flow_val p hg h hR hT hr (Kept.refl _ _) fun ok _ => by rw [hc]; rfl
theorem flow_call (p : Pre ops ds base L vs a i o) (hg : o.guard = none) (h : WIs W R tgs L vs w) (hR : Lasts R) (hT : ∀ t ∈ tgs, t.al ≠ some i ∧ t.st ≠ i ∧ (L t.st = true → t.src ≠ i)) {f : FuncId} {args : Array Value} {K : Ending → World → Prop} (hrun : (execOp a.eval o).run P w = .ok (.enter f args) w) (hc : Calls P f args w K)
    (hv : ∀ e w', K e w' → ∃ v, e = .returned v ∧ Kept (fun _ => True) w w' ∧ ∀ ok : Nat → Prop, (∀ b, w.heap.size ≤ b → ok b) → R i ok v w') : FG P ops Q W R tgs L vs a i o w :=
  wpOp_call p.isAt hg hrun hc fun e w' hK => by
    obtain ⟨v, rfl, hk, hv⟩ := hv e w' hK
    exact ⟨v, rfl, v, rfl, h.value hR p.fresh hT hk hv⟩
theorem flow_call1 (p : Pre ops ds base L vs a i o) (hg : o.guard = none) (h : WIs W R tgs L vs w) (hR : Lasts R) (hT : ∀ t ∈ tgs, t.al ≠ some i ∧ t.st ≠ i ∧ (L t.st = true → t.src ≠ i)) {f : FuncId} {x : Operand} {t : TypeId} {arg : Value} {K : Ending → World → Prop} (ho : o.op = .call { callee := .value (.func f), args := #[x], argTypes := #[t] }) (hcf : ∀ w, (callFunc f #[arg]).run P w = .ok (.enter f #[arg]) w) (hx : a.eval x = arg) (hc : Calls P f #[arg] w K)
    (hv : ∀ e w', K e w' → ∃ v, e = .returned v ∧ Kept (fun _ => True) w w' ∧ ∀ ok : Nat → Prop, (∀ b, w.heap.size ≤ b → ok b) → R i ok v w') : FG P ops Q W R tgs L vs a i o w := by
  refine flow_call p hg h hR hT ?_ hc hv
  have hf : a.eval (.func f) = .func (.func f) #[] #[] := rfl
  simp [execOp, ho, resolve, invoke, hx, hf, Deferred.ofValue, hcf]
theorem flow_call2 (p : Pre ops ds base L vs a i o) (hg : o.guard = none) (h : WIs W R tgs L vs w) (hR : Lasts R) (hT : ∀ t ∈ tgs, t.al ≠ some i ∧ t.st ≠ i ∧ (L t.st = true → t.src ≠ i)) {f : FuncId} {x y : Operand} {t u : TypeId} {arg arg' : Value} {K : Ending → World → Prop} (ho : o.op = .call { callee := .value (.func f), args := #[x, y], argTypes := #[t, u] }) (hcf : ∀ w, (callFunc f #[arg, arg']).run P w = .ok (.enter f #[arg, arg']) w) (hx : a.eval x = arg) (hy : a.eval y = arg') (hc : Calls P f #[arg, arg'] w K)
    (hv : ∀ e w', K e w' → ∃ v, e = .returned v ∧ Kept (fun _ => True) w w' ∧ ∀ ok : Nat → Prop, (∀ b, w.heap.size ≤ b → ok b) → R i ok v w') : FG P ops Q W R tgs L vs a i o w := by
  refine flow_call p hg h hR hT ?_ hc hv
  have hf : a.eval (.func f) = .func (.func f) #[] #[] := rfl
  simp [execOp, ho, resolve, invoke, hx, hy, hf, Deferred.ofValue, hcf]
theorem flow_callv1 (p : Pre ops ds base L vs a i o) (hg : o.guard = none) (h : WIs W R tgs L vs w) (hR : Lasts R) (hT : ∀ t ∈ tgs, t.al ≠ some i ∧ t.st ≠ i ∧ (L t.st = true → t.src ≠ i)) {f : FuncId} {c x : Operand} {t : TypeId} {arg cap : Value} {K : Ending → World → Prop} (ho : o.op = .call { callee := .value c, args := #[x], argTypes := #[t] }) (hcf : ∀ w, (callFunc f #[arg, cap]).run P w = .ok (.enter f #[arg, cap]) w) (hf : a.eval c = .func (.func f) #[] #[cap]) (hx : a.eval x = arg) (hc : Calls P f #[arg, cap] w K)
    (hv : ∀ e w', K e w' → ∃ v, e = .returned v ∧ Kept (fun _ => True) w w' ∧ ∀ ok : Nat → Prop, (∀ b, w.heap.size ≤ b → ok b) → R i ok v w') : FG P ops Q W R tgs L vs a i o w := by
  refine flow_call p hg h hR hT ?_ hc hv
  simp [execOp, ho, resolve, invoke, hx, hf, Deferred.ofValue, hcf]
theorem flow_callv2 (p : Pre ops ds base L vs a i o) (hg : o.guard = none) (h : WIs W R tgs L vs w) (hR : Lasts R) (hT : ∀ t ∈ tgs, t.al ≠ some i ∧ t.st ≠ i ∧ (L t.st = true → t.src ≠ i)) {f : FuncId} {c x y : Operand} {t u : TypeId} {arg arg' : Value} {K : Ending → World → Prop} (ho : o.op = .call { callee := .value c, args := #[x, y], argTypes := #[t, u] }) (hcf : ∀ w, (callFunc f #[arg, arg']).run P w = .ok (.enter f #[arg, arg']) w) (hf : a.eval c = .func (.func f) #[] #[]) (hx : a.eval x = arg) (hy : a.eval y = arg') (hc : Calls P f #[arg, arg'] w K)
    (hv : ∀ e w', K e w' → ∃ v, e = .returned v ∧ Kept (fun _ => True) w w' ∧ ∀ ok : Nat → Prop, (∀ b, w.heap.size ≤ b → ok b) → R i ok v w') : FG P ops Q W R tgs L vs a i o w := by
  refine flow_call p hg h hR hT ?_ hc hv
  simp [execOp, ho, resolve, invoke, hx, hy, hf, Deferred.ofValue, hcf]
theorem flow_load (p : Pre ops ds base L vs a i o) (hg : o.guard = none) (h : WIs W R tgs L vs w) (hR : Lasts R) (hT : ∀ t ∈ tgs, t.al ≠ some i ∧ t.st ≠ i ∧ (L t.st = true → t.src ≠ i)) {c : Value} (hc : R i = isV c) {ty : TypeId} {x : Operand} {u : Value} (ho : o.op = .load ty x) (hx : a.eval x = u) (hr : (Instr.loadAt ty u).run P w = .ok c w) : FG P ops Q W R tgs L vs a i o w :=
  flow_is p hg h hR hT hc (by simp only [execOp, ho, hx, Sem.run_bind, Sem.run_pure, hr, Result.andThen_ok])
theorem flow_mv (p : Pre ops ds base L vs a i o) (hg : o.guard = none) (h : WIs W R tgs L vs w) (hR : Lasts R) (hT : ∀ t ∈ tgs, t.al ≠ some i ∧ t.st ≠ i ∧ (L t.st = true → t.src ≠ i)) {c : Value} (hc : R i = isV c) {x : Operand} (ho : o.op = .move x) (hx : a.eval x = c) : FG P ops Q W R tgs L vs a i o w :=
  flow_is p hg h hR hT hc (by simp only [execOp, ho, hx, Sem.run_pure])
theorem flow_as (p : Pre ops ds base L vs a i o) (hg : o.guard = none) (h : WIs W R tgs L vs w) (hR : Lasts R) (hT : ∀ t ∈ tgs, t.al ≠ some i ∧ t.st ≠ i ∧ (L t.st = true → t.src ≠ i)) {c : Value} (hc : R i = isV c) {x : Operand} (ho : o.op = .assign x) (hx : a.eval x = c) : FG P ops Q W R tgs L vs a i o w :=
  flow_is p hg h hR hT hc (by simp only [execOp, ho, hx, Sem.run_pure])
theorem flow_fld (p : Pre ops ds base L vs a i o) (hg : o.guard = none) (h : WIs W R tgs L vs w) (hR : Lasts R) (hT : ∀ t ∈ tgs, t.al ≠ some i ∧ t.st ≠ i ∧ (L t.st = true → t.src ≠ i)) {c : Value} (hc : R i = isV c) {T : TypeId} {x : Operand} {k : Nat} {u : Value} (ho : o.op = .fieldAddr T x k) (hx : a.eval x = u) (hr : ∀ w, (Instr.fieldAt T u k).run P w = .ok c w) : FG P ops Q W R tgs L vs a i o w :=
  flow_is p hg h hR hT hc (by simp only [execOp, ho, hx, Sem.run_bind, Sem.run_pure, hr, Result.andThen_ok])
theorem flow_skip (p : Pre ops ds base L vs a i o) (h : WIs W R tgs L vs w) (hR : Lasts R) (hT : ∀ t ∈ tgs, t.al ≠ some i ∧ t.st ≠ i ∧ (L t.st = true → t.src ≠ i)) (hg : Region.wanted o (yielded ops a.tmps) = false) (hv : ∀ ok, R i ok undef w) : FG P ops Q W R tgs L vs a i o w := by
  show wpOp P ops Q i _ a w
  unfold wpOp
  rw [p.isAt]
  simp only [hg, Bool.false_eq_true, if_false]
  exact ⟨undef, rfl, h.value hR p.fresh hT (Kept.refl _ _) fun ok _ => hv ok⟩
theorem tok_of (tgs : List Tgt) (i : Nat) (h : tgs.all (fun t => t.al != some i && t.st != i && t.src != i) = true) (L : Nat → Bool) : ∀ t ∈ tgs, t.al ≠ some i ∧ t.st ≠ i ∧ (L t.st = true → t.src ≠ i) := fun t ht => by
  have := List.all_eq_true.1 h t ht
  simp only [Bool.and_eq_true, bne_iff_ne, ne_eq] at this
  exact ⟨this.1.1, this.1.2, fun _ => this.2⟩
/-- At what a variable is written with. -/
theorem tok_src (tgs : List Tgt) (i : Nat) (h : tgs.all (fun t => t.al != some i && t.st != i) = true) (hL : ∀ t ∈ tgs, t.src = i → L t.st = false) : ∀ t ∈ tgs, t.al ≠ some i ∧ t.st ≠ i ∧ (L t.st = true → t.src ≠ i) := fun t ht => by
  have := List.all_eq_true.1 h t ht
  simp only [Bool.and_eq_true, bne_iff_ne, ne_eq] at this
  exact ⟨this.1, this.2, fun h e => by rw [hL t ht e] at h; cases h⟩
theorem zip_all {tgs : List Tgt} {f : Tgt × Nat → Bool} (h : tgs.zipIdx.all f = true) {k : Nat} {u : Tgt} (hu : tgs[k]? = some u) : f (u, k) = true :=
  List.all_eq_true.1 h (u, k) (List.mk_mem_zipIdx_iff_getElem?.2 hu)
theorem flow_alloc (p : Pre ops ds base L vs a i o) (hg : o.guard = none) (h : WIs W R tgs L vs w) (hR : Lasts R) (q : Nat) {t : Tgt} (ht : tgs[q]? = some t) (hal : t.al = some i) (hT : tgs.zipIdx.all (fun p => (p.2 == q || p.1.al != some i) && p.1.st != i && p.1.src != i) = true) (hst : L t.st = false) {cs : Array Value} (hcs : cs.size = t.n) (ho : o.op = .alloc t.T)
    (hz : ∀ w, (Instr.alloc t.T true (.tuple #[])).run P w = .ok (.pointer (some ⟨w.heap.size, 0, none⟩)) (w.alloc (.cells cs t.T))) (hv : ∀ ok v w, R i ok v w) : FG P ops Q W R tgs L vs a i o w :=
  wpOp_alloc p.isAt hg ho (hz w) ⟨_, rfl, h.alloc hR p.fresh ht hal (fun k u hu => by
    have := zip_all hT hu
    simp only [Bool.and_eq_true, Bool.or_eq_true, bne_iff_ne, ne_eq, beq_iff_eq] at this
    exact ⟨fun hk e => (this.1.1.resolve_left hk) e, this.1.2, this.2⟩) hst hcs fun ok => hv ok _ _⟩
theorem flow_store (p : Pre ops ds base L vs a i o) (hg : o.guard = none) (h : WIs W R tgs L vs w) (hR : Lasts R) (q : Nat) {t : Tgt} (ht : tgs[q]? = some t) (hst : t.st = i) (hon : t.on L) (hT : tgs.zipIdx.all (fun p => p.1.al != some i && p.1.src != i && (p.2 == q || p.1.st != i)) = true) (hv : ∀ ok w', R i ok undef w') {x y : Operand} (ho : o.op = .store t.T x y)
    (hx : ∀ g, (∀ j, t.al = some j → vs j = .pointer (some ⟨g, 0, none⟩)) → (t.al = none → g = t.adr) → a.eval x = .pointer (some ⟨g, 0, none⟩)) (us : Array Value) (hsrc : vs t.src = .agg us) (hy : a.eval y = vs t.src) (hn : us.size = t.n) (hi : (P.info? t.T).map (·.size) = some t.n) (hone : us.toList.all (·.oneCell') = true) : FG P ops Q W R tgs L vs a i o w := by
  have hcs : (vs t.src).cells = us := by rw [hsrc]; rfl
  obtain ⟨g, k1, k2, k3, k4⟩ := h.store hR p.fresh ht hst hon (fun k u hu => by
    have := zip_all hT hu
    simp only [Bool.and_eq_true, Bool.or_eq_true, bne_iff_ne, ne_eq, beq_iff_eq] at this
    exact ⟨this.1.1, this.1.2, fun hk e => (this.2.resolve_left hk) e⟩) hv (by rw [hcs, hn])
  rw [hcs] at k4
  exact wpOp_store p.isAt hg ho (hx g k1 k2) (hy.trans hsrc) (run_storeAt_mid w g 0 t.T us (by rw [hn]; exact k3) (by rw [hn]; exact hi) (by rw [← Array.all_toList]; exact hone)) ⟨undef, rfl, k4⟩
theorem WIs.keptB (h : WIs W R tgs L vs w) : Kept (fun b => ∀ t ∈ tgs, t.al = none → b ≠ t.adr) W w := by
  obtain ⟨ok, G, h1, h2, h2', h3, h4⟩ := h
  exact h1.mono fun b hb hn => h2' b hb hn
/-- Whether a guarded operation is wanted. -/
theorem Pre.wanted (p : Pre ops ds base L vs a i o) (h : WIs W R tgs L vs w) (j k : Nat) (g c : Bool) (hr : R j = isV (.bool c)) (hj : ds[j]? = some (some k)) (hd : (o.after.toList.any fun e => Region.binds .any e && e.on == j) = true) (ho : o.guard = some (j, g)) (hoj : ((ops[j]?).bind (·.dst)) = some k) : Region.wanted o (yielded ops a.tmps) = (c == g) := by
  obtain ⟨ok, G, h1, h2, h2', h3, h4⟩ := h
  have hL := p.dep j hd
  have hv := h3 j hL
  rw [hr] at hv
  have hk := p.kn j k hj hL
  rw [show vs j = .bool c from hv] at hk
  unfold Region.wanted yielded
  simp only [ho, hoj, Option.bind_some, hk]
  cases c <;> cases g <;> rfl
theorem wpOp_wanted {K : Act → World → Prop} (hi : ops[i]? = some o) (hw : Region.wanted o (yielded ops a.tmps) = true) (h : o.wp P a w K Q) : wpOp P ops Q i K a w := by
  unfold wpOp
  rw [hi]
  simp only [hw, if_true]
  exact .inl h
theorem flow_valW (p : Pre ops ds base L vs a i o) (hw : Region.wanted o (yielded ops a.tmps) = true) (h : WIs W R tgs L vs w) (hR : Lasts R) (hT : ∀ t ∈ tgs, t.al ≠ some i ∧ t.st ≠ i ∧ (L t.st = true → t.src ≠ i)) (hr : (execOp a.eval o).run P w = .ok (.value v) w') (hk : Kept (fun _ => True) w w') (hv : ∀ ok : Nat → Prop, (∀ b, w.heap.size ≤ b → ok b) → R i ok v w') : FG P ops Q W R tgs L vs a i o w := by
  refine wpOp_wanted p.isAt hw ?_
  unfold Oper.wp
  rw [hr]
  exact ⟨v, rfl, h.value hR p.fresh hT hk hv⟩
theorem flow_isW (p : Pre ops ds base L vs a i o) (hw : Region.wanted o (yielded ops a.tmps) = true) (h : WIs W R tgs L vs w) (hR : Lasts R) (hT : ∀ t ∈ tgs, t.al ≠ some i ∧ t.st ≠ i ∧ (L t.st = true → t.src ≠ i)) {c : Value} (hc : R i = isV c) (hr : (execOp a.eval o).run P w = .ok (.value c) w) : FG P ops Q W R tgs L vs a i o w :=
  flow_valW p hw h hR hT hr (Kept.refl _ _) fun ok _ => by rw [hc]; rfl
theorem flow_loadW (p : Pre ops ds base L vs a i o) (hw : Region.wanted o (yielded ops a.tmps) = true) (h : WIs W R tgs L vs w) (hR : Lasts R) (hT : ∀ t ∈ tgs, t.al ≠ some i ∧ t.st ≠ i ∧ (L t.st = true → t.src ≠ i)) {c : Value} (hc : R i = isV c) {ty : TypeId} {x : Operand} {u : Value} (ho : o.op = .load ty x) (hx : a.eval x = u) (hr : (Instr.loadAt ty u).run P w = .ok c w) : FG P ops Q W R tgs L vs a i o w :=
  flow_isW p hw h hR hT hc (by simp only [execOp, ho, hx, Sem.run_bind, Sem.run_pure, hr, Result.andThen_ok])
theorem flow_fldW (p : Pre ops ds base L vs a i o) (hw : Region.wanted o (yielded ops a.tmps) = true) (h : WIs W R tgs L vs w) (hR : Lasts R) (hT : ∀ t ∈ tgs, t.al ≠ some i ∧ t.st ≠ i ∧ (L t.st = true → t.src ≠ i)) {c : Value} (hc : R i = isV c) {T : TypeId} {x : Operand} {k : Nat} {u : Value} (ho : o.op = .fieldAddr T x k) (hx : a.eval x = u) (hr : ∀ w, (Instr.fieldAt T u k).run P w = .ok c w) : FG P ops Q W R tgs L vs a i o w :=
  flow_isW p hw h hR hT hc (by simp only [execOp, ho, hx, Sem.run_bind, Sem.run_pure, hr, Result.andThen_ok])
theorem flow_call1W (p : Pre ops ds base L vs a i o) (hw : Region.wanted o (yielded ops a.tmps) = true) (h : WIs W R tgs L vs w) (hR : Lasts R) (hT : ∀ t ∈ tgs, t.al ≠ some i ∧ t.st ≠ i ∧ (L t.st = true → t.src ≠ i)) {f : FuncId} {x : Operand} {t : TypeId} {arg : Value} {K : Ending → World → Prop} (ho : o.op = .call { callee := .value (.func f), args := #[x], argTypes := #[t] }) (hcf : ∀ w, (callFunc f #[arg]).run P w = .ok (.enter f #[arg]) w) (hx : a.eval x = arg) (hc : Calls P f #[arg] w K)
    (hv : ∀ e w', K e w' → ∃ v, e = .returned v ∧ Kept (fun _ => True) w w' ∧ ∀ ok : Nat → Prop, (∀ b, w.heap.size ≤ b → ok b) → R i ok v w') : FG P ops Q W R tgs L vs a i o w := by
  refine wpOp_wanted p.isAt hw ?_
  have hrun : (execOp a.eval o).run P w = .ok (.enter f #[arg]) w := by
    have hf : a.eval (.func f) = .func (.func f) #[] #[] := rfl
    simp [execOp, ho, resolve, invoke, hx, hf, Deferred.ofValue, hcf]
  unfold Oper.wp
  rw [hrun, Oper.upon_enter]
  refine hc.mono fun e w' hK => ?_
  obtain ⟨v, rfl, hk, hv⟩ := hv e w' hK
  exact ⟨v, rfl, h.value hR p.fresh hT hk hv⟩
end
end Go.Proofs.YtpcgfhleloonfaaGreatDoor
namespace Go.Proofs.YtpcgfhleloonfaaGreatDoor
open Go.RowKit Jo Ac
def headN : List (List UInt8) := [[97, 108, 103], [107, 105, 100], [116, 121, 112]]
def headL (n : Int) : List Lf := [.t [72, 83, 50, 53, 54], .t (Lib.itoa n), .t [97, 116, 43, 106, 119, 116]]
/-- The head's text. -/
def headP (n : Int) : List UInt8 := obP headN (headL n)
def relH (B : Nat) (n : Int) : List Rel := [isRow 9 3 (headN.map S), isV (txV [72, 83, 50, 53, 54]), isV (.pointer (some ⟨B, 0, none⟩)), isV (.int .i64 n), isV (S (Lib.itoa n)), isV (txV (Lib.itoa n)), isV (txV [97, 116, 43, 106, 119, 116]), isRow 72 3 ((headL n).flatMap Lf.cs), isV (S (headP n)), isV (S (headP n))]
theorem relH_last (B : Nat) (n : Int) : Lasts (relOf (relH B n)) := lasts_of _ (by
  intro r hr
  simp only [relH, List.mem_cons, List.not_mem_nil, or_false] at hr
  obtain rfl | rfl | rfl | rfl | rfl | rfl | rfl | rfl | rfl | rfl := hr <;> first | exact isV_last _ | exact isRow_last _ _ _)
theorem headL_ok (n : Int) (h1 : 1 ≤ n) (h2 : n ≤ 1073741824) : ∀ x ∈ headL n, x.ok := by
  intro x hx
  simp only [headL, List.mem_cons, List.not_mem_nil, or_false] at hx
  have := itoa_le64 n (by omega) (by omega)
  obtain rfl | rfl | rfl := hx
  · show (5 : Nat) ≤ _; decide
  · show (Lib.itoa n).length ≤ _; omega
  · show (6 : Nat) ≤ _; decide
set_option maxRecDepth 100000 in
set_option maxHeartbeats 4000000 in
theorem head_any (n : Int) (w : World) (hE : AE w) (h1 : 1 ≤ n) (h2 : n ≤ 1073741824) : Calls Tryz.prog 259 #[.agg #[.int .i64 n]] w fun e w' => e = .returned (S (headP n)) ∧ Kept (fun _ => True) w w' := by
  go_enter Tryz.func259, Tryz.ntmps259
  obtain ⟨W, hW⟩ : ∃ W, w.alloc (.cells #[.int .i64 n] 65) = W := ⟨_, rfl⟩
  have HA : Hid (At w.heap.size [.int .i64 n] W) := Lib.hid (by rw [← hW]; exact At.made w [.int .i64 n] _)
  have HK : Hid (Kept (fun _ => True) w W) := Lib.hid (by rw [← hW]; exact (Kept.refl _ _).alloc _)
  have HE := Lib.hid (hE.kept HK.out)
  have HL : Hid (∀ x ∈ headL n, x.ok) := Lib.hid (headL_ok n (by omega) (by omega))
  obtain ⟨B, hB⟩ : ∃ B, w.heap.size = B := ⟨_, rfl⟩
  rw [hB] at HA
  go_wp2_with fail
  clear hW hE hB
  refine wp_flow2 rfl [some 3, some 4, some 5, some 6, some 7, some 8, some 9, some 10, some 11, some 2] rfl (by decide) (by kernel_rfl) (by kernel_rfl) (WIs W (relOf (relH B n)) []) ?_ ?_ ?_
  · intro vs
    exact WIs.start (fun k t h => by simp at h) (fun k l t u h => by simp at h)
  · intro i o L vs a w1 p h
    have hi : i < 10 := p.lt
    have hR := relH_last B n
    have hT : ∀ t ∈ ([] : List Tgt), t.al ≠ some i ∧ t.st ≠ i ∧ (L t.st = true → t.src ≠ i) := fun t ht => by cases ht
    have hk := h.kept fun t ht => by cases ht
    obtain rfl | rfl | rfl | rfl | rfl | rfl | rfl | rfl | rfl | rfl : i = 0 ∨ i = 1 ∨ i = 2 ∨ i = 3 ∨ i = 4 ∨ i = 5 ∨ i = 6 ∨ i = 7 ∨ i = 8 ∨ i = 9 := by omega
    · obtain rfl : _ = o := Option.some.inj p.isAt
      refine flow_val p rfl h hR hT (v := .slice (some ⟨w1.heap.size, 0, none⟩) 3 3) (w' := w1.alloc (.cells (headN.map S).toArray 9)) ?_ ((Kept.refl _ _).alloc _) fun ok hok => ⟨_, rfl, hok _ (Nat.le_refl _), heap_alloc_new _ _⟩
      simp [execOp, go_sem]
      rfl
    · obtain rfl : _ = o := Option.some.inj p.isAt
      refine flow_call p rfl h hR hT (f := 261) (args := #[S [72, 83, 50, 53, 54]]) (by kernel_rfl) (words_any _ _) ?_
      rintro e w' ⟨rfl, hk'⟩
      exact ⟨_, rfl, hk', fun ok _ => rfl⟩
    · obtain rfl : _ = o := Option.some.inj p.isAt
      exact flow_fld p rfl h hR hT rfl rfl ((p.old 1 rfl).trans rfl) (fun w => by kernel_rfl)
    · obtain rfl : _ = o := Option.some.inj p.isAt
      have c0 := (HA.out.kept hk).1 0 _ rfl
      exact flow_load p rfl h hR hT rfl rfl (p.isv h 2 5 rfl rfl rfl) (by simp [go_sem, c0])
    · obtain rfl : _ = o := Option.some.inj p.isAt
      refine flow_call1 p rfl h hR hT rfl (fun w => by kernel_rfl) (p.isv h 3 6 rfl rfl rfl) (Tryz.strconv_Itoa n (by omega) (by omega) w1 (HE.out.kept hk).je.pow) ?_
      rintro e w' ⟨rfl, k, os, hw'⟩
      exact ⟨_, rfl, by rw [hw']; exact Kept.growN _ _ _, fun ok _ => rfl⟩
    · obtain rfl : _ = o := Option.some.inj p.isAt
      refine flow_call1 p rfl h hR hT rfl (fun w => by kernel_rfl) (p.isv h 4 7 rfl rfl rfl) (words_any _ _) ?_
      rintro e w' ⟨rfl, hk'⟩
      exact ⟨_, rfl, hk', fun ok _ => rfl⟩
    · obtain rfl : _ = o := Option.some.inj p.isAt
      refine flow_call1 p rfl h hR hT rfl (fun w => by kernel_rfl) rfl (words_any [97, 116, 43, 106, 119, 116] _) ?_
      rintro e w' ⟨rfl, hk'⟩
      exact ⟨_, rfl, hk', fun ok _ => rfl⟩
    · obtain rfl : _ = o := Option.some.inj p.isAt
      have e4 := p.isv h 1 4 rfl rfl rfl
      have e8 := p.isv h 5 8 rfl rfl rfl
      have e9 := p.isv h 6 9 rfl rfl rfl
      simp only [Act.eval, Array.getD_eq_getD_getElem?] at e4 e8 e9
      refine flow_val p rfl h hR hT (v := .slice (some ⟨w1.heap.size, 0, none⟩) 3 3) (w' := w1.alloc (.cells ((headL n).flatMap Lf.cs).toArray 72)) ?_ ((Kept.refl _ _).alloc _) fun ok hok => ⟨_, rfl, hok _ (Nat.le_refl _), heap_alloc_new _ _⟩
      simp [execOp, go_sem, e4, e8, e9]
      rfl
    · obtain rfl : _ = o := Option.some.inj p.isAt
      obtain ⟨ok, e3, g, k1, k2, k3⟩ := p.get h 0 3 rfl rfl
      obtain ⟨ok', e10, g', l1, l2, l3⟩ := p.get h 7 10 rfl rfl
      refine flow_call2 p rfl h hR hT rfl (fun w => by kernel_rfl) (e3.trans k1) (e10.trans l1) (printed_any headN (headL n) g g' 3 3 3 3 w1 rfl rfl k3 l3 (by decide) (Nat.le_refl 3) (by decide) (show 3 ≤ 8 by decide) (by decide) HL.out (HE.out.kept hk)) ?_
      rintro e w' ⟨rfl, hk'⟩
      exact ⟨_, rfl, hk', fun ok _ => rfl⟩
    · obtain rfl : _ = o := Option.some.inj p.isAt
      exact flow_as p rfl h hR hT rfl rfl (p.isv h 8 11 rfl rfl rfl)
  · intro vs w1 L hL h
    have hk := h.kept fun t ht => by cases ht
    obtain ⟨ok, G, -, -, -, h3, -⟩ := h
    have e9 : vs 9 = S (headP n) := h3 9 (hL 9 (by decide))
    simp only [putAll, Act.put, List.setIfInBounds_toArray, List.set_cons_zero, List.set_cons_succ, Nat.zero_add, Nat.reduceAdd, e9]
    have HK9 := Lib.hid (HK.out.tr hk)
    clear h3 hL e9 hk HK HE HL HA
    go_wp2
    go_ret
    exact ⟨rfl, HK9.out⟩
def saidN : List (List UInt8) := [[99, 108, 105, 101, 110, 116, 95, 105, 100], [101, 120, 112], [102, 97, 109], [105, 97, 116], [105, 115, 115], [106, 116, 105], [115, 99, 111, 112, 101], [115, 117, 98]]
def saidL (c : Cl) (is : List UInt8) : List Lf := [.t c.client, .n c.till, .n c.family, .n c.issued, .t is, .n c.number, .t (printS c.scope).1, .t c.subject]
/-- The claims' text. -/
def saidTP (c : Cl) (is : List UInt8) : List UInt8 := obP saidN (saidL c is)
def relD (B C : Nat) (c : Cl) (is : List UInt8) : List Rel := [isRow 9 8 (saidN.map S), isV (.pointer (some ⟨C, 0, none⟩)), isV (S c.client), isV (txV c.client), isV (.pointer (some ⟨C, 6, none⟩)), isV (.int .i64 c.till), isV (nrV c.till), isV (.pointer (some ⟨C, 3, none⟩)), isV (.int .i64 c.family), isV (nrV c.family), isV (.pointer (some ⟨C, 5, none⟩)), isV (.int .i64 c.issued), isV (nrV c.issued), isV (.pointer (some ⟨B, 0, none⟩)), isV (S is), isV (txV is), isV (.pointer (some ⟨C, 4, none⟩)), isV (.int .i64 c.number), isV (nrV c.number), isV (S (printS c.scope).1), isV (txV (printS c.scope).1), isV (.pointer (some ⟨C, 1, none⟩)), isV (S c.subject), isV (txV c.subject), isRow 72 8 ((saidL c is).flatMap Lf.cs), isV (S (saidTP c is)), isV (S (saidTP c is))]
theorem relD_last (B C : Nat) (c : Cl) (is : List UInt8) : Lasts (relOf (relD B C c is)) := lasts_of _ (by
  intro r hr
  simp only [relD, List.mem_cons, List.not_mem_nil, or_false] at hr
  obtain rfl | rfl | rfl | rfl | rfl | rfl | rfl | rfl | rfl | rfl | rfl | rfl | rfl | rfl | rfl | rfl | rfl | rfl | rfl | rfl | rfl | rfl | rfl | rfl | rfl | rfl | rfl := hr <;> first | exact isV_last _ | exact isRow_last _ _ _)
theorem printS_le (l : List (List UInt8)) : (printS l).1.length ≤ 60 := by
  unfold printS
  split
  · simp
  · split
    · simp
    · rename_i h
      simp only
      omega
/-- What claims may be in memory. -/
structure ClOk (c : Cl) : Prop where
  client : c.client.length ≤ 16777216
  subject : c.subject.length ≤ 16777216
  scn : c.scope.length ≤ 1048576
  scl : ∀ s ∈ c.scope, s.length ≤ 16777216
  family : -9223372036854775808 ≤ c.family ∧ c.family ≤ 9223372036854775807
  number : -9223372036854775808 ≤ c.number ∧ c.number ≤ 9223372036854775807
  issued : -9223372036854775808 ≤ c.issued ∧ c.issued ≤ 9223372036854775807
  till : -9223372036854775808 ≤ c.till ∧ c.till ≤ 9223372036854775807
theorem saidL_ok {c : Cl} {is : List UInt8} (h : ClOk c) (his : is.length ≤ 16777216) : ∀ x ∈ saidL c is, x.ok := by
  intro x hx
  simp only [saidL, List.mem_cons, List.not_mem_nil, or_false] at hx
  have := printS_le c.scope
  obtain rfl | rfl | rfl | rfl | rfl | rfl | rfl | rfl := hx
  · exact h.client
  · exact h.till
  · exact h.family
  · exact h.issued
  · exact his
  · exact h.number
  · show (printS c.scope).1.length ≤ _; omega
  · exact h.subject
set_option maxRecDepth 100000 in
set_option maxHeartbeats 8000000 in
theorem saidText_any (c : Cl) (is : List UInt8) (sv : Value) (w : World) (hE : AE w) (hc : ClOk c) (his : is.length ≤ 16777216) (hs : SL w sv c.scope) : Calls Tryz.prog 277 #[.agg #[S is, S c.client, S c.subject, sv, .int .i64 c.family, .int .i64 c.number, .int .i64 c.issued, .int .i64 c.till]] w fun e w' => e = .returned (S (saidTP c is)) ∧ Kept (fun _ => True) w w' := by
  obtain ⟨sa, sn, sc, rfl⟩ : ∃ a n cc, sv = .slice a n cc := by obtain ⟨a, cc, e, _⟩ := hs; exact ⟨_, _, _, e⟩
  go_enter Tryz.func277, Tryz.ntmps277
  obtain ⟨W, hW⟩ : ∃ W, w.alloc (.cells #[S is, S c.client, S c.subject, .slice sa sn sc, .int .i64 c.family, .int .i64 c.number, .int .i64 c.issued, .int .i64 c.till] 67) = W := ⟨_, rfl⟩
  have HA0 : Hid (At w.heap.size [S is, S c.client, S c.subject, .slice sa sn sc, .int .i64 c.family, .int .i64 c.number, .int .i64 c.issued, .int .i64 c.till] W) := Lib.hid (by rw [← hW]; exact At.made w [S is, S c.client, S c.subject, .slice sa sn sc, .int .i64 c.family, .int .i64 c.number, .int .i64 c.issued, .int .i64 c.till] _)
  have HK0 : Hid (Kept (fun _ => True) w W) := Lib.hid (by rw [← hW]; exact (Kept.refl _ _).alloc _)
  have HE0 := Lib.hid (hE.kept HK0.out)
  have HS0 := Lib.hid (hs.kept HK0.out)
  have HCO := Lib.hid hc
  have HL := Lib.hid (saidL_ok hc his)
  obtain ⟨B, hB⟩ : ∃ B, w.heap.size = B := ⟨_, rfl⟩
  rw [hB] at HA0
  clear hE hs hc his
  have c1 := HA0.out.1 1 _ rfl
  have c2 := HA0.out.1 2 _ rfl
  have c3 := HA0.out.1 3 _ rfl
  have c4 := HA0.out.1 4 _ rfl
  have c5 := HA0.out.1 5 _ rfl
  have c6 := HA0.out.1 6 _ rfl
  have c7 := HA0.out.1 7 _ rfl
  go_wp2_with fail
  obtain ⟨W1, hW1⟩ : ∃ W1, W.alloc (.cells #[S c.client, S c.subject, .slice sa sn sc, .int .i64 c.family, .int .i64 c.number, .int .i64 c.issued, .int .i64 c.till] 26) = W1 := ⟨_, rfl⟩
  have hk1 : Kept (fun _ => True) W W1 := by rw [← hW1]; exact (Kept.refl _ _).alloc _
  have HC1 : Hid (At W.heap.size [S c.client, S c.subject, .slice sa sn sc, .int .i64 c.family, .int .i64 c.number, .int .i64 c.issued, .int .i64 c.till] W1) := Lib.hid (by rw [← hW1]; exact At.made W [S c.client, S c.subject, .slice sa sn sc, .int .i64 c.family, .int .i64 c.number, .int .i64 c.issued, .int .i64 c.till] _)
  have CP := scopePrint_any (.slice sa sn sc) c.scope W1 (HS0.out.kept hk1) HCO.out.scn HCO.out.scl
  rw [hW1]
  clear hW1
  refine CP.mono ?_
  rintro e W2 ⟨rfl, hk2⟩
  have HA := Lib.hid ((HA0.out.kept hk1).kept hk2)
  have HC := Lib.hid (HC1.out.kept hk2)
  have HE := Lib.hid ((HE0.out.kept hk1).kept hk2)
  have HK := Lib.hid ((HK0.out.tr hk1).tr hk2)
  obtain ⟨C, hC⟩ : ∃ C, W.heap.size = C := ⟨_, rfl⟩
  rw [hC] at HC ⊢
  clear hC hk1 hk2 HC1 CP c1 c2 c3 c4 c5 c6 c7 HA0 HE0 HK0 HS0 HCO hW hB
  go_wp2_with fail
  refine wp_flow2 rfl [some 14, some 15, some 16, some 17, some 18, some 19, some 20, some 21, some 22, some 23, some 24, some 25, some 26, some 27, some 28, some 29, some 30, some 31, some 32, some 33, some 34, some 35, some 36, some 37, some 38, some 39, some 2] rfl (by decide) (by kernel_rfl) (by kernel_rfl) (WIs W2 (relOf (relD B C c is)) []) ?_ ?_ ?_
  · intro vs
    exact WIs.start (fun k t h => by simp at h) (fun k l t u h => by simp at h)
  · intro i o L vs a w1 p h
    have hi : i < 27 := p.lt
    have hR := relD_last B C c is
    have hT : ∀ t ∈ ([] : List Tgt), t.al ≠ some i ∧ t.st ≠ i ∧ (L t.st = true → t.src ≠ i) := fun t ht => by cases ht
    have hk := h.kept fun t ht => by cases ht
    obtain rfl | rfl | rfl | rfl | rfl | rfl | rfl | rfl | rfl | rfl | rfl | rfl | rfl | rfl | rfl | rfl | rfl | rfl | rfl | rfl | rfl | rfl | rfl | rfl | rfl | rfl | rfl : i = 0 ∨ i = 1 ∨ i = 2 ∨ i = 3 ∨ i = 4 ∨ i = 5 ∨ i = 6 ∨ i = 7 ∨ i = 8 ∨ i = 9 ∨ i = 10 ∨ i = 11 ∨ i = 12 ∨ i = 13 ∨ i = 14 ∨ i = 15 ∨ i = 16 ∨ i = 17 ∨ i = 18 ∨ i = 19 ∨ i = 20 ∨ i = 21 ∨ i = 22 ∨ i = 23 ∨ i = 24 ∨ i = 25 ∨ i = 26 := by omega
    · obtain rfl : _ = o := Option.some.inj p.isAt
      refine flow_val p rfl h hR hT (v := .slice (some ⟨w1.heap.size, 0, none⟩) 8 8) (w' := w1.alloc (.cells (saidN.map S).toArray 9)) ?_ ((Kept.refl _ _).alloc _) fun ok hok => ⟨_, rfl, hok _ (Nat.le_refl _), heap_alloc_new _ _⟩
      simp [execOp, go_sem]
      rfl
    · obtain rfl : _ = o := Option.some.inj p.isAt
      exact flow_fld p rfl h hR hT rfl rfl ((p.old 3 rfl).trans rfl) (fun w => by kernel_rfl)
    · obtain rfl : _ = o := Option.some.inj p.isAt
      have c0 := (HC.out.kept hk).1 0 _ rfl
      exact flow_load p rfl h hR hT rfl rfl (p.isv h 1 15 rfl rfl rfl) (by simp [go_sem, c0])
    · obtain rfl : _ = o := Option.some.inj p.isAt
      refine flow_call1 p rfl h hR hT rfl (fun w => by kernel_rfl) (p.isv h 2 16 rfl rfl rfl) (words_any _ _) ?_
      rintro e w' ⟨rfl, hk'⟩
      exact ⟨_, rfl, hk', fun ok _ => rfl⟩
    · obtain rfl : _ = o := Option.some.inj p.isAt
      exact flow_fld p rfl h hR hT rfl rfl ((p.old 3 rfl).trans rfl) (fun w => by kernel_rfl)
    · obtain rfl : _ = o := Option.some.inj p.isAt
      have c0 := (HC.out.kept hk).1 6 _ rfl
      exact flow_load p rfl h hR hT rfl rfl (p.isv h 4 18 rfl rfl rfl) (by simp [go_sem, c0])
    · obtain rfl : _ = o := Option.some.inj p.isAt
      refine flow_call1 p rfl h hR hT rfl (fun w => by kernel_rfl) (p.isv h 5 19 rfl rfl rfl) (accNumber_any _ _) ?_
      rintro e w' ⟨rfl, hk'⟩
      exact ⟨_, rfl, hk', fun ok _ => rfl⟩
    · obtain rfl : _ = o := Option.some.inj p.isAt
      exact flow_fld p rfl h hR hT rfl rfl ((p.old 3 rfl).trans rfl) (fun w => by kernel_rfl)
    · obtain rfl : _ = o := Option.some.inj p.isAt
      have c0 := (HC.out.kept hk).1 3 _ rfl
      exact flow_load p rfl h hR hT rfl rfl (p.isv h 7 21 rfl rfl rfl) (by simp [go_sem, c0])
    · obtain rfl : _ = o := Option.some.inj p.isAt
      refine flow_call1 p rfl h hR hT rfl (fun w => by kernel_rfl) (p.isv h 8 22 rfl rfl rfl) (accNumber_any _ _) ?_
      rintro e w' ⟨rfl, hk'⟩
      exact ⟨_, rfl, hk', fun ok _ => rfl⟩
    · obtain rfl : _ = o := Option.some.inj p.isAt
      exact flow_fld p rfl h hR hT rfl rfl ((p.old 3 rfl).trans rfl) (fun w => by kernel_rfl)
    · obtain rfl : _ = o := Option.some.inj p.isAt
      have c0 := (HC.out.kept hk).1 5 _ rfl
      exact flow_load p rfl h hR hT rfl rfl (p.isv h 10 24 rfl rfl rfl) (by simp [go_sem, c0])
    · obtain rfl : _ = o := Option.some.inj p.isAt
      refine flow_call1 p rfl h hR hT rfl (fun w => by kernel_rfl) (p.isv h 11 25 rfl rfl rfl) (accNumber_any _ _) ?_
      rintro e w' ⟨rfl, hk'⟩
      exact ⟨_, rfl, hk', fun ok _ => rfl⟩
    · obtain rfl : _ = o := Option.some.inj p.isAt
      exact flow_fld p rfl h hR hT rfl rfl ((p.old 1 rfl).trans rfl) (fun w => by kernel_rfl)
    · obtain rfl : _ = o := Option.some.inj p.isAt
      have c0 := (HA.out.kept hk).1 0 _ rfl
      exact flow_load p rfl h hR hT rfl rfl (p.isv h 13 27 rfl rfl rfl) (by simp [go_sem, c0])
    · obtain rfl : _ = o := Option.some.inj p.isAt
      refine flow_call1 p rfl h hR hT rfl (fun w => by kernel_rfl) (p.isv h 14 28 rfl rfl rfl) (words_any _ _) ?_
      rintro e w' ⟨rfl, hk'⟩
      exact ⟨_, rfl, hk', fun ok _ => rfl⟩
    · obtain rfl : _ = o := Option.some.inj p.isAt
      exact flow_fld p rfl h hR hT rfl rfl ((p.old 3 rfl).trans rfl) (fun w => by kernel_rfl)
    · obtain rfl : _ = o := Option.some.inj p.isAt
      have c0 := (HC.out.kept hk).1 4 _ rfl
      exact flow_load p rfl h hR hT rfl rfl (p.isv h 16 30 rfl rfl rfl) (by simp [go_sem, c0])
    · obtain rfl : _ = o := Option.some.inj p.isAt
      refine flow_call1 p rfl h hR hT rfl (fun w => by kernel_rfl) (p.isv h 17 31 rfl rfl rfl) (accNumber_any _ _) ?_
      rintro e w' ⟨rfl, hk'⟩
      exact ⟨_, rfl, hk', fun ok _ => rfl⟩
    · obtain rfl : _ = o := Option.some.inj p.isAt
      exact flow_mv p rfl h hR hT rfl rfl ((p.old 4 rfl).trans rfl)
    · obtain rfl : _ = o := Option.some.inj p.isAt
      refine flow_call1 p rfl h hR hT rfl (fun w => by kernel_rfl) (p.isv h 19 33 rfl rfl rfl) (words_any _ _) ?_
      rintro e w' ⟨rfl, hk'⟩
      exact ⟨_, rfl, hk', fun ok _ => rfl⟩
    · obtain rfl : _ = o := Option.some.inj p.isAt
      exact flow_fld p rfl h hR hT rfl rfl ((p.old 3 rfl).trans rfl) (fun w => by kernel_rfl)
    · obtain rfl : _ = o := Option.some.inj p.isAt
      have c0 := (HC.out.kept hk).1 1 _ rfl
      exact flow_load p rfl h hR hT rfl rfl (p.isv h 21 35 rfl rfl rfl) (by simp [go_sem, c0])
    · obtain rfl : _ = o := Option.some.inj p.isAt
      refine flow_call1 p rfl h hR hT rfl (fun w => by kernel_rfl) (p.isv h 22 36 rfl rfl rfl) (words_any _ _) ?_
      rintro e w' ⟨rfl, hk'⟩
      exact ⟨_, rfl, hk', fun ok _ => rfl⟩
    · obtain rfl : _ = o := Option.some.inj p.isAt
      have e37 := p.isv h 23 37 rfl rfl rfl
      have e34 := p.isv h 20 34 rfl rfl rfl
      have e32 := p.isv h 18 32 rfl rfl rfl
      have e29 := p.isv h 15 29 rfl rfl rfl
      have e26 := p.isv h 12 26 rfl rfl rfl
      have e23 := p.isv h 9 23 rfl rfl rfl
      have e20 := p.isv h 6 20 rfl rfl rfl
      have e17 := p.isv h 3 17 rfl rfl rfl
      simp only [Act.eval, Array.getD_eq_getD_getElem?] at e17 e20 e23 e26 e29 e32 e34 e37
      refine flow_val p rfl h hR hT (v := .slice (some ⟨w1.heap.size, 0, none⟩) 8 8) (w' := w1.alloc (.cells ((saidL c is).flatMap Lf.cs).toArray 72)) ?_ ((Kept.refl _ _).alloc _) fun ok hok => ⟨_, rfl, hok _ (Nat.le_refl _), heap_alloc_new _ _⟩
      simp [execOp, go_sem, e17, e20, e23, e26, e29, e32, e34, e37]
      rfl
    · obtain rfl : _ = o := Option.some.inj p.isAt
      obtain ⟨ok, e3, g, k1, k2, k3⟩ := p.get h 0 14 rfl rfl
      obtain ⟨ok', e10, g', l1, l2, l3⟩ := p.get h 24 38 rfl rfl
      refine flow_call2 p rfl h hR hT rfl (fun w => by kernel_rfl) (e3.trans k1) (e10.trans l1) (printed_any saidN (saidL c is) g g' 8 8 8 8 w1 rfl rfl k3 l3 (by decide) (Nat.le_refl 8) (by decide) (Nat.le_refl 8) (by decide) HL.out (HE.out.kept hk)) ?_
      rintro e w' ⟨rfl, hk'⟩
      exact ⟨_, rfl, hk', fun ok _ => rfl⟩
    · obtain rfl : _ = o := Option.some.inj p.isAt
      exact flow_as p rfl h hR hT rfl rfl (p.isv h 25 39 rfl rfl rfl)
  · intro vs w1 L hL h
    have hk := h.kept fun t ht => by cases ht
    obtain ⟨ok, G, -, -, -, h3, -⟩ := h
    have e9 : vs 26 = S (saidTP c is) := h3 26 (hL 26 (by decide))
    simp only [putAll, Act.put, List.setIfInBounds_toArray, List.set_cons_zero, List.set_cons_succ, Nat.zero_add, Nat.reduceAdd, e9]
    have HK9 := Lib.hid (HK.out.tr hk)
    clear h3 hL e9 hk HK HE HL HA HC
    go_wp2
    go_ret
    exact ⟨rfl, HK9.out⟩
end Go.Proofs.YtpcgfhleloonfaaGreatDoor
namespace Go.Proofs.YtpcgfhleloonfaaGreatDoor
open Go.RowKit Jo Ac
theorem obP_le (ns : List (List UInt8)) (ls : List Lf) : (obP ns ls).length ≤ 4000 := by
  unfold obP printP
  split
  · simp
  · split
    · simp
    · split
      · simp
      · simp only
        omega
theorem b64_le (s : List UInt8) : (b64 s).length ≤ 2 * s.length + 1 := sx_len ofNames s 0 0
theorem joinDot_any (v : Value) (x y : List UInt8) (w : World) (h : SL w v [x, y]) (hx : x.length ≤ 16777216) (hy : y.length ≤ 16777216) : Calls Tryz.prog 60 #[v, .string ⟨#[46]⟩] w fun e w' => e = .returned (S (x ++ 46 :: y)) ∧ Kept (fun _ => True) w w' := by
  obtain ⟨a, c, rfl, hc, hcell⟩ := h
  obtain ⟨b, off, rfl, hb, -⟩ := hcell 0 x rfl
  have hj : Lib.join [x, y] [46] = x ++ 46 :: y := by simp [Lib.join_cons, Lib.joinTail]
  have hJ := Tryz.strings_Join b off c ([x, y].map fun s => (⟨s.toArray⟩ : ByteArray)) ⟨#[46]⟩ w (fun j y hj => by
    rw [List.getElem?_map, Option.map_eq_some_iff] at hj
    obtain ⟨s, hs, rfl⟩ := hj
    obtain ⟨b', off', e1, -, e2⟩ := hcell j s hs
    cases e1
    exact e2) hb (by simp) (by rw [List.length_map]; exact hc) (by rw [byteArrays]; show (Lib.join [x, y] [46]).length ≤ _; rw [hj]; simp; omega)
  rw [List.length_map, byteArrays] at hJ
  refine hJ.mono ?_
  rintro e w' ⟨rfl, hk⟩
  exact ⟨by show _ = Ending.returned (S (x ++ 46 :: y)); rw [← hj], Kept.of_below hk (Nat.le_refl _)⟩
/-- What is signed. -/
def bodyP (n : Int) (is : List UInt8) (c : Cl) : List UInt8 := b64 (headP n) ++ 46 :: b64 (saidTP c is)
abbrev headV (n : Int) : Value := .iface 65 (.agg #[.int .i64 n])
abbrev saidVs (is : List UInt8) (c : Cl) (sv : Value) : List Value := [S is, S c.client, S c.subject, sv, .int .i64 c.family, .int .i64 c.number, .int .i64 c.issued, .int .i64 c.till]
abbrev saidV (is : List UInt8) (c : Cl) (sv : Value) : Value := .iface 67 (.agg (saidVs is c sv).toArray)
set_option maxRecDepth 100000 in
set_option maxHeartbeats 8000000 in
theorem body_any (n : Int) (is : List UInt8) (c : Cl) (sv : Value) (g k : Nat) (w : World) (hE : AE w) (h1 : 1 ≤ n) (h2 : n ≤ 1073741824) (hc : ClOk c) (his : is.length ≤ 16777216) (hs : SL w sv c.scope) (hg : At g [headV n, saidV is c sv] w) : Calls Tryz.prog 34 #[.slice (some ⟨g, 0, none⟩) 2 k] w fun e w' => e = .returned (S (bodyP n is c)) ∧ Kept (fun _ => True) w w' := by
  have HG := Lib.hid hg
  have HS := Lib.hid hs
  have HCO := Lib.hid hc
  have HE := Lib.hid hE
  have HI := Lib.hid his
  clear hg hs hc hE his
  go_enter Tryz.func34, Tryz.ntmps34
  go_wp2_with fail
  go_loopg [3, 8] 2 (fun q lv iv wx => ∃ (i : Nat) (l : List (List UInt8)), iv = .int .i64 (i : Int) ∧ i ≤ 2 ∧ q = 2 - i ∧ Hid (l = [b64 (headP n), b64 (saidTP c is)].take i) ∧ Hid (OwnS w.heap.size lv l wx) ∧ Hid (Kept (fun _ => True) w wx))
  case atStart => exact ⟨0, [], rfl, by omega, rfl, Lib.hid rfl, Lib.hid ⟨rfl, .inl ⟨rfl, rfl⟩⟩, Lib.hid (Kept.refl _ _)⟩
  case round =>
    obtain ⟨i, l, rfl, hi, rfl, HL, HO, HK⟩ := hrel
    obtain rfl | rfl | rfl : i = 0 ∨ i = 1 ∨ i = 2 := by omega
    · have c0 := (HG.out.kept HK.out).1 0 _ rfl
      go_wp2_with fail
      refine (head_any n wr (HE.out.kept HK.out) h1 h2).mono ?_
      rintro e w2 ⟨rfl, hk2⟩
      have hk2b := HK.out.tr hk2
      have B6 := Base64_any (headP n) w2 (by have := obP_le headN (headL n); unfold headP; omega)
      go_wp2_with fail
      refine B6.mono ?_
      rintro e w3 ⟨rfl, hk3⟩
      have HK3 := Lib.hid (hk2b.tr hk3)
      have HO3 := Lib.hid ((HO.out.kept hk2).kept hk3)
      have hwz : w.heap.size ≤ w3.heap.size := HK3.out.size
      obtain ⟨oa, oc, hov⟩ := row_slice HO3.out
      subst hov
      obtain ⟨T, hT⟩ : ∃ T, b64 (headP n) = T := ⟨_, rfl⟩
      have HT := Lib.hid hT
      rw [hT]
      clear hk2 hk2b hk3 B6 hT
      obtain ⟨N, hN⟩ : ∃ N, l.length = N := ⟨_, rfl⟩
      have hN1 : N + 1 ≤ 1099511627776 := by rw [← hN, HL.out]; simp <;> omega
      have HO4 : Hid (w3.ownsRow w.heap.size 9 1 (.slice oa N oc) N (l.map S)) := Lib.hid (by have := HO3.out; unfold OwnS at this; rw [hN] at this; exact this)
      have HN := Lib.hid hN
      rw [hN]
      clear hN
      go_wp2_with (at_builtin; refine wpList_pushOne' 24 9 Tryz.underlying24 infoStr rfl (by decide) rfl _ _ rfl w.heap.size (.slice oa N oc) N (l.map S) [S T] w3 _ rfl rfl rfl (by intro u hu; simp at hu; rw [hu]; rfl) 1 _ rfl rfl rfl HO4.out hN1 (by decide) hwz ?_)
      intro v' w4 k1 k2 _
      have HO5 : Hid (OwnS w.heap.size v' (l ++ [T]) w4) := Lib.hid (by unfold OwnS; rw [List.length_append, List.map_append, HN.out]; exact k1)
      have HK5 : Hid (Kept (fun _ => True) w w4) := Lib.hid (HK3.out.trans (Kept.of_belowK k2) fun i hi _ => hi)
      have HL5 : Hid (l ++ [T] = [b64 (headP n), b64 (saidTP c is)].take (0 + 1)) := Lib.hid (by rw [HL.out, ← HT.out]; rfl)
      clear k1 k2
      go_wp2
      go_roundg (2 - (0 + 1))
      case rel => exact ⟨0 + 1, l ++ [T], by go_num, by omega, rfl, HL5, HO5, HK5⟩
      case measure => omega
    · have c0 := (HG.out.kept HK.out).1 1 _ rfl
      go_wp2_with fail
      refine (saidText_any c is sv wr (HE.out.kept HK.out) HCO.out HI.out (HS.out.kept HK.out)).mono ?_
      rintro e w2 ⟨rfl, hk2⟩
      have hk2b := HK.out.tr hk2
      have B6 := Base64_any (saidTP c is) w2 (by have := obP_le saidN (saidL c is); unfold saidTP; omega)
      go_wp2_with fail
      refine B6.mono ?_
      rintro e w3 ⟨rfl, hk3⟩
      have HK3 := Lib.hid (hk2b.tr hk3)
      have HO3 := Lib.hid ((HO.out.kept hk2).kept hk3)
      have hwz : w.heap.size ≤ w3.heap.size := HK3.out.size
      obtain ⟨oa, oc, hov⟩ := row_slice HO3.out
      subst hov
      obtain ⟨T, hT⟩ : ∃ T, b64 (saidTP c is) = T := ⟨_, rfl⟩
      have HT := Lib.hid hT
      rw [hT]
      clear hk2 hk2b hk3 B6 hT
      obtain ⟨N, hN⟩ : ∃ N, l.length = N := ⟨_, rfl⟩
      have hN1 : N + 1 ≤ 1099511627776 := by rw [← hN, HL.out]; simp <;> omega
      have HO4 : Hid (w3.ownsRow w.heap.size 9 1 (.slice oa N oc) N (l.map S)) := Lib.hid (by have := HO3.out; unfold OwnS at this; rw [hN] at this; exact this)
      have HN := Lib.hid hN
      rw [hN]
      clear hN
      go_wp2_with (at_builtin; refine wpList_pushOne' 24 9 Tryz.underlying24 infoStr rfl (by decide) rfl _ _ rfl w.heap.size (.slice oa N oc) N (l.map S) [S T] w3 _ rfl rfl rfl (by intro u hu; simp at hu; rw [hu]; rfl) 1 _ rfl rfl rfl HO4.out hN1 (by decide) hwz ?_)
      intro v' w4 k1 k2 _
      have HO5 : Hid (OwnS w.heap.size v' (l ++ [T]) w4) := Lib.hid (by unfold OwnS; rw [List.length_append, List.map_append, HN.out]; exact k1)
      have HK5 : Hid (Kept (fun _ => True) w w4) := Lib.hid (HK3.out.trans (Kept.of_belowK k2) fun i hi _ => hi)
      have HL5 : Hid (l ++ [T] = [b64 (headP n), b64 (saidTP c is)].take (1 + 1)) := Lib.hid (by rw [HL.out, ← HT.out]; rfl)
      clear k1 k2
      go_wp2
      go_roundg (2 - (1 + 1))
      case rel => exact ⟨1 + 1, l ++ [T], by go_num, by omega, rfl, HL5, HO5, HK5⟩
      case measure => omega
    · have HO2 : Hid (SL wr u3 [b64 (headP n), b64 (saidTP c is)]) := Lib.hid (by have := HO.out.sl; rw [HL.out] at this; exact this)
      have CJ := Lib.hid (joinDot_any u3 _ _ wr HO2.out (by have := b64_le (headP n); have := obP_le headN (headL n); unfold headP at *; omega) (by have := b64_le (saidTP c is); have := obP_le saidN (saidL c is); unfold saidTP at *; omega))
      go_wp2_with fail
      refine CJ.out.mono ?_
      rintro e w2 ⟨rfl, hk2⟩
      go_wp2
      go_ret
      exact ⟨rfl, HK.out.tr hk2⟩
end Go.Proofs.YtpcgfhleloonfaaGreatDoor
