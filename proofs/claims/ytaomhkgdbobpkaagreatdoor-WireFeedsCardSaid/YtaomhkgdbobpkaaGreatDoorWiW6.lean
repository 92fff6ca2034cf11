/- Walks of wire (layer 5), sixth part: a message and an answer printed. -/
import Derived.Test.YtaomhkgdbobpkaaGreatDoorWiW5
namespace Go.Proofs.YtaomhkgdbobpkaaGreatDoor
open Go.RowKit Wi

/-- Bounds that every text at hand keeps. -/
def Sml (l : List UInt8) : Prop := l.length ≤ 1099511627776
/-- Fields with short texts, not too many. -/
def SmlF (fs : List Fl) : Prop := fs.length ≤ 1099511627776 ∧ ∀ f ∈ fs, Sml f.1 ∧ Sml f.2
def four (g : Nat) (a b : List UInt8) (v : Value) (c : List UInt8) (w : World) : Prop := w.heap[g]? = some (.cells #[S a, S b, v, S c] 50 (0, 0))
theorem four.lt {g : Nat} {a b c : List UInt8} {v : Value} {w : World} (h : four g a b v c w) : g < w.heap.size := (Array.getElem?_eq_some_iff.1 h).1
theorem four.facts {g : Nat} {a b c : List UInt8} {v : Value} {w : World} (h : four g a b v c w) : w.cell? ⟨g, 0, none⟩ = some (S a) ∧ w.cell? ⟨g, 1, none⟩ = some (S b) ∧ w.cell? ⟨g, 2, none⟩ = some v ∧ w.cell? ⟨g, 3, none⟩ = some (S c) := by
  unfold four at h
  refine ⟨?_, ?_, ?_, ?_⟩ <;> rw [cell_of_row w g _ _ _ (0, 0) h] <;> rfl
theorem four.kept {g : Nat} {a b c : List UInt8} {v : Value} {w w' : World} {ok : Nat → Prop} (h : four g a b v c w) (hk : Kept ok w w') (ho : ok g) : four g a b v c w' := (hk.block g h.lt ho).trans h
theorem method_len {s : List UInt8} (h : isMethodP s = true) : s.length ≤ 16 := by
  unfold isMethodP onlyP at h
  simp only [Bool.and_eq_true, decide_eq_true_eq] at h
  exact h.2
theorem path_len {s : List UInt8} (h : isPathP s = true) : s.length ≤ 200 := by
  unfold isPathP onlyP at h
  simp only [Bool.and_eq_true, decide_eq_true_eq] at h
  exact h.1.2
theorem rest_len {fs : List Fl} {body : List UInt8} (h : restOk fs body = true) : (restP fs body).length ≤ 40000 := by
  unfold restOk at h
  simp only [Bool.and_eq_true, decide_eq_true_eq] at h
  have h1 := heads_len h.2
  have h2 := itoa_len (body.length : Int) (by omega) (by omega)
  unfold restP
  simp only [List.length_append, List.length_cons, toldN, List.length_nil]
  omega
def PrintQ (r : List UInt8 × Int) (w : World) (e : Ending) (w' : World) : Prop := e = .returned (.tuple #[S r.1, .int .i64 r.2]) ∧ Kept (fun _ => True) w w'
set_option maxHeartbeats 8000000 in
set_option maxRecDepth 100000 in
theorem printM_any (x : Msg) (v : Value) (w : World) (hE : WE w.heap.size w) (hv : RowF (fun _ => True) w v x.hs) (hf : SmlF x.hs) (h1 : Sml x.m) (h2 : Sml x.p) (h3 : Sml x.body) :
    Calls Tryz.prog 22 #[.agg #[S x.m, S x.p, v, S x.body]] w (PrintQ (printM x) w) := by
  obtain ⟨m, p, fs, body⟩ := x
  simp only at hv hf h1 h2 h3
  obtain ⟨a, c, rfl⟩ := hv.slice
  obtain ⟨W0, hW0⟩ : ∃ W0, w.alloc (.cells #[S m, S p, .slice a fs.length c, S body] 50) = W0 := ⟨_, rfl⟩
  have hk0 : Kept (fun _ => True) w W0 := by rw [← hW0]; exact (Kept.refl _ w).alloc _
  have hbox : four w.heap.size m p (.slice a fs.length c) body W0 := by rw [← hW0]; exact heap_alloc_new w _
  have RS := Lib.hid (rest_any fs _ body W0 ((hE.kept hk0 fun _ _ => trivial).le hk0.size) (hv.kept hk0 fun _ _ _ => trivial) (fun f hf' => hf.2 f hf') hf.1 h3)
  have MT := Lib.hid (fun W => isMethod_any m W (by unfold Sml at h1; omega))
  have PT := Lib.hid (fun W => isPath_any p W (by unfold Sml at h2; omega))
  obtain ⟨q0, hq0⟩ : ∃ q, restOk fs body = q := ⟨_, rfl⟩
  obtain ⟨q1, hq1⟩ : ∃ q, isMethodP m = q := ⟨_, rfl⟩
  obtain ⟨q2, hq2⟩ : ∃ q, isPathP p = q := ⟨_, rfl⟩
  obtain ⟨T, hT⟩ : ∃ T, restP fs body = T := ⟨_, rfl⟩
  have HR : Hid (printM ⟨m, p, fs, body⟩ = if q0 && q1 && q2 then (m ++ 32 :: (p ++ 32 :: (versionL ++ 13 :: 10 :: T)), 0) else ([], 55)) := Lib.hid (by unfold printM; rw [hq0, hq1, hq2, hT])
  have hl0 : q0 = true → T.length ≤ 40000 := fun h => by rw [← hT]; exact rest_len (hq0.trans h)
  have hl1 : q1 = true → m.length ≤ 16 := fun h => method_len (hq1.trans h)
  have hl2 : q2 = true → p.length ≤ 200 := fun h => path_len (hq2.trans h)
  unfold RestQ at RS
  rw [hq0, hT] at RS
  rw [hq1] at MT
  rw [hq2] at PT
  have HK0 := Lib.hid hk0
  have HBX := Lib.hid hbox
  have HLL := Lib.hid (And.intro hl0 (And.intro hl1 hl2))
  obtain ⟨o0, o1, o2, o3⟩ := hbox.facts
  clear hE hv hf h1 h2 h3 hk0 hbox hq0 hq1 hq2 hT hl0 hl1 hl2
  unfold PrintQ
  go_enter Tryz.func22, Tryz.ntmps22
  go_wp2_with fail
  refine RS.out.mono ?_
  rintro e w1 ⟨rfl, hk1⟩
  have HK1 := Lib.hid (HK0.out.tr hk1)
  have HB1 := Lib.hid (HBX.out.kept hk1 trivial)
  clear hk1 o0 o1 o2 o3 hW0
  obtain ⟨o0, o1, o2, o3⟩ := HB1.out.facts
  cases q0 with
  | false =>
    go_wp2
    refine bodyPost_ret (v := .tuple #[S [], .int .i64 55]) (by simp [results, Tryz.results22, go_sem]) rfl ?_
    exact ⟨by rw [HR.out]; rfl, HK1.out⟩
  | true =>
    go_wp2_with fail
    refine (MT.out _).mono ?_
    rintro e w2 ⟨rfl, hk2⟩
    have HK2 := Lib.hid (HK1.out.tr hk2)
    have HB2 := Lib.hid (HB1.out.kept hk2 trivial)
    clear hk2 o0 o1 o2 o3
    obtain ⟨o0, o1, o2, o3⟩ := HB2.out.facts
    cases q1 with
    | false =>
      go_wp2
      refine bodyPost_ret (v := .tuple #[S [], .int .i64 55]) (by simp [results, Tryz.results22, go_sem]) rfl ?_
      exact ⟨by rw [HR.out]; rfl, HK2.out⟩
    | true =>
      go_wp2_with fail
      refine (PT.out _).mono ?_
      rintro e w3 ⟨rfl, hk3⟩
      have HK3 := Lib.hid (HK2.out.tr hk3)
      have HB3 := Lib.hid (HB2.out.kept hk3 trivial)
      clear hk3 o0 o1 o2 o3
      obtain ⟨o0, o1, o2, o3⟩ := HB3.out.facts
      cases q2 with
      | false =>
        go_wp2
        refine bodyPost_ret (v := .tuple #[S [], .int .i64 55]) (by simp [results, Tryz.results22, go_sem]) rfl ?_
        exact ⟨by rw [HR.out]; rfl, HK3.out⟩
      | true =>
        have k0 := HLL.out.1 trivial
        have k1 := HLL.out.2.1 trivial
        have k2 := HLL.out.2.2 rfl
        obtain ⟨a1, ha1⟩ : ∃ t, m ++ [32] = t := ⟨_, rfl⟩
        obtain ⟨a2, ha2⟩ : ∃ t, a1 ++ p = t := ⟨_, rfl⟩
        obtain ⟨a3, ha3⟩ : ∃ t, a2 ++ [32] = t := ⟨_, rfl⟩
        obtain ⟨a4, ha4⟩ : ∃ t, a3 ++ versionL = t := ⟨_, rfl⟩
        obtain ⟨a5, ha5⟩ : ∃ t, a4 ++ [13, 10] = t := ⟨_, rfl⟩
        obtain ⟨a6, ha6⟩ : ∃ t, a5 ++ T = t := ⟨_, rfl⟩
        have l1 : a1.length = m.length + 1 := by rw [← ha1, List.length_append]; rfl
        have l2 : a2.length = m.length + 1 + p.length := by rw [← ha2, List.length_append, l1]
        have l3 : a3.length = m.length + 2 + p.length := by rw [← ha3, List.length_append, l2]; simp only [List.length_cons, List.length_nil]; omega
        have l4 : a4.length = m.length + 10 + p.length := by rw [← ha4, List.length_append, l3]; simp only [versionL, List.length_cons, List.length_nil]; omega
        have l5 : a5.length = m.length + 12 + p.length := by rw [← ha5, List.length_append, l4]; simp only [List.length_cons, List.length_nil]; omega
        have CT1 := run_cat (P := Tryz.prog) m [32] a1 ha1 (by simp only [List.length_cons, List.length_nil]; omega)
        have CT2 := run_cat (P := Tryz.prog) a1 p a2 ha2 (by omega)
        have CT3 := run_cat (P := Tryz.prog) a2 [32] a3 ha3 (by simp only [List.length_cons, List.length_nil]; omega)
        have CT4 := run_cat (P := Tryz.prog) a3 [72, 84, 84, 80, 47, 49, 46, 49] a4 ha4 (by simp only [List.length_cons, List.length_nil]; omega)
        have CT5 := run_cat (P := Tryz.prog) a4 [13, 10] a5 ha5 (by simp only [List.length_cons, List.length_nil]; omega)
        have CT6 := run_cat (P := Tryz.prog) a5 T a6 ha6 (by omega)
        have HA : Hid (m ++ 32 :: (p ++ 32 :: (versionL ++ 13 :: 10 :: T)) = a6) := Lib.hid (by rw [← ha6, ← ha5, ← ha4, ← ha3, ← ha2, ← ha1]; simp)
        clear ha1 ha2 ha3 ha4 ha5 ha6 l1 l2 l3 l4 l5 k0 k1 k2
        go_wp2
        refine bodyPost_ret (v := .tuple #[S a6, .int .i64 0]) (by simp [results, Tryz.results22, go_sem]) rfl ?_
        exact ⟨by rw [HR.out, ← HA.out]; rfl, HK3.out⟩

theorem reason_else {n : Int} (h : n ≠ 200 ∧ n ≠ 201 ∧ n ≠ 400 ∧ n ≠ 401 ∧ n ≠ 403 ∧ n ≠ 404 ∧ n ≠ 405 ∧ n ≠ 415 ∧ n ≠ 429 ∧ n ≠ 500 ∧ n ≠ 503) : reasonP n = [83, 116, 97, 116, 117, 115] := by
  obtain ⟨h1, h2, h3, h4, h5, h6, h7, h8, h9, h10, h11⟩ := h
  unfold reasonP
  rw [if_neg h1, if_neg h2, if_neg h3, if_neg h4, if_neg h5, if_neg h6, if_neg h7, if_neg h8, if_neg h9, if_neg h10, if_neg h11]
set_option maxHeartbeats 4000000 in
theorem reason_any (n : Int) (w : World) : Calls Tryz.prog 63 #[.int .i64 n] w fun e w' => e = .returned (S (reasonP n)) ∧ w' = w := by
  have hcs : n = 200 ∨ n = 201 ∨ n = 400 ∨ n = 401 ∨ n = 403 ∨ n = 404 ∨ n = 405 ∨ n = 415 ∨ n = 429 ∨ n = 500 ∨ n = 503 ∨ (n ≠ 200 ∧ n ≠ 201 ∧ n ≠ 400 ∧ n ≠ 401 ∧ n ≠ 403 ∧ n ≠ 404 ∧ n ≠ 405 ∧ n ≠ 415 ∧ n ≠ 429 ∧ n ≠ 500 ∧ n ≠ 503) := by omega
  rcases hcs with rfl | rfl | rfl | rfl | rfl | rfl | rfl | rfl | rfl | rfl | rfl | h
  case inr.inr.inr.inr.inr.inr.inr.inr.inr.inr.inr =>
    rw [reason_else h]
    obtain ⟨h1, h2, h3, h4, h5, h6, h7, h8, h9, h10, h11⟩ := h
    have q1 : (n == 200) = false := beq_eq_false_iff_ne.2 h1
    have q2 : (n == 201) = false := beq_eq_false_iff_ne.2 h2
    have q3 : (n == 400) = false := beq_eq_false_iff_ne.2 h3
    have q4 : (n == 401) = false := beq_eq_false_iff_ne.2 h4
    have q5 : (n == 403) = false := beq_eq_false_iff_ne.2 h5
    have q6 : (n == 404) = false := beq_eq_false_iff_ne.2 h6
    have q7 : (n == 405) = false := beq_eq_false_iff_ne.2 h7
    have q8 : (n == 415) = false := beq_eq_false_iff_ne.2 h8
    have q9 : (n == 429) = false := beq_eq_false_iff_ne.2 h9
    have q10 : (n == 500) = false := beq_eq_false_iff_ne.2 h10
    have q11 : (n == 503) = false := beq_eq_false_iff_ne.2 h11
    clear h1 h2 h3 h4 h5 h6 h7 h8 h9 h10 h11
    go_enter Tryz.func63, Tryz.ntmps63
    go_wp2
    go_ret
    exact ⟨rfl, rfl⟩
  all_goals
    go_enter Tryz.func63, Tryz.ntmps63
    go_wp2
    go_ret
    exact ⟨rfl, rfl⟩
theorem reason_len (n : Int) : (reasonP n).length ≤ 22 := by
  have hcs : n = 200 ∨ n = 201 ∨ n = 400 ∨ n = 401 ∨ n = 403 ∨ n = 404 ∨ n = 405 ∨ n = 415 ∨ n = 429 ∨ n = 500 ∨ n = 503 ∨ (n ≠ 200 ∧ n ≠ 201 ∧ n ≠ 400 ∧ n ≠ 401 ∧ n ≠ 403 ∧ n ≠ 404 ∧ n ≠ 405 ∧ n ≠ 415 ∧ n ≠ 429 ∧ n ≠ 500 ∧ n ≠ 503) := by omega
  rcases hcs with rfl | rfl | rfl | rfl | rfl | rfl | rfl | rfl | rfl | rfl | rfl | h
  case inr.inr.inr.inr.inr.inr.inr.inr.inr.inr.inr => rw [reason_else h]; decide
  all_goals decide
def three (g : Nat) (a : Int) (v : Value) (c : List UInt8) (w : World) : Prop := w.heap[g]? = some (.cells #[.int .i64 a, v, S c] 56 (0, 0))
theorem three.lt {g : Nat} {a : Int} {c : List UInt8} {v : Value} {w : World} (h : three g a v c w) : g < w.heap.size := (Array.getElem?_eq_some_iff.1 h).1
theorem three.facts {g : Nat} {a : Int} {c : List UInt8} {v : Value} {w : World} (h : three g a v c w) : w.cell? ⟨g, 0, none⟩ = some (.int .i64 a) ∧ w.cell? ⟨g, 1, none⟩ = some v ∧ w.cell? ⟨g, 2, none⟩ = some (S c) := by
  unfold three at h
  refine ⟨?_, ?_, ?_⟩ <;> rw [cell_of_row w g _ _ _ (0, 0) h] <;> rfl
theorem three.kept {g : Nat} {a : Int} {c : List UInt8} {v : Value} {w w' : World} {ok : Nat → Prop} (h : three g a v c w) (hk : Kept ok w w') (ho : ok g) : three g a v c w' := (hk.block g h.lt ho).trans h
set_option maxHeartbeats 8000000 in
set_option maxRecDepth 100000 in
theorem printA_any (x : Ans) (v : Value) (w : World) (hE : WE w.heap.size w) (hv : RowF (fun _ => True) w v x.hs) (hf : SmlF x.hs) (h3 : Sml x.body) :
    Calls Tryz.prog 32 #[.agg #[.int .i64 x.st, v, S x.body]] w (PrintQ (printA x) w) := by
  obtain ⟨st, fs, body⟩ := x
  simp only at hv hf h3
  obtain ⟨a, c, rfl⟩ := hv.slice
  obtain ⟨W0, hW0⟩ : ∃ W0, w.alloc (.cells #[.int .i64 st, .slice a fs.length c, S body] 56) = W0 := ⟨_, rfl⟩
  have hk0 : Kept (fun _ => True) w W0 := by rw [← hW0]; exact (Kept.refl _ w).alloc _
  have hbox : three w.heap.size st (.slice a fs.length c) body W0 := by rw [← hW0]; exact heap_alloc_new w _
  have hE0 := (hE.kept hk0 fun _ _ => trivial).le hk0.size
  have HE := Lib.hid hE0
  have RS := Lib.hid (rest_any fs _ body W0 hE0 (hv.kept hk0 fun _ _ _ => trivial) (fun f hf' => hf.2 f hf') hf.1 h3)
  obtain ⟨q0, hq0⟩ : ∃ q, restOk fs body = q := ⟨_, rfl⟩
  obtain ⟨T, hT⟩ : ∃ T, restP fs body = T := ⟨_, rfl⟩
  have HR : Hid (printA ⟨st, fs, body⟩ = if q0 && decide (100 ≤ st) && decide (st ≤ 599) then (versionL ++ 32 :: (Lib.itoa st ++ 32 :: (reasonP st ++ 13 :: 10 :: T)), 0) else ([], 55)) := Lib.hid (by unfold printA; rw [hq0, hT])
  have hl0 : q0 = true → T.length ≤ 40000 := fun h => by rw [← hT]; exact rest_len (hq0.trans h)
  unfold RestQ at RS
  rw [hq0, hT] at RS
  have HK0 := Lib.hid hk0
  have HBX := Lib.hid hbox
  have HLL := Lib.hid hl0
  obtain ⟨o0, o1, o2⟩ := hbox.facts
  clear hE hE0 hv hf h3 hk0 hbox hq0 hT hl0
  unfold PrintQ
  go_enter Tryz.func32, Tryz.ntmps32
  go_wp2_with fail
  refine RS.out.mono ?_
  rintro e w1 ⟨rfl, hk1⟩
  have HK1 := Lib.hid (HK0.out.tr hk1)
  have HB1 := Lib.hid (HBX.out.kept hk1 trivial)
  have HE1 := Lib.hid (HE.out.kept hk1 fun _ _ => trivial)
  clear hk1 o0 o1 o2 hW0
  obtain ⟨o0, o1, o2⟩ := HB1.out.facts
  cases q0 with
  | false =>
    go_wp2
    refine bodyPost_ret (v := .tuple #[S [], .int .i64 55]) (by simp [results, Tryz.results32, go_sem]) rfl ?_
    exact ⟨by rw [HR.out]; rfl, HK1.out⟩
  | true =>
    by_cases h1 : 100 ≤ st
    case neg =>
      have h1' : st < 100 := by omega
      have HF : Hid (printA ⟨st, fs, body⟩ = ([], 55)) := Lib.hid (by rw [HR.out, decide_eq_false h1]; rfl)
      clear h1
      go_wp2
      refine bodyPost_ret (v := .tuple #[S [], .int .i64 55]) (by simp [results, Tryz.results32, go_sem]) rfl ?_
      exact ⟨by rw [HF.out], HK1.out⟩
    by_cases h2 : st ≤ 599
    case neg =>
      have h1' : ¬ st < 100 := by omega
      have h2' : 599 < st := by omega
      have HF : Hid (printA ⟨st, fs, body⟩ = ([], 55)) := Lib.hid (by rw [HR.out, decide_eq_false h2]; simp)
      clear h1 h2
      go_wp2
      refine bodyPost_ret (v := .tuple #[S [], .int .i64 55]) (by simp [results, Tryz.results32, go_sem]) rfl ?_
      exact ⟨by rw [HF.out], HK1.out⟩
    have h1' : ¬ st < 100 := by omega
    have h2' : ¬ 599 < st := by omega
    have HF : Hid (printA ⟨st, fs, body⟩ = (versionL ++ 32 :: (Lib.itoa st ++ 32 :: (reasonP st ++ 13 :: 10 :: T)), 0)) := Lib.hid (by rw [HR.out, decide_eq_true h1, decide_eq_true h2]; rfl)
    have k0 := HLL.out rfl
    have IT := Lib.hid (fun W (hk : Kept (fun _ => True) w1 W) => Tryz.strconv_Itoa st (by omega) (by omega) W (HE1.out.kept hk fun _ _ => trivial).pow)
    obtain ⟨D, hD⟩ : ∃ D, Lib.itoa st = D := ⟨_, rfl⟩
    have hDl : D.length ≤ 20 := by rw [← hD]; exact itoa_len st (by omega) (by omega)
    have RE := Lib.hid (fun W => reason_any st W)
    have hEl := reason_len st
    obtain ⟨E, hE⟩ : ∃ E, reasonP st = E := ⟨_, rfl⟩
    rw [hD] at IT HF
    rw [hE] at RE HF hEl
    obtain ⟨a1, ha1⟩ : ∃ t, [72, 84, 84, 80, 47, 49, 46, 49, 32] ++ D = t := ⟨_, rfl⟩
    obtain ⟨a2, ha2⟩ : ∃ t, a1 ++ [32] = t := ⟨_, rfl⟩
    obtain ⟨a3, ha3⟩ : ∃ t, a2 ++ E = t := ⟨_, rfl⟩
    obtain ⟨a4, ha4⟩ : ∃ t, a3 ++ [13, 10] = t := ⟨_, rfl⟩
    obtain ⟨a5, ha5⟩ : ∃ t, a4 ++ T = t := ⟨_, rfl⟩
    have l1 : a1.length = D.length + 9 := by rw [← ha1, List.length_append]; simp only [List.length_cons, List.length_nil]; omega
    have l2 : a2.length = D.length + 10 := by rw [← ha2, List.length_append, l1]; rfl
    have l3 : a3.length = D.length + 10 + E.length := by rw [← ha3, List.length_append, l2]
    have l4 : a4.length = D.length + 12 + E.length := by rw [← ha4, List.length_append, l3]; simp only [List.length_cons, List.length_nil]; omega
    have CT1 := run_cat (P := Tryz.prog) [72, 84, 84, 80, 47, 49, 46, 49, 32] D a1 ha1 (by simp only [List.length_cons, List.length_nil]; omega)
    have CT2 := run_cat (P := Tryz.prog) a1 [32] a2 ha2 (by simp only [List.length_cons, List.length_nil]; omega)
    have CT3 := run_cat (P := Tryz.prog) a2 E a3 ha3 (by omega)
    have CT4 := run_cat (P := Tryz.prog) a3 [13, 10] a4 ha4 (by simp only [List.length_cons, List.length_nil]; omega)
    have CT5 := run_cat (P := Tryz.prog) a4 T a5 ha5 (by omega)
    have HA : Hid (versionL ++ 32 :: (D ++ 32 :: (E ++ 13 :: 10 :: T)) = a5) := Lib.hid (by rw [← ha5, ← ha4, ← ha3, ← ha2, ← ha1]; simp [versionL])
    clear ha1 ha2 ha3 ha4 ha5 l1 l2 l3 l4 hD hE h1 h2
    have HCK : Hid (∀ W, Kept (fun _ => True) w1 W → W.cell? ⟨w.heap.size, 0, none⟩ = some (.int .i64 st)) := Lib.hid fun W hk => (HB1.out.kept hk trivial).facts.1
    have hkc : Kept (fun _ => True) w1 w1.drew := (Kept.refl _ w1).drew
    go_wp2_with fail
    clear o0 o1 o2
    go_region_held3 (fun wz => wz.cell? ⟨w.heap.size, 0, none⟩ = some (.int .i64 st)) (first | exact HCK.out _ hkc | go_keep)
      (first
        | (go_at_call 62; (with_reducible refine (IT.out _ hkc).mono ?_); rintro e w2 ⟨rfl, k, os, hw2⟩; have hk2 : Kept (fun _ => True) _ w2 := (by rw [hw2]; exact Kept.growN _ _ _); have hkc := hkc.tr hk2; clear hk2 hw2)
        | (go_at_call 63; (with_reducible refine (RE.out _).mono ?_); rintro e w3 ⟨rfl, rfl⟩))
    have HK2 := Lib.hid (HK1.out.tr hkc)
    go_wp2
    refine bodyPost_ret (v := .tuple #[S a5, .int .i64 0]) (by simp [results, Tryz.results32, go_sem]) rfl ?_
    exact ⟨by rw [HF.out, ← HA.out], HK2.out⟩
end Go.Proofs.YtaomhkgdbobpkaaGreatDoor
