/- Walks of jot's parser (layer 4): every value; Parse. -/
import Derived.Test.YtmajpambfblhnaaGreatDoorJoJA
import Derived.Test.YtmajpambfblhnaaGreatDoorJoSort
import Derived.Defers
import Derived.Recover
namespace Go.Proofs.YtmajpambfblhnaaGreatDoor
open Go.RowKit Jo

theorem Row1.slice {ok : Nat → Prop} {w : World} {v : Value} {n : Nat} {us : Nat → Value} (h : Row1 ok w v n us) : ∃ a l c, v = .slice a l c := by
  rcases h with ⟨rfl, _⟩ | ⟨b, cap, rfl, _⟩ <;> exact ⟨_, _, _, rfl⟩
theorem Row2.slice {ok : Nat → Prop} {w : World} {v : Value} {ns : List (List UInt8)} {us : Nat → Value} (h : Row2 ok w v ns us) : ∃ a l c, v = .slice a l c := by
  rcases h with ⟨rfl, _⟩ | ⟨b, cap, rfl, _⟩ <;> exact ⟨_, _, _, rfl⟩
/-- Every value that stands inside can be handed out. -/
theorem VIn.jotC : ∀ (x : J) {ok : Nat → Prop} {w : World} {u : Value}, VIn ok w x u → JotC u x := by
  intro x
  induction x using J.ind with
  | h k n t ns xs ih =>
    intro ok w u h
    generalize hy : J.mk k n t ns xs = y at h
    cases h with
    | null => exact ⟨_, _, _, _, rfl, method_null, fun _ W _ => null_jot W⟩
    | fls => exact ⟨_, _, _, _, rfl, method_fls, fun _ W _ => fls_jot W⟩
    | tru => exact ⟨_, _, _, _, rfl, method_tru, fun _ W _ => tru_jot W⟩
    | nr m => exact ⟨_, _, _, _, rfl, method_nr m, fun _ W _ => nr_jot m W⟩
    | tx l => exact ⟨_, _, _, _, rfl, method_tx _, fun _ W _ => tx_jot l W⟩
    | list ys v us hl hr hv =>
      obtain ⟨a, l, c, rfl⟩ := hr.slice
      refine ⟨_, _, _, _, rfl, method_list a l c, fun ok' W hW => ?_⟩
      obtain ⟨v', us', e, hl', hr', hv'⟩ := hW.list_inv ys rfl
      obtain rfl : v' = .slice a l c := by injection e with _ e; exact e.symm
      obtain rfl : xs = ys := by simpa [J.list] using (congrArg J.items hy)
      exact list_jot ok' xs _ us' W hl' hr' hv' fun j y hjy => ih y (List.mem_of_getElem? hjy) (hv' j y hjy)
    | obj ms v us hl hr hv =>
      obtain ⟨a, l, c, rfl⟩ := hr.slice
      refine ⟨_, _, _, _, rfl, method_object a l c, fun ok' W hW => ?_⟩
      obtain ⟨v', us', e, hl', hr', hv'⟩ := hW.obj_inv ms rfl
      obtain rfl : v' = .slice a l c := by injection e with _ e; exact e.symm
      obtain rfl : xs = ms.map (·.2) := by simpa [J.obj] using (congrArg J.items hy)
      exact object_jot ok' ms _ us' W hl' hr' hv' fun j m hjm => ih m.2 (List.mem_map.2 ⟨m, List.mem_of_getElem? hjm, rfl⟩) (hv' j m hjm)

theorem value_any (g : Nat) (s : List UInt8) (hl : s.length ≤ 4000) : ∀ (k d : Nat), d + k = 16 → ValC g s d k := by
  intro k
  induction k with
  | zero =>
    intro d hd i w hp hi
    obtain rfl : d = 16 := by omega
    exact value_step g s 16 _ _ (fun i w hp hi => list_deep g s i w hp hi _) (fun i w hp hi => object_deep g s i w hp hi _) i w hp hi hl
  | succ k ih =>
    intro d hd i w hp hi
    exact value_step g s d _ _ (fun i w hp hi => list_any g s i d k (ih (d + 1) (by omega)) w hp (by omega) hi hl) (fun i w hp hi => object_any g s i d k sort_any (ih (d + 1) (by omega)) w hp (by omega) hi hl) i w hp hi hl
end Go.Proofs.YtmajpambfblhnaaGreatDoor

namespace Go.Proofs.YtmajpambfblhnaaGreatDoor
open Go.RowKit Jo

theorem assert_wrong (x : Int) (i : Nat) (w : World) : (Instr.typeAssert (.iface 68 (.agg #[.int .i64 x, .int .i64 i])) 20 68 true).run Tryz.prog w = .ok (.tuple #[.agg #[.int .i64 x, .int .i64 i], .bool true]) w := by kernel_rfl
theorem assert_nil (w : World) : (Instr.typeAssert .nilIface 20 68 true).run Tryz.prog w = .ok (.tuple #[.agg #[.int .i64 0, .int .i64 0], .bool false]) w := by kernel_rfl

set_option maxHeartbeats 4000000 in
set_option maxRecDepth 100000 in
theorem catch_wrong (a b c : Nat) (x : Int) (i : Nat) (older : List PanicEntry) (w : World) (h0 : OutAt a 0 0 [] (.slice none 0 0) (.slice none 0 0) w) (h1 : w.heap[b]? = some (.cells #[.int .i64 0] 34 (0, 0))) (h2 : w.heap[c]? = some (.cells #[.int .i64 0] 3 (0, 0))) (hab : a < b) (hbc : b < c) :
    CallsD Tryz.prog 36 #[.pointer (some ⟨a, 0, none⟩), .pointer (some ⟨b, 0, none⟩), .pointer (some ⟨c, 0, none⟩)] (.panicking ({ v := .iface 68 (.agg #[.int .i64 x, .int .i64 i]), recovered := false } :: older)) w fun e u' w' =>
      e = .returned (.tuple #[]) ∧ u' = .panicking ({ v := .iface 68 (.agg #[.int .i64 x, .int .i64 i]), recovered := true } :: older) ∧
      OutAt a 0 0 [] (.slice none 0 0) (.slice none 0 0) w' ∧ w'.cell? ⟨b, 0, none⟩ = some (.int .i64 x) ∧ w'.cell? ⟨c, 0, none⟩ = some (.int .i64 i) ∧ Kept (fun k => k ≠ a ∧ k ≠ b ∧ k ≠ c) w w' := by
  obtain ⟨g0, g1, g2, g3, g4, g5, g6⟩ := h0.facts
  obtain ⟨f0, f1, f2, f3, f4⟩ := h0.free
  have b0 : w.cell? ⟨b, 0, none⟩ = some (.int .i64 0) := by rw [cell_of_row w b _ _ _ (0, 0) h1]; rfl
  have b1 : w.frozen? ⟨b, 0, none⟩ = false := frozen_row h1 0
  have c0 : w.cell? ⟨c, 0, none⟩ = some (.int .i64 0) := by rw [cell_of_row w c _ _ _ (0, 0) h2]; rfl
  have c1 : w.frozen? ⟨c, 0, none⟩ = false := frozen_row h2 0
  have ta := assert_wrong x i
  have hrep : Array.replicate 18 undef = #[undef, undef, undef, undef, undef, undef, undef, undef, undef, undef, undef, undef, undef, undef, undef, undef, undef, undef] := rfl
  refine callsD_of_wpS Tryz.func36 rfl fun c₀ cs hu => ?_
  apply wpS_seq
  apply wpS_region
  simp [wpOpsS, go_sem, recoverD, hu, Tryz.ntmps36, Exit.thenS, hrep]
  clear hrep
  refine wpS_of_wp ?_
  have ha : a < w.heap.size := h0.lt
  have hb : b < w.heap.size := (Array.getElem?_eq_some_iff.1 h1).1
  have hc : c < w.heap.size := (Array.getElem?_eq_some_iff.1 h2).1
  have n1 : a ≠ b := by omega
  have n2 : a ≠ c := by omega
  have n3 : b ≠ c := by omega
  have n4 : b ≠ a := by omega
  have n5 : c ≠ a := by omega
  have n6 : c ≠ b := by omega
  go_wp2
  go_region
  refine ⟨rfl, _, rfl, .tuple #[], by simp [results, Tryz.results36], rfl, rfl, ?_, ?_, ?_, ?_⟩
  · have k1 := kept_box w a (.int .i64 0) (.int .i64 0) (S []) (.slice none 0 0) (.slice none 0 0)
    have h5 := h0.five 0 0 [] (.slice none 0 0) (.slice none 0 0)
    exact h5.kept (ok := fun k => k ≠ b ∧ k ≠ c) (((((Kept.refl _ _).setCell (.inr (by simp)) _).setCell (.inr (by simp)) _).alloc _).drew) ⟨n1, n2⟩
  · simp [go_sem, b0, hb]
  · simp [go_sem, c0, hc]
  · exact ((((kept_box w a _ _ _ _ _).mono (ok2 := fun k => ¬k = a ∧ ¬k = b ∧ ¬k = c) (fun i _ h => h.1)).setCell (.inr (by simp)) _).setCell (.inr (by simp)) _).alloc _ |>.drew

set_option maxHeartbeats 4000000 in
set_option maxRecDepth 100000 in
theorem catch_idle (p q r : Value) (w : World) :
    CallsD Tryz.prog 36 #[p, q, r] .returning w fun e u' w' => e = .returned (.tuple #[]) ∧ u' = .returning ∧ Kept (fun _ => True) w w' := by
  have ta := assert_nil
  have hrep : Array.replicate 18 undef = #[undef, undef, undef, undef, undef, undef, undef, undef, undef, undef, undef, undef, undef, undef, undef, undef, undef, undef] := rfl
  refine callsD_of_wpS Tryz.func36 rfl fun c₀ cs hu => ?_
  apply wpS_seq
  apply wpS_region
  simp [wpOpsS, go_sem, recoverD, hu, Tryz.ntmps36, Exit.thenS, hrep]
  clear hrep
  refine wpS_of_wp ?_
  go_wp2
  refine ⟨rfl, .returning, ?_, .tuple #[], by simp [results, Tryz.results36], rfl, rfl, (Kept.refl _ _).alloc _⟩
  cases c₀
  simp_all

/-- What Parse leaves. -/
def ParseQ (w : World) (r : J × Int × Nat) (e : Ending) (w' : World) : Prop := (∃ v fp, e = .returned (.tuple #[v, .int .i64 r.2.1, .int .i64 (r.2.2 : Int)]) ∧ JOwn w' r.1 v fp ∧ fp.Nodup ∧ ∀ b ∈ fp, w.heap.size ≤ b) ∧ Kept (fun _ => True) w w'

set_option maxHeartbeats 4000000 in
set_option maxRecDepth 100000 in
theorem Parse_long (s : List UInt8) (w : World) (h : s.length > 4000) (hm : s.length ≤ maxLen) :
    Calls Tryz.prog 18 #[S s] w (ParseQ w (parseP s)) := by
  have hR : parseP s = (J.null, 44, 4000) := by unfold parseP; rw [if_pos h]
  rw [hR]
  clear hR
  have hsz := size_mk s
  unfold maxLen at hm
  have hmf : ∀ (fn : Fn) (first cap : Array Value) (w : World), (Instr.makeFunc fn first cap).run Tryz.prog w = .ok (.func fn first cap) w := fun _ _ _ _ => rfl
  go_enter_defers Tryz.func18, Tryz.ntmps18
  go_wp2
  refine ⟨.tuple #[jotV 0 0 [] (.slice none 0 0) (.slice none 0 0), .int .i64 44, .int .i64 4000], by simp [results, Tryz.results18, go_sem], ?_⟩
  exact ⟨⟨_, [], rfl, JOwn.leaf _ _ _ _, List.nodup_nil, by simp⟩, (((Kept.refl _ _).alloc _).alloc _).alloc _⟩

set_option maxHeartbeats 8000000 in
set_option maxRecDepth 100000 in
theorem Parse_short (s : List UInt8) (w : World) (h : s.length ≤ 4000) : Calls Tryz.prog 18 #[S s] w (ParseQ w (parseP s)) := by
  obtain ⟨R, hR⟩ : ∃ R, parseP s = R := ⟨_, rfl⟩
  have HR : Hid (R = match valP s 16 0 with | .bad e i => (J.null, e, i) | .ok x i => if bl s i < s.length then (J.null, 40, bl s i) else (x, 0, 0)) := Lib.hid (by rw [← hR]; unfold parseP; rw [if_neg (by omega)]; rfl)
  rw [hR]
  clear hR
  have hsz := size_mk s
  have hmf : ∀ (fn : Fn) (first cap : Array Value) (w : World), (Instr.makeFunc fn first cap).run Tryz.prog w = .ok (.func fn first cap) w := fun _ _ _ _ => rfl
  obtain ⟨W, hW⟩ : ∃ W, (((w.alloc (.cells #[.int .i64 0, .int .i64 0, S [], .slice none 0 0, .slice none 0 0] 25)).alloc (.cells #[.int .i64 0] 34)).alloc (.cells #[.int .i64 0] 3)).alloc (.cells #[S s, .int .i64 0, .int .i64 0] 72) = W := ⟨_, rfl⟩
  have hkW : Kept (fun _ => True) w W := by rw [← hW]; exact ((((Kept.refl _ w).alloc _).alloc _).alloc _).alloc _
  have hz : W.heap.size = w.heap.size + 4 := by rw [← hW]; simp
  have hp : PA (w.heap.size + 3) s 0 0 W := by
    rw [← hW]
    have e : (((w.alloc (.cells #[.int .i64 0, .int .i64 0, S [], .slice none 0 0, .slice none 0 0] 25)).alloc (.cells #[.int .i64 0] 34)).alloc (.cells #[.int .i64 0] 3)).heap.size = w.heap.size + 3 := by simp
    unfold PA
    rw [← e]
    exact heap_alloc_new _ _
  have ho : OutAt w.heap.size 0 0 [] (.slice none 0 0) (.slice none 0 0) W := by
    rw [← hW]
    exact (OutAt.new w 0 0 [] (.slice none 0 0) (.slice none 0 0)).kept (ok := fun _ => True) ((((Kept.refl _ _).alloc _).alloc _).alloc _) trivial
  have h1 : W.heap[w.heap.size + 1]? = some (.cells #[.int .i64 0] 34 (0, 0)) := by
    rw [← hW]
    have := heap_alloc_new (w.alloc (.cells #[.int .i64 0, .int .i64 0, S [], .slice none 0 0, .slice none 0 0] 25)) (.cells #[.int .i64 0] 34)
    have h2 := ((Kept.refl (fun _ => True) ((w.alloc (.cells #[.int .i64 0, .int .i64 0, S [], .slice none 0 0, .slice none 0 0] 25)).alloc (.cells #[.int .i64 0] 34))).alloc (.cells #[.int .i64 0] 3)).alloc (.cells #[S s, .int .i64 0, .int .i64 0] 72) |>.block (w.heap.size + 1) (by simp) trivial
    rw [h2]
    simpa using this
  have h2 : W.heap[w.heap.size + 2]? = some (.cells #[.int .i64 0] 3 (0, 0)) := by
    rw [← hW]
    have := heap_alloc_new ((w.alloc (.cells #[.int .i64 0, .int .i64 0, S [], .slice none 0 0, .slice none 0 0] 25)).alloc (.cells #[.int .i64 0] 34)) (.cells #[.int .i64 0] 3)
    have h2 := (Kept.refl (fun _ => True) (((w.alloc (.cells #[.int .i64 0, .int .i64 0, S [], .slice none 0 0, .slice none 0 0] 25)).alloc (.cells #[.int .i64 0] 34)).alloc (.cells #[.int .i64 0] 3))).alloc (.cells #[S s, .int .i64 0, .int .i64 0] 72) |>.block (w.heap.size + 2) (by simp) trivial
    rw [h2]
    simpa using this
  have HW := Lib.hid hW
  have HZ := Lib.hid hz
  have V := Lib.hid (value_any (w.heap.size + 3) s h 16 0 rfl 0 W hp (Nat.zero_le _))
  have HO := Lib.hid ho
  have H1 := Lib.hid h1
  have H2 := Lib.hid h2
  clear hW hz hp ho h1 h2
  go_enter_defers Tryz.func18, Tryz.ntmps18
  go_wp2_with fail
  rw [HW.out]
  refine V.out.mono ?_
  cases hv : valP s 16 0 with
  | bad e i =>
    rintro x w1 ⟨rfl, hi, hk⟩
    have HN : Hid (R = (J.null, e, i)) := Lib.hid (by rw [HR.out, hv])
    clear hv V HR
    go_wp2
    refine leaves_cons (f := 36) (args := #[.pointer (some ⟨w.heap.size, 0, none⟩), .pointer (some ⟨w.heap.size + 1, 0, none⟩), .pointer (some ⟨w.heap.size + 2, 0, none⟩)]) (by simp) (by simp [go_sem]) ?_
    have hz := HZ.out
    refine (catch_wrong w.heap.size (w.heap.size + 1) (w.heap.size + 2) e i [] w1 (HO.out.kept hk (by omega)) ((hk.block _ (by omega) (by omega)).trans H1.out) ((hk.block _ (by omega) (by omega)).trans H2.out) (by omega) (by omega)).mono ?_
    rintro x u w2 ⟨rfl, rfl, q1, q2, q3, q4⟩
    obtain ⟨g0, g1, g2, g3, g4, g5, g6⟩ := q1.facts
    refine ⟨.tuple #[jotV 0 0 [] (.slice none 0 0) (.slice none 0 0), .int .i64 e, .int .i64 i], by simp [results, Tryz.results18, go_sem, g0, g1, g2, g3, g4, q2, q3], ?_⟩
    rw [HN.out]
    exact ⟨⟨_, [], rfl, JOwn.leaf _ _ _ _, List.nodup_nil, by simp⟩, (hkW.trans hk fun i hi _ => by omega).trans q4 fun i hi _ => by omega⟩
  | ok x i =>
    rintro _ w1 ⟨⟨u, rfl, hu⟩, hp1, hi, hk⟩
    obtain ⟨ut, uv, K, ka, rfl, hm, hcall⟩ := hu.jotC
    have HQ : Hid (R = if bl s i < s.length then (J.null, 40, bl s i) else (x, 0, 0)) := Lib.hid (by rw [HR.out, hv])
    have B := Lib.hid (blanks_any (w.heap.size + 3) s i 0 w1 hp1 h hi)
    have HU := Lib.hid hu
    have HM := Lib.hid hm
    have HC := Lib.hid hcall
    clear hv V HR hu hp1 hm hcall
    obtain ⟨j, hj⟩ : ∃ j, bl s i = j := ⟨_, rfl⟩
    rw [hj] at HQ B
    clear hj
    go_wp2_with fail
    refine B.out.mono ?_
    rintro _ w2 ⟨rfl, hp2, hj2, hk2⟩
    have hz := HZ.out
    have hk12 := hk.tr hk2
    obtain ⟨h0, h1', h2', h3, h4⟩ := hp2.facts
    by_cases hlt : j < s.length
    · have HN : Hid (R = (J.null, 40, j)) := Lib.hid (by rw [HQ.out, if_pos hlt])
      have HP2 := Lib.hid hp2
      clear HQ hp2
      go_wp2_with fail
      refine (fail_any _ _ _ _ _ _ HP2.out).mono ?_
      rintro x w' ⟨rfl, rfl⟩
      go_wp2
      refine leaves_cons (f := 36) (args := #[.pointer (some ⟨w.heap.size, 0, none⟩), .pointer (some ⟨w.heap.size + 1, 0, none⟩), .pointer (some ⟨w.heap.size + 2, 0, none⟩)]) (by simp) (by simp [go_sem]) ?_
      refine (catch_wrong w.heap.size (w.heap.size + 1) (w.heap.size + 2) 40 j [] w' (HO.out.kept hk12 (by omega)) ((hk12.block _ (by omega) (by omega)).trans H1.out) ((hk12.block _ (by omega) (by omega)).trans H2.out) (by omega) (by omega)).mono ?_
      rintro x u w2 ⟨rfl, rfl, q1, q2, q3, q4⟩
      obtain ⟨g0, g1, g2, g3, g4, g5, g6⟩ := q1.facts
      refine ⟨.tuple #[jotV 0 0 [] (.slice none 0 0) (.slice none 0 0), .int .i64 40, .int .i64 j], by simp [results, Tryz.results18, go_sem, g0, g1, g2, g3, g4, q2, q3], ?_⟩
      rw [HN.out]
      exact ⟨⟨_, [], rfl, JOwn.leaf _ _ _ _, List.nodup_nil, by simp⟩, (hkW.trans hk12 fun i hi _ => by omega).trans q4 fun i hi _ => by omega⟩
    · have HN : Hid (R = (x, 0, 0)) := Lib.hid (by rw [HQ.out, if_neg hlt])
      have HU2 := Lib.hid (HU.out.kept hk2 (fun b hb hw => by omega))
      have hz2 := hk12.size
      have HO2 := Lib.hid (HO.out.kept hk12 (by omega))
      have H12 := Lib.hid ((hk12.block _ (by omega) (by omega)).trans H1.out)
      have H22 := Lib.hid ((hk12.block _ (by omega) (by omega)).trans H2.out)
      clear HQ hp2
      go_wp2_with (refine wpList_invoke ut uv "latchkey/jot.jot" rfl (.tmp 28) rfl rfl HM.out (HC.out _ _ HU2.out) ?_)
      rintro e w3 ⟨⟨v, fp, rfl, hown, hnd, hfp⟩, hk3⟩
      obtain ⟨na, nl, nc, ia, il, ic, rfl⟩ := hown.form2
      refine ⟨_, rfl, ?_⟩
      have HO3 := Lib.hid (HO2.out.kept hk3 trivial)
      have h13 := (hk3.block _ (by omega) trivial).trans H12.out
      have h23 := (hk3.block _ (by omega) trivial).trans H22.out
      obtain ⟨g0, g1, g2, g3, g4, g5, g6⟩ := HO3.out.facts
      obtain ⟨f0, f1, f2, f3, f4⟩ := HO3.out.free
      have b0 : w3.cell? ⟨w.heap.size + 1, 0, none⟩ = some (.int .i64 0) := by rw [cell_of_row w3 _ _ _ _ (0, 0) h13]; rfl
      have b1 : w3.frozen? ⟨w.heap.size + 1, 0, none⟩ = false := frozen_row h13 0
      have c0 : w3.cell? ⟨w.heap.size + 1 + 1, 0, none⟩ = some (.int .i64 0) := by rw [cell_of_row w3 _ _ _ _ (0, 0) h23]; rfl
      have c1 : w3.frozen? ⟨w.heap.size + 1 + 1, 0, none⟩ = false := frozen_row h23 0
      have hz3 := hk3.size
      have HOWN := Lib.hid (And.intro hown (And.intro hnd hfp))
      have HFIVE := Lib.hid (HO3.out.five x.kind x.num x.text (.slice na nl nc) (.slice ia il ic))
      have HKB := Lib.hid (kept_box w3 w.heap.size (.int .i64 x.kind) (.int .i64 x.num) (S x.text) (.slice na nl nc) (.slice ia il ic))
      clear h13 h23 hown hnd hfp HU2 HU
      go_wp2
      refine leaves_cons (f := 36) (args := #[.pointer (some ⟨w.heap.size, 0, none⟩), .pointer (some ⟨w.heap.size + 1, 0, none⟩), .pointer (some ⟨w.heap.size + 1 + 1, 0, none⟩)]) (by simp) (by simp [go_sem]) ?_
      refine (catch_idle _ _ _ _).mono ?_
      rintro e u w5 ⟨rfl, rfl, hk5⟩
      have hkc := ((HKB.out.mono (ok2 := fun k => k ≠ w.heap.size ∧ k ≠ w.heap.size + 1 ∧ k ≠ w.heap.size + 1 + 1) (fun i _ h => h.1)).setCell (p := ⟨w.heap.size + 1, 0, none⟩) (.inr (by simp)) (.int .i64 0)).setCell (p := ⟨w.heap.size + 1 + 1, 0, none⟩) (.inr (by simp)) (.int .i64 0)
      have HF4 := Lib.hid (HFIVE.out.kept (ok := fun k => k ≠ w.heap.size + 1 ∧ k ≠ w.heap.size + 1 + 1) (((Kept.refl _ _).setCell (p := ⟨w.heap.size + 1, 0, none⟩) (.inr (by simp)) (.int .i64 0)).setCell (p := ⟨w.heap.size + 1 + 1, 0, none⟩) (.inr (by simp)) (.int .i64 0)) (by omega))
      obtain ⟨d0, d1, d2, d3, d4, d5, d6⟩ := (HF4.out.kept hk5 trivial).facts
      have d7 : w5.cell? ⟨w.heap.size + 1, 0, none⟩ = some (.int .i64 0) := by
        rw [hk5.cell (by simp [World.setCell]; omega) trivial]
        simp [go_sem, b0]
      have d8 : w5.cell? ⟨w.heap.size + 1 + 1, 0, none⟩ = some (.int .i64 0) := by
        rw [hk5.cell (by simp [World.setCell]; omega) trivial]
        simp [go_sem, c0]
      refine ⟨.tuple #[jotV x.kind x.num x.text (.slice na nl nc) (.slice ia il ic), .int .i64 0, .int .i64 0], by simp [results, Tryz.results18, go_sem, d0, d1, d2, d3, d4, d7, d8], ?_⟩
      rw [HN.out]
      obtain ⟨hown, hnd, hfp⟩ := HOWN.out
      have hkk := hkc.trans hk5 fun _ _ _ => trivial
      have hbig : ∀ b ∈ fp, w.heap.size + 4 ≤ b := fun b hb => by have := hfp b hb; omega
      exact ⟨⟨_, fp, rfl, hown.kept hkk.size (fun b hb => hkk.block b (hown.lt b hb) (by have := hbig b hb; omega)), hnd, fun b hb => by have := hbig b hb; omega⟩,
        ((hkW.trans hk12 fun i hi _ => by omega).trans hk3 fun _ _ _ => trivial).trans hkk fun i hi _ => by omega⟩

theorem Parse_any (s : List UInt8) (w : World) (hm : s.length ≤ maxLen) : Calls Tryz.prog 18 #[S s] w (ParseQ w (parseP s)) := by
  by_cases h : s.length > 4000
  · exact Parse_long s w h hm
  · exact Parse_short s w (by omega)
end Go.Proofs.YtmajpambfblhnaaGreatDoor
