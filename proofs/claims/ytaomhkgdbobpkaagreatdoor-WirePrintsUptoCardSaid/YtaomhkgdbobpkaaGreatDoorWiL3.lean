/- Walks of the law of layer 5, third part: what fields, messages and answers weigh. -/
import Derived.Test.YtaomhkgdbobpkaaGreatDoorWiL2
import Derived.Deep.QuietTactic
namespace Go.Proofs.YtaomhkgdbobpkaaGreatDoor
open Go.RowKit Wi

def addZ (n m : Int) : Int := if 2147483647 - n < m then 2147483648 else n + m
theorem addZ_rng {n m : Int} (hn : 0 ≤ n) (hm : 0 ≤ m) : 0 ≤ addZ n m ∧ addZ n m ≤ 2147483648 ∧ (addZ n m ≤ 2147483647 → n + m ≤ 2147483647 ∧ addZ n m = n + m) := by
  unfold addZ
  split <;> omega
theorem addZ_of {n m : Int} (h : n + m ≤ 2147483647) : addZ n m = n + m := by
  unfold addZ
  rw [if_neg (by omega)]
set_option maxHeartbeats 1000000 in
theorem add_z (n m : Int) (w : World) (hn : 0 ≤ n ∧ n ≤ 4611686018427387904) (hm : 0 ≤ m ∧ m ≤ 4611686018427387904) : Calls Tryz.prog 8 #[.int .i64 n, .int .i64 m] w fun e w' => e = .returned (.int .i64 (addZ n m)) ∧ w' = w := by
  obtain ⟨n0, n1⟩ := hn
  obtain ⟨m0, m1⟩ := hm
  by_cases h : 2147483647 - n < m
  · have HZ : Hid (addZ n m = 2147483648) := Lib.hid (by unfold addZ; rw [if_pos h])
    rw [HZ.out]
    go_enter Tryz.func8, Tryz.ntmps8
    go_wp2
    go_ret
    exact ⟨rfl, rfl⟩
  · have HZ : Hid (addZ n m = n + m) := Lib.hid (by unfold addZ; rw [if_neg h])
    rw [HZ.out]
    have h1 : n + m ≤ 2147483647 := by omega
    have h2 : 0 ≤ n + m := by omega
    go_enter Tryz.func8, Tryz.ntmps8
    go_wp2
    go_ret
    exact ⟨rfl, rfl⟩
def fl2 (f : Fl) : Nat := 2 * (f.1.length + f.2.length + 50)
def weightN (fs : List Fl) : Nat := (fs.map fl2).sum
theorem weightN_take {fs : List Fl} {j : Nat} {f : Fl} (h : fs[j]? = some f) : weightN (fs.take (j + 1)) = weightN (fs.take j) + fl2 f := by
  unfold weightN
  rw [List.take_add_one, h]
  simp
theorem sum_take_le : ∀ (l : List Nat) (j : Nat), (l.take j).sum ≤ l.sum
  | [], _ => by simp
  | a :: l, 0 => by simp
  | a :: l, j + 1 => by have := sum_take_le l j; simp only [List.take_succ_cons, List.sum_cons]; omega
theorem weightN_le (fs : List Fl) (j : Nat) : weightN (fs.take j) ≤ weightN fs := by
  unfold weightN
  rw [List.map_take]
  exact sum_take_le _ _
set_option maxHeartbeats 4000000 in
set_option maxRecDepth 100000 in
theorem weight_any (fs : List Fl) (v : Value) (w : World) (hv : RowF (fun _ => True) w v fs) (hl : weightN fs ≤ 2147483647) :
    Calls Tryz.prog 44 #[v] w fun e w' => e = .returned (.int .i64 (weightN fs : Nat)) ∧ ∃ k, w' = w.drewN k := by
  obtain ⟨a, c, rfl⟩ := hv.slice
  have hlen : fs.length ≤ 2147483647 := by
    have : ∀ l : List Fl, l.length ≤ weightN l := fun l => by
      induction l with
      | nil => simp
      | cons f l ih => simp only [weightN, List.map_cons, List.sum_cons, List.length_cons, fl2] at ih ⊢; omega
    have := this fs
    omega
  have HV := Lib.hid hv
  have HL := Lib.hid hl
  clear hv hl
  go_enter Tryz.func44, Tryz.ntmps44
  go_wp2_with fail
  go_loopg [3, 4] fs.length (fun q m n wr => ∃ (j u : Nat), n = .int .i64 j ∧ m = .int .i64 (u : Int) ∧ q = fs.length - j ∧ j ≤ fs.length ∧ u ≤ 2147483647 ∧ Hid (weightN (fs.take j) = u) ∧ Hid (∃ k, wr = w.drewN k))
  case atStart => exact ⟨0, 0, rfl, rfl, rfl, Nat.zero_le _, by omega, Lib.hid (by simp [weightN]), Lib.hid ⟨0, rfl⟩⟩
  case round =>
    obtain ⟨j, u, rfl, rfl, rfl, hj, hu, HU, HK⟩ := hrel
    by_cases hlt : j < fs.length
    · obtain ⟨b, off, rfl, hb, -, f, hf, x0, x1⟩ := HV.out.at hlt
      obtain ⟨k0, hk0⟩ := HK.out
      have HWR := Lib.hid hk0
      replace x0 : wr.cell? ⟨b, off + j * 2, none⟩ = some (S f.1) := by rw [hk0]; exact x0
      replace x1 : wr.cell? ⟨b, off + j * 2 + 1, none⟩ = some (S f.2) := by rw [hk0]; exact x1
      have ht := weightN_take hf
      have hle := weightN_le fs (j + 1)
      have hbnd : u + fl2 f ≤ 2147483647 := by have := HL.out; have := HU.out; omega
      have HU2 : Hid (weightN (fs.take (j + 1)) = u + fl2 f) := Lib.hid (by rw [ht, HU.out])
      obtain ⟨f1, f2⟩ := f
      simp only [fl2] at x0 x1 hbnd HU2
      have z1 : (⟨f1.toArray⟩ : ByteArray).size = f1.length := size_mk f1
      have z2 : (⟨f2.toArray⟩ : ByteArray).size = f2.length := size_mk f2
      have r1 : Hid (addZ (f1.length : Int) (f2.length : Int) = (f1.length : Int) + (f2.length : Int)) := Lib.hid (addZ_of (by omega))
      have r2 : Hid (addZ (addZ (f1.length : Int) (f2.length : Int)) 50 = (f1.length : Int) + (f2.length : Int) + 50) := Lib.hid (by rw [r1.out]; exact addZ_of (by omega))
      have g1 := Lib.hid (addZ_rng (n := (f1.length : Int)) (m := (f2.length : Int)) (by omega) (by omega))
      have g2 := Lib.hid (addZ_rng (n := addZ (f1.length : Int) (f2.length : Int)) (m := 50) g1.out.1 (by omega))
      have r3 : Hid (addZ (u : Int) (addZ (addZ (addZ (f1.length : Int) (f2.length : Int)) 50) (addZ (addZ (f1.length : Int) (f2.length : Int)) 50)) = ((u + 2 * (f1.length + f2.length + 50) : Nat) : Int)) := Lib.hid (by
        rw [r2.out, addZ_of (n := (f1.length : Int) + (f2.length : Int) + 50) (by omega), addZ_of (by omega)]
        omega)
      have s1 : f1.length ≤ 2147483647 := by omega
      have s2 : f2.length ≤ 2147483647 := by omega
      have g3 := Lib.hid (addZ_rng (n := addZ (addZ (f1.length : Int) (f2.length : Int)) 50) (m := addZ (addZ (f1.length : Int) (f2.length : Int)) 50) g2.out.1 g2.out.1)
      have hbnd2 : u + 2 * (f1.length + f2.length + 50) ≤ 2147483647 := hbnd
      clear hf ht hle hbnd hk0
      go_wp2
      go_quiet ((go_at_call 8; exact Calls.quiet_of_same (add_z _ _ _ (by first | omega | exact ⟨g1.out.1, by have := g1.out.2.1; omega⟩) (by omega))))
      go_wp2_with fail
      refine (add_z _ _ _ ⟨g2.out.1, by have := g2.out.2.1; omega⟩ ⟨g2.out.1, by have := g2.out.2.1; omega⟩).mono ?_
      rintro e w1 ⟨rfl, rfl⟩
      go_wp2_with fail
      refine (add_z _ _ _ (by omega) ⟨g3.out.1, by have := g3.out.2.1; omega⟩).mono ?_
      rintro e w1 ⟨rfl, rfl⟩
      rw [r3.out]
      go_wp2
      go_roundg (fs.length - (j + 1))
      case rel => exact ⟨j + 1, u + 2 * (f1.length + f2.length + 50), by go_num, rfl, rfl, by omega, hbnd2, HU2, Lib.hid (by obtain ⟨k, hk⟩ := HK.out; exact ⟨k + nq, by rw [hk, World.drewN_drewN]⟩)⟩
      case measure => omega
    · obtain rfl : j = fs.length := by omega
      have HE : Hid (u = weightN fs) := Lib.hid (by have := HU.out; rw [List.take_length] at this; exact this.symm)
      clear HU
      go_wp2
      go_ret
      exact ⟨by rw [HE.out]; rfl, HK.out⟩
def sizeN (m p : List UInt8) (fs : List Fl) (b : List UInt8) : Nat := m.length + p.length + (weightN fs + (b.length + 100))
def toldNn (fs : List Fl) (b : List UInt8) : Nat := weightN fs + (b.length + 100)
theorem quiet_alloc {w : World} {o : Obj} : Kept (fun _ => True) w (w.alloc o) := (Kept.refl _ w).alloc _
set_option maxHeartbeats 4000000 in
set_option maxRecDepth 100000 in
theorem size_any (m p b : List UInt8) (fs : List Fl) (v : Value) (w : World) (hv : RowF (fun _ => True) w v fs) (hl : sizeN m p fs b ≤ 2147483647) :
    Calls Tryz.prog 20 #[.agg #[S m, S p, v, S b]] w fun e w' => e = .returned (.int .i64 (sizeN m p fs b : Nat)) ∧ Kept (fun _ => True) w w' := by
  obtain ⟨a, c, rfl⟩ := hv.slice
  obtain ⟨W0, hW0⟩ : ∃ W0, w.alloc (.cells #[S m, S p, .slice a fs.length c, S b] 50) = W0 := ⟨_, rfl⟩
  have hk0 : Kept (fun _ => True) w W0 := by rw [← hW0]; exact (Kept.refl _ w).alloc _
  have hbox : four w.heap.size m p (.slice a fs.length c) b W0 := by rw [← hW0]; exact heap_alloc_new w _
  obtain ⟨c0, c1, c2, c3⟩ := hbox.facts
  have hw : weightN fs ≤ 2147483647 := by unfold sizeN at hl; omega
  have WT := Lib.hid (fun n => weight_any fs (.slice a fs.length c) (W0.drewN n) (hv.kept (hk0.drewN n) fun _ _ _ => trivial) hw)
  obtain ⟨x, hx⟩ : ∃ x, weightN fs = x := ⟨_, rfl⟩
  unfold sizeN at hl ⊢
  rw [hx] at WT hl ⊢
  have z1 : (⟨m.toArray⟩ : ByteArray).size = m.length := size_mk m
  have z2 : (⟨p.toArray⟩ : ByteArray).size = p.length := size_mk p
  have z3 : (⟨b.toArray⟩ : ByteArray).size = b.length := size_mk b
  have s1 : m.length ≤ 2147483647 := by omega
  have s2 : p.length ≤ 2147483647 := by omega
  have s3 : b.length ≤ 2147483647 := by omega
  have s4 : x ≤ 2147483647 := by omega
  have g1 := Lib.hid (addZ_rng (n := (m.length : Int)) (m := (p.length : Int)) (by omega) (by omega))
  have g2 := Lib.hid (addZ_rng (n := (b.length : Int)) (m := 100) (by omega) (by omega))
  have g3 := Lib.hid (addZ_rng (n := (x : Int)) (m := addZ (b.length : Int) 100) (by omega) g2.out.1)
  have HZ : Hid (addZ (addZ (m.length : Int) (p.length : Int)) (addZ (x : Int) (addZ (b.length : Int) 100)) = ((m.length + p.length + (x + (b.length + 100)) : Nat) : Int)) := Lib.hid (by
    rw [addZ_of (n := (m.length : Int)) (by omega), addZ_of (n := (b.length : Int)) (by omega), addZ_of (n := (x : Int)) (by omega), addZ_of (by omega)]
    omega)
  have HK0 := Lib.hid hk0
  clear hl hx hbox hv hk0
  go_enter Tryz.func20, Tryz.ntmps20
  go_wp2
  go_quiet (first
    | (go_at_call 44; exact Calls.quiet_of (WT.out _))
    | (go_at_call 8; exact Calls.quiet_of_same (add_z _ _ _ (by first | omega | exact ⟨g1.out.1, by have := g1.out.2.1; omega⟩ | exact ⟨g2.out.1, by have := g2.out.2.1; omega⟩ | exact ⟨g3.out.1, by have := g3.out.2.1; omega⟩) (by first | omega | exact ⟨g2.out.1, by have := g2.out.2.1; omega⟩ | exact ⟨g3.out.1, by have := g3.out.2.1; omega⟩))))
  go_wp2
  rw [HZ.out]
  go_ret
  exact ⟨rfl, HK0.out.drewN _⟩
set_option maxHeartbeats 4000000 in
set_option maxRecDepth 100000 in
theorem ltold_any (st : Int) (b : List UInt8) (fs : List Fl) (v : Value) (w : World) (hv : RowF (fun _ => True) w v fs) (hl : toldNn fs b ≤ 2147483647) :
    Calls Tryz.prog 23 #[.agg #[.int .i64 st, v, S b]] w fun e w' => e = .returned (.int .i64 (toldNn fs b : Nat)) ∧ Kept (fun _ => True) w w' := by
  obtain ⟨a, c, rfl⟩ := hv.slice
  obtain ⟨W0, hW0⟩ : ∃ W0, w.alloc (.cells #[.int .i64 st, .slice a fs.length c, S b] 56) = W0 := ⟨_, rfl⟩
  have hk0 : Kept (fun _ => True) w W0 := by rw [← hW0]; exact (Kept.refl _ w).alloc _
  have hbox : three w.heap.size st (.slice a fs.length c) b W0 := by rw [← hW0]; exact heap_alloc_new w _
  obtain ⟨c0, c1, c2⟩ := hbox.facts
  have hw : weightN fs ≤ 2147483647 := by unfold toldNn at hl; omega
  have WT := Lib.hid (fun n => weight_any fs (.slice a fs.length c) (W0.drewN n) (hv.kept (hk0.drewN n) fun _ _ _ => trivial) hw)
  obtain ⟨x, hx⟩ : ∃ x, weightN fs = x := ⟨_, rfl⟩
  unfold toldNn at hl ⊢
  rw [hx] at WT hl ⊢
  have z3 : (⟨b.toArray⟩ : ByteArray).size = b.length := size_mk b
  have s3 : b.length ≤ 2147483647 := by omega
  have s4 : x ≤ 2147483647 := by omega
  have g2 := Lib.hid (addZ_rng (n := (b.length : Int)) (m := 100) (by omega) (by omega))
  have HZ : Hid (addZ (x : Int) (addZ (b.length : Int) 100) = ((x + (b.length + 100) : Nat) : Int)) := Lib.hid (by
    rw [addZ_of (n := (b.length : Int)) (by omega), addZ_of (by omega)]
    omega)
  have HK0 := Lib.hid hk0
  clear hl hx hbox hv hk0
  go_enter Tryz.func23, Tryz.ntmps23
  go_wp2
  go_quiet (first
    | (go_at_call 44; exact Calls.quiet_of (WT.out _))
    | (go_at_call 8; exact Calls.quiet_of_same (add_z _ _ _ (by omega) (by first | omega | exact ⟨g2.out.1, by have := g2.out.2.1; omega⟩))))
  go_wp2
  rw [HZ.out]
  go_ret
  exact ⟨rfl, HK0.out.drewN _⟩
end Go.Proofs.YtaomhkgdbobpkaaGreatDoor
