/- Walks of the law of layer 5: numbers, cuts, loops of bytes, sums. -/
import Derived.Test.YtaomhkgdbobpkaaGreatDoorWiW18
import Derived.Deep.QuietTactic
namespace Go.Proofs.YtaomhkgdbobpkaaGreatDoor
open Go.RowKit Wi

theorem wret_i {a b : Int} (h : a = b) : Ending.returned (.int .i64 a) = .returned (.int .i64 b) := by rw [h]
def pickZ (c : Int) (n : Nat) : Nat := ((if c < 0 then -(c + 1) else c) % (n : Int)).toNat
theorem pickZ_lt (c : Int) (n : Nat) (hn : 1 ≤ n) : pickZ c n < n := by
  unfold pickZ
  have h1 := Int.emod_lt_of_pos (if c < 0 then -(c + 1) else c) (by omega : (0 : Int) < n)
  have h2 := Int.emod_nonneg (if c < 0 then -(c + 1) else c) (by omega : (n : Int) ≠ 0)
  omega
theorem pickZ_int (c : Int) (n : Nat) (hn : 1 ≤ n) : (pickZ c n : Int) = (if c < 0 then -(c + 1) else c) % (n : Int) := by
  unfold pickZ
  have h2 := Int.emod_nonneg (if c < 0 then -(c + 1) else c) (by omega : (n : Int) ≠ 0)
  omega
set_option maxHeartbeats 1000000 in
theorem pick_is (c : Int) (n : Nat) (w : World) (hc : -9223372036854775808 ≤ c ∧ c ≤ 9223372036854775807) (hn : 1 ≤ n ∧ n ≤ 1000000) :
    Calls Tryz.prog 12 #[.int .i64 c, .int .i64 n] w fun e w' => e = .returned (.int .i64 (pickZ c n)) ∧ w' = w := by
  obtain ⟨c1, c2⟩ := hc
  obtain ⟨n1, n2⟩ := hn
  have hp := Lib.hid (pickZ_int c n n1)
  obtain ⟨p, hpe⟩ : ∃ p, pickZ c n = p := ⟨_, rfl⟩
  rw [hpe] at hp ⊢
  clear hpe
  have hn0 : (1 : Int) ≤ (n : Int) := by omega
  have hnz : ((n : Int) == 0) = false := by rw [beq_eq_false_iff_ne]; omega
  by_cases h : c < 0
  · have ht : Hid ((c + 1).tmod (n : Int) = -((-(c + 1)) % (n : Int))) := Lib.hid (by
      have h3 := Int.neg_tmod (-(c + 1)) (n : Int)
      rw [Int.neg_neg] at h3
      rw [h3, Int.tmod_eq_emod_of_nonneg (by omega)])
    have hq : Hid ((p : Int) = (-(c + 1)) % (n : Int)) := Lib.hid (by rw [hp.out, if_pos h])
    clear hp
    go_enter Tryz.func12, Tryz.ntmps12
    go_wp2
    go_ret
    exact ⟨wret_i (by rw [ht.out, hq.out]; omega), rfl⟩
  · have h2 : 0 ≤ c := by omega
    have hq : Hid ((p : Int) = c % (n : Int)) := Lib.hid (by rw [hp.out, if_neg h])
    clear hp
    go_enter Tryz.func12, Tryz.ntmps12
    go_wp2
    go_ret
    exact ⟨wret_i (by rw [hq.out]), rfl⟩


set_option maxHeartbeats 1000000 in
theorem add_is (n m : Nat) (w : World) (h : n + m ≤ 2147483647) : Calls Tryz.prog 8 #[.int .i64 n, .int .i64 m] w fun e w' => e = .returned (.int .i64 ((n + m : Nat) : Int)) ∧ w' = w := by
  have h1 : ¬ (2147483647 : Int) - (n : Int) < (m : Int) := by omega
  have h2 : (n : Int) ≤ 2147483647 := by omega
  have h3 : (m : Int) ≤ 2147483647 := by omega
  go_enter Tryz.func8, Tryz.ntmps8
  go_wp2
  go_ret
  exact ⟨rfl, rfl⟩
set_option maxHeartbeats 1000000 in
theorem lcut_any (s : List UInt8) (m : Nat) (w : World) (_hs : s.length ≤ 4611686018427387904) (hm : m ≤ 1000000) : Calls Tryz.prog 48 #[S s, .int .i64 m] w fun e w' => e = .returned (S (s.take m)) ∧ w' = w := by
  have hsz : (⟨s.toArray⟩ : ByteArray).size = s.length := size_mk s
  by_cases h : m < s.length
  · have h1 : (m : Int) < (s.length : Int) := by omega
    have h0 : (0 : Int) ≤ (m : Int) := by omega
    have EX : (⟨s.toArray⟩ : ByteArray).extract 0 m = ⟨(s.take m).toArray⟩ := by rw [extract_ba]; simp
    clear h
    go_enter Tryz.func48, Tryz.ntmps48
    go_wp2
    go_ret
    exact ⟨rfl, rfl⟩
  · have h1 : ¬ (m : Int) < (s.length : Int) := by omega
    have HT : Hid (s.take m = s) := Lib.hid (List.take_of_length_le (by omega))
    clear h
    rw [HT.out]
    go_enter Tryz.func48, Tryz.ntmps48
    go_wp2
    go_ret
    exact ⟨rfl, rfl⟩
end Go.Proofs.YtaomhkgdbobpkaaGreatDoor

namespace Go.Proofs.YtaomhkgdbobpkaaGreatDoor
open Go.RowKit Wi

set_option maxHeartbeats 4000000 in
set_option maxRecDepth 100000 in
theorem fields_any (fs gs : List Fl) (va vb : Value) (w : World) (h1 : RowF (fun _ => True) w va fs) (h2 : RowF (fun _ => True) w vb gs) (hl : fs.length ≤ 1099511627776) (_hl2 : gs.length ≤ 1099511627776) :
    Calls Tryz.prog 41 #[va, vb] w fun e w' => (∃ q, e = .returned (.bool q) ∧ (q = true ↔ fs = gs)) ∧ Kept (fun _ => True) w w' := by
  obtain ⟨a, c, rfl⟩ := h1.slice
  obtain ⟨a2, c2, rfl⟩ := h2.slice
  by_cases hn : fs.length = gs.length
  case neg =>
    have q1 : ((fs.length : Int) != (gs.length : Int)) = true := by rw [bne_iff_ne]; omega
    have q2 : ¬ (fs.length : Int) = (gs.length : Int) := by omega
    have HE : Hid (¬ fs = gs) := Lib.hid fun e => hn (by rw [e])
    clear hn h1 h2
    go_enter Tryz.func41, Tryz.ntmps41
    go_wp2
    go_ret
    exact ⟨⟨false, rfl, by simp [HE.out]⟩, Kept.refl _ _⟩
  have HN := Lib.hid hn
  have H1 := Lib.hid h1
  have H2 := Lib.hid h2
  rw [← hn] at H2 ⊢
  clear hn h1 h2
  go_enter Tryz.func41, Tryz.ntmps41
  go_wp2_with fail
  go_loopg [5] fs.length (fun q n wr => ∃ j : Nat, n = .int .i64 j ∧ q = fs.length - j ∧ j ≤ fs.length ∧ Hid (fs.take j = gs.take j) ∧ Hid (Kept (fun _ => True) w wr))
  case atStart => exact ⟨0, rfl, rfl, Nat.zero_le _, Lib.hid (by simp), Lib.hid (Kept.refl _ _)⟩
  case round =>
    obtain ⟨j, rfl, rfl, hj, HT, HK⟩ := hrel
    by_cases hlt : j < fs.length
    · obtain ⟨b, off, rfl, hb, -, f, hf, x0, x1⟩ := H1.out.at hlt
      obtain ⟨b', off', rfl, hb', -, f', hf', y0, y1⟩ := H2.out.at (j := j) (by rw [← HN.out]; exact hlt)
      replace x0 := (HK.out.cell hb trivial).trans x0
      replace x1 := (HK.out.cell hb trivial).trans x1
      replace y0 := (HK.out.cell hb' trivial).trans y0
      replace y1 := (HK.out.cell hb' trivial).trans y1
      obtain ⟨f1, f2⟩ := f
      obtain ⟨g1, g2⟩ := f'
      simp only at x0 x1 y0 y1
      by_cases he : f1 = g1 ∧ f2 = g2
      · obtain ⟨rfl, rfl⟩ := he
        have HT2 : Hid (fs.take (j + 1) = gs.take (j + 1)) := Lib.hid (by rw [List.take_add_one, List.take_add_one, HT.out, hf, hf'])
        clear hf hf' HT
        go_wp2
        go_quiet (fail)
        go_wp2
        go_roundg (fs.length - (j + 1))
        case rel => exact ⟨j + 1, by go_num, rfl, by omega, HT2, Lib.hid (HK.out.drewN _)⟩
        case measure => omega
      · have HE : Hid (¬ fs = gs) := Lib.hid fun e => he (by
          rw [e] at hf
          rw [hf] at hf'
          have := Option.some.inj hf'
          exact ⟨congrArg Prod.fst this, congrArg Prod.snd this⟩)
        have hcs : (f1 == g1) = false ∨ ((f1 == g1) = true ∧ (f2 == g2) = false) := by
          by_cases h1 : f1 = g1
          · exact .inr ⟨beq_iff_eq.2 h1, beq_eq_false_iff_ne.2 fun h2 => he ⟨h1, h2⟩⟩
          · exact .inl (beq_eq_false_iff_ne.2 h1)
        clear hf hf' HT he
        rcases hcs with q1 | ⟨q1, q2⟩
        all_goals
          go_wp2
          go_quiet (fail)
          go_wp2
          go_ret
          exact ⟨⟨false, rfl, by simp [HE.out]⟩, HK.out.drewN _⟩
    · obtain rfl : j = fs.length := by omega
      have HE : Hid (fs = gs) := Lib.hid (by have := HT.out; rw [List.take_length] at this; rw [this, HN.out, List.take_length])
      clear HT
      go_wp2
      go_ret
      exact ⟨⟨true, rfl, by simp [HE.out]⟩, HK.out⟩
end Go.Proofs.YtaomhkgdbobpkaaGreatDoor

namespace Go.Proofs.YtaomhkgdbobpkaaGreatDoor
open Go.RowKit Wi

def addZ (n m : Int) : Int := if 2147483647 - n < m then 2147483648 else n + m
theorem addZ_rng {n m : Int} (hn : 0 ≤ n) (hm : 0 ≤ m) : 0 ≤ addZ n m ∧ addZ n m ≤ 2147483648 ∧ (addZ n m ≤ 2147483647 → n + m ≤ 2147483647 ∧ addZ n m = n + m) := by
  unfold addZ
  split <;> omega
theorem addZ_of {n m : Int} (h : n + m ≤ 2147483647) : addZ n m = n + m := by
  unfold addZ
  rw [if_neg (by omega)]
set_option maxHeartbeats 1000000 in
theorem add_z (n m : Int) (w : World) (hn : 0 ≤ n ∧ n ≤ 4611686018427387904) (hm : 0 ≤ m ∧ m ≤ 4611686018427387904) : Calls Tryz.prog 8 #[.int .i64 n, .int .i64 m] w fun e w' => e = .returned (.int .i64 (addZ n m)) ∧ w' = w := by
  obtain ⟨n0, n1⟩ := hn
  obtain ⟨m0, m1⟩ := hm
  by_cases h : 2147483647 - n < m
  · have HZ : Hid (addZ n m = 2147483648) := Lib.hid (by unfold addZ; rw [if_pos h])
    rw [HZ.out]
    go_enter Tryz.func8, Tryz.ntmps8
    go_wp2
    go_ret
    exact ⟨rfl, rfl⟩
  · have HZ : Hid (addZ n m = n + m) := Lib.hid (by unfold addZ; rw [if_neg h])
    rw [HZ.out]
    have h1 : n + m ≤ 2147483647 := by omega
    have h2 : 0 ≤ n + m := by omega
    go_enter Tryz.func8, Tryz.ntmps8
    go_wp2
    go_ret
    exact ⟨rfl, rfl⟩
def fl2 (f : Fl) : Nat := 2 * (f.1.length + f.2.length + 50)
def weightN (fs : List Fl) : Nat := (fs.map fl2).sum
theorem weightN_take {fs : List Fl} {j : Nat} {f : Fl} (h : fs[j]? = some f) : weightN (fs.take (j + 1)) = weightN (fs.take j) + fl2 f := by
  unfold weightN
  rw [List.take_add_one, h]
  simp
theorem sum_take_le : ∀ (l : List Nat) (j : Nat), (l.take j).sum ≤ l.sum
  | [], _ => by simp
  | a :: l, 0 => by simp
  | a :: l, j + 1 => by have := sum_take_le l j; simp only [List.take_succ_cons, List.sum_cons]; omega
theorem weightN_le (fs : List Fl) (j : Nat) : weightN (fs.take j) ≤ weightN fs := by
  unfold weightN
  rw [List.map_take]
  exact sum_take_le _ _
set_option maxHeartbeats 4000000 in
set_option maxRecDepth 100000 in
theorem weight_any (fs : List Fl) (v : Value) (w : World) (hv : RowF (fun _ => True) w v fs) (hl : weightN fs ≤ 2147483647) :
    Calls Tryz.prog 44 #[v] w fun e w' => e = .returned (.int .i64 (weightN fs : Nat)) ∧ ∃ k, w' = w.drewN k := by
  obtain ⟨a, c, rfl⟩ := hv.slice
  have hlen : fs.length ≤ 2147483647 := by
    have : ∀ l : List Fl, l.length ≤ weightN l := fun l => by
      induction l with
      | nil => simp
      | cons f l ih => simp only [weightN, List.map_cons, List.sum_cons, List.length_cons, fl2] at ih ⊢; omega
    have := this fs
    omega
  have HV := Lib.hid hv
  have HL := Lib.hid hl
  clear hv hl
  go_enter Tryz.func44, Tryz.ntmps44
  go_wp2_with fail
  go_loopg [3, 4] fs.length (fun q m n wr => ∃ (j u : Nat), n = .int .i64 j ∧ m = .int .i64 (u : Int) ∧ q = fs.length - j ∧ j ≤ fs.length ∧ u ≤ 2147483647 ∧ Hid (weightN (fs.take j) = u) ∧ Hid (∃ k, wr = w.drewN k))
  case atStart => exact ⟨0, 0, rfl, rfl, rfl, Nat.zero_le _, by omega, Lib.hid (by simp [weightN]), Lib.hid ⟨0, rfl⟩⟩
  case round =>
    obtain ⟨j, u, rfl, rfl, rfl, hj, hu, HU, HK⟩ := hrel
    by_cases hlt : j < fs.length
    · obtain ⟨b, off, rfl, hb, -, f, hf, x0, x1⟩ := HV.out.at hlt
      obtain ⟨k0, hk0⟩ := HK.out
      have HWR := Lib.hid hk0
      replace x0 : wr.cell? ⟨b, off + j * 2, none⟩ = some (S f.1) := by rw [hk0]; exact x0
      replace x1 : wr.cell? ⟨b, off + j * 2 + 1, none⟩ = some (S f.2) := by rw [hk0]; exact x1
      have ht := weightN_take hf
      have hle := weightN_le fs (j + 1)
      have hbnd : u + fl2 f ≤ 2147483647 := by have := HL.out; have := HU.out; omega
      have HU2 : Hid (weightN (fs.take (j + 1)) = u + fl2 f) := Lib.hid (by rw [ht, HU.out])
      obtain ⟨f1, f2⟩ := f
      simp only [fl2] at x0 x1 hbnd HU2
      have z1 : (⟨f1.toArray⟩ : ByteArray).size = f1.length := size_mk f1
      have z2 : (⟨f2.toArray⟩ : ByteArray).size = f2.length := size_mk f2
      have r1 : Hid (addZ (f1.length : Int) (f2.length : Int) = (f1.length : Int) + (f2.length : Int)) := Lib.hid (addZ_of (by omega))
      have r2 : Hid (addZ (addZ (f1.length : Int) (f2.length : Int)) 50 = (f1.length : Int) + (f2.length : Int) + 50) := Lib.hid (by rw [r1.out]; exact addZ_of (by omega))
      have g1 := Lib.hid (addZ_rng (n := (f1.length : Int)) (m := (f2.length : Int)) (by omega) (by omega))
      have g2 := Lib.hid (addZ_rng (n := addZ (f1.length : Int) (f2.length : Int)) (m := 50) g1.out.1 (by omega))
      have r3 : Hid (addZ (u : Int) (addZ (addZ (addZ (f1.length : Int) (f2.length : Int)) 50) (addZ (addZ (f1.length : Int) (f2.length : Int)) 50)) = ((u + 2 * (f1.length + f2.length + 50) : Nat) : Int)) := Lib.hid (by
        rw [r2.out, addZ_of (n := (f1.length : Int) + (f2.length : Int) + 50) (by omega), addZ_of (by omega)]
        omega)
      have s1 : f1.length ≤ 2147483647 := by omega
      have s2 : f2.length ≤ 2147483647 := by omega
      have g3 := Lib.hid (addZ_rng (n := addZ (addZ (f1.length : Int) (f2.length : Int)) 50) (m := addZ (addZ (f1.length : Int) (f2.length : Int)) 50) g2.out.1 g2.out.1)
      have hbnd2 : u + 2 * (f1.length + f2.length + 50) ≤ 2147483647 := hbnd
      clear hf ht hle hbnd hk0
      go_wp2
      go_quiet ((go_at_call 8; exact Calls.quiet_of_same (add_z _ _ _ (by first | omega | exact ⟨g1.out.1, by have := g1.out.2.1; omega⟩) (by omega))))
      go_wp2_with fail
      refine (add_z _ _ _ ⟨g2.out.1, by have := g2.out.2.1; omega⟩ ⟨g2.out.1, by have := g2.out.2.1; omega⟩).mono ?_
      rintro e w1 ⟨rfl, rfl⟩
      go_wp2_with fail
      refine (add_z _ _ _ (by omega) ⟨g3.out.1, by have := g3.out.2.1; omega⟩).mono ?_
      rintro e w1 ⟨rfl, rfl⟩
      rw [r3.out]
      go_wp2
      go_roundg (fs.length - (j + 1))
      case rel => exact ⟨j + 1, u + 2 * (f1.length + f2.length + 50), by go_num, rfl, rfl, by omega, hbnd2, HU2, Lib.hid (by obtain ⟨k, hk⟩ := HK.out; exact ⟨k + nq, by rw [hk, World.drewN_drewN]⟩)⟩
      case measure => omega
    · obtain rfl : j = fs.length := by omega
      have HE : Hid (u = weightN fs) := Lib.hid (by have := HU.out; rw [List.take_length] at this; exact this.symm)
      clear HU
      go_wp2
      go_ret
      exact ⟨by rw [HE.out]; rfl, HK.out⟩
def sizeN (m p : List UInt8) (fs : List Fl) (b : List UInt8) : Nat := m.length + p.length + (weightN fs + (b.length + 100))
def toldNn (fs : List Fl) (b : List UInt8) : Nat := weightN fs + (b.length + 100)
theorem quiet_alloc {w : World} {o : Obj} : Kept (fun _ => True) w (w.alloc o) := (Kept.refl _ w).alloc _
set_option maxHeartbeats 4000000 in
set_option maxRecDepth 100000 in
theorem size_any (m p b : List UInt8) (fs : List Fl) (v : Value) (w : World) (hv : RowF (fun _ => True) w v fs) (hl : sizeN m p fs b ≤ 2147483647) :
    Calls Tryz.prog 20 #[.agg #[S m, S p, v, S b]] w fun e w' => e = .returned (.int .i64 (sizeN m p fs b : Nat)) ∧ Kept (fun _ => True) w w' := by
  obtain ⟨a, c, rfl⟩ := hv.slice
  obtain ⟨W0, hW0⟩ : ∃ W0, w.alloc (.cells #[S m, S p, .slice a fs.length c, S b] 50) = W0 := ⟨_, rfl⟩
  have hk0 : Kept (fun _ => True) w W0 := by rw [← hW0]; exact (Kept.refl _ w).alloc _
  have hbox : four w.heap.size m p (.slice a fs.length c) b W0 := by rw [← hW0]; exact heap_alloc_new w _
  obtain ⟨c0, c1, c2, c3⟩ := hbox.facts
  have hw : weightN fs ≤ 2147483647 := by unfold sizeN at hl; omega
  have WT := Lib.hid (fun n => weight_any fs (.slice a fs.length c) (W0.drewN n) (hv.kept (hk0.drewN n) fun _ _ _ => trivial) hw)
  obtain ⟨x, hx⟩ : ∃ x, weightN fs = x := ⟨_, rfl⟩
  unfold sizeN at hl ⊢
  rw [hx] at WT hl ⊢
  have z1 : (⟨m.toArray⟩ : ByteArray).size = m.length := size_mk m
  have z2 : (⟨p.toArray⟩ : ByteArray).size = p.length := size_mk p
  have z3 : (⟨b.toArray⟩ : ByteArray).size = b.length := size_mk b
  have s1 : m.length ≤ 2147483647 := by omega
  have s2 : p.length ≤ 2147483647 := by omega
  have s3 : b.length ≤ 2147483647 := by omega
  have s4 : x ≤ 2147483647 := by omega
  have g1 := Lib.hid (addZ_rng (n := (m.length : Int)) (m := (p.length : Int)) (by omega) (by omega))
  have g2 := Lib.hid (addZ_rng (n := (b.length : Int)) (m := 100) (by omega) (by omega))
  have g3 := Lib.hid (addZ_rng (n := (x : Int)) (m := addZ (b.length : Int) 100) (by omega) g2.out.1)
  have HZ : Hid (addZ (addZ (m.length : Int) (p.length : Int)) (addZ (x : Int) (addZ (b.length : Int) 100)) = ((m.length + p.length + (x + (b.length + 100)) : Nat) : Int)) := Lib.hid (by
    rw [addZ_of (n := (m.length : Int)) (by omega), addZ_of (n := (b.length : Int)) (by omega), addZ_of (n := (x : Int)) (by omega), addZ_of (by omega)]
    omega)
  have HK0 := Lib.hid hk0
  clear hl hx hbox hv hk0
  go_enter Tryz.func20, Tryz.ntmps20
  go_wp2
  go_quiet (first
    | (go_at_call 44; exact Calls.quiet_of (WT.out _))
    | (go_at_call 8; exact Calls.quiet_of_same (add_z _ _ _ (by first | omega | exact ⟨g1.out.1, by have := g1.out.2.1; omega⟩ | exact ⟨g2.out.1, by have := g2.out.2.1; omega⟩ | exact ⟨g3.out.1, by have := g3.out.2.1; omega⟩) (by first | omega | exact ⟨g2.out.1, by have := g2.out.2.1; omega⟩ | exact ⟨g3.out.1, by have := g3.out.2.1; omega⟩))))
  go_wp2
  rw [HZ.out]
  go_ret
  exact ⟨rfl, HK0.out.drewN _⟩
set_option maxHeartbeats 4000000 in
set_option maxRecDepth 100000 in
theorem ltold_any (st : Int) (b : List UInt8) (fs : List Fl) (v : Value) (w : World) (hv : RowF (fun _ => True) w v fs) (hl : toldNn fs b ≤ 2147483647) :
    Calls Tryz.prog 23 #[.agg #[.int .i64 st, v, S b]] w fun e w' => e = .returned (.int .i64 (toldNn fs b : Nat)) ∧ Kept (fun _ => True) w w' := by
  obtain ⟨a, c, rfl⟩ := hv.slice
  obtain ⟨W0, hW0⟩ : ∃ W0, w.alloc (.cells #[.int .i64 st, .slice a fs.length c, S b] 56) = W0 := ⟨_, rfl⟩
  have hk0 : Kept (fun _ => True) w W0 := by rw [← hW0]; exact (Kept.refl _ w).alloc _
  have hbox : three w.heap.size st (.slice a fs.length c) b W0 := by rw [← hW0]; exact heap_alloc_new w _
  obtain ⟨c0, c1, c2⟩ := hbox.facts
  have hw : weightN fs ≤ 2147483647 := by unfold toldNn at hl; omega
  have WT := Lib.hid (fun n => weight_any fs (.slice a fs.length c) (W0.drewN n) (hv.kept (hk0.drewN n) fun _ _ _ => trivial) hw)
  obtain ⟨x, hx⟩ : ∃ x, weightN fs = x := ⟨_, rfl⟩
  unfold toldNn at hl ⊢
  rw [hx] at WT hl ⊢
  have z3 : (⟨b.toArray⟩ : ByteArray).size = b.length := size_mk b
  have s3 : b.length ≤ 2147483647 := by omega
  have s4 : x ≤ 2147483647 := by omega
  have g2 := Lib.hid (addZ_rng (n := (b.length : Int)) (m := 100) (by omega) (by omega))
  have HZ : Hid (addZ (x : Int) (addZ (b.length : Int) 100) = ((x + (b.length + 100) : Nat) : Int)) := Lib.hid (by
    rw [addZ_of (n := (b.length : Int)) (by omega), addZ_of (by omega)]
    omega)
  have HK0 := Lib.hid hk0
  clear hl hx hbox hv hk0
  go_enter Tryz.func23, Tryz.ntmps23
  go_wp2
  go_quiet (first
    | (go_at_call 44; exact Calls.quiet_of (WT.out _))
    | (go_at_call 8; exact Calls.quiet_of_same (add_z _ _ _ (by omega) (by first | omega | exact ⟨g2.out.1, by have := g2.out.2.1; omega⟩))))
  go_wp2
  rw [HZ.out]
  go_ret
  exact ⟨rfl, HK0.out.drewN _⟩
end Go.Proofs.YtaomhkgdbobpkaaGreatDoor
