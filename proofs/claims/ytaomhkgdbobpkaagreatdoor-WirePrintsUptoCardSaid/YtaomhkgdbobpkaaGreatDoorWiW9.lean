/- Walks of wire (layer 5), ninth part: how long a body is, as a header says it. -/
import Derived.Test.YtaomhkgdbobpkaaGreatDoorWiW8
import Derived.Lib.ConvBytes
namespace Go.Proofs.YtaomhkgdbobpkaaGreatDoor
open Go.RowKit Wi

theorem Kept.bytesW {ok : Nat → Prop} (w : World) (e : TypeId) (s : ByteArray) : Kept ok w (Lib.bytesWorld w e s) :=
  ⟨rfl, rfl, rfl, by rw [Lib.bytesWorld_size]; omega, fun k hk _ => Lib.bytesWorld_at_old w e s k hk⟩
theorem dig_val {b : UInt8} (h : digitP b = true) : Lib.digitVal b = some (b.toNat - 48) := by
  unfold digitP at h
  simp only [Bool.and_eq_true, decide_eq_true_eq] at h
  have h1 := UInt8.le_iff_toNat_le.1 h.1
  have h2 := UInt8.le_iff_toNat_le.1 h.2
  unfold Lib.digitVal
  rw [if_pos ⟨h1, h2⟩]
theorem dec_digits : ∀ (l : List UInt8) (acc : Nat), l.all digitP = true → ∃ n, Lib.decFrom acc l = some n ∧ n < (acc + 1) * 10 ^ l.length
  | [], acc, _ => ⟨acc, rfl, by simp⟩
  | b :: r, acc, h => by
    simp only [List.all_cons, Bool.and_eq_true] at h
    obtain ⟨n, h1, h2⟩ := dec_digits r (acc * 10 + (b.toNat - 48)) h.2
    refine ⟨n, ?_, ?_⟩
    · unfold Lib.decFrom; rw [dig_val h.1]; exact h1
    · have hb : b.toNat - 48 ≤ 9 := by
        have := h.1
        unfold digitP at this
        simp only [Bool.and_eq_true, decide_eq_true_eq] at this
        have h3 := UInt8.le_iff_toNat_le.1 this.2
        have e : (57 : UInt8).toNat = 57 := rfl
        omega
      rw [List.length_cons, Nat.pow_succ]
      have h3 : (acc * 10 + (b.toNat - 48) + 1) * 10 ^ r.length ≤ ((acc + 1) * 10) * 10 ^ r.length := Nat.mul_le_mul_right _ (by omega)
      rw [Nat.mul_assoc] at h3
      rw [Nat.mul_comm (10 ^ r.length) 10]
      omega
theorem atoi_digits {v : List UInt8} (h : v.all digitP = true) (hn : v ≠ []) : Lib.atoi v = some (decP v : Int) ∧ decP v < 10 ^ v.length := by
  obtain ⟨n, h1, h2⟩ := dec_digits v 0 h
  have hd : decP v = n := by unfold decP; rw [h1]; rfl
  refine ⟨?_, by rw [hd]; omega⟩
  cases v with
  | nil => exact absurd rfl hn
  | cons b r =>
    simp only [List.all_cons, Bool.and_eq_true] at h
    have hb := h.1
    unfold digitP at hb
    simp only [Bool.and_eq_true, decide_eq_true_eq] at hb
    have h3 := UInt8.le_iff_toNat_le.1 hb.1
    have e : (48 : UInt8).toNat = 48 := rfl
    have n1 : ¬ (b == 45) = true := fun k => by rw [beq_iff_eq.1 k] at h3; exact absurd h3 (by decide)
    have n2 : ¬ (b == 43) = true := fun k => by rw [beq_iff_eq.1 k] at h3; exact absurd h3 (by decide)
    show (if (b == 45) = true then (Lib.decNat r).map (fun (m : Nat) => -(m : Int)) else if (b == 43) = true then (Lib.decNat r).map (fun (m : Nat) => (m : Int)) else (Lib.decNat (b :: r)).map (fun (m : Nat) => (m : Int))) = _
    rw [if_neg n1, if_neg n2]
    unfold Lib.decNat
    rw [if_neg (by simp), h1, hd]
    rfl
/-- What a method of a reading leaves. -/
def ReadQ (g bx : Nat) (lv fv hv bv : Value) (x : R × Int) (w : World) (e : Ending) (w' : World) : Prop := e = .returned (.int .i64 x.2) ∧ RdC g bx lv fv hv bv x.1 w' ∧ Kept (· ≠ g) w w'
set_option maxHeartbeats 4000000 in
set_option maxRecDepth 100000 in
theorem told_any (g bx : Nat) (lv fv hv bv : Value) (r : R) (v : List UInt8) (w : World) (h : RdC g bx lv fv hv bv r w) (hl : Sml v) :
    Calls Tryz.prog 120 #[.pointer (some ⟨g, 0, none⟩), S v] w (ReadQ g bx lv fv hv bv (toldP r v) w) := by
  unfold Sml at hl
  have OV := Lib.hid (fun W => only_any v 1 1000 _ digitP W digit_may (by omega) (by omega) (by omega))
  have HC := Lib.hid h
  have hvz : (⟨v.toArray⟩ : ByteArray).size = v.length := size_mk v
  obtain ⟨c0, c1, c2, c3, c4, c5, c6, c7, c8, c9, c10⟩ := h.facts
  clear h c0 c1 c2 c3 c4 c5 c6 c8 c9 c10
  have hq0 := @Kept.refl (· ≠ g) w
  by_cases hn : 0 ≤ r.len
  · have HR : Hid (toldP r v = (r, 52)) := Lib.hid (by unfold toldP; rw [if_pos (.inl hn)])
    go_enter Tryz.func120, Tryz.ntmps120
    go_wp2
    go_ret
    unfold ReadQ
    rw [HR.out]
    exact ⟨rfl, HC.out, Kept.refl _ _⟩
  obtain ⟨q, hq⟩ : ∃ q, onlyP v 1 1000 digitP = q := ⟨_, rfl⟩
  rw [hq] at OV
  cases q with
  | false =>
    have HR : Hid (toldP r v = (r, 52)) := Lib.hid (by unfold toldP; rw [if_pos (.inr (.inl hq))])
    clear hq
    go_enter Tryz.func120, Tryz.ntmps120
    go_wp2_with (refine (OV.out _).mono ?_; rintro e w1 ⟨rfl, hk1⟩)
    go_ret
    unfold ReadQ
    rw [HR.out]
    exact ⟨rfl, HC.out.kept hk1 fun _ _ => trivial, hk1.mono fun _ _ _ => trivial⟩
  | true =>
    have hq2 := hq
    unfold onlyP at hq2
    simp only [Bool.and_eq_true, decide_eq_true_eq] at hq2
    obtain ⟨⟨hall, h1⟩, h1000⟩ := hq2
    have hne : v ≠ [] := fun e => by rw [e] at h1; simp at h1
    obtain ⟨hat, hlt⟩ := atoi_digits hall hne
    cases v with
    | nil => exact absurd rfl hne
    | cons x s =>
      have hx2 := run_at (x :: s) 0 x rfl
      have h0s : 0 < (⟨(x :: s).toArray⟩ : ByteArray).size := by rw [hvz]; simp
      have e1 := byte_is x 48 48 rfl
      simp only [List.length_cons] at hvz h1000 hlt hl
      by_cases hz : x = 48 ∧ x :: s ≠ [48]
      · have HR : Hid (toldP r (x :: s) = (r, 52)) := Lib.hid (by unfold toldP; rw [if_pos (.inr (.inr ⟨by rw [hz.1]; rfl, hz.2⟩))])
        obtain ⟨rfl, hz2⟩ := hz
        have q1 : ((48 : UInt8) :: s == [48]) = false := beq_eq_false_iff_ne.2 hz2
        have e3 : ((((⟨(48 :: s).toArray⟩ : ByteArray)[0]'h0s).toNat : Int) == 48) = true := e1
        clear hz2 hq hall hat hlt hne h1
        go_enter Tryz.func120, Tryz.ntmps120
        go_wp2_with (refine (OV.out _).mono ?_; rintro e w1 ⟨rfl, hk1⟩)
        all_goals
          first
            | (exfalso; simp_all; done)
            | (go_ret
               unfold ReadQ
               rw [HR.out]
               exact ⟨rfl, HC.out.kept hk1 fun _ _ => trivial, hk1.mono fun _ _ _ => trivial⟩)
      · have hcs : x ≠ 48 ∨ (x = 48 ∧ s = []) := by
          by_cases hx : x = 48
          · refine .inr ⟨hx, ?_⟩
            by_cases hs : s = []
            · exact hs
            · exact absurd ⟨hx, fun e => hs (by injection e)⟩ hz
          · exact .inl hx
        have HN : Hid (¬ (0 ≤ r.len ∨ onlyP (x :: s) 1 1000 digitP = false ∨ ((x :: s).head? = some 48 ∧ x :: s ≠ [48]))) := Lib.hid (by
          rintro (h | h | h)
          · exact hn h
          · rw [hq] at h; cases h
          · exact hz ⟨by simpa using h.1, h.2⟩)
        have HR : Hid (toldP r (x :: s) = if 4 < s.length + 1 ∨ 4000 < decP (x :: s) then (r, 53) else ({ r with len := (decP (x :: s) : Nat) }, 0)) := Lib.hid (by unfold toldP; rw [if_neg HN.out]; rfl)
        rcases hcs with hx | ⟨rfl, rfl⟩
        · have e3 : ((((⟨(x :: s).toArray⟩ : ByteArray)[0]'h0s).toNat : Int) == 48) = false := by rw [show ((((⟨(x :: s).toArray⟩ : ByteArray)[0]'h0s).toNat : Int) == 48) = decide (x = 48) from e1]; exact decide_eq_false hx
          obtain ⟨d, hd⟩ : ∃ d, decP (x :: s) = d := ⟨_, rfl⟩
          rw [hd] at HR hat hlt
          by_cases h4 : s.length + 1 ≤ 4
          · have hd4 : d < 10000 := Nat.lt_of_lt_of_le hlt (Nat.pow_le_pow_right (by omega) h4)
            have h4' : ((s.length + 1 : Nat) : Int) ≤ 4 := by omega
            have AT := Lib.hid (fun W => Tryz.strconv_Atoi ⟨(x :: s).toArray⟩ d (by rw [hvz]; omega) hat W)
            clear HN hd hq hall hne h1 hz hlt hat hx
            by_cases h5 : 4000 < d
            · have HRR : Hid (toldP r (x :: s) = (r, 53)) := Lib.hid (by rw [HR.out, if_pos (.inr h5)])
              have h5' : (4000 : Int) < (d : Int) := by omega
              clear HR
              go_enter Tryz.func120, Tryz.ntmps120
              go_wp2_with (first
                | (go_at_call 78; refine (OV.out _).mono ?_; rintro e w1 ⟨rfl, hk1⟩)
                | (go_at_call 64; refine (AT.out _).mono ?_; rintro e w2 ⟨rfl, t, hw2⟩; have hk2 : Kept (fun _ => True) w1 w2 := (by rw [hw2]; exact Kept.bytesW _ _ _); have hf := (HC.out.kept (hk1.tr hk2) fun _ _ => trivial).facts; obtain ⟨-, -, -, -, -, -, -, f7, -, f9, -⟩ := hf; have f9 := f9 7; clear hw2))
              go_ret
              unfold ReadQ
              rw [HRR.out]
              exact ⟨rfl, HC.out.kept (hk1.tr hk2) fun _ _ => trivial, (hk1.tr hk2).mono fun _ _ _ => trivial⟩
            · have HRR : Hid (toldP r (x :: s) = ({ r with len := (d : Nat) }, 0)) := Lib.hid (by rw [HR.out, if_neg (by omega)])
              have h5' : ¬ (4000 : Int) < (d : Int) := by omega
              clear HR
              go_enter Tryz.func120, Tryz.ntmps120
              go_wp2_with (first
                | (go_at_call 78; refine (OV.out _).mono ?_; rintro e w1 ⟨rfl, hk1⟩)
                | (go_at_call 64; refine (AT.out _).mono ?_; rintro e w2 ⟨rfl, t, hw2⟩; have hk2 : Kept (fun _ => True) w1 w2 := (by rw [hw2]; exact Kept.bytesW _ _ _); have hf := (HC.out.kept (hk1.tr hk2) fun _ _ => trivial).facts; obtain ⟨-, -, -, -, -, -, -, f7, -, f9, -⟩ := hf; have f9 := f9 7; clear hw2))
              go_ret
              unfold ReadQ
              rw [HRR.out]
              exact ⟨rfl, RdC.setLen (HC.out.kept (hk1.tr hk2) fun _ _ => trivial) (d : Nat), ((hk1.tr hk2).mono fun _ _ _ => trivial).setCell (.inr (by simp)) _⟩
          · have HRR : Hid (toldP r (x :: s) = (r, 53)) := Lib.hid (by rw [HR.out, if_pos (.inl (by omega))])
            have h4' : ¬ ((s.length + 1 : Nat) : Int) ≤ 4 := by omega
            clear HR HN hd hq hall hne h1 hz hlt hat hx
            go_enter Tryz.func120, Tryz.ntmps120
            go_wp2_with (refine (OV.out _).mono ?_; rintro e w1 ⟨rfl, hk1⟩)
            go_ret
            unfold ReadQ
            rw [HRR.out]
            exact ⟨rfl, HC.out.kept hk1 fun _ _ => trivial, hk1.mono fun _ _ _ => trivial⟩
        · have HRR : Hid (toldP r [48] = ({ r with len := (0 : Nat) }, 0)) := Lib.hid (by rw [HR.out]; rfl)
          have AT := Lib.hid (fun W => Tryz.strconv_Atoi ⟨#[48]⟩ 0 (by decide) rfl W)
          clear HR HN hq hall hne h1 hz hlt hat
          go_enter Tryz.func120, Tryz.ntmps120
          go_wp2_with (first
            | (go_at_call 78; refine (OV.out _).mono ?_; rintro e w1 ⟨rfl, hk1⟩)
            | (go_at_call 64; refine (AT.out _).mono ?_; rintro e w2 ⟨rfl, t, hw2⟩; have hk2 : Kept (fun _ => True) w1 w2 := (by rw [hw2]; exact Kept.bytesW _ _ _); have hf := (HC.out.kept (hk1.tr hk2) fun _ _ => trivial).facts; obtain ⟨-, -, -, -, -, -, -, f7, -, f9, -⟩ := hf; have f9 := f9 7; clear hw2))
          go_ret
          unfold ReadQ
          rw [HRR.out]
          exact ⟨rfl, RdC.setLen (HC.out.kept (hk1.tr hk2) fun _ _ => trivial) (0 : Nat), ((hk1.tr hk2).mono fun _ _ _ => trivial).setCell (.inr (by simp)) _⟩
end Go.Proofs.YtaomhkgdbobpkaaGreatDoor
