/- Walks of the law's own weighs, and of the law QueryBack (layer 3). -/
import Derived.Test.YtldhfbdljogieaaDoorQuS
import Derived.Test.YtldhfbdljogieaaDoorQuPlain3
namespace Go.Proofs.YtldhfbdljogieaaDoor
open Go.RowKit Qu

theorem addsUp_q (n m : Int) (w : World) (hn : 0 ≤ n) (hm : 0 ≤ m) :
    Calls Tryd.prog 8 #[.int .i64 n, .int .i64 m] w fun e w' => e = .returned (.int .i64 (addI n m)) ∧ w' = w :=
  (addsUp_any n m w hn hm).mono fun _ _ ⟨h1, h2⟩ => ⟨h1, h2.symm⟩
theorem addI_rng (n m : Int) (hn : 0 ≤ n) (hm : 0 ≤ m) : 0 ≤ addI n m ∧ addI n m ≤ 4294967294 ∧ (addI n m ≤ 2147483647 → n ≤ 2147483647 ∧ m ≤ 2147483647 ∧ addI n m = n + m) := by
  unfold addI
  split <;> omega
/-- What weighs answers. -/
def Weighs (l : List Fld) (W : World) (e : Ending) (w' : World) : Prop := ∃ n : Int, e = .returned (.int .i64 n) ∧ 0 ≤ n ∧ n ≤ 4294967294 ∧ (n ≤ 2147483647 → n = wt l) ∧ Below W.heap.size W w'
def wsum (l : List Fld) : Nat := (l.map fun f => f.1.length + f.2.length).sum
theorem wsum_snoc (l : List Fld) (f : Fld) : wsum (l ++ [f]) = wsum l + f.1.length + f.2.length := by simp [wsum]; omega

set_option maxHeartbeats 4000000 in
set_option maxRecDepth 100000 in
theorem weighs_any (v : Value) (l : List Fld) (w : World) (hv : FldIn w v l) (hm : l.length ≤ 9223372036854775807) (hlen : ∀ f ∈ l, f.1.length ≤ 9223372036854775807 ∧ f.2.length ≤ 9223372036854775807) :
    Calls Tryd.prog 18 #[v] w (Weighs l w) := by
  rcases hv with ⟨a, rfl, rfl⟩ | ⟨b, o, cap, rfl, h1, h2, h3⟩
  · go_enter Tryd.func18, Tryd.ntmps18
    go_wp2_with fail
    refine (addsUp_any _ _ _ (by omega) (by omega)).mono ?_
    rintro e w' ⟨rfl, rfl⟩
    go_wp2
    go_loopw [3, 4] (fun n i wr => n = .int .i64 (addI 0 0) ∧ i = .int .i64 0 ∧ Below w.heap.size w wr) (fun _ _ _ => 0)
    case atStart => exact ⟨rfl, rfl, Below.refl _ _⟩
    case round =>
      obtain ⟨rfl, rfl, hbw⟩ := hrel
      go_wp2
      go_ret
      exact ⟨addI 0 0, rfl, by decide, by decide, fun _ => rfl, hbw⟩
  · have H3 := Lib.hid h3
    have HL := Lib.hid hlen
    clear h3 hlen
    have ha := addI_rng 0 l.length (by omega) (by omega)
    go_enter Tryd.func18, Tryd.ntmps18
    go_wp2_with fail
    refine (addsUp_any _ _ _ (by omega) (by omega)).mono ?_
    rintro e w' ⟨rfl, rfl⟩
    go_wp2
    go_loopw [3, 4] (fun n i wr => ∃ (k : Nat) (m : Int), k ≤ l.length ∧ i = .int .i64 k ∧ n = .int .i64 m ∧ 0 ≤ m ∧ m ≤ 4294967294 ∧ Hid (m ≤ 2147483647 → m = l.length + wsum (l.take k)) ∧ Below w.heap.size w wr) (fun _ i _ => l.length - (intOf i).toNat)
    case atStart =>
      refine ⟨0, _, Nat.zero_le _, rfl, rfl, ha.1, ha.2.1, Lib.hid fun h => ?_, Below.refl _ _⟩
      rw [(ha.2.2 h).2.2]
      simp [wsum]
    case round =>
      obtain ⟨k, m, hk, rfl, rfl, hm0, hm1, HM, hbw⟩ := hrel
      by_cases hlt : k < l.length
      · by_cases hmb : m ≤ 2147483647
        · obtain ⟨f, hf⟩ : ∃ f, l[k]? = some f := ⟨l[k]'hlt, List.getElem?_eq_getElem hlt⟩
          obtain ⟨c0, c1⟩ := H3.out k f hf
          obtain ⟨f1, f2⟩ := HL.out f (List.mem_of_getElem? hf)
          have d0 : wr.cell? ⟨b, o + k * 2, none⟩ = some (S f.1) := ((bcell hbw).1 _ _ h2).trans c0
          have d1 : wr.cell? ⟨b, o + k * 2 + 1, none⟩ = some (S f.2) := ((bcell hbw).1 _ _ h2).trans c1
          have hk0 : (0 : Int) ≤ (k : Int) := Int.natCast_nonneg _
          have hk1 : (k : Int) < (l.length : Int) := by omega
          have r1 := addI_rng m f.1.length hm0 (by omega)
          have r2 := addI_rng (addI m f.1.length) f.2.length r1.1 (by omega)
          have HS : Hid (wsum (l.take (k + 1)) = wsum (l.take k) + f.1.length + f.2.length) := Lib.hid (by
            rw [List.take_succ_eq_append_getElem hlt, wsum_snoc]
            rw [List.getElem?_eq_getElem hlt] at hf
            rw [Option.some.inj hf])
          have R1 := Lib.hid r1
          have R2 := Lib.hid r2
          clear c0 c1 hf r1 r2
          go_wp2
          go_quiet ((go_at_call 8; exact Calls.quiet_of_same (addsUp_q _ _ _ (by first | omega | exact R1.out.1) (by omega))))
          go_wp2
          go_roundw
          case rel =>
            refine ⟨k + 1, _, by omega, by go_num, rfl, R2.out.1, R2.out.2.1, Lib.hid fun h => ?_, below_drewN hbw _⟩
            have h1 := R2.out.2.2 h
            have h2 := R1.out.2.2 h1.1
            have h3 := HM.out h2.1
            rw [h1.2.2, h2.2.2, HS.out, h3]
            omega
          case measure => simp [intOf]; omega
        · go_wp2
          go_ret
          exact ⟨m, rfl, hm0, hm1, fun h => by omega, hbw⟩
      · have hmw : m ≤ 2147483647 → m = wt l := fun h => by
          have := HM.out h
          rw [List.take_of_length_le (by omega)] at this
          unfold wt wsum at *
          omega
        have HW := Lib.hid hmw
        clear hmw
        by_cases hmb : m ≤ 2147483647
        · go_wp2
          go_ret
          exact ⟨m, rfl, hm0, hm1, HW.out, hbw⟩
        · go_wp2
          go_ret
          exact ⟨m, rfl, hm0, hm1, HW.out, hbw⟩
end Go.Proofs.YtldhfbdljogieaaDoor
