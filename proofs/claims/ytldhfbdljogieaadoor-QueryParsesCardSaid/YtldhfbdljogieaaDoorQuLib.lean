/- Walks of strings.Cut and strings.Split at a separator of one byte, for texts of whatever length (the guide's own contracts stop at 2^32). -/
import Derived.Test.YtldhfbdljogieaaDoorQuW6
import Derived.Test.YtldhfbdljogieaaDoorKit2
import Derived.Test.YtldhfbdljogieaaDoorQuPlain2
import Derived.BigQuiet
import Derived.Deep.QuietTactic
namespace Go.Proofs.YtldhfbdljogieaaDoor
open Go.RowKit
open Qu

/-- A text's bytes as a string value. -/
abbrev S (l : List UInt8) : Value := .string ⟨l.toArray⟩
theorem size_mk (l : List UInt8) : (⟨l.toArray⟩ : ByteArray).size = l.length := by simp [ByteArray.size]
theorem extract_take (l : List UInt8) (n : Nat) : (⟨l.toArray⟩ : ByteArray).extract 0 n = ⟨(l.take n).toArray⟩ := by
  apply ByteArray.ext
  apply Array.ext'
  rw [Lib.extract_data]
  simp
theorem extract_drop (l : List UInt8) (n m : Nat) (h : l.length ≤ m) : (⟨l.toArray⟩ : ByteArray).extract n m = ⟨(l.drop n).toArray⟩ := by
  apply ByteArray.ext
  apply Array.ext'
  rw [Lib.extract_data]
  exact List.take_of_length_le (by rw [List.length_drop]; show l.length - n ≤ m - n; omega)
theorem indexByte_mem (c : UInt8) : ∀ l : List UInt8, (Lib.indexByte l c = -1 ∧ c ∉ l) ∨ ∃ i : Nat, Lib.indexByte l c = i ∧ i < l.length ∧ l = l.take i ++ c :: l.drop (i + 1) ∧ c ∉ l.take i
  | [] => .inl ⟨rfl, by simp⟩
  | b :: l => by
    by_cases hb : b = c
    · subst hb
      exact .inr ⟨0, by simp [Lib.indexByte], by simp, by simp, by simp⟩
    · have hp : (b == c) = false := by simpa using hb
      rcases indexByte_mem c l with ⟨h1, h2⟩ | ⟨i, h1, h2, h3, h4⟩
      · left
        refine ⟨?_, by simp [Ne.symm hb, h2]⟩
        rw [Lib.indexByte, hp, h1]
        rfl
      · right
        refine ⟨i + 1, ?_, by simp; omega, ?_, by simp [Ne.symm hb, h4]⟩
        · rw [Lib.indexByte, hp, h1]
          have : ((i : Int) == -1) = false := by simp
          rw [this]
          simp
        · simp only [List.take_succ_cons, List.drop_succ_cons, List.cons_append]
          exact congrArg (b :: ·) h3

set_option maxHeartbeats 400000 in
theorem slCut_any (p : List UInt8) (hp : p.length ≤ 68719476736) (w : World) :
    Calls Tryd.prog 50 #[S p, .string ⟨#[61]⟩] w fun e w' => (∃ b, e = .returned (.tuple #[S (tw p), S (dw p), .bool b])) ∧ Below w.heap.size w w' := by
  have CI := Tryd.stringslite_Index_one ⟨p.toArray⟩ 61
  have hsz := size_mk p
  simp only at CI
  rcases indexByte_mem 61 p with ⟨h1, h2⟩ | ⟨i, h1, h2, h3, h4⟩
  · rw [h1] at CI
    obtain ⟨t1, t2⟩ := tw_none p h2
    rw [t1, t2]
    have HC := Lib.hid CI
    clear CI h1 h2 t1 t2
    go_enter Tryd.func50, Tryd.ntmps50
    go_wp2_with fail
    refine (HC.out _).mono ?_
    rintro e w' ⟨rfl, hw⟩
    rw [hw]
    go_wp2
    go_ret3
    exact ⟨⟨_, rfl⟩, Below.refl _ _⟩
  · rw [h1] at CI
    obtain ⟨t1, t2⟩ := tw_split (p.take i) (p.drop (i + 1)) h4
    rw [← h3] at t1 t2
    have e1 := extract_take p i
    have e2 := extract_drop p (i + 1) p.length (Nat.le_refl _)
    rw [← t1] at e1
    rw [← t2] at e2
    have HC := Lib.hid CI
    have E1 := Lib.hid e1
    have E2 := Lib.hid e2
    have hi0 : (0 : Int) ≤ (i : Int) := by omega
    have hi1 : (i : Int) ≤ (p.length : Int) := by omega
    have hi2 : (i : Int) + 1 ≤ (p.length : Int) := by omega
    have hi3 : (0 : Int) ≤ (i : Int) + 1 := by omega
    clear CI h1 h3 h4 t1 t2 e1 e2
    go_enter Tryd.func50, Tryd.ntmps50
    go_wp2_with fail
    refine (HC.out _).mono ?_
    rintro e w' ⟨rfl, hw⟩
    rw [hw]
    go_wp2
    go_quiet (fail)
    go_wp2
    go_ret3
    refine ⟨⟨true, ?_⟩, below_drewN (Below.refl _ _) _⟩
    show Ending.returned (.tuple #[.string ((⟨p.toArray⟩ : ByteArray).extract 0 i), .string ((⟨p.toArray⟩ : ByteArray).extract (i + 1) p.length), .bool true]) = _
    rw [E1.out, E2.out]

set_option maxHeartbeats 400000 in
theorem cut_any (p : List UInt8) (hp : p.length ≤ 68719476736) (w : World) :
    Calls Tryd.prog 41 #[S p, .string ⟨#[61]⟩] w fun e w' => (∃ b, e = .returned (.tuple #[S (tw p), S (dw p), .bool b])) ∧ Below w.heap.size w w' := by
  go_enter Tryd.func41, Tryd.ntmps41
  go_wp2_with fail
  refine (slCut_any p hp _).mono ?_
  rintro e w' ⟨⟨b, rfl⟩, hb⟩
  go_wp2
  go_ret3
  exact ⟨⟨b, rfl⟩, hb⟩

theorem infoStr : (Tryd.prog.info? 9).map (fun i => (i.zero, i.size, i.bytes)) = some (some (S []), 1, 16) := by kernel_rfl
theorem pieces_count (l : List UInt8) : (pieces l).length = l.count 38 + 1 := by
  induction l with
  | nil => rfl
  | cons c r ih =>
    have hne := pieces_ne r
    unfold pieces
    by_cases h : c = 38
    · subst h
      simp [ih]
    · rw [if_neg h, List.count_cons_of_ne (by simpa using h)]
      match hp : pieces r, hne with
      | p :: q, _ =>
        rw [hp] at ih
        simpa using ih

theorem frozen_row {w : World} {g : Nat} {cs : Array Value} {t : TypeId} (h : w.heap[g]? = some (.cells cs t (0, 0))) (o : Nat) : w.frozen? ⟨g, o, none⟩ = false := by simp [World.frozen?, h]
/-- What Split hands back: a slice over a block of its own whose cells are the pieces. -/
def Pieced (l : List UInt8) (W : World) (e : Ending) (w' : World) : Prop :=
  e = .returned (.slice (some ⟨W.heap.size, 0, none⟩) (pieces l).length (pieces l).length) ∧ Below W.heap.size W w' ∧ W.heap.size + 1 ≤ w'.heap.size ∧ ∀ (j : Nat) p, (pieces l)[j]? = some p → w'.cell? ⟨W.heap.size, j, none⟩ = some (S p)

set_option maxHeartbeats 4000000 in
set_option maxRecDepth 100000 in
theorem genSplit_any (l : List UInt8) (hl : l.length ≤ 68719476736) (w : World) :
    Calls Tryd.prog 40 #[S l, .string ⟨#[38]⟩, .int .i64 0, .int .i64 (-1)] w (Pieced l w) := by
  have CC := Tryd.strings_Count_one ⟨l.toArray⟩ 38
  have hcb : Lib.countByte l 38 = l.count 38 := rfl
  have hcl : l.count 38 ≤ l.length := List.count_le_length
  have hpc := pieces_count l
  simp only [hcb] at CC
  obtain ⟨ps, hps⟩ : ∃ ps, pieces l = ps := ⟨_, rfl⟩
  obtain ⟨c, hc⟩ : ∃ c, l.count 38 = c := ⟨_, rfl⟩
  rw [hc] at CC hcl hpc
  rw [hps] at hpc
  have HPs := Lib.hid hps
  have HC := Lib.hid CC
  have HP := Lib.hid hpc
  have hsz := size_mk l
  obtain ⟨i0, hi0, hz0, hz1, hz2⟩ := info_parts infoStr
  have hmk : ∀ w : World, (Instr.makeSlice 29 (.int .i64 ((c : Int) + 1)) (.int .i64 ((c : Int) + 1))).run Tryd.prog w = .ok (.slice (some ⟨w.heap.size, 0, none⟩) (c + 1) (c + 1)) (w.alloc (.cells (madeCells (S []).cells (c + 1)) 9)) := by
    intro w
    have hr := run_make (P := Tryd.prog) w 29 9 i0 (S []) Tryd.underlying29 hi0 hz0 .i64 .i64 ((c : Int) + 1) ((c : Int) + 1) (by omega) (Int.le_refl _) (by rw [hz2]; omega) (by omega)
    rw [hr, hz1, show ((c : Int) + 1).toNat = c + 1 from by omega, Nat.mul_one]
  have hmin : min (c : Int) (l.length : Int) = c := by omega
  have CI := fun s : List UInt8 => Tryd.strings_Index_one ⟨s.toArray⟩ 38
  have HI := Lib.hid CI
  clear CC hcb hps hc hpc CI
  go_enter Tryd.func40, Tryd.ntmps40
  go_wp2_with fail
  refine (HC.out _).mono ?_
  rintro e w' ⟨rfl, hw⟩
  rw [hw]
  clear hw
  go_wp2
  have hpn : ps.length = c + 1 := HP.out
  have HPn := Lib.hid hpn
  clear hmk hmin hpn
  go_loopw [0, 10] (fun x i wr => ∃ (k : Nat) (s : List UInt8), x = S s ∧ i = .int .i64 k ∧ k ≤ c ∧ s.length ≤ l.length ∧ Hid (ps.take k ++ pieces s = ps) ∧ Below w.heap.size w wr ∧ w.heap.size + 1 ≤ wr.heap.size ∧
      Hid (∀ (j : Nat) p, j < k → ps[j]? = some p → wr.cell? ⟨w.heap.size, j, none⟩ = some (S p)) ∧ Hid (∀ j : Nat, k ≤ j → j < c + 1 → ∃ y, wr.cell? ⟨w.heap.size, j, none⟩ = some y) ∧ Hid (∀ j : Nat, wr.frozen? ⟨w.heap.size, j, none⟩ = false)) (fun _ i _ => c - (intOf i).toNat)
  case atStart =>
    refine ⟨0, l, rfl, rfl, Nat.zero_le _, Nat.le_refl _, Lib.hid (by rw [HPs.out]; rfl), (Below.refl _ _).alloc (Nat.le_refl _) _, by simp, Lib.hid (fun j p h => by omega), Lib.hid (fun j h1 h2 => ?_), Lib.hid (fun j => ?_)⟩
    · rw [cell_of_row _ w.heap.size j _ _ (0, 0) (heap_alloc_new w _)]
      exact ⟨_, Array.getElem?_eq_getElem (by rw [size_madeCells]; exact h2)⟩
    · exact frozen_row (heap_alloc_new w (.cells (madeCells (S []).cells (c + 1)) 9)) j
  case round =>
    obtain ⟨k, s, rfl, rfl, hk, hsl, HS, hbw, hz, HD, HU, HF⟩ := hrel
    have hss := size_mk s
    obtain ⟨y, hy⟩ := HU.out k (Nat.le_refl _) (by omega)
    have hfz := HF.out k
    have hlen : k + (pieces s).length = c + 1 := by
      have := congrArg List.length HS.out
      rw [List.length_append, List.length_take, HPn.out] at this
      omega
    by_cases hlt : k < c
    · rcases indexByte_mem 38 s with ⟨_, h2⟩ | ⟨m, h1, h2, h3, h4⟩
      · have h5 := pieces_none s h2
        rw [h5] at hlen
        simp only [List.length_cons, List.length_nil] at hlen
        omega
      · have CS := HI.out s
        simp only [h1] at CS
        have hps := pieces_split (s.take m) (s.drop (m + 1)) h4
        rw [← h3] at hps
        have hget : ps[k]? = some (s.take m) := by
          rw [← HS.out, hps, List.getElem?_append_right (by rw [List.length_take]; omega), List.length_take, HPn.out, show k - min k (c + 1) = 0 from by omega]
          rfl
        have HN : Hid (ps.take (k + 1) ++ pieces (s.drop (m + 1)) = ps) := Lib.hid (by
          have h6 := HS.out
          rw [hps] at h6
          rw [List.take_add_one, hget]
          simpa using h6)
        have hdl : (s.drop (m + 1)).length ≤ l.length := by rw [List.length_drop]; omega
        have E1 := Lib.hid (extract_take s m)
        have E2 := Lib.hid (extract_drop s (m + 1) s.length (Nat.le_refl _))
        have HG := Lib.hid hget
        have HCS := Lib.hid CS
        have hm0 : (0 : Int) ≤ (m : Int) := by omega
        have hm1 : (m : Int) ≤ (s.length : Int) := by omega
        have hm2 : (m : Int) + 1 ≤ (s.length : Int) := by omega
        have hm3 : (0 : Int) ≤ (m : Int) + 1 := by omega
        have hk1 : (k : Int) < (c : Int) + 1 := by omega
        clear h1 h3 h4 CS hps hget hlen
        go_wp2_with fail
        refine (HCS.out _).mono ?_
        rintro e w' ⟨rfl, hw⟩
        rw [hw]
        clear hw
        go_wp2
        go_roundw
        case rel =>
          refine ⟨k + 1, s.drop (m + 1), ?_, by go_num, by omega, hdl, HN, hbw.setCell (Nat.le_refl _) _, by simpa using hz, Lib.hid (fun j p hj hp => ?_), Lib.hid (fun j h1 h2 => ?_), Lib.hid (fun j => ?_)⟩
          · rw [E2.out]
          · rw [E1.out]
            by_cases hjk : j = k
            · subst hjk
              rw [World.cell?_setCell_same _ _ _ hy]
              rw [HG.out] at hp
              rw [Option.some.inj hp]
            · rw [World.cell?_setCell_other _ _ _ _ (by intro e1; have e2 := congrArg Addr.off e1; simp only at e2; omega)]
              exact HD.out j p (by omega) hp
          · obtain ⟨z, hz2⟩ := HU.out j (by omega) h2
            rw [World.cell?_setCell_other _ _ _ _ (by intro e1; have e2 := congrArg Addr.off e1; simp only at e2; omega)]
            exact ⟨z, hz2⟩
          · rw [World.frozen?_setCell]
            exact HF.out j
        case measure => simp [intOf]; omega
    · have hkc : k = c := by omega
      have hone : pieces s = [s] := by
        have hc := pieces_count s
        exact pieces_none s (List.count_eq_zero.1 (by omega))
      have hget : ps[k]? = some s := by
        rw [← HS.out, hone, List.getElem?_append_right (by rw [List.length_take]; omega), List.length_take, HPn.out, show k - min k (c + 1) = 0 from by omega]
        rfl
      have HG := Lib.hid hget
      have HKC := Lib.hid hkc
      have hk1 : (k : Int) < (c : Int) + 1 := by omega
      have hk2 : (k : Int) + 1 ≤ (c : Int) + 1 := by omega
      clear hget hone hlen hkc
      go_wp2
      go_ret
      refine ⟨?_, hbw.setCell (Nat.le_refl _) _, by simpa using hz, fun j p hp => ?_⟩
      · show Ending.returned (.slice (some ⟨w.heap.size, 0, none⟩) (k + 1) (c + 1)) = _
        rw [HPs.out, HPn.out, HKC.out]
      · rw [HPs.out] at hp
        by_cases hjk : j = k
        · subst hjk
          rw [World.cell?_setCell_same _ _ _ hy]
          rw [HG.out] at hp
          rw [Option.some.inj hp]
        · rw [World.cell?_setCell_other _ _ _ _ (by intro e1; have e2 := congrArg Addr.off e1; simp only at e2; omega)]
          have := (List.getElem?_eq_some_iff.1 hp).1
          have h1 := HPn.out
          have h2 := HKC.out
          exact HD.out j p (by omega) hp

set_option maxHeartbeats 400000 in
theorem split_any (l : List UInt8) (hl : l.length ≤ 68719476736) (w : World) :
    Calls Tryd.prog 31 #[S l, .string ⟨#[38]⟩] w (Pieced l w) := by
  go_enter Tryd.func31, Tryd.ntmps31
  go_wp2_with fail
  refine (genSplit_any l hl _).mono ?_
  rintro e w' ⟨rfl, hb⟩
  have HB := Lib.hid hb
  clear hb
  go_wp2
  go_ret
  exact ⟨rfl, HB.out⟩
end Go.Proofs.YtldhfbdljogieaaDoor
