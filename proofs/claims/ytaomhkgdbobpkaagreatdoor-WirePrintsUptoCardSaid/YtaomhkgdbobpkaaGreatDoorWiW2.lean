/- Walks of wire (layer 5), second part: texts of some bytes, small letters. -/
import Derived.Test.YtaomhkgdbobpkaaGreatDoorWiW1
namespace Go.Proofs.YtaomhkgdbobpkaaGreatDoor
open Go.RowKit Wi

/-- A byte of a text. -/
theorem run_at (s : List UInt8) (i : Nat) (c : UInt8) (hc : s[i]? = some c) (w : World) : (Instr.index 9 (S s) (.int .i64 (i : Int))).run Tryz.prog w = .ok (.int .u8 c.toNat) w := by
  obtain ⟨h, he⟩ := List.getElem?_eq_some_iff.1 hc
  exact run_index_str (P := Tryz.prog) Tryz.underlying9 ⟨s.toArray⟩ i i rfl (by rw [size_mk]; exact h) c he w
theorem all_take (p : UInt8 → Bool) {s : List UInt8} {i : Nat} {c : UInt8} (hc : s[i]? = some c) (h : (s.take i).all p = true) : (s.take (i + 1)).all p = p c := by
  rw [List.take_add_one, hc, List.all_append, h]
  simp
set_option maxHeartbeats 2000000 in
set_option maxRecDepth 100000 in
theorem only_any (s : List UInt8) (least most : Nat) (k : FuncId) (p : UInt8 → Bool) (w : World) (hm : MayC k p) (hs : s.length ≤ 4611686018427387904) (_hl : least ≤ 1000000) (_hb : most ≤ 1000000) :
    Calls Tryz.prog 78 #[S s, .int .i64 least, .int .i64 most, .func (.func k) #[] #[]] w fun e w' => e = .returned (.bool (onlyP s least most p)) ∧ Kept (fun _ => True) w w' := by
  have hsz : (⟨s.toArray⟩ : ByteArray).size = s.length := size_mk s
  have HM := Lib.hid hm.is
  have eg := hm.enters
  clear hm
  go_enter Tryz.func78, Tryz.ntmps78
  go_wp2_with fail
  go_loopg [9, 12] s.length (fun q _ n wr => ∃ i : Nat, n = .int .i64 i ∧ q = s.length - i ∧ i ≤ s.length ∧ Hid ((s.take i).all p = true) ∧ Hid (Kept (fun _ => True) w wr))
  case atStart => exact ⟨0, rfl, rfl, Nat.zero_le _, Lib.hid (by simp), Lib.hid (Kept.refl _ _)⟩
  case round =>
    obtain ⟨i, rfl, rfl, hi, HA, HK⟩ := hrel
    by_cases hlt : i < s.length
    · obtain ⟨c, hc⟩ : ∃ c, s[i]? = some c := ⟨s[i], List.getElem?_eq_getElem hlt⟩
      have hi0 : (0 : Int) ≤ (i : Int) := by omega
      have hI := run_at s i c hc
      have HC := Lib.hid (HM.out c wr)
      have HT := Lib.hid (all_take p hc HA.out)
      have HO : Hid (p c = false → onlyP s least most p = false) := Lib.hid (fun h => by
        have : s.all p = false := by
          rw [List.all_eq_false]
          exact ⟨c, List.mem_of_getElem? hc, by rw [h]; simp⟩
        unfold onlyP
        rw [this]
        simp)
      obtain ⟨b, hb⟩ : ∃ b, p c = b := ⟨_, rfl⟩
      rw [hb] at HC HT HO
      clear hc hb
      cases b
      · go_wp2_with (refine HC.out.mono ?_; rintro e w1 ⟨rfl, hk1⟩)
        go_ret
        exact ⟨ret_bool (HO.out trivial).symm, HK.out.tr hk1⟩
      · go_wp2_with (refine HC.out.mono ?_; rintro e w1 ⟨rfl, hk1⟩)
        go_roundg (s.length - (i + 1))
        case rel => exact ⟨i + 1, by go_num, rfl, by omega, HT, Lib.hid (HK.out.tr hk1)⟩
        case measure => omega
    · obtain rfl : i = s.length := by omega
      have HO : Hid (onlyP s least most p = (decide (least ≤ s.length) && decide (s.length ≤ most))) := Lib.hid (by
        have := HA.out
        rw [List.take_length] at this
        unfold onlyP
        rw [this]
        simp)
      by_cases h1 : least ≤ s.length
      · by_cases h2 : s.length ≤ most
        · go_wp2
          go_ret
          exact ⟨ret_bool (by rw [HO.out]; simp [h1, h2]), HK.out⟩
        · go_wp2
          go_ret
          exact ⟨ret_bool (by rw [HO.out]; simp [h2]), HK.out⟩
      · go_wp2
        go_ret
        exact ⟨ret_bool (by rw [HO.out]; simp [h1]), HK.out⟩
set_option maxHeartbeats 1000000 in
theorem isMethod_any (s : List UInt8) (w : World) (hs : s.length ≤ 4611686018427387904) : Calls Tryz.prog 50 #[S s] w fun e w' => e = .returned (.bool (isMethodP s)) ∧ Kept (fun _ => True) w w' := by
  have O := Lib.hid (only_any s 1 16 _ capitalP w capital_may hs (by omega) (by omega))
  go_enter Tryz.func50, Tryz.ntmps50
  go_wp2_with (refine O.out.mono ?_; rintro e w1 ⟨rfl, hk1⟩)
  go_ret
  exact ⟨rfl, hk1⟩
set_option maxHeartbeats 1000000 in
theorem isName_any (s : List UInt8) (w : World) (hs : s.length ≤ 4611686018427387904) : Calls Tryz.prog 90 #[S s] w fun e w' => e = .returned (.bool (isNameP s)) ∧ Kept (fun _ => True) w w' := by
  have O := Lib.hid (only_any s 1 40 _ ofNameP w ofName_may hs (by omega) (by omega))
  go_enter Tryz.func90, Tryz.ntmps90
  go_wp2_with (refine O.out.mono ?_; rintro e w1 ⟨rfl, hk1⟩)
  go_ret
  exact ⟨rfl, hk1⟩
set_option maxHeartbeats 1000000 in
theorem isPath_any (s : List UInt8) (w : World) (hs : s.length ≤ 4611686018427387904) : Calls Tryz.prog 51 #[S s] w fun e w' => e = .returned (.bool (isPathP s)) ∧ Kept (fun _ => True) w w' := by
  have O := Lib.hid (only_any s 1 200 _ shownP w shown_may hs (by omega) (by omega))
  cases s with
  | nil =>
    have hR : onlyP [] 1 200 shownP = false := by decide
    rw [hR] at O
    go_enter Tryz.func51, Tryz.ntmps51
    go_wp2_with (refine O.out.mono ?_; rintro e w1 ⟨rfl, hk1⟩)
    go_ret
    exact ⟨rfl, hk1⟩
  | cons c r =>
    have hR : isPathP (c :: r) = (onlyP (c :: r) 1 200 shownP && decide (c = 47)) := by
      unfold isPathP
      congr 1
    have hI := run_at (c :: r) 0 c rfl
    have hb := byte_is c 47 47 rfl
    have hsz : (⟨(c :: r).toArray⟩ : ByteArray).size = r.length + 1 := size_mk (c :: r)
    obtain ⟨x, hx⟩ : ∃ x, onlyP (c :: r) 1 200 shownP = x := ⟨_, rfl⟩
    obtain ⟨y, hy⟩ : ∃ y, decide (c = 47) = y := ⟨_, rfl⟩
    rw [hx, hy] at hR
    rw [hx] at O
    rw [hy] at hb
    rw [hR]
    simp only [List.length_cons] at hs
    clear hx hy hR
    cases x <;> cases y
    all_goals
      go_enter Tryz.func51, Tryz.ntmps51
      go_wp2_with (refine O.out.mono ?_; rintro e w1 ⟨rfl, hk1⟩)
      go_ret
      first
        | exact ⟨rfl, hk1⟩
        | exact ⟨ret_bool hb, hk1⟩
end Go.Proofs.YtaomhkgdbobpkaaGreatDoor
