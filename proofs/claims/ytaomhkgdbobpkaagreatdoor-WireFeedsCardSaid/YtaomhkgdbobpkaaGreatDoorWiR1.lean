/- Walks of the reference of layer 5, first part: what may be. -/
import Derived.Test.YtaomhkgdbobpkaaGreatDoorWiLY
namespace Go.Proofs.YtaomhkgdbobpkaaGreatDoor
open Go.RowKit Wi

theorem u8le (a b : UInt8) : decide (a ≤ b) = decide ((a.toNat : Int) ≤ (b.toNat : Int)) := by
  apply decide_eq_decide.2
  rw [UInt8.le_iff_toNat_le]
  omega
theorem all_takeP (p : UInt8 → Bool) {s : List UInt8} {i : Nat} {c : UInt8} (hc : s[i]? = some c) (h : p c = false) : s.all p = false := by
  rw [List.all_eq_false]
  exact ⟨c, List.mem_of_getElem? hc, by rw [h]; simp⟩
set_option maxHeartbeats 2000000 in
theorem within_any (s : List UInt8) (f t : Int) (p : UInt8 → Bool) (hp : ∀ c : UInt8, p c = (decide (f ≤ (c.toNat : Int)) && decide ((c.toNat : Int) ≤ t))) (w : World) (hs : s.length ≤ 4611686018427387904) :
    Calls Tryz.prog 71 #[S s, .int .u8 f, .int .u8 t] w fun e w' => e = .returned (.bool (s.all p)) ∧ Kept (fun _ => True) w w' := by
  have hsz : (⟨s.toArray⟩ : ByteArray).size = s.length := size_mk s
  have HP := Lib.hid hp
  clear hp
  go_enter Tryz.func71, Tryz.ntmps71
  go_wp2_with fail
  go_loopg [7] s.length (fun q n wr => ∃ i : Nat, n = .int .i64 i ∧ q = s.length - i ∧ i ≤ s.length ∧ Hid ((s.take i).all p = true) ∧ Hid (Kept (fun _ => True) w wr))
  case atStart => exact ⟨0, rfl, rfl, Nat.zero_le _, Lib.hid (by simp), Lib.hid (Kept.refl _ _)⟩
  case round =>
    obtain ⟨i, rfl, rfl, hi, HA, HK⟩ := hrel
    by_cases hlt : i < s.length
    · obtain ⟨c, hc⟩ : ∃ c, s[i]? = some c := ⟨s[i], List.getElem?_eq_getElem hlt⟩
      have hi0 : (0 : Int) ≤ (i : Int) := by omega
      have hI := run_at s i c hc
      have HT := Lib.hid (all_take p hc HA.out)
      have HO := Lib.hid (all_takeP p hc)
      have HPC := Lib.hid (HP.out c)
      clear hc
      by_cases h1 : f ≤ (c.toNat : Int)
      · by_cases h2 : (c.toNat : Int) ≤ t
        · have hb : Hid (p c = true) := Lib.hid (by rw [HPC.out, decide_eq_true h1, decide_eq_true h2]; rfl)
          go_wp2
          go_roundg (s.length - (i + 1))
          case rel => exact ⟨i + 1, by go_num, rfl, by omega, Lib.hid (by rw [HT.out, hb.out]), HK⟩
          case measure => omega
        · have hb : Hid (s.all p = false) := Lib.hid (HO.out (by rw [HPC.out, decide_eq_false h2]; simp))
          go_wp2
          go_ret
          exact ⟨ret_bool hb.out.symm, HK.out⟩
      · have hb : Hid (s.all p = false) := Lib.hid (HO.out (by rw [HPC.out, decide_eq_false h1]; simp))
        go_wp2
        go_ret
        exact ⟨ret_bool hb.out.symm, HK.out⟩
    · obtain rfl : i = s.length := by omega
      have hb : Hid (s.all p = true) := Lib.hid (by have := HA.out; rwa [List.take_length] at this)
      clear hlt
      go_wp2
      go_ret
      exact ⟨ret_bool hb.out.symm, HK.out⟩
theorem rng_false {a b x : Int} (h : ¬ (a ≤ x ∧ x ≤ b)) : (decide (a ≤ x) && decide (x ≤ b)) = false := by
  by_cases h1 : a ≤ x
  · rw [decide_eq_true h1, decide_eq_false (fun h2 => h ⟨h1, h2⟩)]; rfl
  · rw [decide_eq_false h1]; rfl
theorem rng_true {a b x : Int} (h : a ≤ x ∧ x ≤ b) : (decide (a ≤ x) && decide (x ≤ b)) = true := by
  rw [decide_eq_true h.1, decide_eq_true h.2]; rfl
theorem ba_get0 {s : List UInt8} {c : UInt8} (hc : s[0]? = some c) (h : 0 < (⟨s.toArray⟩ : ByteArray).size) : (⟨s.toArray⟩ : ByteArray)[0]'h = c := by
  obtain ⟨h1, h2⟩ := List.getElem?_eq_some_iff.1 hc
  exact h2
def signs14 : List UInt8 := [33, 35, 36, 37, 38, 39, 42, 43, 45, 46, 94, 95, 124, 126]
theorem ofName_sign {c : UInt8} (h : c ∈ signs14) : ofNameP c = true := by
  unfold ofNameP
  rw [show signsL.contains c = true from by
    simp only [List.contains_iff_mem]
    revert h
    simp only [signs14, signsL, List.mem_cons, List.not_mem_nil, or_false]
    intro h
    rcases h with h | h | h | h | h | h | h | h | h | h | h | h | h | h <;> simp [h]]
  simp
theorem ofName_not {c : UInt8} (h1 : ¬ (97 ≤ c.toNat ∧ c.toNat ≤ 122)) (h2 : ¬ (65 ≤ c.toNat ∧ c.toNat ≤ 90)) (h3 : ¬ (48 ≤ c.toNat ∧ c.toNat ≤ 57)) (h4 : c.toNat ≠ 96) (h : ∀ d ∈ signs14, d ≠ c) : ofNameP c = false := by
  have e1 : capitalP c = false := by
    unfold capitalP
    rw [u8le, u8le]
    exact rng_false (a := 65) (b := 90) (x := (c.toNat : Int)) (by omega)
  have e2 : (decide ((97 : UInt8) ≤ c) && decide (c ≤ 122)) = false := by
    rw [u8le, u8le]
    exact rng_false (a := 97) (b := 122) (x := (c.toNat : Int)) (by omega)
  have e3 : digitP c = false := by
    unfold digitP
    rw [u8le, u8le]
    exact rng_false (a := 48) (b := 57) (x := (c.toNat : Int)) (by omega)
  have e4 : signsL.contains c = false := by
    rw [← Bool.not_eq_true, List.contains_iff_mem]
    intro hm
    simp only [signsL, List.mem_cons, List.not_mem_nil, or_false] at hm
    have hh : ∀ d, c = d → d ∈ signs14 → False := fun d e hd => h d hd e.symm
    rcases hm with e | e | e | e | e | e | e | e | e | e | e | e | e | e | e
    case inr.inr.inr.inr.inr.inr.inr.inr.inr.inr.inr.inr.inr.inr => exact h4 (by rw [e]; rfl)
    all_goals exact hh _ e (by decide)
  unfold ofNameP
  rw [e1, e2, e3, e4]
  rfl
theorem ofName_alnum {c : UInt8} (h : (97 ≤ c.toNat ∧ c.toNat ≤ 122) ∨ (65 ≤ c.toNat ∧ c.toNat ≤ 90) ∨ (48 ≤ c.toNat ∧ c.toNat ≤ 57) ∨ c.toNat = 96) : ofNameP c = true := by
  unfold ofNameP
  rcases h with h | h | h | h
  · rw [show (decide ((97 : UInt8) ≤ c) && decide (c ≤ 122)) = true by
      rw [u8le, u8le]; exact rng_true (a := 97) (b := 122) (x := (c.toNat : Int)) (by omega)]
    simp
  · rw [show capitalP c = true by
      unfold capitalP; rw [u8le, u8le]; exact rng_true (a := 65) (b := 90) (x := (c.toNat : Int)) (by omega)]
    simp
  · rw [show digitP c = true by
      unfold digitP; rw [u8le, u8le]; exact rng_true (a := 48) (b := 57) (x := (c.toNat : Int)) (by omega)]
    simp
  · rw [show c = 96 from UInt8.toNat_inj.1 (by rw [h]; rfl)]
    decide
set_option maxHeartbeats 4000000 in
set_option maxRecDepth 100000 in
theorem token_any (c : UInt8) (w : World) : Calls Tryz.prog 89 #[.int .u8 c.toNat] w fun e w' => e = .returned (.bool (ofNameP c)) ∧ Kept (fun _ => True) w w' := by
  by_cases ha : (97 ≤ c.toNat ∧ c.toNat ≤ 122) ∨ (65 ≤ c.toNat ∧ c.toNat ≤ 90) ∨ (48 ≤ c.toNat ∧ c.toNat ≤ 57) ∨ c.toNat = 96
  · have HN := Lib.hid (ofName_alnum ha)
    rcases ha with ⟨h1, h2⟩ | ⟨h1, h2⟩ | ⟨h1, h2⟩ | h1
    · go_enter Tryz.func89, Tryz.ntmps89
      go_wp2
      go_ret
      exact ⟨ret_bool HN.out.symm, Kept.refl _ _⟩
    · have h3 : ¬ (97 : Int) ≤ (c.toNat : Int) := by omega
      go_enter Tryz.func89, Tryz.ntmps89
      go_wp2
      go_ret
      exact ⟨ret_bool HN.out.symm, Kept.refl _ _⟩
    · have h3 : ¬ (97 : Int) ≤ (c.toNat : Int) := by omega
      have h4 : ¬ (65 : Int) ≤ (c.toNat : Int) := by omega
      go_enter Tryz.func89, Tryz.ntmps89
      go_wp2
      go_ret
      exact ⟨ret_bool HN.out.symm, Kept.refl _ _⟩
    · obtain rfl : c = 96 := UInt8.toNat_inj.1 (by rw [h1]; rfl)
      clear h1
      go_enter Tryz.func89, Tryz.ntmps89
      go_wp2
      go_ret
      exact ⟨ret_bool HN.out.symm, Kept.refl _ _⟩
  · have HNO := Lib.hid (fun (h : ∀ d ∈ signs14, d ≠ c) => ofName_not (c := c) (by omega) (by omega) (by omega) (by omega) h)
    have hq96 : ((c.toNat : Int) == 96) = false := by rw [beq_eq_false_iff_ne]; omega
    have hcs : (c.toNat : Int) < 48 ∨ (57 < (c.toNat : Int) ∧ (c.toNat : Int) < 65) ∨ (90 < (c.toNat : Int) ∧ (c.toNat : Int) < 97) ∨ 122 < (c.toNat : Int) := by omega
    have HSG := Lib.hid (fun (h : c ∈ signs14) => ofName_sign h)
    clear ha
    go_enter Tryz.func89, Tryz.ntmps89
    rcases hcs with h | ⟨h, h'⟩ | ⟨h, h'⟩ | h
    all_goals
      go_wp2_with fail
      go_loopg [4] 14 (fun q n wr => ∃ i : Nat, n = .int .i64 i ∧ q = 14 - i ∧ i ≤ 14 ∧ Hid (∀ d ∈ signs14.take i, d ≠ c) ∧ wr = w)
      case atStart => exact ⟨0, rfl, rfl, by omega, Lib.hid (by simp), rfl⟩
      case round =>
        obtain ⟨i, rfl, rfl, hi, HA, rfl⟩ := hrel
        by_cases hlt : i < 14
        · obtain ⟨d, hd⟩ : ∃ d, signs14[i]? = some d := ⟨_, List.getElem?_eq_getElem (show i < signs14.length from hlt)⟩
          have hI := run_at signs14 i d hd
          have hi0 : (0 : Int) ≤ (i : Int) := by omega
          have HTK : Hid (signs14.take (i + 1) = signs14.take i ++ [d]) := Lib.hid (by rw [List.take_add_one, hd]; rfl)
          have HM := Lib.hid (List.mem_of_getElem? hd)
          clear hd
          have hI2 : (Instr.index 9 (Value.string { data := #[33, 35, 36, 37, 38, 39, 42, 43, 45, 46, 94, 95, 124, 126] }) (.int .i64 (i : Int))).run Tryz.prog wr = .ok (.int .u8 d.toNat) wr := hI wr
          by_cases he : d = c
          · subst he
            have HR := Lib.hid (HSG.out HM.out)
            clear HTK HM
            go_wp2
            go_ret
            exact ⟨ret_bool HR.out.symm, Kept.refl _ _⟩
          · have q1 : ((d.toNat : Int) == (c.toNat : Int)) = false := by rw [byte_is']; exact decide_eq_false he
            have HT : Hid (∀ x ∈ signs14.take (i + 1), x ≠ c) := Lib.hid (by
              rw [HTK.out]
              intro x hx
              rcases List.mem_append.1 hx with hx | hx
              · exact HA.out x hx
              · rw [List.mem_singleton] at hx; rw [hx]; exact he)
            clear HTK HM he
            go_wp2
            go_roundg (14 - (i + 1))
            case rel => exact ⟨i + 1, by go_num, rfl, by omega, HT, rfl⟩
            case measure => omega
        · obtain rfl : i = 14 := by omega
          have HR := Lib.hid (HNO.out HA.out)
          go_wp2
          go_ret
          exact ⟨ret_bool HR.out.symm, Kept.refl _ _⟩
set_option maxHeartbeats 2000000 in
theorem refName_any (s : List UInt8) (w : World) (hs : s.length ≤ 4611686018427387904) : Calls Tryz.prog 70 #[S s] w fun e w' => e = .returned (.bool (isNameP s)) ∧ Kept (fun _ => True) w w' := by
  have hsz : (⟨s.toArray⟩ : ByteArray).size = s.length := size_mk s
  go_enter Tryz.func70, Tryz.ntmps70
  go_wp2_with fail
  go_loopg [3] s.length (fun q n wr => ∃ i : Nat, n = .int .i64 i ∧ q = s.length - i ∧ i ≤ s.length ∧ Hid ((s.take i).all ofNameP = true) ∧ Hid (Kept (fun _ => True) w wr))
  case atStart => exact ⟨0, rfl, rfl, Nat.zero_le _, Lib.hid (by simp), Lib.hid (Kept.refl _ _)⟩
  case round =>
    obtain ⟨i, rfl, rfl, hi, HA, HK⟩ := hrel
    by_cases hlt : i < s.length
    · obtain ⟨c, hc⟩ : ∃ c, s[i]? = some c := ⟨s[i], List.getElem?_eq_getElem hlt⟩
      have hi0 : (0 : Int) ≤ (i : Int) := by omega
      have hI := run_at s i c hc
      have HC := Lib.hid (token_any c wr)
      have HT := Lib.hid (all_take ofNameP hc HA.out)
      have HO : Hid (ofNameP c = false → isNameP s = false) := Lib.hid (fun h => by unfold isNameP onlyP; rw [all_takeP ofNameP hc h]; rfl)
      obtain ⟨b, hb⟩ : ∃ b, ofNameP c = b := ⟨_, rfl⟩
      rw [hb] at HC HT HO
      clear hc hb
      cases b
      · go_wp2_with (refine HC.out.mono ?_; rintro e w1 ⟨rfl, hk1⟩)
        go_ret
        exact ⟨ret_bool (HO.out trivial).symm, HK.out.tr hk1⟩
      · go_wp2_with (refine HC.out.mono ?_; rintro e w1 ⟨rfl, hk1⟩)
        go_roundg (s.length - (i + 1))
        case rel => exact ⟨i + 1, by go_num, rfl, by omega, HT, Lib.hid (HK.out.tr hk1)⟩
        case measure => omega
    · obtain rfl : i = s.length := by omega
      have HO : Hid (isNameP s = (decide (1 ≤ s.length) && decide (s.length ≤ 40))) := Lib.hid (by
        have := HA.out
        rw [List.take_length] at this
        unfold isNameP onlyP
        rw [this]
        simp)
      by_cases h1 : 1 ≤ s.length
      · by_cases h2 : s.length ≤ 40
        · go_wp2
          go_ret
          exact ⟨ret_bool (by rw [HO.out]; first | (simp [h1, h2]; done) | (simp [h1, h2]; omega)), HK.out⟩
        · go_wp2
          go_ret
          exact ⟨ret_bool (by rw [HO.out]; first | (simp [h2]; done) | (simp [h2]; omega)), HK.out⟩
      · go_wp2
        go_ret
        exact ⟨ret_bool (by rw [HO.out]; first | (simp [h1]; done) | (simp [h1]; omega)), HK.out⟩
set_option maxHeartbeats 2000000 in
theorem refMethod_any (s : List UInt8) (w : World) (hs : s.length ≤ 4611686018427387904) : Calls Tryz.prog 81 #[S s] w fun e w' => e = .returned (.bool (isMethodP s)) ∧ Kept (fun _ => True) w w' := by
  have hsz : (⟨s.toArray⟩ : ByteArray).size = s.length := size_mk s
  have WI := Lib.hid (within_any s 65 90 capitalP (fun c => by unfold capitalP; rw [u8le, u8le]; rfl) w hs)
  have HO : Hid (isMethodP s = (s.all capitalP && decide (1 ≤ s.length) && decide (s.length ≤ 16))) := Lib.hid rfl
  obtain ⟨b, hb⟩ : ∃ b, s.all capitalP = b := ⟨_, rfl⟩
  rw [hb] at WI HO
  clear hb
  go_enter Tryz.func81, Tryz.ntmps81
  go_wp2_with fail
  refine WI.out.mono ?_
  rintro e w1 ⟨rfl, hk1⟩
  cases b
  · go_wp2
    go_ret
    exact ⟨ret_bool (by rw [HO.out]; rfl), hk1⟩
  · by_cases h1 : 1 ≤ s.length
    · by_cases h2 : s.length ≤ 16
      · go_wp2
        go_ret
        exact ⟨ret_bool (by rw [HO.out]; first | (simp [h1, h2]; done) | (simp [h1, h2]; omega)), hk1⟩
      · go_wp2
        go_ret
        exact ⟨ret_bool (by rw [HO.out]; first | (simp [h2]; done) | (simp [h2]; omega)), hk1⟩
    · go_wp2
      go_ret
      exact ⟨ret_bool (by rw [HO.out]; first | (simp [h1]; done) | (simp [h1]; omega)), hk1⟩
set_option maxHeartbeats 2000000 in
theorem refPath_any (s : List UInt8) (w : World) (hs : s.length ≤ 4611686018427387904) : Calls Tryz.prog 82 #[S s] w fun e w' => e = .returned (.bool (isPathP s)) ∧ Kept (fun _ => True) w w' := by
  have hsz : (⟨s.toArray⟩ : ByteArray).size = s.length := size_mk s
  have WI := Lib.hid (within_any s 33 126 shownP (fun c => by unfold shownP; rw [u8le, u8le]; rfl) w hs)
  have HO : Hid (isPathP s = (s.all shownP && decide (1 ≤ s.length) && decide (s.length ≤ 200) && (s.head? == some 47))) := Lib.hid rfl
  obtain ⟨b, hb⟩ : ∃ b, s.all shownP = b := ⟨_, rfl⟩
  rw [hb] at WI HO
  clear hb
  go_enter Tryz.func82, Tryz.ntmps82
  go_wp2_with fail
  refine WI.out.mono ?_
  rintro e w1 ⟨rfl, hk1⟩
  cases b
  · go_wp2
    go_ret
    exact ⟨ret_bool (by rw [HO.out]; rfl), hk1⟩
  · by_cases h1 : 1 ≤ s.length
    · by_cases h2 : s.length ≤ 200
      · obtain ⟨c, hc⟩ : ∃ c, s[0]? = some c := ⟨s[0], List.getElem?_eq_getElem (by omega)⟩
        have hI := run_at s 0 c hc
        have hhd : s.head? = some c := by rw [List.head?_eq_getElem?, hc]
        rw [hhd] at HO
        have hb0 := ba_get0 hc (by rw [hsz]; omega)
        clear hc hhd
        by_cases h3 : c = 47
        · have q1 : ((c.toNat : Int) == 47) = true := by rw [byte_is c 47 47 rfl]; exact decide_eq_true h3
          go_wp2
          go_ret
          exact ⟨ret_bool (by rw [HO.out]; first | (simp [h1, h2, h3]; done) | (simp [h1, h2, h3, hb0]; done) | (simp [h1, h2, h3]; omega)), hk1⟩
        · have q1 : ((c.toNat : Int) == 47) = false := by rw [byte_is c 47 47 rfl]; exact decide_eq_false h3
          go_wp2
          go_ret
          exact ⟨ret_bool (by rw [HO.out]; first | (simp [h3]; done) | (simp [h3, hb0]; done) | (rw [hb0]; simp [h3]; done) | (simp [h3]; omega)), hk1⟩
      · go_wp2
        go_ret
        exact ⟨ret_bool (by rw [HO.out]; first | (simp [h2]; done) | (simp [h2]; omega)), hk1⟩
    · go_wp2
      go_ret
      exact ⟨ret_bool (by rw [HO.out]; first | (simp [h1]; done) | (simp [h1]; omega)), hk1⟩
end Go.Proofs.YtaomhkgdbobpkaaGreatDoor
