/- Walks of wire (layer 5), first part: tests of bytes, small letters, texts of some bytes. -/
import Derived.Test.YtaomhkgdbobpkaaGreatDoorWiB
import Derived.Test.YtaomhkgdbobpkaaGreatDoorShelf
import Derived.Laws.IdiomStrings
namespace Go.Proofs.YtaomhkgdbobpkaaGreatDoor
open Go.RowKit Wi

/-- A test of a byte. -/
def MayK (k : FuncId) (p : UInt8 → Bool) : Prop := ∀ (c : UInt8) (W : World), Calls Tryz.prog k #[.int .u8 c.toNat] W fun e w' => e = .returned (.bool (p c)) ∧ Kept (fun _ => True) W w'
theorem le_u8 (a c : UInt8) (x : Int) (hx : x = a.toNat) : decide ((c.toNat : Int) ≤ x) = decide (c ≤ a) := by
  subst hx
  by_cases h : c ≤ a
  · rw [decide_eq_true h]; exact decide_eq_true (by have := UInt8.le_iff_toNat_le.1 h; omega)
  · rw [decide_eq_false h]; exact decide_eq_false (fun e => h (UInt8.le_iff_toNat_le.2 (by omega)))
theorem ge_u8 (a c : UInt8) (x : Int) (hx : x = a.toNat) : decide (x ≤ (c.toNat : Int)) = decide (a ≤ c) := by
  subst hx
  by_cases h : a ≤ c
  · rw [decide_eq_true h]; exact decide_eq_true (by have := UInt8.le_iff_toNat_le.1 h; omega)
  · rw [decide_eq_false h]; exact decide_eq_false (fun e => h (UInt8.le_iff_toNat_le.2 (by omega)))
set_option maxHeartbeats 1000000 in
theorem capital_is : MayK 79 capitalP := by
  intro c W
  have h1 := ge_u8 65 c 65 rfl
  have h2 := le_u8 90 c 90 rfl
  obtain ⟨p, hp⟩ : ∃ p, decide ((65 : UInt8) ≤ c) = p := ⟨_, rfl⟩
  obtain ⟨q, hq⟩ : ∃ p, decide (c ≤ (90 : UInt8)) = p := ⟨_, rfl⟩
  have hR : capitalP c = (p && q) := by unfold capitalP; rw [hp, hq]
  rw [hp] at h1
  rw [hq] at h2
  rw [hR]
  clear hp hq hR
  cases p <;> cases q
  all_goals
    go_enter Tryz.func79, Tryz.ntmps79
    go_wp2
    go_ret
    exact ⟨rfl, Kept.refl _ _⟩
set_option maxHeartbeats 1000000 in
theorem shown_is : MayK 80 shownP := by
  intro c W
  have h1 := ge_u8 33 c 33 rfl
  have h2 := le_u8 126 c 126 rfl
  obtain ⟨p, hp⟩ : ∃ p, decide ((33 : UInt8) ≤ c) = p := ⟨_, rfl⟩
  obtain ⟨q, hq⟩ : ∃ p, decide (c ≤ (126 : UInt8)) = p := ⟨_, rfl⟩
  have hR : shownP c = (p && q) := by unfold shownP; rw [hp, hq]
  rw [hp] at h1
  rw [hq] at h2
  rw [hR]
  clear hp hq hR
  cases p <;> cases q
  all_goals
    go_enter Tryz.func80, Tryz.ntmps80
    go_wp2
    go_ret
    exact ⟨rfl, Kept.refl _ _⟩
set_option maxHeartbeats 1000000 in
theorem printed_is : MayK 91 printedP := by
  intro c W
  have h1 := ge_u8 32 c 32 rfl
  have h2 := le_u8 126 c 126 rfl
  obtain ⟨p, hp⟩ : ∃ p, decide ((32 : UInt8) ≤ c) = p := ⟨_, rfl⟩
  obtain ⟨q, hq⟩ : ∃ p, decide (c ≤ (126 : UInt8)) = p := ⟨_, rfl⟩
  have hR : printedP c = (p && q) := by unfold printedP; rw [hp, hq]
  rw [hp] at h1
  rw [hq] at h2
  rw [hR]
  clear hp hq hR
  cases p <;> cases q
  all_goals
    go_enter Tryz.func91, Tryz.ntmps91
    go_wp2
    go_ret
    exact ⟨rfl, Kept.refl _ _⟩
set_option maxHeartbeats 1000000 in
theorem digit_is : MayK 115 digitP := by
  intro c W
  have h1 := ge_u8 48 c 48 rfl
  have h2 := le_u8 57 c 57 rfl
  obtain ⟨p, hp⟩ : ∃ p, decide ((48 : UInt8) ≤ c) = p := ⟨_, rfl⟩
  obtain ⟨q, hq⟩ : ∃ p, decide (c ≤ (57 : UInt8)) = p := ⟨_, rfl⟩
  have hR : digitP c = (p && q) := by unfold digitP; rw [hp, hq]
  rw [hp] at h1
  rw [hq] at h2
  rw [hR]
  clear hp hq hR
  cases p <;> cases q
  all_goals
    go_enter Tryz.func115, Tryz.ntmps115
    go_wp2
    go_ret
    exact ⟨rfl, Kept.refl _ _⟩
theorem sign_fin : ∀ c : Fin 256, decide (0 ≤ Lib.indexByte signsL (UInt8.ofNat c.val)) = signsL.contains (UInt8.ofNat c.val) := by decide +kernel
theorem sign_is (c : UInt8) : decide (0 ≤ Lib.indexByte signsL c) = signsL.contains c := by
  have := sign_fin ⟨c.toNat, c.toNat_lt⟩
  simpa only [UInt8.ofNat_toNat] using this
set_option maxHeartbeats 2000000 in
theorem ofName_is : MayK 104 ofNameP := by
  intro c W
  have h1 := ge_u8 97 c 97 rfl
  have h2 := le_u8 122 c 122 rfl
  obtain ⟨p, hp⟩ : ∃ p, decide ((97 : UInt8) ≤ c) = p := ⟨_, rfl⟩
  obtain ⟨q, hq⟩ : ∃ p, decide (c ≤ (122 : UInt8)) = p := ⟨_, rfl⟩
  have CP := capital_is c
  have DG := digit_is c
  obtain ⟨a, ha⟩ : ∃ a, capitalP c = a := ⟨_, rfl⟩
  obtain ⟨b, hb⟩ : ∃ b, digitP c = b := ⟨_, rfl⟩
  obtain ⟨z, hz⟩ : ∃ z, Lib.indexByte signsL c = z := ⟨_, rfl⟩
  obtain ⟨d, hd⟩ : ∃ d, decide (0 ≤ z) = d := ⟨_, rfl⟩
  have hs : signsL.contains c = d := by rw [← sign_is, hz, hd]
  have IX : ∀ W, Calls Tryz.prog 121 #[.string ⟨#[33, 35, 36, 37, 38, 39, 42, 43, 45, 46, 94, 95, 124, 126, 96]⟩, .int .u8 c.toNat] W fun e w' => e = .returned (.int .i64 z) ∧ w' = W := fun W => by
    have := Tryz.strings_IndexByte ⟨#[33, 35, 36, 37, 38, 39, 42, 43, 45, 46, 94, 95, 124, 126, 96]⟩ c.toNat W
    rw [show (c.toNat : Int).toNat.toUInt8 = c by simp] at this
    rw [← hz]
    exact this
  have hR : ofNameP c = (a || (p && q) || b || d) := by unfold ofNameP; rw [hp, hq, ha, hb, hs]
  rw [ha] at CP
  rw [hb] at DG
  rw [hp] at h1
  rw [hq] at h2
  rw [hR]
  have CP' := Lib.hid CP
  have DG' := Lib.hid DG
  have IX' := Lib.hid IX
  clear hp hq hR ha hb hz hs CP DG IX
  cases a <;> cases p <;> cases q <;> cases b <;> cases d
  all_goals
    go_enter Tryz.func104, Tryz.ntmps104
    go_wp2_with (first
      | (go_at_call 79; refine (CP'.out _).mono ?_; rintro e w1 ⟨rfl, hk1⟩)
      | (go_at_call 115; refine (DG'.out _).mono ?_; rintro e w2 ⟨rfl, hk2⟩)
      | (go_at_call 121; refine (IX'.out _).mono ?_; rintro e w3 ⟨rfl, rfl⟩))
    go_ret
    refine ⟨rfl, ?_⟩
    first
      | exact hk1.tr hk2
      | exact hk1
/-- .. as a function value. -/
structure MayC (k : FuncId) (p : UInt8 → Bool) : Prop where
  enters : ∀ args w, (callFunc k args).run Tryz.prog w = .ok (.enter k args) w
  is : MayK k p
theorem capital_may : MayC 79 capitalP := ⟨enters_of Tryz.func79 (by kernel_rfl) rfl, capital_is⟩
theorem shown_may : MayC 80 shownP := ⟨enters_of Tryz.func80 (by kernel_rfl) rfl, shown_is⟩
theorem printed_may : MayC 91 printedP := ⟨enters_of Tryz.func91 (by kernel_rfl) rfl, printed_is⟩
theorem digit_may : MayC 115 digitP := ⟨enters_of Tryz.func115 (by kernel_rfl) rfl, digit_is⟩
theorem ofName_may : MayC 104 ofNameP := ⟨enters_of Tryz.func104 (by kernel_rfl) rfl, ofName_is⟩
end Go.Proofs.YtaomhkgdbobpkaaGreatDoor
