/- Walks of the reference's letter and UTF8 (layer 4). -/
import Derived.Test.YtmajpambfblhnaaGreatDoorJoR1
import Derived.Test.YtmajpambfblhnaaGreatDoorJoPlainB
namespace Go.Proofs.YtmajpambfblhnaaGreatDoor
open Go.RowKit Jo

theorem fol_fin : ∀ c : Fin 256, (c.val < 128 ∧ folZ c.val = (0, 0, 0)) ∨ (128 ≤ c.val ∧ (behindP (UInt8.ofNat c.val)).2.2 = 0 ∧ folZ c.val = (-1, 0, 0)) ∨
    (128 ≤ c.val ∧ (behindP (UInt8.ofNat c.val)).2.2 ≠ 0 ∧ folZ c.val = ((((behindP (UInt8.ofNat c.val)).2.2 : Nat) : Int), ((behindP (UInt8.ofNat c.val)).1.toNat : Int), ((behindP (UInt8.ofNat c.val)).2.1.toNat : Int))) := by decide +kernel
theorem fol_of (c : UInt8) : (c < 128 ∧ folZ c.toNat = (0, 0, 0)) ∨ (¬ c < 128 ∧ (behindP c).2.2 = 0 ∧ folZ c.toNat = (-1, 0, 0)) ∨ (¬ c < 128 ∧ (behindP c).2.2 ≠ 0 ∧ folZ c.toNat = ((((behindP c).2.2 : Nat) : Int), ((behindP c).1.toNat : Int), ((behindP c).2.1.toNat : Int))) := by
  have := fol_fin ⟨c.toNat, c.toNat_lt⟩
  simp only [UInt8.ofNat_toNat] at this
  have h128 : c < 128 ↔ c.toNat < 128 := UInt8.lt_iff_toNat_lt
  rcases this with ⟨h, e⟩ | ⟨h, e1, e2⟩ | ⟨h, e1, e2⟩
  · exact .inl ⟨h128.2 h, e⟩
  · exact .inr (.inl ⟨fun e => by have := h128.1 e; omega, e1, e2⟩)
  · exact .inr (.inr ⟨fun e => by have := h128.1 e; omega, e1, e2⟩)
/-- What letter leaves. -/
def LetQ (r : PR Unit) (w : World) (e : Ending) (w' : World) : Prop := e = (match r with | .ok _ j => .returned (.tuple #[.int .i64 (j : Int), .bool true]) | .bad _ j => .returned (.tuple #[.int .i64 (j : Int), .bool false])) ∧ w' = w

set_option maxHeartbeats 8000000 in
set_option maxRecDepth 100000 in
theorem refletter_any (s : List UInt8) (i : Nat) (w : World) (hl : s.length ≤ 4611686018427387904) (hi : i < s.length) : Calls Tryz.prog 67 #[S s, .int .i64 i] w (LetQ (letterP s i) w) := by
  have hsz : (⟨s.toArray⟩ : ByteArray).size = s.length := size_mk s
  obtain ⟨c, hc⟩ : ∃ c, s[i]? = some c := ⟨s[i]'hi, List.getElem?_eq_getElem hi⟩
  have hix := run_index_str (P := Tryz.prog) Tryz.underlying9 ⟨s.toArray⟩ i i rfl (by rw [hsz]; exact hi) c (List.getElem?_eq_some_iff.1 hc).2
  obtain ⟨R, hR⟩ : ∃ R, letterP s i = R := ⟨_, rfl⟩
  have hcb := c.toNat_lt
  have CF := Lib.hid (fun w => follows_any (c.toNat : Int) (by omega) (by omega) w)
  have key : (∃ (m : Nat) (lo hi : UInt8), folZ c.toNat = ((m : Int), (lo.toNat : Int), (hi.toNat : Int)) ∧ m ≤ 3 ∧ followP s m lo hi (i + 1) = R) ∨ (folZ c.toNat = (-1, 0, 0) ∧ R = .bad 40 i) := by
    have hm := behindP_le c
    rcases fol_of c with ⟨h, e⟩ | ⟨h, e1, e2⟩ | ⟨h, e1, e2⟩
    · exact .inl ⟨0, 0, 0, e, by omega, by rw [← hR]; unfold letterP; rw [hc]; simp [h, followP]⟩
    · exact .inr ⟨e2, by rw [← hR]; unfold letterP; rw [hc]; simp [h, e1]⟩
    · exact .inl ⟨_, _, _, e2, hm, by rw [← hR]; unfold letterP; rw [hc]; simp [h, e1]⟩
  rw [hR]
  rcases key with ⟨m, lo, hi2, e, hm, hF⟩ | ⟨e, hF⟩
  · rw [e] at CF
    have HF := Lib.hid hF
    clear hR e hF hc
    go_enter Tryz.func67, Tryz.ntmps67
    go_wp2_with (go_at_call 94; refine (CF.out _).mono ?_; rintro e w1 ⟨rfl, rfl⟩)
    go_loopg [7, 8, 9] m (fun q a b d wr => ∃ (k : Nat) (x y : UInt8), a = .int .i64 x.toNat ∧ b = .int .i64 y.toNat ∧ d = .int .i64 k ∧ 1 ≤ k ∧ k ≤ m + 1 ∧ q = m + 1 - k ∧ Hid (followP s (m + 1 - k) x y (i + k) = R) ∧ wr = w1)
    case atStart => exact ⟨1, lo, hi2, rfl, rfl, rfl, by omega, by omega, by omega, Lib.hid (by rw [Nat.add_sub_cancel]; exact HF.out), rfl⟩
    case round =>
      clear HF
      obtain ⟨k, x, y, rfl, rfl, rfl, hk1, hk2, rfl, H, rfl⟩ := hrel
      by_cases hkm : k ≤ m
      · have HG : Hid (R = match s[i + k]? with | none => .bad 40 (i + k) | some b => if b < x ∨ y < b then .bad 40 (i + k) else followP s (m - k) 128 191 (i + k + 1)) := Lib.hid (by
          rw [← H.out, show m + 1 - k = (m - k) + 1 by omega, followP]
          cases s[i + k]? <;> rfl)
        clear H
        by_cases hlt : i + k < s.length
        · obtain ⟨b, hb⟩ : ∃ c, s[i + k]? = some c := ⟨s[i + k]'hlt, List.getElem?_eq_getElem hlt⟩
          have hix2 := run_index_str (P := Tryz.prog) Tryz.underlying9 ⟨s.toArray⟩ (i + k) (i + k) rfl (by rw [hsz]; exact hlt) b (List.getElem?_eq_some_iff.1 hb).2
          have hge : ¬ s.length ≤ i + k := by omega
          have hbb := b.toNat_lt
          by_cases hbx : b < x
          · have HN : Hid (R = .bad 40 (i + k)) := Lib.hid (by rw [HG.out, hb]; simp [hbx])
            have d1 : b.toNat < x.toNat := UInt8.lt_iff_toNat_lt.1 hbx
            clear HG hb hbx
            go_wp2
            refine bodyPost_ret (v := .tuple #[.int .i64 ((i + k : Nat) : Int), .bool false]) (by simp [results, Tryz.results67, go_sem]) rfl ?_
            rw [HN.out]
            exact ⟨rfl, rfl⟩
          · have d1 : ¬ b.toNat < x.toNat := fun e => hbx (UInt8.lt_iff_toNat_lt.2 e)
            by_cases hby : y < b
            · have HN : Hid (R = .bad 40 (i + k)) := Lib.hid (by rw [HG.out, hb]; simp [hby])
              have d2 : y.toNat < b.toNat := UInt8.lt_iff_toNat_lt.1 hby
              clear HG hb hbx hby
              go_wp2
              refine bodyPost_ret (v := .tuple #[.int .i64 ((i + k : Nat) : Int), .bool false]) (by simp [results, Tryz.results67, go_sem]) rfl ?_
              rw [HN.out]
              exact ⟨rfl, rfl⟩
            · have HN : Hid (followP s (m - k) 128 191 (i + k + 1) = R) := Lib.hid (by rw [HG.out, hb]; simp [hbx, hby])
              have d2 : ¬ y.toNat < b.toNat := fun e => hby (UInt8.lt_iff_toNat_lt.2 e)
              clear HG hb hbx hby
              go_wp2
              go_roundg (m + 1 - (k + 1))
              case rel => exact ⟨k + 1, 128, 191, rfl, rfl, by go_num, by omega, by omega, rfl, Lib.hid (by rw [show m + 1 - (k + 1) = m - k by omega, ← Nat.add_assoc]; exact HN.out), rfl⟩
              case measure => omega
        · have HN : Hid (R = .bad 40 (i + k)) := Lib.hid (by rw [HG.out, List.getElem?_eq_none (by omega)])
          have hge : s.length ≤ i + k := by omega
          clear HG
          go_wp2
          refine bodyPost_ret (v := .tuple #[.int .i64 ((i + k : Nat) : Int), .bool false]) (by simp [results, Tryz.results67, go_sem]) rfl ?_
          rw [HN.out]
          exact ⟨rfl, rfl⟩
      · obtain rfl : k = m + 1 := by omega
        have HN : Hid (R = .ok () (i + m + 1)) := Lib.hid (by rw [← H.out, Nat.sub_self]; rfl)
        clear H
        go_wp2
        refine bodyPost_ret (v := .tuple #[.int .i64 ((i + m + 1 : Nat) : Int), .bool true]) (by simp [results, Tryz.results67, go_sem]) rfl ?_
        rw [HN.out]
        exact ⟨rfl, rfl⟩
  · rw [e] at CF
    have HF := Lib.hid hF
    clear hR e hF hc
    go_enter Tryz.func67, Tryz.ntmps67
    go_wp2_with (go_at_call 94; refine (CF.out _).mono ?_; rintro e w1 ⟨rfl, rfl⟩)
    refine bodyPost_ret (v := .tuple #[.int .i64 (i : Int), .bool false]) (by simp [results, Tryz.results67, go_sem]) rfl ?_
    rw [HF.out]
    exact ⟨rfl, rfl⟩

set_option maxHeartbeats 4000000 in
set_option maxRecDepth 100000 in
theorem utf8_any (s : List UInt8) (w : World) (hl : s.length ≤ 4611686018427387904) : Calls Tryz.prog 42 #[S s] w fun e w' => e = .returned (.bool (Lib.validD s)) ∧ w' = w := by
  have hsz : (⟨s.toArray⟩ : ByteArray).size = s.length := size_mk s
  obtain ⟨V, hV⟩ : ∃ V, Lib.validD s = V := ⟨_, rfl⟩
  have HV := Lib.hid hV
  rw [hV]
  clear hV
  go_enter Tryz.func42, Tryz.ntmps42
  go_wp2
  go_loopg [3] s.length (fun q a wr => ∃ j : Nat, a = .int .i64 j ∧ j ≤ s.length ∧ q = s.length - j ∧ Hid (Lib.validD (s.drop j) = V) ∧ wr = w)
  case atStart => exact ⟨0, rfl, by omega, by omega, Lib.hid (by rw [List.drop_zero]; exact HV.out), rfl⟩
  case round =>
    clear HV
    obtain ⟨j, rfl, hjl, rfl, H, rfl⟩ := hrel
    by_cases hlt : j < s.length
    · have LA := Lib.hid (refletter_any s j wr hl hlt)
      have hne : s.drop j ≠ [] := fun e => by have := congrArg List.length e; rw [List.length_drop, List.length_nil] at this; omega
      have hstep := validD_letW (s.drop j) hne
      rcases letterP_eq (s := s) (i := j) rfl with ⟨k, e1, e2⟩ | ⟨e1, p, e2⟩
      · have hk := letW_some e1
        rw [List.length_drop] at hk
        have hk1 : 1 ≤ k := hk.1
        have hk2 : j + k ≤ s.length := by omega
        have HN : Hid (Lib.validD (s.drop (j + k)) = V) := Lib.hid (by rw [← H.out, hstep, e1]; simp [List.drop_drop])
        rw [e2] at LA
        clear hstep hne e1 e2 H hk
        go_wp2_with (refine LA.out.mono ?_; rintro e w1 ⟨rfl, rfl⟩)
        go_roundg (s.length - (j + k))
        case rel => exact ⟨j + k, rfl, hk2, rfl, HN, rfl⟩
        case measure => omega
      · have HN : Hid (V = false) := Lib.hid (by rw [← H.out, hstep, e1])
        rw [e2] at LA
        clear hstep hne e1 e2 H
        go_wp2_with (refine LA.out.mono ?_; rintro e w1 ⟨rfl, rfl⟩)
        refine bodyPost_ret (v := .bool false) (by simp [results, Tryz.results42, go_sem]) rfl ?_
        exact ⟨by rw [HN.out], rfl⟩
    · obtain rfl : j = s.length := by omega
      have HN : Hid (V = true) := Lib.hid (by rw [← H.out, List.drop_length]; rfl)
      clear H
      go_wp2
      refine bodyPost_ret (v := .bool true) (by simp [results, Tryz.results42, go_sem]) rfl ?_
      exact ⟨by rw [HN.out], rfl⟩
end Go.Proofs.YtmajpambfblhnaaGreatDoor
