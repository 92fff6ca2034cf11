/- Walks of jot's sign and quoted (layer 4). -/
import Derived.Test.YtmajpambfblhnaaGreatDoorJoB1
import Derived.Test.YtmajpambfblhnaaGreatDoorJoPlainB
namespace Go.Proofs.YtmajpambfblhnaaGreatDoor
open Go.RowKit Jo

set_option maxHeartbeats 1000000 in
theorem sign_any (c : UInt8) (w : World) : Calls Tryz.prog 76 #[.int .u8 c.toNat] w fun e w' => e = .returned (.int .u8 (signP c).toNat) ∧ w' = w := by
  rcases sign_eq c with ⟨rfl, h⟩ | ⟨rfl, h⟩ | ⟨rfl, h⟩ | ⟨rfl, h⟩ | ⟨rfl, h⟩ | ⟨rfl, h⟩ | ⟨rfl, h⟩ | ⟨h1, h2, h3, h4, h5, h6, h7, h⟩
  case inr.inr.inr.inr.inr.inr.inr =>
    have q1 := (byte_is c 34 34 rfl).trans (decide_eq_false h1)
    have q2 := (byte_is c 92 92 rfl).trans (decide_eq_false h2)
    have q3 := (byte_is c 8 8 rfl).trans (decide_eq_false h3)
    have q4 := (byte_is c 9 9 rfl).trans (decide_eq_false h4)
    have q5 := (byte_is c 10 10 rfl).trans (decide_eq_false h5)
    have q6 := (byte_is c 12 12 rfl).trans (decide_eq_false h6)
    have q7 := (byte_is c 13 13 rfl).trans (decide_eq_false h7)
    rw [h]
    clear h h1 h2 h3 h4 h5 h6 h7
    go_enter Tryz.func76, Tryz.ntmps76
    go_wp2
    go_ret
    exact ⟨rfl, rfl⟩
  all_goals
    rw [h]
    clear h
    go_enter Tryz.func76, Tryz.ntmps76
    go_wp2
    go_ret
    exact ⟨rfl, rfl⟩
theorem quote_room (s : List UInt8) (j : Nat) (c : UInt8) (h : s[j]? = some c) : ((s.take j).flatMap quoteC).length + (quoteC c).length + 2 ≤ (quoteP s).length := by
  obtain ⟨hj, rfl⟩ := List.getElem?_eq_some_iff.1 h
  have e : s = s.take j ++ (s[j]'hj :: s.drop (j + 1)) := by
    rw [← List.drop_eq_getElem_cons hj]
    exact (List.take_append_drop j s).symm
  have : (quoteP s).length = 2 + (s.flatMap quoteC).length := by unfold quoteP; simp; omega
  rw [this]
  have e2 : (s.flatMap quoteC).length = ((s.take j).flatMap quoteC).length + (quoteC (s[j]'hj)).length + ((s.drop (j + 1)).flatMap quoteC).length := by
    conv => lhs; rw [e]
    rw [List.flatMap_append, List.flatMap_cons, List.length_append, List.length_append]
    omega
  omega

theorem dig_fin : ∀ k : Fin 16, (⟨#[48, 49, 50, 51, 52, 53, 54, 55, 56, 57, 97, 98, 99, 100, 101, 102]⟩ : ByteArray)[k.val]'k.2 = hexD.getD k.val 0 := by decide
theorem dig_at (k : Nat) {h' : k < (⟨#[48, 49, 50, 51, 52, 53, 54, 55, 56, 57, 97, 98, 99, 100, 101, 102]⟩ : ByteArray).size} (h : k < 16) : (⟨#[48, 49, 50, 51, 52, 53, 54, 55, 56, 57, 97, 98, 99, 100, 101, 102]⟩ : ByteArray)[k]'h' = hexD.getD k 0 := dig_fin ⟨k, h⟩

set_option maxHeartbeats 8000000 in
set_option maxRecDepth 100000 in
theorem quoted_any (b : Nat) (s l : List UInt8) (w : World) (h : Bd b l w) (hs : s.length ≤ 1099511627776) (hl : l.length + (quoteP s).length ≤ 1099511627776) :
    Calls Tryz.prog 56 #[.pointer (some ⟨b, 0, none⟩), S s] w fun e w' => e = .returned (.tuple #[]) ∧ Bd b (l ++ quoteP s) w' ∧ KB b w w' := by
  have hsz : (⟨s.toArray⟩ : ByteArray).size = s.length := size_mk s
  have hq2 : 2 ≤ (quoteP s).length := by unfold quoteP; simp
  have HL : Hid (l.length + (quoteP s).length ≤ 1099511627776 ∧ 2 ≤ (quoteP s).length) := Lib.hid ⟨hl, hq2⟩
  clear hl hq2
  go_enter Tryz.func56, Tryz.ntmps56
  go_wp2_with (refine (WriteByte_any b 34 l _ h (by have := HL.out; omega)).mono ?_; rintro e w1 ⟨rfl, hb1, hk1⟩; have HB1 := Lib.hid hb1; have HK1 := Lib.hid hk1; clear hb1 hk1)
  go_loopg [11] s.length (fun q i wr => ∃ j : Nat, i = .int .i64 j ∧ q = s.length - j ∧ j ≤ s.length ∧ Hid (Bd b (l ++ 34 :: (s.take j).flatMap quoteC) wr) ∧ Hid (KB b w wr))
  case atStart => exact ⟨0, rfl, by omega, Nat.zero_le _, Lib.hid (by simpa using HB1.out), HK1⟩
  case round =>
    clear HB1 HK1
    obtain ⟨j, rfl, rfl, hj, hb, hk⟩ := hrel
    by_cases hlt : j < s.length
    · obtain ⟨c, hc⟩ : ∃ c, s[j]? = some c := ⟨s[j]'hlt, List.getElem?_eq_getElem hlt⟩
      have hix := run_index_str (P := Tryz.prog) Tryz.underlying9 ⟨s.toArray⟩ j j rfl (by rw [hsz]; exact hlt) c (List.getElem?_eq_some_iff.1 hc).2
      have HR : Hid (l.length + ((s.take j).flatMap quoteC).length + (quoteC c).length + 2 ≤ 1099511627776) := Lib.hid (by have := quote_room s j c hc; have := HL.out; omega)
      have HN : Hid (l ++ 34 :: (s.take (j + 1)).flatMap quoteC = (l ++ 34 :: (s.take j).flatMap quoteC) ++ quoteC c) := Lib.hid (by rw [List.take_add_one, hc]; simp)
      obtain ⟨L, hL⟩ : ∃ L, l ++ 34 :: (s.take j).flatMap quoteC = L := ⟨_, rfl⟩
      have HLL : Hid (L.length + (quoteC c).length ≤ 1099511627776) := Lib.hid (by rw [← hL]; simp only [List.length_append, List.length_cons]; have := HR.out; omega)
      rw [hL] at hb HN
      clear hc hL HR
      by_cases hs0 : signP c = 0
      · by_cases hc32 : c < 32
        · have HQ : Hid (quoteC c = [92, 117, 48, 48, hexD.getD (c.toNat / 16) 0, hexD.getD (c.toNat % 16) 0]) := Lib.hid (by unfold quoteC; rw [if_neg (by simp [hs0]), if_pos hc32])
          have q32 : decide ((c.toNat : Int) < 32) = true := by
            have : c.toNat < 32 := UInt8.lt_iff_toNat_lt.1 hc32
            simp; omega
          have CS : ∀ w, Calls Tryz.prog 76 #[.int .u8 c.toNat] w fun e w' => e = .returned (.int .u8 0) ∧ w' = w := fun w => (sign_any c w).mono fun e w' h => ⟨by rw [h.1, hs0]; rfl, h.2⟩
          have hcn : c.toNat < 32 := UInt8.lt_iff_toNat_lt.1 hc32
          obtain ⟨h1, e1⟩ : ∃ d, hexD.getD (c.toNat / 16) 0 = d := ⟨_, rfl⟩
          obtain ⟨h2, e2⟩ : ∃ d, hexD.getD (c.toNat % 16) 0 = d := ⟨_, rfl⟩
          clear hc32 hs0
          go_wp2_with (first
            | (go_at_call 76; refine (CS _).mono ?_; rintro e w2 ⟨rfl, rfl⟩)
            | (go_at_call 53; refine (WriteString_any b [92, 117, 48, 48] L _ hb.out (by have := HLL.out; rw [HQ.out] at this; simp only [List.length_cons, List.length_nil] at this ⊢; omega)).mono ?_; rintro e w2 ⟨⟨v, rfl⟩, hb2, hk2⟩; have HB2 := Lib.hid hb2; have HK2 := Lib.hid hk2; clear hb2 hk2)
            | (go_at_call 57; refine (WriteByte_any b _ (L ++ [92, 117, 48, 48] ++ [h1]) _ HB3.out (by have := HLL.out; rw [HQ.out] at this; simp only [List.length_append, List.length_cons, List.length_nil] at this ⊢; omega)).mono ?_; rintro e w4 ⟨rfl, hb4, hk4⟩; rw [dig_at _ (by omega)] at hb4; have HB4 := Lib.hid hb4; have HK4 := Lib.hid hk4; clear hb4 hk4)
            | (go_at_call 57; refine (WriteByte_any b _ (L ++ [92, 117, 48, 48]) _ HB2.out (by have := HLL.out; rw [HQ.out] at this; simp only [List.length_append, List.length_cons, List.length_nil] at this ⊢; omega)).mono ?_; rintro e w3 ⟨rfl, hb3, hk3⟩; rw [dig_at _ (by omega), e1] at hb3; have HB3 := Lib.hid hb3; have HK3 := Lib.hid hk3; clear hb3 hk3))
          go_roundg (s.length - (j + 1))
          case rel => exact ⟨j + 1, by go_num, rfl, by omega, Lib.hid (by rw [HN.out, HQ.out, e1]; have := HB4.out; simpa using this), Lib.hid (KB.trans (KB.trans (KB.trans hk.out HK2.out) HK3.out) HK4.out)⟩
          case measure => omega
        · have HQ : Hid (quoteC c = [c]) := Lib.hid (by unfold quoteC; rw [if_neg (by simp [hs0]), if_neg hc32])
          have q32 : decide ((c.toNat : Int) < 32) = false := by
            have : ¬ c.toNat < 32 := fun e => hc32 (UInt8.lt_iff_toNat_lt.2 e)
            simp; omega
          have q0 : (((signP c).toNat : Int) == 0) = true := by rw [hs0]; rfl
          have q0' : (((signP c).toNat : Int) != 0) = false := by rw [hs0]; rfl
          clear hc32 hs0
          go_wp2_with (first
            | (go_at_call 76; refine (sign_any c _).mono ?_; rintro e w2 ⟨rfl, rfl⟩)
            | (go_at_call 57; refine (WriteByte_any b c L _ hb.out (by have := HLL.out; rw [HQ.out] at this; simpa using this)).mono ?_; rintro e w2 ⟨rfl, hb2, hk2⟩; have HB2 := Lib.hid hb2; have HK2 := Lib.hid hk2; clear hb2 hk2))
          go_roundg (s.length - (j + 1))
          case rel => exact ⟨j + 1, by go_num, rfl, by omega, Lib.hid (by rw [HN.out, HQ.out]; exact HB2.out), Lib.hid (KB.trans hk.out HK2.out)⟩
          case measure => omega
      · have HQ : Hid (quoteC c = [92, signP c]) := Lib.hid (by unfold quoteC; rw [if_pos hs0])
        have q0' : (((signP c).toNat : Int) != 0) = true := by
          have : (signP c).toNat ≠ 0 := fun e => hs0 (UInt8.toNat_inj.1 e)
          simp; omega
        have CS : ∀ w, Calls Tryz.prog 76 #[.int .u8 c.toNat] w fun e w' => e = .returned (.int .u8 (signP c).toNat) ∧ w' = w := fun w => sign_any c w
        clear hs0
        obtain ⟨x, hx⟩ : ∃ x, signP c = x := ⟨_, rfl⟩
        rw [hx] at HQ q0' CS
        clear hx
        go_wp2_with (first
          | (go_at_call 76; refine (CS _).mono ?_; rintro e w2 ⟨rfl, rfl⟩)
          | (go_at_call 57; refine (WriteByte_any b x (L ++ [92]) _ HB2.out (by have := HLL.out; rw [HQ.out] at this; simp only [List.length_append, List.length_cons, List.length_nil] at this ⊢; omega)).mono ?_; rintro e w3 ⟨rfl, hb3, hk3⟩; have HB3 := Lib.hid hb3; have HK3 := Lib.hid hk3; clear hb3 hk3)
          | (go_at_call 57; refine (WriteByte_any b 92 L _ hb.out (by have := HLL.out; rw [HQ.out] at this; simp only [List.length_cons, List.length_nil] at this; omega)).mono ?_; rintro e w2 ⟨rfl, hb2, hk2⟩; have HB2 := Lib.hid hb2; have HK2 := Lib.hid hk2; clear hb2 hk2))
        go_roundg (s.length - (j + 1))
        case rel => exact ⟨j + 1, by go_num, rfl, by omega, Lib.hid (by rw [HN.out, HQ.out]; have := HB3.out; rw [List.append_assoc] at this; exact this), Lib.hid (KB.trans (KB.trans hk.out HK2.out) HK3.out)⟩
        case measure => omega
    · obtain rfl : j = s.length := by omega
      have HB2 := Lib.hid (show Bd b (l ++ 34 :: s.flatMap quoteC) wr by have := hb.out; rwa [List.take_of_length_le (Nat.le_refl _)] at this)
      have HR : Hid ((l ++ 34 :: s.flatMap quoteC).length + 1 ≤ 1099511627776) := Lib.hid (by have := HL.out; unfold quoteP at this; simp only [List.length_append, List.length_cons, List.length_nil] at this ⊢; omega)
      clear hb
      go_wp2_with (refine (WriteByte_any b 34 _ _ HB2.out HR.out).mono ?_; rintro e w3 ⟨rfl, hb3, hk3⟩; have HB3 := Lib.hid hb3; have HK3 := Lib.hid hk3; clear hb3 hk3)
      go_end0
      refine ⟨rfl, ?_, KB.trans hk.out HK3.out⟩
      have := HB3.out
      unfold quoteP
      simpa using this
end Go.Proofs.YtmajpambfblhnaaGreatDoor
