/- Walks of wire (layer 5), third part: small letters. -/
import Derived.Test.YtaomhkgdbobpkaaGreatDoorWiW2
namespace Go.Proofs.YtaomhkgdbobpkaaGreatDoor
open Go.RowKit Wi

/-- The block B holds the bytes of s, the first i of which are small letters. -/
def LowAt (B : Nat) (s : List UInt8) (i : Nat) (w : World) : Prop := ∃ (cs : Array Value) (fz : Nat × Nat), w.heap[B]? = some (.cells cs 5 fz) ∧ s.length ≤ fz.1 ∧ ∀ (j : Nat) c, s[j]? = some c → cs[j]? = some (.int .u8 (if j < i then lowC c else c).toNat)
theorem LowAt.new (w : World) (s : List UInt8) (cap : Nat) : LowAt w.heap.size s 0 (w.drew.alloc (.cells (bytesRow ⟨s.toArray⟩ cap) 5 ((bytesRow ⟨s.toArray⟩ cap).size, (bytesRow ⟨s.toArray⟩ cap).size + 1))) := by
  refine ⟨_, _, heap_alloc_new _ _, ?_, fun j c hj => ?_⟩
  · simp [bytesRow]
  · have hl : j < s.length := (List.getElem?_eq_some_iff.1 hj).1
    rw [bytesRow_at ⟨s.toArray⟩ cap j (by simpa using hl)]
    simp only [Nat.not_lt_zero, if_false]
    rw [List.getElem?_eq_getElem hl] at hj
    simp at hj ⊢
    rw [hj]
theorem LowAt.facts {B i : Nat} {s : List UInt8} {w : World} (h : LowAt B s i w) {c : UInt8} (hc : s[i]? = some c) : w.cell? ⟨B, i, none⟩ = some (.int .u8 c.toNat) ∧ w.frozen? ⟨B, i, none⟩ = false := by
  obtain ⟨cs, fz, hb, hl, hcs⟩ := h
  have hi : i < s.length := (List.getElem?_eq_some_iff.1 hc).1
  have := hcs i c hc
  rw [if_neg (Nat.lt_irrefl i)] at this
  refine ⟨?_, ?_⟩
  · unfold World.cell?; rw [hb]; exact this
  · unfold World.frozen?; rw [hb]; simp; omega
theorem LowAt.same {B i : Nat} {s : List UInt8} {w : World} (h : LowAt B s i w) {c : UInt8} (hc : s[i]? = some c) (hl : lowC c = c) : LowAt B s (i + 1) w := by
  obtain ⟨cs, fz, hb, hf, hcs⟩ := h
  refine ⟨cs, fz, hb, hf, fun j d hj => ?_⟩
  rw [hcs j d hj]
  by_cases e : j = i
  · subst e
    obtain rfl : c = d := Option.some.inj (hc.symm.trans hj)
    rw [if_neg (Nat.lt_irrefl j), if_pos (Nat.lt_succ_self j), hl]
  · by_cases h2 : j < i
    · rw [if_pos h2, if_pos (by omega)]
    · rw [if_neg h2, if_neg (by omega)]
theorem LowAt.put {B i : Nat} {s : List UInt8} {w : World} (h : LowAt B s i w) {c : UInt8} (hc : s[i]? = some c) (v : Value) (hv : v = .int .u8 (lowC c).toNat) : LowAt B s (i + 1) (w.setCell ⟨B, i, none⟩ v) := by
  subst hv
  obtain ⟨cs, fz, hb, hf, hcs⟩ := h
  refine ⟨_, fz, setCell_heap hb _, hf, fun j d hj => ?_⟩
  by_cases e : j = i
  · subst e
    obtain rfl : c = d := Option.some.inj (hc.symm.trans hj)
    have := (Array.getElem?_eq_some_iff.1 (hcs j c hj)).1
    rw [Array.getElem?_setIfInBounds_self_of_lt this, if_pos (Nat.lt_succ_self j)]
  · rw [Array.getElem?_setIfInBounds_ne (fun e' => e e'.symm), hcs j d hj]
    by_cases h2 : j < i
    · rw [if_pos h2, if_pos (by omega)]
    · rw [if_neg h2, if_neg (by omega)]
theorem LowAt.back {B : Nat} {s : List UInt8} {w : World} (h : LowAt B s s.length w) (cap : Nat) : (convert 81 9 (.slice (some ⟨B, 0, none⟩) s.length cap)).run Tryz.prog w = .ok (S (low s)) w := by
  obtain ⟨cs, fz, hb, hf, hcs⟩ := h
  have := run_convert_bytes_back (P := Tryz.prog) w 81 9 5 ⟨B, 0, none⟩ cap (low s) Tryz.underlying81 Tryz.underlying5 Tryz.underlying9 (fun j hj => by
    have hj2 : j < s.length := by simpa [low] using hj
    have h1 := hcs j s[j] (List.getElem?_eq_getElem hj2)
    rw [if_pos hj2] at h1
    have ha : (⟨B, 0, none⟩ : Addr).add j = ⟨B, j, none⟩ := by unfold Addr.add; split <;> simp_all
    rw [ha]
    unfold World.cell?
    rw [hb]
    simp only [low, List.getElem_map]
    exact h1)
  rw [show (low s).length = s.length by simp [low]] at this
  exact this
theorem lowC_no {c : UInt8} (h : ¬ (65 ≤ c ∧ c ≤ 90)) : lowC c = c := by unfold lowC; rw [if_neg h]
theorem low_fin : ∀ c : Fin 256, 65 ≤ UInt8.ofNat c.val ∧ UInt8.ofNat c.val ≤ 90 → ((UInt8.ofNat c.val).toNat : Int) + 97 - 65 = ((lowC (UInt8.ofNat c.val)).toNat : Int) := by decide +kernel
theorem low_is (c : UInt8) (h : 65 ≤ c ∧ c ≤ 90) : (c.toNat : Int) + 97 - 65 = ((lowC c).toNat : Int) := by
  have := low_fin ⟨c.toNat, c.toNat_lt⟩
  simp only [UInt8.ofNat_toNat] at this
  exact this h
set_option maxHeartbeats 2000000 in
set_option maxRecDepth 100000 in
theorem lower_any (s : List UInt8) (w : World) (hs : s.length ≤ 4611686018427387904) :
    Calls Tryz.prog 55 #[S s] w fun e w' => e = .returned (S (low s)) ∧ Kept (fun _ => True) w w' := by
  have hsz : (⟨s.toArray⟩ : ByteArray).size = s.length := size_mk s
  obtain ⟨cap, hcap⟩ : ∃ cap, grownCap w (⟨s.toArray⟩ : ByteArray).size 0 5 = cap := ⟨_, rfl⟩
  have hcv := run_bytes_of_string (P := Tryz.prog) w 9 81 5 ⟨s.toArray⟩ Tryz.underlying9 Tryz.underlying81 Tryz.underlying5
  rw [hcap] at hcv
  have HL := Lib.hid (LowAt.new w s cap)
  obtain ⟨W1, hW1⟩ : ∃ W1, w.drew.alloc (.cells (bytesRow ⟨s.toArray⟩ cap) 5 ((bytesRow ⟨s.toArray⟩ cap).size, (bytesRow ⟨s.toArray⟩ cap).size + 1)) = W1 := ⟨_, rfl⟩
  have hk1 : Kept (fun _ => True) w W1 := by rw [← hW1]; exact ((Kept.refl _ w).drew).alloc _
  rw [hW1] at hcv HL
  rw [hsz] at hcv
  have HK1 := Lib.hid hk1
  clear hk1 hW1 hcap
  go_enter Tryz.func55, Tryz.ntmps55
  go_wp2_with fail
  go_loopg [4, 5, 10] s.length (fun q _ _ n wr => ∃ i : Nat, n = .int .i64 i ∧ q = s.length - i ∧ i ≤ s.length ∧ Hid (LowAt w.heap.size s i wr) ∧ Hid (Kept (fun _ => True) w wr))
  case atStart => exact ⟨0, rfl, rfl, Nat.zero_le _, HL, HK1⟩
  case round =>
    clear HL HK1 hcv
    obtain ⟨i, rfl, rfl, hi, HL, HK⟩ := hrel
    by_cases hlt : i < s.length
    · obtain ⟨c, hc⟩ : ∃ c, s[i]? = some c := ⟨s[i], List.getElem?_eq_getElem hlt⟩
      obtain ⟨f0, f1⟩ := HL.out.facts hc
      by_cases hu : 65 ≤ c ∧ c ≤ 90
      · have hw := low_is c hu
        have h1 : (65 : Int) ≤ (c.toNat : Int) := by have := UInt8.le_iff_toNat_le.1 hu.1; have e : (65 : UInt8).toNat = 65 := rfl; omega
        have h2 : (c.toNat : Int) ≤ 90 := by have := UInt8.le_iff_toNat_le.1 hu.2; have e : (90 : UInt8).toNat = 90 := rfl; omega
        have HP := Lib.hid (HL.out.put hc (.int .u8 ((c.toNat : Int) + 97 - 65)) (by rw [hw]))
        have HK2 := Lib.hid (HK.out.setCell (p := ⟨w.heap.size, i, none⟩) (.inl (Nat.le_refl _)) (.int .u8 ((c.toNat : Int) + 97 - 65)))
        clear hw
        clear hc hu
        go_wp2
        go_roundg (s.length - (i + 1))
        case rel => exact ⟨i + 1, by go_num, rfl, by omega, HP, HK2⟩
        case measure => omega
      · have HP := Lib.hid (HL.out.same hc (lowC_no hu))
        have h1 : ¬ (65 : Int) ≤ (c.toNat : Int) ∨ ¬ (c.toNat : Int) ≤ 90 := by
          by_cases h : 65 ≤ c
          · right; intro h2; exact hu ⟨h, UInt8.le_iff_toNat_le.2 (by have e : (90 : UInt8).toNat = 90 := rfl; omega)⟩
          · left; intro h2; exact h (UInt8.le_iff_toNat_le.2 (by have e : (65 : UInt8).toNat = 65 := rfl; omega))
        clear hc hu
        rcases h1 with h1 | h1
        · go_wp2
          go_roundg (s.length - (i + 1))
          case rel => exact ⟨i + 1, by go_num, rfl, by omega, HP, HK⟩
          case measure => omega
        · by_cases h2 : (65 : Int) ≤ (c.toNat : Int)
          · go_wp2
            go_roundg (s.length - (i + 1))
            case rel => exact ⟨i + 1, by go_num, rfl, by omega, HP, HK⟩
            case measure => omega
          · go_wp2
            go_roundg (s.length - (i + 1))
            case rel => exact ⟨i + 1, by go_num, rfl, by omega, HP, HK⟩
            case measure => omega
    · obtain rfl : i = s.length := by omega
      have hb := HL.out.back cap
      go_wp2
      go_ret
      exact ⟨rfl, HK.out⟩
end Go.Proofs.YtaomhkgdbobpkaaGreatDoor
