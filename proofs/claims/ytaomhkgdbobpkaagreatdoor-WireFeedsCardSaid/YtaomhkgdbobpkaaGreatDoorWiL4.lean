/- Walks of the law of layer 5, fourth part: letters and plain texts made. -/
import Derived.Test.YtaomhkgdbobpkaaGreatDoorWiLX
namespace Go.Proofs.YtaomhkgdbobpkaaGreatDoor
open Go.RowKit Wi

theorem run_at2 (s : List UInt8) (i : Int) (k : Nat) (hi : i = k) (c : UInt8) (hc : s[k]? = some c) (w : World) : (Instr.index 9 (S s) (.int .i64 i)).run Tryz.prog w = .ok (.int .u8 c.toNat) w := by
  subst hi
  exact run_at s k c hc w
theorem Kept.below {w w' : World} (h : Below w.heap.size w w') : Kept (fun _ => True) w w' := Kept.of_below h (Nat.le_refl _)
theorem OwnB.slice_len {e : TypeId} {B : Nat} {a : Option Addr} {m c : Nat} {l : List UInt8} {w : World} (h : OwnB e B (.slice a m c) l w) : m = l.length := by
  rcases h.2 with ⟨h1, h0⟩ | ⟨g, cap, cur, h1, _⟩
  · simp only [Value.slice.injEq] at h1; omega
  · simp only [Value.slice.injEq] at h1; exact h1.2.1
set_option maxHeartbeats 4000000 in
set_option maxRecDepth 100000 in
theorem letters_any (s of : List UInt8) (least most : Nat) (w : World) (hs : s.length ≤ 1099511627776) (ho : 1 ≤ of.length ∧ of.length ≤ 1000) (hm : least ≤ most ∧ most ≤ 1000000) :
    Calls Tryz.prog 45 #[S s, S of, .int .i64 least, .int .i64 most] w fun e w' => (∃ out, e = .returned (S out) ∧ least ≤ out.length ∧ out.length ≤ most ∧ ∀ c ∈ out, c ∈ of) ∧ Kept (fun _ => True) w w' := by
  obtain ⟨ho1, ho2⟩ := ho
  obtain ⟨hm1, hm2⟩ := hm
  have z1 : (⟨s.toArray⟩ : ByteArray).size = s.length := size_mk s
  have z2 : (⟨of.toArray⟩ : ByteArray).size = of.length := size_mk of
  obtain ⟨d0, hd0⟩ : ∃ d, of[0]? = some d := ⟨_, List.getElem?_eq_getElem (by omega : 0 < of.length)⟩
  have HD0 := Lib.hid hd0
  have I0 := run_at2 of 0 0 rfl d0 hd0
  have hnz : ((of.length : Int) == 0) = false := by rw [beq_eq_false_iff_ne]; omega
  clear hd0
  go_enter Tryz.func45, Tryz.ntmps45
  go_wp2_with fail
  go_loopg [9, 10] s.length (fun q v n wr => ∃ (j : Nat) (out : List UInt8), n = .int .i64 j ∧ q = s.length - j ∧ j ≤ s.length ∧ j ≤ most ∧ Hid (out.length = j) ∧ Hid (∀ c ∈ out, c ∈ of) ∧ OwnB 5 w.heap.size v out wr ∧ Hid (Below w.heap.size w wr))
  case atStart => exact ⟨0, [], rfl, rfl, Nat.zero_le _, Nat.zero_le _, Lib.hid rfl, Lib.hid (by simp), OwnB.nil _ _ _, Lib.hid (Below.refl _ _)⟩
  case round =>
    obtain ⟨j, out, rfl, rfl, hj, hjm, HL, HM, hown, HB⟩ := hrel
    obtain ⟨va, vl, vc, rfl⟩ := ownsRow_slice2 hown
    have hz := HB.out.size
    by_cases hlt : j < s.length ∧ j < most
    · obtain ⟨h1, h2⟩ := hlt
      obtain ⟨c, hc⟩ : ∃ c, s[j]? = some c := ⟨_, List.getElem?_eq_getElem h1⟩
      have I1 := run_at s j c hc
      obtain ⟨d, hd⟩ : ∃ d, of[c.toNat % of.length]? = some d := ⟨_, List.getElem?_eq_getElem (Nat.mod_lt _ (by omega))⟩
      have I2 := run_at2 of ((c.toNat : Int) % (of.length : Int)) (c.toNat % of.length) (by omega) d hd
      have I3 := run_at2 of ((c.toNat : Int).tmod (of.length : Int)) (c.toNat % of.length) (by rw [Int.tmod_eq_emod_of_nonneg (by omega)]; omega) d hd
      have HM2 : Hid (∀ x ∈ out ++ [d], x ∈ of) := Lib.hid fun x hx => by
        rcases List.mem_append.1 hx with hx | hx
        · exact HM.out x hx
        · rw [List.mem_singleton.1 hx]; exact List.mem_of_getElem? hd
      have hll : out.length ≤ 1000000 := by rw [HL.out]; omega
      have hc8 : c.toNat < 256 := c.toNat_lt
      clear hc hd
      go_wp2_with (at_builtin; refine wpList_pushes 81 5 Tryz.underlying81 infoByte rfl _ _ rfl w.heap.size out _ [d] _ _ rfl rfl 1 1 rfl _ rfl rfl rfl hown (by simp; omega) hz ?_)
      intro v' w' g1 g2 g3
      go_wp2
      go_roundg (s.length - (j + 1))
      case rel => exact ⟨j + 1, out ++ [d], by go_num, rfl, by omega, by omega, Lib.hid (by simp [HL.out]), HM2, g1, Lib.hid (HB.out.trans g2)⟩
      case measure => omega
    · have hcs : j = s.length ∨ (j < s.length ∧ j = most) := by omega
      have hll : Hid (out.length ≤ most) := Lib.hid (by rw [HL.out]; exact hjm)
      clear hlt HL
      rcases hcs with rfl | ⟨h1, h2⟩
      all_goals
        go_wp2_with fail
        go_loopg [9] (least - out.length) (fun q v wr2 => ∃ (out2 : List UInt8), q = least - out2.length ∧ out2.length ≤ 1000000 ∧ Hid (out2.length ≤ most) ∧ Hid (∀ c ∈ out2, c ∈ of) ∧ OwnB 5 w.heap.size v out2 wr2 ∧ Hid (Below w.heap.size w wr2))
        case atStart => exact ⟨out, rfl, by have := hll.out; omega, hll, HM, hown, HB⟩
        case round =>
          clear hown HM HB hll
          obtain ⟨out2, rfl, hol, HLM, HM, hown, HB⟩ := hrel
          obtain ⟨va2, vl2, vc2, rfl⟩ := ownsRow_slice2 hown
          have hz := HB.out.size
          have hvl := OwnB.slice_len hown
          subst hvl
          by_cases hlt2 : out2.length < least
          · have HM2 : Hid (∀ x ∈ out2 ++ [d0], x ∈ of) := Lib.hid fun x hx => by
              rcases List.mem_append.1 hx with hx | hx
              · exact HM.out x hx
              · rw [List.mem_singleton.1 hx]; exact List.mem_of_getElem? HD0.out
            go_wp2_with (at_builtin; refine wpList_pushes 81 5 Tryz.underlying81 infoByte rfl _ _ rfl w.heap.size out2 _ [d0] _ _ rfl rfl 1 1 rfl _ rfl rfl rfl hown (by simp; omega) hz ?_)
            intro v' w' g1 g2 g3
            go_wp2
            go_roundg (least - (out2 ++ [d0]).length)
            case rel => exact ⟨out2 ++ [d0], rfl, by simp; omega, Lib.hid (by simp; omega), HM2, g1, Lib.hid (HB.out.trans g2)⟩
            case measure => simp; omega
          · have hcv := OwnB.string (P := Tryz.prog) Tryz.underlying81 Tryz.underlying5 Tryz.underlying9 hown
            go_wp2
            go_ret
            exact ⟨⟨out2, rfl, by omega, HLM.out, HM.out⟩, Kept.below HB.out⟩
set_option maxHeartbeats 4000000 in
set_option maxRecDepth 100000 in
theorem plain_any (s : List UInt8) (frm most : Nat) (mz : Int) (hmz : mz = most) (w : World) (_hs : s.length ≤ 1099511627776) (hf : 1 ≤ frm ∧ frm ≤ 126) (hm : most ≤ 1000000) :
    Calls Tryz.prog 46 #[S s, .int .i64 frm, .int .i64 mz] w fun e w' => (∃ out, e = .returned (S out) ∧ out.length ≤ most ∧ ∀ c ∈ out, frm ≤ c.toNat ∧ c.toNat ≤ 126) ∧ Kept (fun _ => True) w w' := by
  subst hmz
  obtain ⟨hf1, hf2⟩ := hf
  have z1 : (⟨s.toArray⟩ : ByteArray).size = s.length := size_mk s
  have hnz : (((127 : Int) - (frm : Int)) == 0) = false := by rw [beq_eq_false_iff_ne]; omega
  go_enter Tryz.func46, Tryz.ntmps46
  go_wp2_with fail
  go_loopg [7, 8] s.length (fun q v n wr => ∃ (j : Nat) (out : List UInt8), n = .int .i64 j ∧ q = s.length - j ∧ j ≤ s.length ∧ j ≤ most ∧ Hid (out.length = j) ∧ Hid (∀ c ∈ out, frm ≤ c.toNat ∧ c.toNat ≤ 126) ∧ OwnB 5 w.heap.size v out wr ∧ Hid (Below w.heap.size w wr))
  case atStart => exact ⟨0, [], rfl, rfl, Nat.zero_le _, Nat.zero_le _, Lib.hid rfl, Lib.hid (by simp), OwnB.nil _ _ _, Lib.hid (Below.refl _ _)⟩
  case round =>
    obtain ⟨j, out, rfl, rfl, hj, hjm, HL, HM, hown, HB⟩ := hrel
    obtain ⟨va, vl, vc, rfl⟩ := ownsRow_slice2 hown
    have hz := HB.out.size
    by_cases hlt : j < s.length ∧ j < most
    · obtain ⟨h1, h2⟩ := hlt
      obtain ⟨c, hc⟩ : ∃ c, s[j]? = some c := ⟨_, List.getElem?_eq_getElem h1⟩
      have I1 := run_at s j c hc
      have hmod := Nat.mod_lt c.toNat (show 0 < 127 - frm by omega)
      obtain ⟨d, hd⟩ : ∃ d : UInt8, d.toNat = frm + c.toNat % (127 - frm) := ⟨UInt8.ofNat (frm + c.toNat % (127 - frm)), by simp; omega⟩
      have hdz : Hid ((frm : Int) + (c.toNat : Int).tmod (127 - (frm : Int)) = (d.toNat : Int)) := Lib.hid (by
        rw [Int.tmod_eq_emod_of_nonneg (by omega)]
        have : ((c.toNat % (127 - frm) : Nat) : Int) = (c.toNat : Int) % (127 - (frm : Int)) := by
          rw [Int.natCast_emod, Int.natCast_sub (by omega)]; rfl
        omega)
      have hdz2 : Hid ((frm : Int) + (c.toNat : Int) % (127 - (frm : Int)) = (d.toNat : Int)) := Lib.hid (by
        have := hdz.out
        rwa [Int.tmod_eq_emod_of_nonneg (by omega)] at this)
      have hd1 : frm ≤ d.toNat ∧ d.toNat ≤ 126 := by omega
      have HM2 : Hid (∀ x ∈ out ++ [d], frm ≤ x.toNat ∧ x.toNat ≤ 126) := Lib.hid fun x hx => by
        rcases List.mem_append.1 hx with hx | hx
        · exact HM.out x hx
        · rw [List.mem_singleton.1 hx]; exact hd1
      have hll : out.length ≤ 1000000 := by rw [HL.out]; omega
      have hc8 : c.toNat < 256 := c.toNat_lt
      have hd8 : d.toNat < 256 := d.toNat_lt
      have E1 := hdz.out
      have E2 := hdz2.out
      clear hc hd hd1 hmod hdz hdz2
      go_wp2_with (at_builtin; refine wpList_pushes 81 5 Tryz.underlying81 infoByte rfl _ _ rfl w.heap.size out _ [d] _ _ (by go_loud (rfl)) rfl 1 1 rfl _ rfl rfl rfl hown (by simp; omega) hz ?_)
      intro v' w' g1 g2 g3
      go_wp2
      go_roundg (s.length - (j + 1))
      case rel => exact ⟨j + 1, out ++ [d], by go_num, rfl, by omega, by omega, Lib.hid (by simp [HL.out]), HM2, g1, Lib.hid (HB.out.trans g2)⟩
      case measure => omega
    · have hcs : j = s.length ∨ (j < s.length ∧ j = most) := by omega
      have hll : Hid (out.length ≤ most) := Lib.hid (by rw [HL.out]; exact hjm)
      have hcv := OwnB.string (P := Tryz.prog) Tryz.underlying81 Tryz.underlying5 Tryz.underlying9 hown
      clear hlt HL
      rcases hcs with rfl | ⟨h1, h2⟩
      all_goals
        go_wp2
        go_ret
        exact ⟨⟨out, rfl, hll.out, HM.out⟩, Kept.below HB.out⟩
theorem low_is32 (c : UInt8) (h : 65 ≤ c ∧ c ≤ 90) : (c.toNat : Int) + 32 = ((lowC c).toNat : Int) := by
  have := low_is c h
  omega
set_option maxHeartbeats 2000000 in
set_option maxRecDepth 100000 in
theorem Small_any (s : List UInt8) (w : World) (hs : s.length ≤ 4611686018427387904) :
    Calls Tryz.prog 56 #[S s] w fun e w' => e = .returned (S (low s)) ∧ Kept (fun _ => True) w w' := by
  have hsz : (⟨s.toArray⟩ : ByteArray).size = s.length := size_mk s
  obtain ⟨cap, hcap⟩ : ∃ cap, grownCap w (⟨s.toArray⟩ : ByteArray).size 0 5 = cap := ⟨_, rfl⟩
  have hcv := run_bytes_of_string (P := Tryz.prog) w 9 81 5 ⟨s.toArray⟩ Tryz.underlying9 Tryz.underlying81 Tryz.underlying5
  rw [hcap] at hcv
  have HL := Lib.hid (LowAt.new w s cap)
  obtain ⟨W1, hW1⟩ : ∃ W1, w.drew.alloc (.cells (bytesRow ⟨s.toArray⟩ cap) 5 ((bytesRow ⟨s.toArray⟩ cap).size, (bytesRow ⟨s.toArray⟩ cap).size + 1)) = W1 := ⟨_, rfl⟩
  have hk1 : Kept (fun _ => True) w W1 := by rw [← hW1]; exact ((Kept.refl _ w).drew).alloc _
  rw [hW1] at hcv HL
  rw [hsz] at hcv
  have HK1 := Lib.hid hk1
  clear hk1 hW1 hcap
  go_enter Tryz.func56, Tryz.ntmps56
  go_wp2_with fail
  go_loopg [4] s.length (fun q n wr => ∃ i : Nat, n = .int .i64 i ∧ q = s.length - i ∧ i ≤ s.length ∧ Hid (LowAt w.heap.size s i wr) ∧ Hid (Kept (fun _ => True) w wr))
  case atStart => exact ⟨0, rfl, rfl, Nat.zero_le _, HL, HK1⟩
  case round =>
    clear HL HK1 hcv
    obtain ⟨i, rfl, rfl, hi, HL, HK⟩ := hrel
    by_cases hlt : i < s.length
    · obtain ⟨c, hc⟩ : ∃ c, s[i]? = some c := ⟨s[i], List.getElem?_eq_getElem hlt⟩
      obtain ⟨f0, f1⟩ := HL.out.facts hc
      by_cases hu : 65 ≤ c ∧ c ≤ 90
      · have hw := low_is32 c hu
        have h1 : (65 : Int) ≤ (c.toNat : Int) := by have := UInt8.le_iff_toNat_le.1 hu.1; have e : (65 : UInt8).toNat = 65 := rfl; omega
        have h2 : (c.toNat : Int) ≤ 90 := by have := UInt8.le_iff_toNat_le.1 hu.2; have e : (90 : UInt8).toNat = 90 := rfl; omega
        have HP := Lib.hid (HL.out.put hc (.int .u8 ((c.toNat : Int) + 32)) (by rw [hw]))
        have HK2 := Lib.hid (HK.out.setCell (p := ⟨w.heap.size, i, none⟩) (.inl (Nat.le_refl _)) (.int .u8 ((c.toNat : Int) + 32)))
        clear hw
        clear hc hu
        go_wp2
        go_roundg (s.length - (i + 1))
        case rel => exact ⟨i + 1, by go_num, rfl, by omega, HP, HK2⟩
        case measure => omega
      · have HP := Lib.hid (HL.out.same hc (lowC_no hu))
        have h1 : ¬ (65 : Int) ≤ (c.toNat : Int) ∨ ¬ (c.toNat : Int) ≤ 90 := by
          by_cases h : 65 ≤ c
          · right; intro h2; exact hu ⟨h, UInt8.le_iff_toNat_le.2 (by have e : (90 : UInt8).toNat = 90 := rfl; omega)⟩
          · left; intro h2; exact h (UInt8.le_iff_toNat_le.2 (by have e : (65 : UInt8).toNat = 65 := rfl; omega))
        clear hc hu
        rcases h1 with h1 | h1
        · go_wp2
          go_roundg (s.length - (i + 1))
          case rel => exact ⟨i + 1, by go_num, rfl, by omega, HP, HK⟩
          case measure => omega
        · by_cases h2 : (65 : Int) ≤ (c.toNat : Int)
          · go_wp2
            go_roundg (s.length - (i + 1))
            case rel => exact ⟨i + 1, by go_num, rfl, by omega, HP, HK⟩
            case measure => omega
          · go_wp2
            go_roundg (s.length - (i + 1))
            case rel => exact ⟨i + 1, by go_num, rfl, by omega, HP, HK⟩
            case measure => omega
    · obtain rfl : i = s.length := by omega
      have hb := HL.out.back cap
      go_wp2
      go_ret
      exact ⟨rfl, HK.out⟩
end Go.Proofs.YtaomhkgdbobpkaaGreatDoor
