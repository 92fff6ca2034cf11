/- What the proof of this law needs, part 5: walks of the program's functions and plain laws (texts AcS1, AcS2, AcS3, AcS4, AcS5, AcS6, JoVA, JoOA, AcS7, AcS8, AcS9, AcSA, AcSB). -/
import Derived.Test.YtpcgfhleloonfaaGreatDoorZb4
import Derived.WalkMore
import Derived.Lib.SplitLaws
import Derived.Maps.OwnOps
import Derived.Maps.RangeWalk
namespace Go.Proofs.YtpcgfhleloonfaaGreatDoor
open Go.RowKit Jo Ac
/-- A sign of a name. -/
def nameB (n : Nat) : Bool := decide (97 ≤ n ∧ n ≤ 122) || decide (48 ≤ n ∧ n ≤ 57) || n == 45 || n == 95 || n == 46
def nameP (s : List UInt8) : Bool := s.all (fun c => nameB c.toNat) && decide (1 ≤ s.length ∧ s.length ≤ 16)
theorem nameB_cases (n : Nat) : (nameB n = true ∧ ((97 ≤ n ∧ n ≤ 122) ∨ (48 ≤ n ∧ n ≤ 57) ∨ n = 45 ∨ n = 95 ∨ n = 46)) ∨ (nameB n = false ∧ (n < 45 ∨ n = 47 ∨ (58 ≤ n ∧ n ≤ 94) ∨ n = 96 ∨ 122 < n)) := by
  unfold nameB
  by_cases h : (97 ≤ n ∧ n ≤ 122) ∨ (48 ≤ n ∧ n ≤ 57) ∨ n = 45 ∨ n = 95 ∨ n = 46
  · exact .inl ⟨by simp; omega, h⟩
  · refine .inr ⟨by simp; omega, by omega⟩
theorem nameP_bad {s : List UInt8} {i : Nat} {c : UInt8} (h : s[i]? = some c) (hc : nameB c.toNat = false) : nameP s = false := by
  unfold nameP
  have : s.all (fun c => nameB c.toNat) = false := by
    rw [List.all_eq_false]
    exact ⟨c, List.mem_of_getElem? h, by simp [hc]⟩
  rw [this]
  rfl
theorem nameP_all {s : List UInt8} (h : ∀ j, j < s.length → ∀ c, s[j]? = some c → nameB c.toNat = true) : nameP s = decide (1 ≤ s.length ∧ s.length ≤ 16) := by
  unfold nameP
  have : s.all (fun c => nameB c.toNat) = true := by
    rw [List.all_eq_true]
    intro c hc
    obtain ⟨j, hj, rfl⟩ := List.getElem_of_mem hc
    exact h j hj _ (List.getElem?_eq_getElem hj)
  rw [this]
  rfl
theorem enc2_fin : ∀ k : Fin 128, (Utf8.encode (128 + (k.val : Int))).data.size = 2 ∧ 128 ≤ ((Utf8.encode (128 + (k.val : Int))).data.getD 1 0).toNat := by decide +kernel
theorem two_of : ∀ x : ByteArray, x.data.size = 2 → 128 ≤ (x.data.getD 1 0).toNat → ∃ a b, x = ⟨#[a, b]⟩ ∧ 128 ≤ b.toNat
  | ⟨⟨l⟩⟩, h2, h3 => by
    match l, h2 with
    | [a, b], _ => exact ⟨a, b, rfl, h3⟩
theorem enc2 {n : Nat} (h0 : 128 ≤ n) (h1 : n ≤ 255) : ∃ a b, Utf8.encode (n : Int) = ⟨#[a, b]⟩ ∧ 128 ≤ b.toNat := by
  have h := enc2_fin ⟨n - 128, by omega⟩
  have e : (128 + ((n - 128 : Nat) : Int)) = (n : Int) := by omega
  exact two_of _ (by rw [← e]; exact h.1) (by rw [← e]; exact h.2)
set_option maxRecDepth 1000000 in
set_option maxHeartbeats 4000000 in
theorem IndexRune_hi (n : Nat) (w : World) (h0 : 128 ≤ n) (h1 : n ≤ 255) : Calls Tryz.prog 164 #[.string ⟨#[45, 95, 46]⟩, .int .i32 (n : Int)] w fun e w' => e = .returned (.int .i64 (-1)) ∧ ∃ m, w' = w.drewN m := by
  obtain ⟨a, b, hab, hb⟩ := enc2 h0 h1
  have IB := Lib.hid (fun w => Tryz.strings_IndexByte ⟨#[46]⟩ (b.toNat : Int) w)
  have hib : Lib.indexByte [46] (b.toNat : Int).toNat.toUInt8 = -1 := by
    have : b ≠ 46 := fun e => by rw [e] at hb; exact absurd hb (by decide)
    simp [Lib.indexByte, Ne.symm this]
  rw [hib] at IB
  have hv : Lib.validRune (n : Int) = true := by simp [Lib.validRune]; omega
  have VR := Lib.hid (fun w => Tryz.utf8_ValidRune (n : Int) w)
  rw [hv] at VR
  have hn1 : ¬ (n : Int) < 128 := by omega
  have hn0 : (0 : Int) ≤ (n : Int) := by omega
  have hn2 : ((n : Int) == 65533) = false := by simp; omega
  have hb2 : ((95 : Int) != (b.toNat : Int)) = true := by simp; omega
  clear h0 hib hv
  go_enter Tryz.func164, Tryz.ntmps164
  go_wp2_with fail
  refine (VR.out _).mono ?_
  rintro e w' ⟨rfl, rfl⟩
  have hcv : (convert 21 9 (.int .i32 (n : Int))).run Tryz.prog w' = .ok (.string ⟨#[a, b]⟩) w' := by
    simp [convert, run_underlying Tryz.underlying21, run_underlying Tryz.underlying9, Conv.intToString, hab]
  have hs2 : (⟨#[a, b]⟩ : ByteArray).size = 2 := rfl
  have hE : (⟨#[45, 95, 46]⟩ : ByteArray).extract 2 3 = ⟨#[46]⟩ := by rfl
  have ix1 := run_index_str (P := Tryz.prog) Tryz.underlying9 ⟨#[a, b]⟩ 1 1 rfl (by show 1 < 2; decide) b rfl
  have ix2 := run_index_str (P := Tryz.prog) Tryz.underlying9 ⟨#[45, 95, 46]⟩ 1 1 rfl (by decide) 95 rfl
  go_wp2_with fail
  go_wp2_with fail
  refine wp_scope_straight ?_
  go_wp2_with fail
  go_loopg [9] 1 (fun q iv wx => iv = .int .i64 1 ∧ q = 1 ∧ w' = wx)
  case atStart => exact ⟨rfl, rfl, rfl⟩
  case round =>
    obtain ⟨rfl, rfl, rfl⟩ := hrel
    go_wp2_with fail
    refine wp_scope_straight ?_
    go_wp2_with fail
    go_quiet (fail)
    obtain ⟨w2, hw2⟩ : ∃ w2, w'.drewN nq = w2 := ⟨_, rfl⟩
    rw [hw2]
    have HW2 := Lib.hid hw2
    clear hw2
    go_wp2_with fail
    go_quiet (first | (go_at_call 156; with_reducible exact Calls.quiet_of_same (IB.out _)))
    go_wp2
    simp only [Exit.noGoto_ret, go_sem]
    go_ret
    exact ⟨rfl, _, by rw [← HW2.out, drewN_add]⟩
theorem indexByte3 : ∀ k : Fin 128, (decide (0 ≤ Lib.indexByte [45, 95, 46] ((k.val : Int).toNat.toUInt8))) = (k.val == 45 || k.val == 95 || k.val == 46) := by decide
theorem ContainsRune_any (n : Nat) (w : World) (h1 : n ≤ 255) : Calls Tryz.prog 136 #[.string ⟨#[45, 95, 46]⟩, .int .i32 (n : Int)] w fun e w' => e = .returned (.bool (n == 45 || n == 95 || n == 46)) ∧ ∃ m, w' = w.drewN m := by
  by_cases h : n < 128
  · refine (Tryz.strings_ContainsRune_ascii ⟨#[45, 95, 46]⟩ (n : Int) w (by omega) (by omega)).mono ?_
    rintro e w' ⟨rfl, rfl⟩
    exact ⟨congrArg (fun b => Ending.returned (Value.bool b)) (indexByte3 ⟨n, h⟩), 0, rfl⟩
  · have IR := Lib.hid (fun w => IndexRune_hi n w (by omega) h1)
    have hb : (n == 45 || n == 95 || n == 46) = false := by simp; omega
    rw [hb]
    clear hb
    go_enter Tryz.func136, Tryz.ntmps136
    go_wp2_with fail
    refine (IR.out _).mono ?_
    rintro e w' ⟨rfl, m, rfl⟩
    go_wp2
    go_ret
    exact ⟨rfl, m, rfl⟩
end Go.Proofs.YtpcgfhleloonfaaGreatDoor
namespace Go.Proofs.YtpcgfhleloonfaaGreatDoor
open Go.RowKit Jo Ac
set_option maxRecDepth 100000 in
set_option maxHeartbeats 8000000 in
theorem named_any (s : List UInt8) (w : World) (hs : s.length ≤ 16777216) : Calls Tryz.prog 114 #[S s] w fun e w' => e = .returned (.bool (nameP s)) ∧ Kept (fun _ => True) w w' := by
  obtain ⟨N, hN⟩ : ∃ N, s.length = N := ⟨_, rfl⟩
  have hsz : (⟨s.toArray⟩ : ByteArray).size = N := by rw [size_mk, hN]
  have hN1 : N ≤ 16777216 := by omega
  have HN := Lib.hid hN
  have CR := Lib.hid (fun n h w => ContainsRune_any n w h)
  by_cases h0 : N = 0
  · obtain rfl : s = [] := List.eq_nil_of_length_eq_zero (by omega)
    clear hN hs h0
    go_enter Tryz.func114, Tryz.ntmps114
    go_wp2
    go_ret
    exact ⟨rfl, Kept.refl _ _⟩
  · have hne : (s == []) = false := by simp; intro h; rw [h] at hN; exact h0 hN.symm
    clear hN hs
    by_cases h16 : 16 < N
    · have HF : Hid (nameP s = false) := Lib.hid (by unfold nameP; rw [HN.out]; simp; omega)
      have h16i : (16 : Int) < (N : Int) := by omega
      go_enter Tryz.func114, Tryz.ntmps114
      go_wp2
      go_ret
      exact ⟨by rw [HF.out]; rfl, Kept.refl _ _⟩
    · have h16i : ¬ (16 : Int) < (N : Int) := by omega
      go_enter Tryz.func114, Tryz.ntmps114
      go_wp2_with fail
      go_loopg [14] N (fun q iv wx => ∃ i : Nat, iv = .int .i64 (i : Int) ∧ i ≤ N ∧ q = N - i ∧ Hid (∀ j, j < i → ∀ c, s[j]? = some c → nameB c.toNat = true) ∧ Hid (Kept (fun _ => True) w wx))
      case atStart => exact ⟨0, rfl, by omega, rfl, Lib.hid fun j hj => by omega, Lib.hid (Kept.refl _ _)⟩
      case round =>
        obtain ⟨i, rfl, hi, rfl, HM, HK⟩ := hrel
        by_cases hlt : i < N
        · obtain ⟨c, hc⟩ : ∃ c, s[i]? = some c := ⟨_, List.getElem?_eq_getElem (by rw [HN.out]; exact hlt)⟩
          have ix := run_index_str (P := Tryz.prog) Tryz.underlying9 ⟨s.toArray⟩ (i : Int) i rfl (by rw [hsz]; exact hlt) c (List.getElem?_eq_some_iff.1 hc).2
          have hi1 : (i : Int) < (N : Int) := by omega
          have HC := Lib.hid hc
          have hcl := c.toNat_lt
          obtain ⟨n, hn⟩ : ∃ n, c.toNat = n := ⟨_, rfl⟩
          have HCN := Lib.hid hn
          rw [hn] at ix hcl
          have CR2 := Lib.hid (fun w => CR.out n (by omega) w)
          clear hc hn
          rcases nameB_cases n with ⟨hb, ho⟩ | ⟨hb, ho⟩
          · have HM2 : Hid (∀ j, j < i + 1 → ∀ c, s[j]? = some c → nameB c.toNat = true) := Lib.hid fun j hj x hx => by
              by_cases e : j = i
              · rw [e, HC.out] at hx
                obtain rfl := Option.some.inj hx
                rw [HCN.out, hb]
              · exact HM.out j (by omega) x hx
            clear hb
            rcases ho with h | h | rfl | rfl | rfl
            · obtain ⟨h1, h2⟩ := h
              have q1 : (97 : Int) ≤ (n : Int) := by omega
              have q2 : (n : Int) ≤ 122 := by omega
              go_wp2
              go_roundg (N - (i + 1))
              case rel => exact ⟨i + 1, by go_num, by omega, rfl, HM2, HK⟩
              case measure => omega
            · obtain ⟨h1, h2⟩ := h
              have q1 : (48 : Int) ≤ (n : Int) := by omega
              have q2 : (n : Int) ≤ 57 := by omega
              go_wp2
              go_roundg (N - (i + 1))
              case rel => exact ⟨i + 1, by go_num, by omega, rfl, HM2, HK⟩
              case measure => omega
            all_goals
              go_wp2_with fail
              refine (CR2.out _).mono ?_
              rintro e w' ⟨rfl, m, rfl⟩
              go_wp2
              go_roundg (N - (i + 1))
              case rel => exact ⟨i + 1, by go_num, by omega, rfl, HM2, Lib.hid (HK.out.drewN m)⟩
              case measure => omega
          · have HF : Hid (nameP s = false) := Lib.hid (nameP_bad HC.out (by rw [HCN.out, hb]))
            have hcr : (n == 45 || n == 95 || n == 46) = false := by simp; omega
            rw [hcr] at CR2
            clear hb hcr
            rcases ho with h | rfl | h | rfl | h
            · have q1 : (n : Int) < 45 := by omega
              go_wp2_with fail
              refine (CR2.out _).mono ?_
              rintro e w' ⟨rfl, m, rfl⟩
              go_wp2
              go_ret
              exact ⟨by rw [HF.out]; rfl, HK.out.drewN m⟩
            · go_wp2_with fail
              refine (CR2.out _).mono ?_
              rintro e w' ⟨rfl, m, rfl⟩
              go_wp2
              go_ret
              exact ⟨by rw [HF.out]; rfl, HK.out.drewN m⟩
            · obtain ⟨h1, h2⟩ := h
              have q1 : (58 : Int) ≤ (n : Int) := by omega
              have q2 : (n : Int) ≤ 94 := by omega
              go_wp2_with fail
              refine (CR2.out _).mono ?_
              rintro e w' ⟨rfl, m, rfl⟩
              go_wp2
              go_ret
              exact ⟨by rw [HF.out]; rfl, HK.out.drewN m⟩
            · go_wp2_with fail
              refine (CR2.out _).mono ?_
              rintro e w' ⟨rfl, m, rfl⟩
              go_wp2
              go_ret
              exact ⟨by rw [HF.out]; rfl, HK.out.drewN m⟩
            · have q1 : (122 : Int) < (n : Int) := by omega
              go_wp2_with fail
              refine (CR2.out _).mono ?_
              rintro e w' ⟨rfl, m, rfl⟩
              go_wp2
              go_ret
              exact ⟨by rw [HF.out]; rfl, HK.out.drewN m⟩
        · obtain rfl : i = N := by omega
          have HF : Hid (nameP s = true) := Lib.hid (by rw [nameP_all fun j hj => HM.out j (by rw [HN.out] at hj; exact hj), HN.out]; simp; omega)
          go_wp2
          go_ret
          exact ⟨by rw [HF.out]; rfl, HK.out⟩
end Go.Proofs.YtpcgfhleloonfaaGreatDoor
namespace Go.Proofs.YtpcgfhleloonfaaGreatDoor
open Go.RowKit Jo Ac
theorem nameP_len {s : List UInt8} (h : s.length = 0 ∨ 16 < s.length) : nameP s = false := by
  unfold nameP
  rw [show decide (1 ≤ s.length ∧ s.length ≤ 16) = false by simp; omega, Bool.and_false]
set_option maxRecDepth 100000 in
set_option maxHeartbeats 8000000 in
theorem isName_any (s : List UInt8) (w : World) (hs : s.length ≤ 16777216) : Calls Tryz.prog 32 #[S s] w fun e w' => e = .returned (.bool (nameP s)) ∧ Kept (fun _ => True) w w' := by
  obtain ⟨N, hN⟩ : ∃ N, s.length = N := ⟨_, rfl⟩
  have hsz : (⟨s.toArray⟩ : ByteArray).size = N := by rw [size_mk, hN]
  have hN1 : N ≤ 16777216 := by omega
  have HN := Lib.hid hN
  clear hN hs
  go_enter Tryz.func32, Tryz.ntmps32
  go_wp2_with (first | (refine wpList_bytes 9 84 5 Tryz.underlying9 Tryz.underlying84 Tryz.underlying5 rfl _ rfl s rfl ?_; refine Hid.out ?_))
  refine Lib.hid ?_
  intro v1 w1 ho1 hk1
  obtain ⟨g, cap, cur, fz, hv1, hg1, hrow, h4, h5, h6, h7⟩ := ho1
  rw [HN.out] at hv1
  have hgl : g < w1.heap.size := (Array.getElem?_eq_some_iff.1 hrow).1
  have HC : Hid (∀ j c, s[j]? = some c → w1.cell? ⟨g, j, none⟩ = some (.int .u8 (c.toNat : Int))) := Lib.hid fun j c hj => by
    have hjl := (List.getElem?_eq_some_iff.1 hj).1
    rw [OwnZ.cell (n := 0) (cap := 0) hrow h7 hjl, (List.getElem?_eq_some_iff.1 hj).2]
  have HK1 := Lib.hid hk1
  clear h4 h5 h6 h7 hrow hk1 hg1
  rw [hv1]
  clear hv1
  go_wp2_with fail
  go_loopg [8] N (fun q iv wx => ∃ i : Nat, iv = .int .i64 (i : Int) ∧ i ≤ N ∧ q = N - i ∧ Hid (∀ j, j < i → ∀ c, s[j]? = some c → nameB c.toNat = true) ∧ w1 = wx)
  case atStart => exact ⟨0, rfl, by omega, rfl, Lib.hid fun j hj => by omega, rfl⟩
  case round =>
    obtain ⟨i, rfl, hi, rfl, HM, rfl⟩ := hrel
    by_cases hlt : i < N
    · obtain ⟨c, hc⟩ : ∃ c, s[i]? = some c := ⟨_, List.getElem?_eq_getElem (by rw [HN.out]; exact hlt)⟩
      have c0 := HC.out i c hc
      have hi1 : (i : Int) < (N : Int) := by omega
      have HC := Lib.hid hc
      have hcl := c.toNat_lt
      obtain ⟨n, hn⟩ : ∃ n, c.toNat = n := ⟨_, rfl⟩
      have HCN := Lib.hid hn
      rw [hn] at c0 hcl
      clear hc hn
      rcases nameB_cases n with ⟨hb, ho⟩ | ⟨hb, ho⟩
      · have HM2 : Hid (∀ j, j < i + 1 → ∀ c, s[j]? = some c → nameB c.toNat = true) := Lib.hid fun j hj x hx => by
          by_cases e : j = i
          · rw [e, HC.out] at hx
            obtain rfl := Option.some.inj hx
            rw [HCN.out, hb]
          · exact HM.out j (by omega) x hx
        clear hb
        rcases ho with h | h | rfl | rfl | rfl
        · obtain ⟨h1, h2⟩ := h
          have t1 : decide ((n : Int) < 97) = false := by simp; omega
          have t2 : decide ((122 : Int) < (n : Int)) = false := by simp; omega
          have t3 : decide ((n : Int) < 48) = false := by simp; omega
          have t4 : decide ((57 : Int) < (n : Int)) = true := by simp; omega
          have e1 : ((n : Int) != 45) = true := by simp; omega
          have e2 : ((n : Int) != 95) = true := by simp; omega
          have e3 : ((n : Int) != 46) = true := by simp; omega
          go_wp2
          go_roundg (N - (i + 1))
          case rel => exact ⟨i + 1, by go_num, by omega, rfl, HM2, rfl⟩
          case measure => omega
        · obtain ⟨h1, h2⟩ := h
          have t1 : decide ((n : Int) < 97) = true := by simp; omega
          have t2 : decide ((122 : Int) < (n : Int)) = false := by simp; omega
          have t3 : decide ((n : Int) < 48) = false := by simp; omega
          have t4 : decide ((57 : Int) < (n : Int)) = false := by simp; omega
          have e1 : ((n : Int) != 45) = true := by simp; omega
          have e2 : ((n : Int) != 95) = true := by simp; omega
          have e3 : ((n : Int) != 46) = true := by simp; omega
          go_wp2
          go_roundg (N - (i + 1))
          case rel => exact ⟨i + 1, by go_num, by omega, rfl, HM2, rfl⟩
          case measure => omega
        all_goals
          go_wp2
          go_roundg (N - (i + 1))
          case rel => exact ⟨i + 1, by go_num, by omega, rfl, HM2, rfl⟩
          case measure => omega
      · have HF : Hid (nameP s = false) := Lib.hid (nameP_bad HC.out (by rw [HCN.out, hb]))
        clear hb
        rcases ho with h | rfl | h | rfl | h
        · have t1 : decide ((n : Int) < 97) = true := by simp; omega
          have t2 : decide ((122 : Int) < (n : Int)) = false := by simp; omega
          have t3 : decide ((n : Int) < 48) = true := by simp; omega
          have t4 : decide ((57 : Int) < (n : Int)) = false := by simp; omega
          have e1 : ((n : Int) != 45) = true := by simp; omega
          have e2 : ((n : Int) != 95) = true := by simp; omega
          have e3 : ((n : Int) != 46) = true := by simp; omega
          go_wp2
          go_ret
          exact ⟨by rw [HF.out]; rfl, HK1.out⟩
        · go_wp2
          go_ret
          exact ⟨by rw [HF.out]; rfl, HK1.out⟩
        · obtain ⟨h1, h2⟩ := h
          have t1 : decide ((n : Int) < 97) = true := by simp; omega
          have t2 : decide ((122 : Int) < (n : Int)) = false := by simp; omega
          have t3 : decide ((n : Int) < 48) = false := by simp; omega
          have t4 : decide ((57 : Int) < (n : Int)) = true := by simp; omega
          have e1 : ((n : Int) != 45) = true := by simp; omega
          have e2 : ((n : Int) != 95) = true := by simp; omega
          have e3 : ((n : Int) != 46) = true := by simp; omega
          go_wp2
          go_ret
          exact ⟨by rw [HF.out]; rfl, HK1.out⟩
        · go_wp2
          go_ret
          exact ⟨by rw [HF.out]; rfl, HK1.out⟩
        · have t1 : decide ((n : Int) < 97) = false := by simp; omega
          have t2 : decide ((122 : Int) < (n : Int)) = true := by simp; omega
          have t3 : decide ((n : Int) < 48) = false := by simp; omega
          have t4 : decide ((57 : Int) < (n : Int)) = true := by simp; omega
          have e1 : ((n : Int) != 45) = true := by simp; omega
          have e2 : ((n : Int) != 95) = true := by simp; omega
          have e3 : ((n : Int) != 46) = true := by simp; omega
          go_wp2
          go_ret
          exact ⟨by rw [HF.out]; rfl, HK1.out⟩
    · obtain rfl : i = N := by omega
      have hall := nameP_all (s := s) fun j hj => HM.out j (by rw [HN.out] at hj; exact hj)
      by_cases h0 : i = 0
      · obtain rfl : s = [] := List.eq_nil_of_length_eq_zero (by rw [HN.out]; exact h0)
        subst h0
        clear hall
        rw [show ((0 : Nat) : Int) = 0 from rfl]
        go_wp2
        go_ret
        exact ⟨rfl, HK1.out⟩
      · have hne : (s == []) = false := by simp; intro h; have := HN.out; rw [h] at this; exact h0 this.symm
        have hne2 : (s != []) = true := by simp [bne, hne]
        by_cases h16 : i ≤ 16
        · have HF : Hid (nameP s = true) := Lib.hid (by rw [hall, HN.out]; simp; omega)
          have h16i : (i : Int) ≤ 16 := by omega
          clear hall
          go_wp2
          go_ret
          exact ⟨by rw [HF.out]; rfl, HK1.out⟩
        · have HF : Hid (nameP s = false) := Lib.hid (nameP_len (by rw [HN.out]; omega))
          have h16i : ¬ (i : Int) ≤ 16 := by omega
          clear hall
          go_wp2
          go_ret
          exact ⟨by rw [HF.out]; rfl, HK1.out⟩
end Go.Proofs.YtpcgfhleloonfaaGreatDoor
namespace Go.Proofs.YtpcgfhleloonfaaGreatDoor
open Go.RowKit Jo Ac
/-- A list of texts. -/
def SL (w : World) (v : Value) (l : List (List UInt8)) : Prop := ∃ a c, v = .slice a l.length c ∧ l.length ≤ c ∧ ∀ (j : Nat) s, l[j]? = some s → ∃ b off, a = some ⟨b, off, none⟩ ∧ b < w.heap.size ∧ w.cell? ⟨b, off + j, none⟩ = some (S s)
theorem SL.kept {w w' : World} {v : Value} {l : List (List UInt8)} (h : SL w v l) (hk : Kept (fun _ => True) w w') : SL w' v l := by
  obtain ⟨a, c, h1, h2, h3⟩ := h
  refine ⟨a, c, h1, h2, fun j s hj => ?_⟩
  obtain ⟨b, off, e1, e2, e3⟩ := h3 j s hj
  exact ⟨b, off, e1, Nat.lt_of_lt_of_le e2 hk.size, (hk.cell e2 trivial).trans e3⟩
def risesF : Option (List UInt8) → List (List UInt8) → Bool
  | _, [] => true
  | p, s :: r => nameP s && (match p with | none => true | some t => ltB t s) && risesF (some s) r
def risesP (l : List (List UInt8)) : Bool := risesF none l
def prv (l : List (List UInt8)) (i : Nat) : Option (List UInt8) := if i = 0 then none else l[i - 1]?
theorem prv_next {l : List (List UInt8)} {i : Nat} {s : List UInt8} (h : l[i]? = some s) : prv l (i + 1) = some s := by
  unfold prv
  rw [if_neg (by omega), Nat.add_sub_cancel, h]
theorem drop_consS {α : Type} {l : List α} {i : Nat} {s : α} (h : l[i]? = some s) : l.drop i = s :: l.drop (i + 1) := by
  obtain ⟨h1, h2⟩ := List.getElem?_eq_some_iff.1 h
  rw [List.drop_eq_getElem_cons h1, h2]
theorem rises_names : ∀ (l : List (List UInt8)) (p : Option (List UInt8)), risesF p l = true → ∀ s ∈ l, nameP s = true
  | [], _, _, _, h => by cases h
  | x :: r, p, h, s, hs => by
    unfold risesF at h
    simp only [Bool.and_eq_true] at h
    rcases List.mem_cons.1 hs with rfl | hs
    · exact h.1.1
    · exact rises_names r _ h.2 s hs
theorem name_len {s : List UInt8} (h : nameP s = true) : 1 ≤ s.length ∧ s.length ≤ 16 := by
  unfold nameP at h
  simp only [Bool.and_eq_true, decide_eq_true_eq] at h
  exact h.2
abbrev txP (l : List (List UInt8)) : List UInt8 := Lib.join l [32]
theorem text_next {l : List (List UInt8)} {i : Nat} {s : List UInt8} (h : l[i]? = some s) : txP (l.take (i + 1)) = txP (l.take i) ++ (if i = 0 then [] else [32]) ++ s := by
  cases l with
  | nil => simp at h
  | cons x r =>
    cases i with
    | zero =>
      simp only [List.getElem?_cons_zero, Option.some.injEq] at h
      subst h
      simp [txP, Lib.join_one, Lib.join_nil]
    | succ i =>
      simp only [List.getElem?_cons_succ] at h
      rw [if_neg (by omega)]
      simp only [txP, List.take_succ_cons, Lib.join_cons, Lib.joinTail_take_succ _ _ _ _ h, List.append_assoc]
theorem text_le : ∀ (l : List (List UInt8)), (∀ s ∈ l, s.length ≤ 16) → ∀ i, i ≤ l.length → (txP (l.take i)).length ≤ 17 * i
  | l, _, 0, _ => by simp [txP, Lib.join_nil]
  | l, h, i + 1, hi => by
    have ih := text_le l h i (by omega)
    have hs : l[i]? = some l[i] := List.getElem?_eq_getElem (by omega)
    rw [text_next hs, List.length_append, List.length_append]
    have := h l[i] (List.getElem_mem _)
    split <;> simp <;> omega
def printS (l : List (List UInt8)) : List UInt8 × Int := if risesP l = false then ([], 60) else if 8 < l.length ∨ 60 < (txP l).length then ([], 61) else (txP l, 0)
theorem fold_lt {l : List (List UInt8)} {i : Nat} {s t : List UInt8} (hs : l[i]? = some s) (hi : ¬ i = 0) (ht : l[i - 1]? = some t) : risesF (prv l i) (l.drop i) = (nameP s && ltB t s && risesF (prv l (i + 1)) (l.drop (i + 1))) := by
  rw [drop_consS hs, prv_next hs]
  unfold prv
  rw [if_neg hi, ht]
  rfl
theorem fold_zero {l : List (List UInt8)} {s : List UInt8} (hs : l[0]? = some s) : risesF (prv l 0) (l.drop 0) = (nameP s && risesF (prv l 1) (l.drop 1)) := by
  rw [drop_consS hs, prv_next hs]
  unfold prv
  rw [if_pos rfl, risesF, Bool.and_true]
theorem fold_bad {l : List (List UInt8)} {i : Nat} {s : List UInt8} (hs : l[i]? = some s) (hn : nameP s = false) : risesF (prv l i) (l.drop i) = false := by
  rw [drop_consS hs]
  unfold risesF
  rw [hn]
  rfl
theorem byteArrays (l : List (List UInt8)) : (l.map fun s => (⟨s.toArray⟩ : ByteArray)).map (·.data.toList) = l := by
  rw [List.map_map]
  conv => rhs; rw [← List.map_id l]
  rfl
/-- strings.Join with a space. -/
theorem join_any (v : Value) (l : List (List UInt8)) (w : World) (h : SL w v l) (hn : l.length ≤ 16777216) (hl : (txP l).length ≤ 1000000000) : Calls Tryz.prog 60 #[v, .string ⟨#[32]⟩] w fun e w' => e = .returned (S (txP l)) ∧ Kept (fun _ => True) w w' := by
  obtain ⟨a, c, rfl, hc, hcell⟩ := h
  cases l with
  | nil =>
    refine (Tryz.strings_Join_none a c ⟨#[32]⟩ w).mono ?_
    rintro e w' ⟨rfl, rfl⟩
    exact ⟨rfl, Kept.refl _ _⟩
  | cons x r =>
    obtain ⟨b, off, rfl, hb, -⟩ := hcell 0 x rfl
    have hJ := Tryz.strings_Join b off c ((x :: r).map fun s => (⟨s.toArray⟩ : ByteArray)) ⟨#[32]⟩ w (fun j y hj => by
      rw [List.getElem?_map, Option.map_eq_some_iff] at hj
      obtain ⟨s, hs, rfl⟩ := hj
      obtain ⟨b', off', e1, -, e2⟩ := hcell j s hs
      cases e1
      exact e2) hb (by rw [List.length_map]; omega) (by rw [List.length_map]; exact hc) (by rw [byteArrays]; show (txP (x :: r)).length ≤ _; omega)
    rw [List.length_map, byteArrays] at hJ
    refine hJ.mono ?_
    rintro e w' ⟨rfl, hk⟩
    exact ⟨rfl, Kept.of_below hk (Nat.le_refl _)⟩
set_option maxRecDepth 100000 in
set_option maxHeartbeats 8000000 in
theorem scopePrint_any (v : Value) (l : List (List UInt8)) (w : World) (h : SL w v l) (hn : l.length ≤ 1048576) (hl : ∀ s ∈ l, s.length ≤ 16777216) : Calls Tryz.prog 93 #[v] w fun e w' => e = .returned (.tuple #[S (printS l).1, .int .i64 (printS l).2]) ∧ Kept (fun _ => True) w w' := by
  have JN := Lib.hid (fun w' (hk : Kept (fun _ => True) w w') ht => join_any v l w' (h.kept hk) (by omega) ht)
  obtain ⟨a, c, rfl, hc, hcell⟩ := h
  obtain ⟨N, hN⟩ : ∃ N, l.length = N := ⟨_, rfl⟩
  rw [hN] at JN ⊢
  have HN := Lib.hid hN
  have HL := Lib.hid hl
  have HCC := Lib.hid hcell
  have hn1 : N ≤ 1048576 := by omega
  clear hN hl hcell hn hc
  go_enter Tryz.func93, Tryz.ntmps93
  go_wp2_with fail
  go_loopg [9] N (fun q iv wx => ∃ i : Nat, iv = .int .i64 (i : Int) ∧ i ≤ N ∧ q = N - i ∧ Hid (risesF (prv l i) (l.drop i) = risesP l) ∧ Hid (Kept (fun _ => True) w wx))
  case atStart => exact ⟨0, rfl, by omega, rfl, Lib.hid rfl, Lib.hid (Kept.refl _ _)⟩
  case round =>
    obtain ⟨i, rfl, hi, rfl, HR, HK⟩ := hrel
    by_cases hlt : i < N
    · obtain ⟨s, hs⟩ : ∃ s, l[i]? = some s := ⟨_, List.getElem?_eq_getElem (by rw [HN.out]; exact hlt)⟩
      obtain ⟨b, off, rfl, hb, hcs⟩ := HCC.out i s hs
      have c0 : wr.cell? ⟨b, off + i, none⟩ = some (S s) := (HK.out.cell hb trivial).trans hcs
      have hi1 : (i : Int) < (N : Int) := by omega
      have NM := Lib.hid (fun w => named_any s w (HL.out s (List.mem_of_getElem? hs)))
      have HS := Lib.hid hs
      clear hs hcs
      cases hnm : nameP s with
      | false =>
        have HF : Hid (printS l = ([], 60)) := Lib.hid (by unfold printS; rw [← HR.out, fold_bad HS.out hnm, if_pos rfl])
        rw [hnm] at NM
        clear hnm
        go_wp2_with fail
        refine (NM.out _).mono ?_
        rintro e w2 ⟨rfl, hk2⟩
        go_wp2
        go_ret2
        exact ⟨by rw [HF.out]; rfl, HK.out.tr hk2⟩
      | true =>
        rw [hnm] at NM
        by_cases h0 : i = 0
        · subst h0
          have HR2 : Hid (risesF (prv l 1) (l.drop 1) = risesP l) := Lib.hid (by
            have := HR.out
            rw [fold_zero HS.out, hnm, Bool.true_and] at this
            exact this)
          rw [Nat.add_zero] at c0
          clear hnm
          go_wp2_with fail
          refine (NM.out _).mono ?_
          rintro e w2 ⟨rfl, hk2⟩
          have HK2 := Lib.hid (HK.out.tr hk2)
          clear hk2
          go_wp2
          go_roundg (N - 1)
          case rel => exact ⟨1, by go_num, by omega, rfl, HR2, HK2⟩
          case measure => omega
        · obtain ⟨t, ht⟩ : ∃ t, l[i - 1]? = some t := ⟨_, List.getElem?_eq_getElem (by rw [HN.out]; omega)⟩
          obtain ⟨b', off', e1, hb', hcs'⟩ := HCC.out (i - 1) t ht
          cases e1
          have hfl := fold_lt HS.out h0 ht
          rw [HR.out, hnm, Bool.true_and] at hfl
          have hgi : (0 : Int) < (i : Int) := by omega
          have hix : (i : Int) - 1 = ((i - 1 : Nat) : Int) := by omega
          have hlx : (i : Int) - 1 < (N : Int) := by omega
          clear hnm
          go_wp2_with fail
          refine (NM.out _).mono ?_
          rintro e w2 ⟨rfl, hk2⟩
          have HK2 := Lib.hid (HK.out.tr hk2)
          have c1 : w2.cell? ⟨b, off + (i - 1), none⟩ = some (S t) := (HK2.out.cell hb trivial).trans hcs'
          clear hk2 hcs'
          cases hlb : ltB t s with
          | false =>
            have HF : Hid (printS l = ([], 60)) := Lib.hid (by unfold printS; rw [hfl, hlb, Bool.false_and, if_pos rfl])
            have hbl : Op.bytesLess t s = false := by rw [Jo.bytesLess_eq, hlb]
            clear hlb hfl
            go_wp2
            go_ret2
            exact ⟨by rw [HF.out]; rfl, HK2.out⟩
          | true =>
            have HR2 : Hid (risesF (prv l (i + 1)) (l.drop (i + 1)) = risesP l) := Lib.hid (by rw [hfl, hlb, Bool.true_and])
            have hbl : Op.bytesLess t s = true := by rw [Jo.bytesLess_eq, hlb]
            clear hlb hfl
            go_wp2
            go_roundg (N - (i + 1))
            case rel => exact ⟨i + 1, by go_num, by omega, rfl, HR2, HK2⟩
            case measure => omega
    · obtain rfl : i = N := by omega
      have hrt : risesP l = true := by rw [← HR.out, List.drop_eq_nil_of_le (by rw [HN.out]; exact Nat.le_refl _)]; rfl
      have htl : (txP l).length ≤ 17 * i := by
        have := text_le l (fun s hs => (name_len (rises_names l none hrt s hs)).2) i (by rw [HN.out]; exact Nat.le_refl _)
        rwa [List.take_of_length_le (by rw [HN.out]; exact Nat.le_refl _)] at this
      have JN2 := Lib.hid (JN.out wr HK.out (by omega))
      obtain ⟨t, ht⟩ : ∃ t, txP l = t := ⟨_, rfl⟩
      rw [ht] at JN2 htl
      obtain ⟨T, hT⟩ : ∃ T, t.length = T := ⟨_, rfl⟩
      have htsz : (⟨t.toArray⟩ : ByteArray).size = T := by rw [size_mk, hT]
      have hPS : printS l = if 8 < i ∨ 60 < T then ([], 61) else (t, 0) := by unfold printS; rw [hrt, if_neg (by decide), HN.out, ht, hT]
      have HPS := Lib.hid hPS
      clear hrt ht hT hPS htl
      go_wp2_with fail
      refine JN2.out.mono ?_
      rintro e w2 ⟨rfl, hk2⟩
      have HK2 := Lib.hid (HK.out.tr hk2)
      clear hk2
      by_cases h8 : 8 < i
      · have HF : Hid (printS l = ([], 61)) := Lib.hid (by rw [HPS.out, if_pos (.inl h8)])
        have h8i : (8 : Int) < (i : Int) := by omega
        go_wp2
        go_ret2
        exact ⟨by rw [HF.out]; rfl, HK2.out⟩
      · have h8i : ¬ (8 : Int) < (i : Int) := by omega
        by_cases h60 : 60 < T
        · have HF : Hid (printS l = ([], 61)) := Lib.hid (by rw [HPS.out, if_pos (.inr h60)])
          have h60i : (60 : Int) < (T : Int) := by omega
          go_wp2
          go_ret2
          exact ⟨by rw [HF.out]; rfl, HK2.out⟩
        · have HF : Hid (printS l = (t, 0)) := Lib.hid (by rw [HPS.out, if_neg (by omega)])
          have h60i : ¬ (60 : Int) < (T : Int) := by omega
          go_wp2
          go_ret2
          exact ⟨by rw [HF.out]; rfl, HK2.out⟩
/-- May a list be a scope? -/
def scopeP (l : List (List UInt8)) : Bool := risesP l && decide (l.length ≤ 8) && decide ((txP l).length ≤ 60)
theorem printS_zero (l : List (List UInt8)) : ((printS l).2 == 0) = scopeP l := by
  unfold printS scopeP
  cases risesP l with
  | false => rfl
  | true =>
    rw [if_neg (by decide)]
    by_cases h : 8 < l.length ∨ 60 < (txP l).length
    · rw [if_pos h]
      simp
      omega
    · rw [if_neg h]
      simp
      omega
theorem scopeRight_any (v : Value) (l : List (List UInt8)) (w : World) (h : SL w v l) (hn : l.length ≤ 1048576) (hl : ∀ s ∈ l, s.length ≤ 16777216) : Calls Tryz.prog 59 #[v] w fun e w' => e = .returned (.bool (scopeP l)) ∧ Kept (fun _ => True) w w' := by
  have PR := Lib.hid (scopePrint_any v l w h hn hl)
  have HZ := Lib.hid (printS_zero l)
  obtain ⟨t, ht⟩ : ∃ t, (printS l).1 = t := ⟨_, rfl⟩
  obtain ⟨z, hz⟩ : ∃ z, (printS l).2 = z := ⟨_, rfl⟩
  rw [ht, hz] at PR
  rw [hz] at HZ
  clear ht hz h hl hn
  go_enter Tryz.func59, Tryz.ntmps59
  go_wp2_with fail
  refine PR.out.mono ?_
  rintro e w2 ⟨rfl, hk2⟩
  go_wp2
  go_ret
  exact ⟨by rw [← HZ.out]; rfl, hk2⟩
end Go.Proofs.YtpcgfhleloonfaaGreatDoor
namespace Go.Proofs.YtpcgfhleloonfaaGreatDoor
open Go.RowKit Jo Ac
def fitsP (l : List (List UInt8)) : Bool := decide (l.length ≤ 8) && decide ((txP l).length ≤ 60)
end Go.Proofs.YtpcgfhleloonfaaGreatDoor
namespace Go.Proofs.YtpcgfhleloonfaaGreatDoor
open Go.RowKit Jo Ac
end Go.Proofs.YtpcgfhleloonfaaGreatDoor
namespace Go.Proofs.YtpcgfhleloonfaaGreatDoor
open Go.RowKit Jo
/-- The slice value v holds n values, each one cell. -/
def Row1 (ok : Nat → Prop) (w : World) (v : Value) (n : Nat) (us : Nat → Value) : Prop :=
  (v = .slice none 0 0 ∧ n = 0) ∨ ∃ b cap, v = .slice (some ⟨b, 0, none⟩) n cap ∧ n ≤ cap ∧ ok b ∧ b < w.heap.size ∧ ∀ j, j < n → w.cell? ⟨b, j, none⟩ = some (us j)
/-- The slice value v holds n pairs of a name and a value. -/
def Row2 (ok : Nat → Prop) (w : World) (v : Value) (ns : List (List UInt8)) (us : Nat → Value) : Prop :=
  (v = .slice none 0 0 ∧ ns = []) ∨ ∃ b cap, v = .slice (some ⟨b, 0, none⟩) ns.length cap ∧ ns.length ≤ cap ∧ ok b ∧ b < w.heap.size ∧
    ∀ (j : Nat) l, ns[j]? = some l → w.cell? ⟨b, j * 2, none⟩ = some (S l) ∧ w.cell? ⟨b, j * 2 + 1, none⟩ = some (us j)
/-- The value x as it stands inside, at u; its blocks are all 'ok'. -/
inductive VIn (ok : Nat → Prop) (w : World) : J → Value → Prop where
  | null : VIn ok w J.null (.iface 192 (.agg #[]))
  | fls : VIn ok w J.fls (.iface 193 (.bool false))
  | tru : VIn ok w J.tru (.iface 193 (.bool true))
  | nr (n : Int) : VIn ok w (J.nr n) (.iface 218 (.int .i64 n))
  | tx (l : List UInt8) : VIn ok w (J.tx l) (.iface 194 (S l))
  | list (xs : List J) (v : Value) (us : Nat → Value) (hl : xs.length ≤ 1000000) (hr : Row1 ok w v xs.length us) (h : ∀ (j : Nat) x, xs[j]? = some x → VIn ok w x (us j)) : VIn ok w (J.list xs) (.iface 211 v)
  | obj (ms : List (List UInt8 × J)) (v : Value) (us : Nat → Value) (hl : ms.length ≤ 1000000) (hr : Row2 ok w v (ms.map (·.1)) us) (h : ∀ (j : Nat) m, ms[j]? = some m → VIn ok w m.2 (us j)) : VIn ok w (J.obj ms) (.iface 213 v)
theorem Row1.kept {ok ok2 : Nat → Prop} {w w' : World} {v : Value} {n : Nat} {us : Nat → Value} (h : Row1 ok w v n us) (hk : Kept ok2 w w') (hi : ∀ b, b < w.heap.size → ok b → ok2 b) : Row1 ok w' v n us := by
  rcases h with h | ⟨b, cap, rfl, h1, h2, h3, h4⟩
  · exact .inl h
  · exact .inr ⟨b, cap, rfl, h1, h2, by have := hk.size; omega, fun j hj => (hk.cell h3 (hi b h3 h2)).trans (h4 j hj)⟩
theorem Row2.kept {ok ok2 : Nat → Prop} {w w' : World} {v : Value} {ns : List (List UInt8)} {us : Nat → Value} (h : Row2 ok w v ns us) (hk : Kept ok2 w w') (hi : ∀ b, b < w.heap.size → ok b → ok2 b) : Row2 ok w' v ns us := by
  rcases h with h | ⟨b, cap, rfl, h1, h2, h3, h4⟩
  · exact .inl h
  · exact .inr ⟨b, cap, rfl, h1, h2, by have := hk.size; omega, fun j l hj => ⟨(hk.cell h3 (hi b h3 h2)).trans (h4 j l hj).1, (hk.cell h3 (hi b h3 h2)).trans (h4 j l hj).2⟩⟩
theorem Row1.mono {ok ok2 : Nat → Prop} {w : World} {v : Value} {n : Nat} {us : Nat → Value} (h : Row1 ok w v n us) (hi : ∀ b, b < w.heap.size → ok b → ok2 b) : Row1 ok2 w v n us := by
  rcases h with h | ⟨b, cap, rfl, h1, h2, h3, h4⟩
  · exact .inl h
  · exact .inr ⟨b, cap, rfl, h1, hi b h3 h2, h3, h4⟩
theorem Row2.mono {ok ok2 : Nat → Prop} {w : World} {v : Value} {ns : List (List UInt8)} {us : Nat → Value} (h : Row2 ok w v ns us) (hi : ∀ b, b < w.heap.size → ok b → ok2 b) : Row2 ok2 w v ns us := by
  rcases h with h | ⟨b, cap, rfl, h1, h2, h3, h4⟩
  · exact .inl h
  · exact .inr ⟨b, cap, rfl, h1, hi b h3 h2, h3, h4⟩
theorem VIn.kept {ok ok2 : Nat → Prop} {w w' : World} {x : J} {u : Value} (h : VIn ok w x u) (hk : Kept ok2 w w') (hi : ∀ b, b < w.heap.size → ok b → ok2 b) : VIn ok w' x u := by
  induction h with
  | null => exact .null
  | fls => exact .fls
  | tru => exact .tru
  | nr n => exact .nr n
  | tx l => exact .tx l
  | list xs v us hl hr _ ih => exact .list xs v us hl (hr.kept hk hi) ih
  | obj ms v us hl hr _ ih => exact .obj ms v us hl (hr.kept hk hi) ih
theorem VIn.kept' {ok : Nat → Prop} {w w' : World} {x : J} {u : Value} (h : VIn ok w x u) (hz : w.heap.size ≤ w'.heap.size) (hk : ∀ b, b < w.heap.size → ok b → w'.heap[b]? = w.heap[b]?) : VIn ok w' x u := by
  have hc : ∀ b o, b < w.heap.size → ok b → w'.cell? ⟨b, o, none⟩ = w.cell? ⟨b, o, none⟩ := fun b o hb ho => World.cell?_of_block (a := ⟨b, o, none⟩) (hk b hb ho)
  induction h with
  | null => exact .null
  | fls => exact .fls
  | tru => exact .tru
  | nr n => exact .nr n
  | tx l => exact .tx l
  | list xs v us hl hr _ ih =>
    refine .list xs v us hl ?_ ih
    rcases hr with h | ⟨b, cap, rfl, h1, h2, h3, h4⟩
    · exact .inl h
    · exact .inr ⟨b, cap, rfl, h1, h2, by omega, fun j hj => (hc b _ h3 h2).trans (h4 j hj)⟩
  | obj ms v us hl hr _ ih =>
    refine .obj ms v us hl ?_ ih
    rcases hr with h | ⟨b, cap, rfl, h1, h2, h3, h4⟩
    · exact .inl h
    · exact .inr ⟨b, cap, rfl, h1, h2, by omega, fun j l hj => ⟨(hc b _ h3 h2).trans (h4 j l hj).1, (hc b _ h3 h2).trans (h4 j l hj).2⟩⟩
theorem VIn.mono {ok ok2 : Nat → Prop} {w : World} {x : J} {u : Value} (h : VIn ok w x u) (hi : ∀ b, b < w.heap.size → ok b → ok2 b) : VIn ok2 w x u := by
  induction h with
  | null => exact .null
  | fls => exact .fls
  | tru => exact .tru
  | nr n => exact .nr n
  | tx l => exact .tx l
  | list xs v us hl hr _ ih => exact .list xs v us hl (hr.mono hi) ih
  | obj ms v us hl hr _ ih => exact .obj ms v us hl (hr.mono hi) ih
theorem VIn.face {ok : Nat → Prop} {w : World} {x : J} {u : Value} (h : VIn ok w x u) : ∃ t v, u = .iface t v := by
  cases h <;> exact ⟨_, _, rfl⟩
theorem VIn.list_inv {ok : Nat → Prop} {w : World} {x : J} {u : Value} (h : VIn ok w x u) (xs : List J) (hx : x = J.list xs) :
    ∃ v us, u = .iface 211 v ∧ xs.length ≤ 1000000 ∧ Row1 ok w v xs.length us ∧ ∀ (j : Nat) y, xs[j]? = some y → VIn ok w y (us j) := by
  cases h with
  | list xs' v us hl hr h =>
    obtain rfl : xs' = xs := by simpa [J.list] using hx
    exact ⟨v, us, rfl, hl, hr, h⟩
  | _ => simp [J.list, J.null, J.fls, J.tru, J.nr, J.tx, J.obj] at hx
theorem VIn.obj_inv {ok : Nat → Prop} {w : World} {x : J} {u : Value} (h : VIn ok w x u) (ms : List (List UInt8 × J)) (hx : x = J.obj ms) :
    ∃ v us, u = .iface 213 v ∧ ms.length ≤ 1000000 ∧ Row2 ok w v (ms.map (·.1)) us ∧ ∀ (j : Nat) m, ms[j]? = some m → VIn ok w m.2 (us j) := by
  cases h with
  | obj ms' v us hl hr h =>
    have e : ms' = ms := by
      simp only [J.obj, J.mk.injEq, true_and] at hx
      obtain ⟨h1, h2⟩ := hx
      have hlen : ms'.length = ms.length := by simpa using congrArg List.length h1
      apply List.ext_getElem hlen
      intro i hi1 hi2
      have e1 : (ms'.map (·.1))[i]'(by simpa using hi1) = (ms.map (·.1))[i]'(by simpa using hi2) := by simp only [h1]
      have e2 : (ms'.map (·.2))[i]'(by simpa using hi1) = (ms.map (·.2))[i]'(by simpa using hi2) := by simp only [h2]
      rw [List.getElem_map, List.getElem_map] at e1 e2
      exact Prod.ext e1 e2
    subst e
    exact ⟨v, us, rfl, hl, hr, h⟩
  | _ => simp [J.list, J.null, J.fls, J.tru, J.nr, J.tx, J.obj] at hx
theorem infoValue : (Tryz.prog.info? 168).map (fun i => (i.zero, i.size, i.bytes)) = some (some .nilIface, 1, 16) := by kernel_rfl
theorem infoMember : (Tryz.prog.info? 215).map (fun i => (i.zero, i.size, i.bytes)) = some (some (.agg #[S [], .nilIface]), 2, 32) := by kernel_rfl
/-- The values xs stand in the slice value v, a row of the call's own (in a block from B on); what they reach is no part of that row, and lies from B on. -/
def OwnV (B : Nat) (v : Value) (xs : List J) (w : World) : Prop :=
  ∃ us : List Value, us.length = xs.length ∧ w.ownsRow B 168 1 v xs.length us ∧ ∀ (j : Nat) x, xs[j]? = some x → VIn (fun b => B ≤ b ∧ some b ≠ v.ownBlock) w x (us.getD j .nilIface)
theorem OwnV.nil (B : Nat) (w : World) : OwnV B (.slice none 0 0) [] w := ⟨[], rfl, World.ownsRow_nil _ _ _ _, fun j x h => by simp at h⟩
theorem OwnV.kept {B g : Nat} {v : Value} {xs : List J} {w w' : World} (h : OwnV B v xs w) (hk : Kept (· ≠ g) w w') (hg : g < B) : OwnV B v xs w' := by
  obtain ⟨us, h1, h2, h3⟩ := h
  exact ⟨us, h1, ownsRow_kept h2 hk (fun b hb => by have := (h2.lt b hb).1; omega), fun j x hx => (h3 j x hx).kept hk fun b _ hb => by omega⟩
/-- One value more. -/
theorem ownV_push {B : Nat} {v v' : Value} {xs : List J} {us : List Value} {x : J} {u : Value} {w w' : World} (h1 : us.length = xs.length) (h3 : ∀ (j : Nat) x, xs[j]? = some x → VIn (fun b => B ≤ b ∧ some b ≠ v.ownBlock) w x (us.getD j .nilIface))
    (hx : VIn (fun b => B ≤ b ∧ some b ≠ v.ownBlock) w x u) (hr : w'.ownsRow B 168 1 v' (xs.length + 1) (us ++ [u])) (hm : Moved v v' w w') : OwnV B v' (xs ++ [x]) w' := by
  have hkeep : ∀ (y : J) (t : Value), VIn (fun b => B ≤ b ∧ some b ≠ v.ownBlock) w y t → VIn (fun b => B ≤ b ∧ some b ≠ v'.ownBlock) w' y t := by
    intro y t hy
    rcases hm with ⟨e, hk⟩ | ⟨e, hk⟩
    · rw [e]
      have hk2 : ∀ b, b < w.heap.size → (B ≤ b ∧ some b ≠ v.ownBlock) → w'.heap[b]? = w.heap[b]? := fun b hb ho => hk.2 b hb ho.2
      exact (VIn.kept' hy hk.1 hk2)
    · have hk2 : ∀ b, b < w.heap.size → (B ≤ b ∧ some b ≠ v.ownBlock) → w'.heap[b]? = w.heap[b]? := fun b hb _ => hk.2 b hb (by simp)
      have hy2 : VIn (fun b => B ≤ b ∧ some b ≠ v'.ownBlock) w y t := hy.mono fun b hb ho => ⟨ho.1, fun e2 => by have := e b e2.symm; omega⟩
      exact VIn.kept' hy2 hk.1 fun b hb _ => hk.2 b hb (by simp)
  refine ⟨us ++ [u], by simp [h1], by rw [List.length_append]; exact hr, fun j y hy => ?_⟩
  rw [List.getElem?_append] at hy
  by_cases hj : j < xs.length
  · rw [if_pos hj] at hy
    have e : (us ++ [u]).getD j .nilIface = us.getD j .nilIface := by
      rw [List.getD_eq_getElem?_getD, List.getD_eq_getElem?_getD, List.getElem?_append_left (by omega)]
    rw [e]
    exact hkeep _ _ (h3 j y hy)
  · rw [if_neg hj] at hy
    have hj0 : j - xs.length = 0 := by
      have := (List.getElem?_eq_some_iff.1 hy).1
      simp at this
      omega
    obtain rfl : j = xs.length := by omega
    have e : (us ++ [u]).getD xs.length .nilIface = u := by
      rw [List.getD_eq_getElem?_getD, List.getElem?_append_right (by omega), h1]
      simp
    rw [e]
    obtain rfl : x = y := by simpa using hy
    exact hkeep _ _ hx
end Go.Proofs.YtpcgfhleloonfaaGreatDoor
namespace Go.Proofs.YtpcgfhleloonfaaGreatDoor
open Go.RowKit Jo
abbrev Mem := List UInt8 × TypeId × Value
def memEnc (e : Mem) : List Value := [S e.1, .iface e.2.1 e.2.2]
def memCells (es : List Mem) : List Value := es.flatMap memEnc
theorem memCells_len (es : List Mem) : (memCells es).length = es.length * 2 := by
  induction es with
  | nil => rfl
  | cons e r ih => simp only [memCells, memEnc, List.flatMap_cons, List.length_append, List.length_cons, List.length_nil] at ih ⊢; omega
theorem memCells_snoc (es : List Mem) (e : Mem) : memCells (es ++ [e]) = memCells es ++ memEnc e := by simp [memCells]
theorem memCells_at (es : List Mem) : ∀ (j : Nat) (e : Mem), es[j]? = some e → (memCells es)[j * 2]? = some (S e.1) ∧ (memCells es)[j * 2 + 1]? = some (.iface e.2.1 e.2.2) := by
  induction es with
  | nil => intro j e h; simp at h
  | cons x r ih =>
    intro j e h
    cases j with
    | zero => simp at h; subst h; simp [memCells, memEnc]
    | succ j =>
      have := ih j e (by simpa using h)
      have e1 : (j + 1) * 2 = j * 2 + 2 := by omega
      have e2 : memCells (x :: r) = S x.1 :: .iface x.2.1 x.2.2 :: memCells r := by simp [memCells, memEnc]
      rw [e1, e2]
      simpa using this
/-- The members ms stand in the slice value v, a row of the call's own (in a block from B on); what they reach is no part of that row, and lies from B on. -/
def OwnM (B : Nat) (v : Value) (ms : List (List UInt8 × J)) (w : World) : Prop :=
  ∃ es : List Mem, es.length = ms.length ∧ w.ownsRow B 215 2 v ms.length (memCells es) ∧ ∀ (j : Nat) m e, ms[j]? = some m → es[j]? = some e → e.1 = m.1 ∧ VIn (fun b => B ≤ b ∧ some b ≠ v.ownBlock) w m.2 (.iface e.2.1 e.2.2)
theorem OwnM.nil (B : Nat) (w : World) : OwnM B (.slice none 0 0) [] w := ⟨[], rfl, World.ownsRow_nil _ _ _ _, fun j m e h => by simp at h⟩
theorem OwnM.kept {B : Nat} {ok : Nat → Prop} {v : Value} {ms : List (List UInt8 × J)} {w w' : World} (h : OwnM B v ms w) (hk : Kept ok w w') (ho : ∀ b, B ≤ b → ok b) : OwnM B v ms w' := by
  obtain ⟨es, h1, h2, h3⟩ := h
  exact ⟨es, h1, ownsRow_kept h2 hk (fun b hb => ho b (h2.lt b hb).1), fun j m e hm he => ⟨(h3 j m e hm he).1, (h3 j m e hm he).2.kept hk fun b _ hb => ho b hb.1⟩⟩
/-- One member more. -/
theorem ownM_push {B : Nat} {v v' : Value} {ms : List (List UInt8 × J)} {es : List Mem} {m : List UInt8 × J} {e : Mem} {w w' : World} (h1 : es.length = ms.length)
    (h3 : ∀ (j : Nat) m e, ms[j]? = some m → es[j]? = some e → e.1 = m.1 ∧ VIn (fun b => B ≤ b ∧ some b ≠ v.ownBlock) w m.2 (.iface e.2.1 e.2.2))
    (hn : e.1 = m.1) (hx : VIn (fun b => B ≤ b ∧ some b ≠ v.ownBlock) w m.2 (.iface e.2.1 e.2.2)) (hr : w'.ownsRow B 215 2 v' (ms.length + 1) (memCells es ++ memEnc e)) (hm : Moved v v' w w') : OwnM B v' (ms ++ [m]) w' := by
  have hkeep : ∀ (y : J) (t : Value), VIn (fun b => B ≤ b ∧ some b ≠ v.ownBlock) w y t → VIn (fun b => B ≤ b ∧ some b ≠ v'.ownBlock) w' y t := by
    intro y t hy
    rcases hm with ⟨e, hk⟩ | ⟨e, hk⟩
    · rw [e]
      exact VIn.kept' hy hk.1 fun b hb ho => hk.2 b hb ho.2
    · have hy2 : VIn (fun b => B ≤ b ∧ some b ≠ v'.ownBlock) w y t := hy.mono fun b hb ho => ⟨ho.1, fun e2 => by have := e b e2.symm; omega⟩
      exact VIn.kept' hy2 hk.1 fun b hb _ => hk.2 b hb (by simp)
  refine ⟨es ++ [e], by simp [h1], by rw [List.length_append, memCells_snoc]; exact hr, fun j y e' hy he => ?_⟩
  rw [List.getElem?_append] at hy he
  by_cases hj : j < ms.length
  · rw [if_pos hj] at hy
    rw [if_pos (by omega)] at he
    exact ⟨(h3 j y e' hy he).1, hkeep _ _ (h3 j y e' hy he).2⟩
  · rw [if_neg hj] at hy
    rw [if_neg (by omega)] at he
    have hj0 : j - ms.length = 0 := by
      have := (List.getElem?_eq_some_iff.1 hy).1
      simp at this
      omega
    rw [hj0] at hy
    rw [h1, hj0] at he
    obtain rfl : m = y := by simpa using hy
    obtain rfl : e = e' := by simpa using he
    exact ⟨hn, hkeep _ _ hx⟩
theorem ownsRow_view {e : TypeId} {size B n : Nat} {v : Value} {xs : List Value} {w : World} (h : w.ownsRow B e size v n xs) : (v = .slice none 0 0 ∧ n = 0) ∨ ∃ b cap, v = .slice (some ⟨b, 0, none⟩) n cap ∧ n ≤ cap ∧ B ≤ b ∧ b < w.heap.size ∧ ∀ (j : Nat) u, xs[j]? = some u → w.cell? ⟨b, j, none⟩ = some u := by
  rcases h.2 with h2 | ⟨b, cap, cur, e4, e5, e6, e7, e8, e9, e10⟩
  · exact .inl h2
  · refine .inr ⟨b, cap, e4, e7, e5, (Array.getElem?_eq_some_iff.1 e6).1, fun j u hu => ?_⟩
    have := h.cells (g := b) (by rw [e4]; rfl) j u hu
    rwa [show (⟨b, 0, none⟩ : Addr).add j = ⟨b, j, none⟩ from by unfold Addr.add; split <;> simp_all] at this
theorem OwnM.value {B : Nat} {v : Value} {ms : List (List UInt8 × J)} {w : World} (h : OwnM B v ms w) (hl : ms.length ≤ 1000000) : VIn (fun b => B ≤ b) w (J.obj ms) (.iface 213 v) := by
  obtain ⟨es, e1, e2, e3⟩ := h
  refine .obj ms v (fun j => match es[j]? with | some e => .iface e.2.1 e.2.2 | none => .nilIface) hl ?_ (fun j m hm => ?_)
  · rcases ownsRow_view e2 with ⟨rfl, h0⟩ | ⟨b, cap, rfl, h1, h2, h3, h4⟩
    · exact .inl ⟨rfl, by rw [List.eq_nil_of_length_eq_zero h0]; rfl⟩
    · refine .inr ⟨b, cap, by rw [List.length_map], by rw [List.length_map]; exact h1, h2, h3, fun j l hl => ?_⟩
      rw [List.getElem?_map] at hl
      cases hm : ms[j]? with
      | none => rw [hm] at hl; cases hl
      | some m =>
        rw [hm] at hl
        have hj := (List.getElem?_eq_some_iff.1 hm).1
        obtain ⟨e, he⟩ : ∃ e, es[j]? = some e := ⟨es[j]'(by omega), List.getElem?_eq_getElem (by omega)⟩
        obtain ⟨c1, c2⟩ := memCells_at es j e he
        have hn := (e3 j m e hm he).1
        obtain rfl : m.1 = l := by simpa using hl
        simp only [he]
        exact ⟨by rw [← hn]; exact h4 _ _ c1, h4 _ _ c2⟩
  · have hj := (List.getElem?_eq_some_iff.1 hm).1
    obtain ⟨e, he⟩ : ∃ e, es[j]? = some e := ⟨es[j]'(by omega), List.getElem?_eq_getElem (by omega)⟩
    simp only [he]
    exact (e3 j m e hm he).2.mono fun b _ hb => hb.1
end Go.Proofs.YtpcgfhleloonfaaGreatDoor
namespace Go.Proofs.YtpcgfhleloonfaaGreatDoor
open Go.RowKit Jo
theorem infoStr : (Tryz.prog.info? 9).map (fun i => (i.zero, i.size, i.bytes)) = some (some (S []), 1, 16) := by kernel_rfl
theorem infoJot : (Tryz.prog.info? 72).map (fun i => (i.zero, i.size, i.bytes)) = some (some (.agg #[.int .i64 0, .int .i64 0, S [], .slice none 0 0, .slice none 0 0]), 5, 80) := by kernel_rfl
/-- The five cells of a value. -/
abbrev jotV (k n : Int) (t : List UInt8) (nv iv : Value) : Value := .agg #[.int .i64 k, .int .i64 n, S t, nv, iv]
/-- The cells of several values. -/
def jotCells (us : List Value) : List Value := us.flatMap fun u => u.cells.toList
/-- The value x stands at v; each list of it lies in a block of its own; fp: those blocks. -/
inductive JOwn (w : World) : J → Value → List Nat → Prop where
  | mk (k n : Int) (t : List UInt8) (ns : List (List UInt8)) (xs : List J) (nv iv : Value) (us : List Value) (fss : List (List Nat)) (hu : us.length = xs.length) (hf : fss.length = xs.length)
      (hn : w.ownsRow 0 9 1 nv ns.length (ns.map S)) (hi : w.ownsRow 0 72 5 iv xs.length (jotCells us))
      (h : ∀ (j : Nat) x, xs[j]? = some x → JOwn w x (us.getD j .nilIface) (fss.getD j [])) :
      JOwn w (.mk k n t ns xs) (jotV k n t nv iv) (nv.ownBlock.toList ++ iv.ownBlock.toList ++ fss.flatten)
theorem JOwn.form {w : World} {x : J} {v : Value} {fp : List Nat} (h : JOwn w x v fp) : ∃ nv iv, v = jotV x.kind x.num x.text nv iv := by
  cases h with | mk k n t ns xs nv iv us fss hu hf hn hi h => exact ⟨nv, iv, rfl⟩
theorem JOwn.lt {w : World} {x : J} {v : Value} {fp : List Nat} (h : JOwn w x v fp) : ∀ b ∈ fp, b < w.heap.size := by
  induction h with
  | mk k n t ns xs nv iv us fss hu hf hn hi _ ih =>
    intro b hb
    rw [List.mem_append, List.mem_append] at hb
    rcases hb with (hb | hb) | hb
    · exact (hn.lt b (by simpa using hb)).2
    · exact (hi.lt b (by simpa using hb)).2
    · obtain ⟨fs, hfs, hb⟩ := List.mem_flatten.1 hb
      obtain ⟨j, hj, rfl⟩ := List.getElem_of_mem hfs
      have := ih j (xs[j]'(by omega)) (List.getElem?_eq_getElem _) b
      rw [List.getD_eq_getElem?_getD, List.getElem?_eq_getElem hj] at this
      exact this hb
theorem ownsRow_keptL {e : TypeId} {size B n : Nat} {v : Value} {xs : List Value} {w w' : World} (h : w.ownsRow B e size v n xs) (_hz : w.heap.size ≤ w'.heap.size) (hk : ∀ b, v.ownBlock = some b → w'.heap[b]? = w.heap[b]?) : w'.ownsRow B e size v n xs := by
  refine ⟨h.1, ?_⟩
  rcases h.2 with hn | ⟨g, cap, cur, rfl, hB, hgg, rest⟩
  · exact .inl hn
  · exact .inr ⟨g, cap, cur, rfl, hB, (hk g rfl).trans hgg, rest⟩
theorem JOwn.kept {w w' : World} {x : J} {v : Value} {fp : List Nat} (h : JOwn w x v fp) (hz : w.heap.size ≤ w'.heap.size) (hk : ∀ b ∈ fp, w'.heap[b]? = w.heap[b]?) : JOwn w' x v fp := by
  induction h with
  | mk k n t ns xs nv iv us fss hu hf hn hi _ ih =>
    refine .mk k n t ns xs nv iv us fss hu hf (ownsRow_keptL hn hz fun b hb => hk b (by simp [hb])) (ownsRow_keptL hi hz fun b hb => hk b (by simp [hb])) fun j x hx => ih j x hx fun b hb => hk b ?_
    have hj : j < fss.length := by rw [hf]; exact (List.getElem?_eq_some_iff.1 hx).1
    rw [List.getD_eq_getElem?_getD, List.getElem?_eq_getElem hj] at hb
    exact List.mem_append_right _ (List.mem_flatten.2 ⟨_, List.getElem_mem hj, hb⟩)
theorem jotCells_snoc (us : List Value) (u : Value) : jotCells (us ++ [u]) = jotCells us ++ u.cells.toList := by simp [jotCells]
theorem JOwn.five {w : World} {x : J} {v : Value} {fp : List Nat} (h : JOwn w x v fp) : v.cells.size = 5 := by
  obtain ⟨nv, iv, rfl⟩ := h.form; rfl
theorem JOwn.ones {w : World} {x : J} {v : Value} {fp : List Nat} (h : JOwn w x v fp) : ∀ u ∈ v.cells.toList, u.oneCell' = true := by
  cases h with
  | mk k n t ns xs nv iv us fss hu hf hn hi h =>
    intro u hu
    simp [Value.cells] at hu
    have sl : ∀ {e : TypeId} {size n : Nat} {v : Value} {ys : List Value}, w.ownsRow 0 e size v n ys → v.oneCell' = true := by
      intro e size n v ys h
      rcases h.2 with ⟨rfl, _⟩ | ⟨_, _, _, rfl, _⟩ <;> rfl
    rcases hu with rfl | rfl | rfl | rfl | rfl
    · rfl
    · rfl
    · rfl
    · exact sl hn
    · exact sl hi
/-- What a call that hands out a value leaves: all its lists are new, and apart. -/
def JotQ (w : World) (x : J) (e : Ending) (w' : World) : Prop := (∃ v fp, e = .returned v ∧ JOwn w' x v fp ∧ fp.Nodup ∧ ∀ b ∈ fp, w.heap.size ≤ b) ∧ Kept (fun _ => True) w w'
end Go.Proofs.YtpcgfhleloonfaaGreatDoor
namespace Go.Proofs.YtpcgfhleloonfaaGreatDoor
open Go.RowKit Jo
/-- The values xs stand in the slice value iv, a row of the call's own (in a block from B on); their lists lie apart, none in that row nor in block av. -/
def OwnJ (B : Nat) (av : Option Nat) (iv : Value) (xs : List J) (w : World) : Prop :=
  ∃ (us : List Value) (fss : List (List Nat)), us.length = xs.length ∧ fss.length = xs.length ∧ w.ownsRow B 72 5 iv xs.length (jotCells us) ∧
    (∀ (j : Nat) x, xs[j]? = some x → JOwn w x (us.getD j .nilIface) (fss.getD j [])) ∧ fss.flatten.Nodup ∧ ∀ b ∈ fss.flatten, B ≤ b ∧ some b ≠ iv.ownBlock ∧ some b ≠ av
theorem OwnJ.nil (B : Nat) (av : Option Nat) (w : World) : OwnJ B av (.slice none 0 0) [] w := ⟨[], [], rfl, rfl, World.ownsRow_nil _ _ _ _, fun j x h => by simp at h, List.nodup_nil, fun b hb => by simp at hb⟩
theorem mem_flat_lt {fss : List (List Nat)} {w : World} {xs : List J} {us : List Value} (hf : fss.length = xs.length) (h : ∀ (j : Nat) x, xs[j]? = some x → JOwn w x (us.getD j .nilIface) (fss.getD j [])) : ∀ b ∈ fss.flatten, b < w.heap.size := by
  intro b hb
  obtain ⟨fs, hfs, hb⟩ := List.mem_flatten.1 hb
  obtain ⟨j, hj, rfl⟩ := List.getElem_of_mem hfs
  have := (h j (xs[j]'(by omega)) (List.getElem?_eq_getElem _)).lt b
  rw [List.getD_eq_getElem?_getD, List.getElem?_eq_getElem hj] at this
  exact this hb
theorem jown_kept {fss : List (List Nat)} {w w' : World} {xs : List J} {us : List Value} (hf : fss.length = xs.length) (h : ∀ (j : Nat) x, xs[j]? = some x → JOwn w x (us.getD j .nilIface) (fss.getD j []))
    (hz : w.heap.size ≤ w'.heap.size) (hk : ∀ b ∈ fss.flatten, w'.heap[b]? = w.heap[b]?) : ∀ (j : Nat) x, xs[j]? = some x → JOwn w' x (us.getD j .nilIface) (fss.getD j []) := by
  intro j x hx
  refine (h j x hx).kept hz fun b hb => hk b ?_
  have hj : j < fss.length := by rw [hf]; exact (List.getElem?_eq_some_iff.1 hx).1
  rw [List.getD_eq_getElem?_getD, List.getElem?_eq_getElem hj] at hb
  exact List.mem_flatten.2 ⟨_, List.getElem_mem hj, hb⟩
theorem OwnJ.kept {B : Nat} {av : Option Nat} {ok : Nat → Prop} {iv : Value} {xs : List J} {w w' : World} (h : OwnJ B av iv xs w) (hk : Kept ok w w') (ho : ∀ b, B ≤ b → ok b) : OwnJ B av iv xs w' := by
  obtain ⟨us, fss, h1, h2, h3, h4, h5, h6⟩ := h
  exact ⟨us, fss, h1, h2, ownsRow_kept h3 hk (fun b hb => ho b (h3.lt b hb).1), jown_kept h2 h4 hk.size (fun b hb => hk.block b (mem_flat_lt h2 h4 b hb) (ho b (h6 b hb).1)), h5, h6⟩
/-- One value more. -/
theorem ownJ_push {B : Nat} {av : Option Nat} {iv iv' : Value} {xs : List J} {us : List Value} {fss : List (List Nat)} {x : J} {u : Value} {fp : List Nat} {w w' : World} (h1 : us.length = xs.length) (h2 : fss.length = xs.length)
    (h4 : ∀ (j : Nat) x, xs[j]? = some x → JOwn w x (us.getD j .nilIface) (fss.getD j [])) (h5 : fss.flatten.Nodup) (h6 : ∀ b ∈ fss.flatten, B ≤ b ∧ some b ≠ iv.ownBlock ∧ some b ≠ av)
    (hx : JOwn w x u fp) (hnd : fp.Nodup) (hfp : ∀ b ∈ fp, B ≤ b ∧ some b ≠ iv.ownBlock ∧ some b ≠ av ∧ b ∉ fss.flatten)
    (hr : w'.ownsRow B 72 5 iv' (xs.length + 1) (jotCells us ++ u.cells.toList)) (hm : Moved iv iv' w w') : OwnJ B av iv' (xs ++ [x]) w' := by
  have hz : w.heap.size ≤ w'.heap.size := by rcases hm with h | h; · exact h.2.1
                                             · exact h.2.1
  have hkeep : ∀ b, b < w.heap.size → some b ≠ iv.ownBlock → w'.heap[b]? = w.heap[b]? ∧ some b ≠ iv'.ownBlock := by
    intro b hb hne
    rcases hm with ⟨e, hk⟩ | ⟨e, hk⟩
    · exact ⟨hk.2 b hb hne, by rw [e]; exact hne⟩
    · exact ⟨hk.2 b hb (by simp), fun e2 => by have := e b e2.symm; omega⟩
  have hlt := mem_flat_lt h2 h4
  refine ⟨us ++ [u], fss ++ [fp], by simp [h1], by simp [h2], by rw [List.length_append, jotCells_snoc]; exact hr, fun j y hy => ?_, ?_, fun b hb => ?_⟩
  · rw [List.getElem?_append] at hy
    by_cases hj : j < xs.length
    · rw [if_pos hj] at hy
      rw [List.getD_eq_getElem?_getD, List.getElem?_append_left (by omega), ← List.getD_eq_getElem?_getD, List.getD_eq_getElem?_getD (l := fss ++ [fp]), List.getElem?_append_left (by omega), ← List.getD_eq_getElem?_getD]
      exact jown_kept h2 h4 hz (fun b hb => (hkeep b (hlt b hb) (h6 b hb).2.1).1) j y hy
    · rw [if_neg hj] at hy
      have hj0 : j - xs.length = 0 := by
        have := (List.getElem?_eq_some_iff.1 hy).1
        simp at this
        omega
      rw [hj0] at hy
      obtain rfl : x = y := by simpa using hy
      have ej : j = xs.length := by
        have := (List.getElem?_eq_some_iff.1 hy).1
        omega
      subst ej
      rw [List.getD_eq_getElem?_getD, List.getElem?_append_right (by omega), List.getD_eq_getElem?_getD (l := fss ++ [fp]), List.getElem?_append_right (by omega), h1, h2]
      simp only [Nat.sub_self, List.getElem?_cons_zero, Option.getD_some]
      exact hx.kept hz fun b hb => (hkeep b (hx.lt b hb) (hfp b hb).2.1).1
  · rw [List.flatten_append]
    refine List.nodup_append.2 ⟨h5, by simpa using hnd, fun a ha b hb e => ?_⟩
    subst e
    exact (hfp a (by simpa using hb)).2.2.2 ha
  · rw [List.flatten_append, List.mem_append] at hb
    rcases hb with hb | hb
    · exact ⟨(h6 b hb).1, (hkeep b (hlt b hb) (h6 b hb).2.1).2, (h6 b hb).2.2⟩
    · have hb' : b ∈ fp := by simpa using hb
      exact ⟨(hfp b hb').1, (hkeep b (hx.lt b hb') (hfp b hb').2.1).2, (hfp b hb').2.2.1⟩
/-- The row of names has moved. -/
theorem OwnJ.moved {B : Nat} {nv nv' iv : Value} {xs : List J} {w w' : World} (h : OwnJ B nv.ownBlock iv xs w) (hm : Moved nv nv' w w') (hne : ∀ b, nv.ownBlock = some b → some b ≠ iv.ownBlock) : OwnJ B nv'.ownBlock iv xs w' ∧ ∀ b, nv'.ownBlock = some b → some b ≠ iv.ownBlock := by
  obtain ⟨us, fss, h1, h2, h3, h4, h5, h6⟩ := h
  have hlt := mem_flat_lt h2 h4
  have hk := hm.kept
  have hivk : ∀ b, iv.ownBlock = some b → w'.heap[b]? = w.heap[b]? := fun b hb => hk.2 b (h3.lt b hb).2 (fun e => hne b e.symm hb.symm)
  refine ⟨⟨us, fss, h1, h2, ownsRow_keptL h3 hk.1 hivk, jown_kept h2 h4 hk.1 (fun b hb => hk.2 b (hlt b hb) (h6 b hb).2.2), h5, fun b hb => ⟨(h6 b hb).1, (h6 b hb).2.1, ?_⟩⟩, fun b hb e => ?_⟩
  · rcases hm with ⟨e, _⟩ | ⟨e, _⟩
    · rw [e]; exact (h6 b hb).2.2
    · intro e2; have := e b e2.symm; have := hlt b hb; omega
  · rcases hm with ⟨e2, _⟩ | ⟨e2, _⟩
    · exact hne b (e2 ▸ hb) e
    · have := e2 b hb; have := (h3.lt b e.symm).2; omega
/-- The whole value, out of a row of names and a row of items. -/
theorem OwnJ.value {B : Nat} {iv nv : Value} {xs : List J} {ns : List (List UInt8)} {w : World} (k n : Int) (t : List UInt8) (h : OwnJ B nv.ownBlock iv xs w) (hn : w.ownsRow B 9 1 nv ns.length (ns.map S))
    (hne : ∀ b, nv.ownBlock = some b → some b ≠ iv.ownBlock) : ∃ fp, JOwn w (.mk k n t ns xs) (jotV k n t nv iv) fp ∧ fp.Nodup ∧ ∀ b ∈ fp, B ≤ b := by
  obtain ⟨us, fss, h1, h2, h3, h4, h5, h6⟩ := h
  refine ⟨_, .mk k n t ns xs nv iv us fss h1 h2 (ownsRow_base hn (Nat.zero_le _)) (ownsRow_base h3 (Nat.zero_le _)) h4, ?_, fun b hb => ?_⟩
  · refine List.nodup_append.2 ⟨List.nodup_append.2 ⟨?_, ?_, ?_⟩, h5, ?_⟩
    · cases nv.ownBlock <;> simp
    · cases iv.ownBlock <;> simp
    · intro a ha b hb e
      subst e
      have h7 : nv.ownBlock = some a := by simpa using ha
      have h8 : iv.ownBlock = some a := by simpa using hb
      exact hne a h7 h8.symm
    · intro a ha b hb e
      subst e
      rcases List.mem_append.1 ha with ha | ha
      · have h7 : nv.ownBlock = some a := by simpa using ha
        exact (h6 a hb).2.2 h7.symm
      · have h8 : iv.ownBlock = some a := by simpa using ha
        exact (h6 a hb).2.1 h8.symm
  · rw [List.mem_append, List.mem_append] at hb
    rcases hb with (hb | hb) | hb
    · exact (hn.lt b (by simpa using hb)).1
    · exact (h3.lt b (by simpa using hb)).1
    · exact (h6 b hb).1
theorem ownsRow_some {e : TypeId} {size B n : Nat} {v : Value} {xs : List Value} {w : World} (h : w.ownsRow B e size v (n + 1) xs) : ∃ b cap, v = .slice (some ⟨b, 0, none⟩) (n + 1) cap := by
  rcases h.2 with ⟨_, h0⟩ | ⟨b, cap, cur, e4, _⟩
  · omega
  · exact ⟨b, cap, e4⟩
/-- The box of a value that is being made: its five cells. -/
def OutAt (g : Nat) (k n : Int) (t : List UInt8) (nv iv : Value) (w : World) : Prop := w.heap[g]? = some (.cells #[.int .i64 k, .int .i64 n, S t, nv, iv] 72 (0, 0))
theorem OutAt.lt {g : Nat} {k n : Int} {t : List UInt8} {nv iv : Value} {w : World} (h : OutAt g k n t nv iv w) : g < w.heap.size := (Array.getElem?_eq_some_iff.1 h).1
theorem OutAt.new (w : World) (k n : Int) (t : List UInt8) (nv iv : Value) : OutAt w.heap.size k n t nv iv (w.alloc (.cells #[.int .i64 k, .int .i64 n, S t, nv, iv] 72)) := heap_alloc_new w _
theorem OutAt.facts {g : Nat} {k n : Int} {t : List UInt8} {nv iv : Value} {w : World} (h : OutAt g k n t nv iv w) :
    w.cell? ⟨g, 0, none⟩ = some (.int .i64 k) ∧ w.cell? ⟨g, 1, none⟩ = some (.int .i64 n) ∧ w.cell? ⟨g, 2, none⟩ = some (S t) ∧ w.cell? ⟨g, 3, none⟩ = some nv ∧ w.cell? ⟨g, 4, none⟩ = some iv ∧ w.frozen? ⟨g, 3, none⟩ = false ∧ w.frozen? ⟨g, 4, none⟩ = false := by
  unfold OutAt at h
  refine ⟨?_, ?_, ?_, ?_, ?_, frozen_row h 3, frozen_row h 4⟩ <;> rw [cell_of_row w g _ _ _ (0, 0) h] <;> rfl
theorem OutAt.free {g : Nat} {k n : Int} {t : List UInt8} {nv iv : Value} {w : World} (h : OutAt g k n t nv iv w) : w.frozen? ⟨g, 0, none⟩ = false ∧ w.frozen? ⟨g, 1, none⟩ = false ∧ w.frozen? ⟨g, 2, none⟩ = false ∧ w.frozen? ⟨g, 3, none⟩ = false ∧ w.frozen? ⟨g, 4, none⟩ = false :=
  ⟨frozen_row h 0, frozen_row h 1, frozen_row h 2, frozen_row h 3, frozen_row h 4⟩
theorem ownsRow_slice {e : TypeId} {size B n : Nat} {v : Value} {xs : List Value} {w : World} (h : w.ownsRow B e size v n xs) : ∃ a l c, v = .slice a l c := by
  rcases h.2 with ⟨rfl, _⟩ | ⟨b, cap, cur, rfl, _⟩ <;> exact ⟨_, _, _, rfl⟩
theorem OwnJ.slice {B : Nat} {av : Option Nat} {iv : Value} {xs : List J} {w : World} (h : OwnJ B av iv xs w) : ∃ a l c, iv = .slice a l c := by
  obtain ⟨us, fss, h1, h2, h3, _⟩ := h
  exact ownsRow_slice h3
theorem OutAt.kept {g : Nat} {k n : Int} {t : List UInt8} {nv iv : Value} {w w' : World} {ok : Nat → Prop} (h : OutAt g k n t nv iv w) (hk : Kept ok w w') (ho : ok g) : OutAt g k n t nv iv w' := (hk.block g h.lt ho).trans h
theorem OutAt.below {g : Nat} {k n : Int} {t : List UInt8} {nv iv : Value} {B : Nat} {w w' : World} (h : OutAt g k n t nv iv w) (hb : Below B w w') (hg : g < B) : OutAt g k n t nv iv w' := (hb.block g hg).trans h
theorem OutAt.setItems {g : Nat} {k n : Int} {t : List UInt8} {nv iv : Value} {w : World} (h : OutAt g k n t nv iv w) (v : Value) : OutAt g k n t nv v (w.setCell ⟨g, 4, none⟩ v) := (setCell_heap h _).trans rfl
theorem OutAt.setNames {g : Nat} {k n : Int} {t : List UInt8} {nv iv : Value} {w : World} (h : OutAt g k n t nv iv w) (v : Value) : OutAt g k n t v iv (w.setCell ⟨g, 3, none⟩ v) := (setCell_heap h _).trans rfl
theorem JOwn.form2 {w : World} {x : J} {v : Value} {fp : List Nat} (h : JOwn w x v fp) : ∃ na nl nc ia il ic, v = jotV x.kind x.num x.text (.slice na nl nc) (.slice ia il ic) := by
  cases h with | mk k n t ns xs nv iv us fss hu hf hn hi h =>
    obtain ⟨a, b, c, rfl⟩ := ownsRow_slice hn
    obtain ⟨a', b', c', rfl⟩ := ownsRow_slice hi
    exact ⟨a, b, c, a', b', c', rfl⟩
theorem OutAt.five {g : Nat} {k n : Int} {t : List UInt8} {nv iv : Value} {w : World} (h : OutAt g k n t nv iv w) (k' n' : Int) (t' : List UInt8) (nv' iv' : Value) : OutAt g k' n' t' nv' iv' (((((w.setCell ⟨g, 0, none⟩ (.int .i64 k')).setCell ⟨g, 1, none⟩ (.int .i64 n')).setCell ⟨g, 2, none⟩ (S t')).setCell ⟨g, 3, none⟩ nv').setCell ⟨g, 4, none⟩ iv') :=
  (setCell_heap (setCell_heap (setCell_heap (setCell_heap (setCell_heap h _) _) _) _) _).trans rfl
theorem kept_box (w : World) (g : Nat) (a b c d e : Value) : Kept (· ≠ g) w (((((w.setCell ⟨g, 0, none⟩ a).setCell ⟨g, 1, none⟩ b).setCell ⟨g, 2, none⟩ c).setCell ⟨g, 3, none⟩ d).setCell ⟨g, 4, none⟩ e) :=
  (((((Kept.refl _ w).setCell (.inr (by simp)) _).setCell (.inr (by simp)) _).setCell (.inr (by simp)) _).setCell (.inr (by simp)) _).setCell (.inr (by simp)) _
/-- What is handed out at the end: the box's block is written once more, the value stays. -/
theorem JotQ.of {w wr w' : World} {x : J} {v : Value} {B g : Nat} (hv : ∃ fp, JOwn wr x v fp ∧ fp.Nodup ∧ ∀ b ∈ fp, B ≤ b) (_hB : w.heap.size ≤ B) (hg : w.heap.size ≤ g) (hgB : g < B) (hk : Kept (fun _ => True) w wr) (hk' : Kept (· ≠ g) wr w') : JotQ w x (.returned v) w' := by
  obtain ⟨fp, h1, h2, h3⟩ := hv
  refine ⟨⟨v, fp, rfl, h1.kept hk'.size (fun b hb => hk'.block b (h1.lt b hb) (by have := h3 b hb; omega)), h2, fun b hb => by have := h3 b hb; omega⟩, hk.trans hk' fun i hi _ => by omega⟩
end Go.Proofs.YtpcgfhleloonfaaGreatDoor
namespace Go.Proofs.YtpcgfhleloonfaaGreatDoor
open Go.RowKit Jo
/-- What machine integers and lengths allow. -/
def Rng (k n : Int) (t : List UInt8) (ns : List (List UInt8)) (m : Nat) : Prop :=
  -9223372036854775808 ≤ k ∧ k ≤ 9223372036854775807 ∧ -9223372036854775808 ≤ n ∧ n ≤ 9223372036854775807 ∧ t.length ≤ 9223372036854775807 ∧ ns.length ≤ 9223372036854775807 ∧ (∀ l ∈ ns, l.length ≤ 9223372036854775807) ∧ m ≤ 9223372036854775807
/-- A value that may stand in memory. -/
inductive Fine : J → Prop where
  | mk (k n : Int) (t : List UInt8) (ns : List (List UInt8)) (xs : List J) (hr : Rng k n t ns xs.length) (h : ∀ (j : Nat) x, xs[j]? = some x → Fine x) : Fine (.mk k n t ns xs)
/-- The slice value v holds the names ns. -/
def RowS (ok : Nat → Prop) (w : World) (v : Value) (ns : List (List UInt8)) : Prop :=
  (∃ a c, v = .slice a 0 c ∧ ns = []) ∨ ∃ b off cap, v = .slice (some ⟨b, off, none⟩) ns.length cap ∧ ns.length ≤ cap ∧ ok b ∧ b < w.heap.size ∧ ∀ (j : Nat) l, ns[j]? = some l → w.cell? ⟨b, off + j, none⟩ = some (S l)
/-- Five cells are those of u. -/
def Cells5 (w : World) (b o : Nat) (u : Value) : Prop :=
  ∃ k n t na nl nc ia il ic, u = jotV k n t (.slice na nl nc) (.slice ia il ic) ∧ w.cell? ⟨b, o, none⟩ = some (.int .i64 k) ∧ w.cell? ⟨b, o + 1, none⟩ = some (.int .i64 n) ∧ w.cell? ⟨b, o + 2, none⟩ = some (S t) ∧
    w.cell? ⟨b, o + 3, none⟩ = some (.slice na nl nc) ∧ w.cell? ⟨b, o + 4, none⟩ = some (.slice ia il ic)
/-- The slice value v holds n values. -/
def RowJ (ok : Nat → Prop) (w : World) (v : Value) (n : Nat) (us : Nat → Value) : Prop :=
  (∃ a c, v = .slice a 0 c ∧ n = 0) ∨ ∃ b off cap, v = .slice (some ⟨b, off, none⟩) n cap ∧ n ≤ cap ∧ ok b ∧ b < w.heap.size ∧ ∀ j, j < n → Cells5 w b (off + j * 5) (us j)
/-- The value x stands at v; all its lists in blocks that are 'ok'. -/
inductive JIn (ok : Nat → Prop) (w : World) : J → Value → Prop where
  | mk (k n : Int) (t : List UInt8) (ns : List (List UInt8)) (xs : List J) (nv iv : Value) (us : Nat → Value) (hr : Rng k n t ns xs.length) (hn : RowS ok w nv ns) (hi : RowJ ok w iv xs.length us)
      (h : ∀ (j : Nat) x, xs[j]? = some x → JIn ok w x (us j)) : JIn ok w (.mk k n t ns xs) (jotV k n t nv iv)
theorem RowS.kept {ok ok2 : Nat → Prop} {w w' : World} {v : Value} {ns : List (List UInt8)} (h : RowS ok w v ns) (hk : Kept ok2 w w') (hi : ∀ b, b < w.heap.size → ok b → ok2 b) : RowS ok w' v ns := by
  rcases h with h | ⟨b, off, cap, rfl, h1, h2, h3, h4⟩
  · exact .inl h
  · exact .inr ⟨b, off, cap, rfl, h1, h2, by have := hk.size; omega, fun j l hj => (hk.cell h3 (hi b h3 h2)).trans (h4 j l hj)⟩
theorem Cells5.kept {ok : Nat → Prop} {w w' : World} {b o : Nat} {u : Value} (h : Cells5 w b o u) (hk : Kept ok w w') (hb : b < w.heap.size) (ho : ok b) : Cells5 w' b o u := by
  obtain ⟨k, n, t, na, nl, nc, ia, il, ic, e, h0, h1, h2, h3, h4⟩ := h
  exact ⟨k, n, t, na, nl, nc, ia, il, ic, e, (hk.cell hb ho).trans h0, (hk.cell hb ho).trans h1, (hk.cell hb ho).trans h2, (hk.cell hb ho).trans h3, (hk.cell hb ho).trans h4⟩
theorem RowJ.kept {ok ok2 : Nat → Prop} {w w' : World} {v : Value} {n : Nat} {us : Nat → Value} (h : RowJ ok w v n us) (hk : Kept ok2 w w') (hi : ∀ b, b < w.heap.size → ok b → ok2 b) : RowJ ok w' v n us := by
  rcases h with h | ⟨b, off, cap, rfl, h1, h2, h3, h4⟩
  · exact .inl h
  · exact .inr ⟨b, off, cap, rfl, h1, h2, by have := hk.size; omega, fun j hj => (h4 j hj).kept hk h3 (hi b h3 h2)⟩
theorem JIn.kept {ok ok2 : Nat → Prop} {w w' : World} {x : J} {u : Value} (h : JIn ok w x u) (hk : Kept ok2 w w') (hi : ∀ b, b < w.heap.size → ok b → ok2 b) : JIn ok w' x u := by
  induction h with
  | mk k n t ns xs nv iv us hr hn hi2 _ ih => exact .mk k n t ns xs nv iv us hr (hn.kept hk hi) (hi2.kept hk hi) ih
theorem RowS.mono {ok ok2 : Nat → Prop} {w : World} {v : Value} {ns : List (List UInt8)} (h : RowS ok w v ns) (hi : ∀ b, b < w.heap.size → ok b → ok2 b) : RowS ok2 w v ns := by
  rcases h with h | ⟨b, off, cap, rfl, h1, h2, h3, h4⟩
  · exact .inl h
  · exact .inr ⟨b, off, cap, rfl, h1, hi b h3 h2, h3, h4⟩
theorem RowJ.mono {ok ok2 : Nat → Prop} {w : World} {v : Value} {n : Nat} {us : Nat → Value} (h : RowJ ok w v n us) (hi : ∀ b, b < w.heap.size → ok b → ok2 b) : RowJ ok2 w v n us := by
  rcases h with h | ⟨b, off, cap, rfl, h1, h2, h3, h4⟩
  · exact .inl h
  · exact .inr ⟨b, off, cap, rfl, h1, hi b h3 h2, h3, h4⟩
theorem JIn.mono {ok ok2 : Nat → Prop} {w : World} {x : J} {u : Value} (h : JIn ok w x u) (hi : ∀ b, b < w.heap.size → ok b → ok2 b) : JIn ok2 w x u := by
  induction h with
  | mk k n t ns xs nv iv us hr hn hi2 _ ih => exact .mk k n t ns xs nv iv us hr (hn.mono hi) (hi2.mono hi) ih
theorem RowS.slice {ok : Nat → Prop} {w : World} {v : Value} {ns : List (List UInt8)} (h : RowS ok w v ns) : ∃ a c, v = .slice a ns.length c := by
  rcases h with ⟨a, c, rfl, rfl⟩ | ⟨b, off, cap, rfl, _⟩
  · exact ⟨_, _, rfl⟩
  · exact ⟨_, _, rfl⟩
theorem RowJ.slice {ok : Nat → Prop} {w : World} {v : Value} {n : Nat} {us : Nat → Value} (h : RowJ ok w v n us) : ∃ a c, v = .slice a n c := by
  rcases h with ⟨a, c, rfl, rfl⟩ | ⟨b, off, cap, rfl, _⟩
  · exact ⟨_, _, rfl⟩
  · exact ⟨_, _, rfl⟩
/-- The j-th name, where there is one. -/
theorem RowS.at {ok : Nat → Prop} {w : World} {a : Option Addr} {m c : Nat} {ns : List (List UInt8)} (h : RowS ok w (.slice a m c) ns) {j : Nat} (hj : j < ns.length) : ∃ b off, a = some ⟨b, off, none⟩ ∧ b < w.heap.size ∧ ok b ∧ m = ns.length ∧ ∃ l, ns[j]? = some l ∧ w.cell? ⟨b, off + j, none⟩ = some (S l) := by
  rcases h with ⟨a', c', e, rfl⟩ | ⟨b, off, cap, e, h1, h2, h3, h4⟩
  · simp at hj
  · obtain ⟨rfl, rfl, rfl⟩ : a = some ⟨b, off, none⟩ ∧ m = ns.length ∧ c = cap := by simpa using e
    exact ⟨b, off, rfl, h3, h2, rfl, ns[j]'hj, List.getElem?_eq_getElem hj, h4 j _ (List.getElem?_eq_getElem hj)⟩
theorem RowJ.at {ok : Nat → Prop} {w : World} {a : Option Addr} {m c n : Nat} {us : Nat → Value} (h : RowJ ok w (.slice a m c) n us) {j : Nat} (hj : j < n) : ∃ b off, a = some ⟨b, off, none⟩ ∧ b < w.heap.size ∧ ok b ∧ m = n ∧ Cells5 w b (off + j * 5) (us j) := by
  rcases h with ⟨a', c', e, rfl⟩ | ⟨b, off, cap, e, h1, h2, h3, h4⟩
  · omega
  · obtain ⟨rfl, rfl, rfl⟩ : a = some ⟨b, off, none⟩ ∧ m = n ∧ c = cap := by simpa using e
    exact ⟨b, off, rfl, h3, h2, rfl, h4 j hj⟩
/-- What a list of values is made of. -/
theorem JIn.inv {ok : Nat → Prop} {w : World} {x : J} {u : Value} (h : JIn ok w x u) : ∃ na nc ia ic us, u = jotV x.kind x.num x.text (.slice na x.names.length nc) (.slice ia x.items.length ic) ∧ Rng x.kind x.num x.text x.names x.items.length ∧
    RowS ok w (.slice na x.names.length nc) x.names ∧ RowJ ok w (.slice ia x.items.length ic) x.items.length us ∧ ∀ (j : Nat) y, x.items[j]? = some y → JIn ok w y (us j) := by
  cases h with
  | mk k n t ns xs nv iv us hr hn hi h =>
    obtain ⟨na, nc, rfl⟩ := hn.slice
    obtain ⟨ia, ic, rfl⟩ := hi.slice
    exact ⟨na, nc, ia, ic, us, rfl, hr, hn, hi, h⟩
theorem JIn.invM {ok : Nat → Prop} {w : World} {k n : Int} {t : List UInt8} {ns : List (List UInt8)} {xs : List J} {u : Value} (h : JIn ok w (.mk k n t ns xs) u) : ∃ na nc ia ic us, u = jotV k n t (.slice na ns.length nc) (.slice ia xs.length ic) ∧ Rng k n t ns xs.length ∧
    RowS ok w (.slice na ns.length nc) ns ∧ RowJ ok w (.slice ia xs.length ic) xs.length us ∧ ∀ (j : Nat) y, xs[j]? = some y → JIn ok w y (us j) := h.inv
theorem jotCells_at : ∀ (us : List Value) (_h : ∀ u ∈ us, u.cells.size = 5) (j : Nat) (u : Value), us[j]? = some u → ∀ i, i < 5 → (jotCells us)[j * 5 + i]? = u.cells.toList[i]? := by
  intro us
  induction us with
  | nil => intro h j u hj; simp at hj
  | cons v r ih =>
    intro h j u hj i hi
    have h5 : v.cells.toList.length = 5 := by rw [Array.length_toList]; exact h v (by simp)
    have e : jotCells (v :: r) = v.cells.toList ++ jotCells r := by simp [jotCells]
    rw [e]
    cases j with
    | zero =>
      obtain rfl : v = u := by simpa using hj
      rw [List.getElem?_append_left (by omega)]
      simp
    | succ j =>
      rw [List.getElem?_append_right (by omega), show (j + 1) * 5 + i - v.cells.toList.length = j * 5 + i by omega]
      exact ih (fun u hu => h u (by simp [hu])) j u (by simpa using hj) i hi
theorem Fine.inv {x : J} (h : Fine x) : Rng x.kind x.num x.text x.names x.items.length ∧ ∀ (j : Nat) y, x.items[j]? = some y → Fine y := by
  cases h with | mk k n t ns xs hr h => exact ⟨hr, h⟩
theorem JOwn.toIn {w : World} {x : J} {v : Value} {fp : List Nat} (h : JOwn w x v fp) (hf : Fine x) (ok : Nat → Prop) (ho : ∀ b ∈ fp, ok b) : JIn ok w x v := by
  induction h with
  | mk k n t ns xs nv iv us fss hu hfl hn hi h ih =>
    obtain ⟨hr, hfx⟩ := hf.inv
    have hmem : ∀ (j : Nat) x, xs[j]? = some x → us[j]? = some (us.getD j .nilIface) ∧ ∀ b ∈ fss.getD j [], ok b := by
      intro j x hx
      have hj : j < xs.length := (List.getElem?_eq_some_iff.1 hx).1
      refine ⟨by rw [List.getD_eq_getElem?_getD, List.getElem?_eq_getElem (by omega)]; rfl, fun b hb => ho b ?_⟩
      rw [List.getD_eq_getElem?_getD, List.getElem?_eq_getElem (by omega)] at hb
      exact List.mem_append_right _ (List.mem_flatten.2 ⟨_, List.getElem_mem (by omega), hb⟩)
    have h5 : ∀ u ∈ us, u.cells.size = 5 := by
      intro u hu2
      obtain ⟨j, hj, rfl⟩ := List.getElem_of_mem hu2
      have := (h j (xs[j]'(by omega)) (List.getElem?_eq_getElem _)).five
      rwa [List.getD_eq_getElem?_getD, List.getElem?_eq_getElem hj] at this
    refine .mk k n t ns xs nv iv (fun j => us.getD j .nilIface) hr ?_ ?_ fun j x hx => ih j x hx (hfx j x hx) (hmem j x hx).2
    · rcases ownsRow_view hn with ⟨rfl, h0⟩ | ⟨b, cap, rfl, h1, h2, h3, h4⟩
      · exact .inl ⟨_, _, rfl, List.eq_nil_of_length_eq_zero h0⟩
      · exact .inr ⟨b, 0, cap, rfl, h1, ho b (by simp [Value.ownBlock]), h3, fun j l hj => by rw [Nat.zero_add]; exact h4 j _ (by rw [List.getElem?_map, hj]; rfl)⟩
    · rcases ownsRow_view hi with ⟨rfl, h0⟩ | ⟨b, cap, rfl, h1, h2, h3, h4⟩
      · exact .inl ⟨_, _, rfl, h0⟩
      · refine .inr ⟨b, 0, cap, rfl, h1, ho b (by simp [Value.ownBlock]), h3, fun j hj => ?_⟩
        have hx := List.getElem?_eq_getElem hj
        obtain ⟨na, nl, nc, ia, il, ic, e⟩ := (h j _ hx).form2
        refine ⟨_, _, _, na, nl, nc, ia, il, ic, e, ?_⟩
        have hc := fun i hi => jotCells_at us h5 j _ (hmem j _ hx).1 i hi
        rw [e] at hc
        rw [Nat.zero_add]
        exact ⟨h4 _ _ (hc 0 (by omega)), h4 _ _ (hc 1 (by omega)), h4 _ _ (hc 2 (by omega)), h4 _ _ (hc 3 (by omega)), h4 _ _ (hc 4 (by omega))⟩
theorem Kept.drewCell {w w' : World} (hk : Kept (fun _ => True) w.drew w') {b o : Nat} {v : Value} (h : w.cell? ⟨b, o, none⟩ = some v) : w'.cell? ⟨b, o, none⟩ = some v := (hk.cell (cell_isLt h) trivial).trans h
end Go.Proofs.YtpcgfhleloonfaaGreatDoor
namespace Go.Proofs.YtpcgfhleloonfaaGreatDoor
open Go.RowKit Jo Ac
/-- A text, cut at a sign. -/
def spl (d : UInt8) : List UInt8 → List (List UInt8)
  | [] => [[]]
  | c :: s => if c = d then [] :: spl d s else match spl d s with | [] => [[c]] | x :: r => (c :: x) :: r
theorem spl_ne (d : UInt8) : ∀ s, ∃ x r, spl d s = x :: r
  | [] => ⟨[], [], rfl⟩
  | c :: s => by
    unfold spl
    split
    · exact ⟨_, _, rfl⟩
    · obtain ⟨x, r, h⟩ := spl_ne d s
      rw [h]
      exact ⟨_, _, rfl⟩
theorem spl_len (d : UInt8) : ∀ s, (spl d s).length = s.count d + 1
  | [] => rfl
  | c :: s => by
    obtain ⟨x, r, h⟩ := spl_ne d s
    have ih := spl_len d s
    rw [h] at ih
    unfold spl
    rw [h]
    by_cases e : c = d
    · subst e
      rw [if_pos rfl, List.count_cons_self]
      simp only [List.length_cons] at ih ⊢
      omega
    · rw [if_neg e, List.count_cons_of_ne (by simpa using e)]
      simp only [List.length_cons] at ih ⊢
      omega
theorem spl_le (d : UInt8) : ∀ s, ∀ x ∈ spl d s, x.length ≤ s.length
  | [], x, h => by
    simp only [spl, List.mem_singleton] at h
    subst h
    exact Nat.le_refl _
  | c :: s, x, h => by
    obtain ⟨y, r, hy⟩ := spl_ne d s
    have ih := spl_le d s
    unfold spl at h
    rw [hy] at h ih
    split at h
    · rcases List.mem_cons.1 h with rfl | h
      · simp
      · have := ih x h
        simp only [List.length_cons]
        omega
    · rcases List.mem_cons.1 h with rfl | h
      · have := ih y List.mem_cons_self
        simp only [List.length_cons]
        omega
      · have := ih x (List.mem_cons_of_mem _ h)
        simp only [List.length_cons]
        omega
theorem splitK_spl (d : UInt8) : ∀ s : List UInt8, Lib.splitK [d] 0 (s.count d) s = spl d s
  | [] => rfl
  | c :: s => by
    have ih := splitK_spl d s
    unfold spl
    by_cases e : c = d
    · subst e
      have hix : Lib.index (c :: s) [c] = ((0 : Nat) : Int) := by rw [Lib.index]; simp [List.isPrefixOf]
      rw [if_pos rfl, List.count_cons_self, Lib.splitK, hix, if_neg (by simp)]
      simp only [Int.toNat_natCast, Nat.zero_add, List.take_zero, List.length_singleton, List.drop_succ_cons, List.drop_zero, Nat.add_zero]
      rw [ih]
    · have hp : ([d] : List UInt8).isPrefixOf (c :: s) = false := by simp [List.isPrefixOf, Ne.symm e]
      have hix : Lib.index (c :: s) [d] = if Lib.index s [d] == -1 then -1 else Lib.index s [d] + 1 := by rw [Lib.index, hp]; simp
      rw [if_neg e, List.count_cons_of_ne (by simpa using e)]
      cases hk : s.count d with
      | zero =>
        rw [hk] at ih
        rw [← ih]
        rfl
      | succ k =>
        rw [hk] at ih
        rw [← ih, Lib.splitK, Lib.splitK, hix]
        by_cases hm : Lib.index s [d] = -1
        · rw [hm]
          simp
        · have hge := Lib.index_ge s [d]
          obtain ⟨j, hj⟩ : ∃ j : Nat, Lib.index s [d] = j := ⟨(Lib.index s [d]).toNat, by omega⟩
          rw [hj]
          have h1 : ((j : Int) == -1) = false := by simp <;> omega
          have h2 : ((j : Int) + 1 == -1) = false := by simp <;> omega
          simp only [h1, h2, if_false, Bool.false_eq_true, Int.toNat_natCast, Nat.add_zero, List.length_singleton]
          rw [show ((j : Int) + 1).toNat = j + 1 by omega]
          rfl
theorem split_lib (s : List UInt8) (d : UInt8) : Lib.countB ⟨s.toArray⟩ ⟨#[d]⟩ = s.count d := Lib.count_one d s
/-- strings.Split at a sign. -/
theorem split_any (s : List UInt8) (d : UInt8) (w : World) (hs : s.length ≤ 16777216) (hm : ∃ m, w.cell? ⟨2, 0, none⟩ = some (.int .i64 m)) : Calls Tryz.prog 74 #[S s, .string ⟨#[d]⟩] w fun e w' => ∃ v, e = .returned v ∧ SL w' v (spl d s) ∧ Kept (fun _ => True) w w' := by
  obtain ⟨m, hm⟩ := hm
  have hsz : (⟨s.toArray⟩ : ByteArray).size = s.length := size_mk s
  refine (Tryz.strings_Split ⟨s.toArray⟩ ⟨#[d]⟩ m w (by rw [hsz]; omega) hm (by show 1 ≤ 1; decide)).mono ?_
  rintro e w' ⟨rfl, rfl⟩
  have hd : ((Lib.splitB ⟨#[d]⟩ 0 (Lib.countB ⟨s.toArray⟩ ⟨#[d]⟩) ⟨s.toArray⟩).map Value.string) = (spl d s).map S := by
    have := Lib.splitB_data ⟨#[d]⟩ 0 (Lib.countB ⟨s.toArray⟩ ⟨#[d]⟩) ⟨s.toArray⟩
    rw [split_lib] at this ⊢
    rw [show (⟨#[d]⟩ : ByteArray).data.toList = [d] from rfl, show (⟨s.toArray⟩ : ByteArray).data.toList = s from rfl, splitK_spl] at this
    rw [← this, List.map_map]
    rfl
  rw [hd, split_lib]
  refine ⟨_, rfl, ⟨some ⟨w.heap.size, 0, none⟩, s.count d + 1, by rw [spl_len], by rw [spl_len]; exact Nat.le_refl _, fun j x hj => ⟨w.heap.size, 0, rfl, by simp, ?_⟩⟩, (Kept.refl _ _).alloc _⟩
  rw [Nat.zero_add, cell_of_row _ w.heap.size j _ _ _ (heap_alloc_new w _)]
  simp [hj]
/-- A row of texts of its own. -/
def OwnS (B : Nat) (v : Value) (l : List (List UInt8)) (w : World) : Prop := w.ownsRow B 9 1 v l.length (l.map S)
theorem OwnS.sl {B : Nat} {v : Value} {l : List (List UInt8)} {w : World} (h : OwnS B v l w) : SL w v l := by
  rcases h.2 with ⟨rfl, h0⟩ | ⟨g, cap, cur, rfl, hB, hg, h1, h2, h3, h4⟩
  · obtain rfl : l = [] := List.eq_nil_of_length_eq_zero h0
    exact ⟨none, 0, rfl, Nat.le_refl _, fun j s hj => by simp at hj⟩
  · refine ⟨some ⟨g, 0, none⟩, cap, rfl, h1, fun j s hj => ⟨g, 0, rfl, (Array.getElem?_eq_some_iff.1 hg).1, ?_⟩⟩
    have := h.cells (g := g) rfl j (S s) (by rw [List.getElem?_map, hj]; rfl)
    rw [Nat.zero_add]
    rwa [Addr.add_mid, Nat.zero_add] at this
theorem OwnS.kept {B : Nat} {v : Value} {l : List (List UInt8)} {w w' : World} (h : OwnS B v l w) (hk : Kept (fun _ => True) w w') : OwnS B v l w' := ownsRow_kept h hk fun _ _ => trivial
end Go.Proofs.YtpcgfhleloonfaaGreatDoor
namespace Go.Proofs.YtpcgfhleloonfaaGreatDoor
open Go.RowKit Jo Ac
theorem row_slice {e : TypeId} {size B n : Nat} {v : Value} {xs : List Value} {w : World} (h : w.ownsRow B e size v n xs) : ∃ a c, v = .slice a n c := by
  rcases h.2 with ⟨rfl, rfl⟩ | ⟨g, cap, cur, rfl, _⟩
  · exact ⟨none, 0, rfl⟩
  · exact ⟨_, _, rfl⟩
end Go.Proofs.YtpcgfhleloonfaaGreatDoor
namespace Go.Proofs.YtpcgfhleloonfaaGreatDoor
open Go.RowKit Jo Ac
def insS (s : List UInt8) : List (List UInt8) → List (List UInt8)
  | [] => [s]
  | x :: r => if ltB s x = true then s :: x :: r else x :: insS s r
theorem mem_insS (s : List UInt8) : ∀ l x, x ∈ insS s l ↔ x = s ∨ x ∈ l
  | [], x => by simp [insS]
  | y :: r, x => by
    unfold insS
    split
    · simp
    · simp only [List.mem_cons, mem_insS s r x]
      constructor
      · rintro (h | h | h)
        · exact .inr (.inl h)
        · exact .inl h
        · exact .inr (.inr h)
      · rintro (h | h | h)
        · exact .inr (.inl h)
        · exact .inl h
        · exact .inr (.inr h)
/-- A name more, in a list that rises. -/
def withP (l : List (List UInt8)) (s : List UInt8) : List (List UInt8) := if l.contains s then l else insS s l
end Go.Proofs.YtpcgfhleloonfaaGreatDoor
namespace Go.Proofs.YtpcgfhleloonfaaGreatDoor
open Go.RowKit Jo Ac
def parF : List (List UInt8) → List (List UInt8) → Option (List (List UInt8))
  | acc, [] => some acc
  | acc, x :: r => if nameP x = true then parF (withP acc x) r else none
/-- A scope, read. -/
def parseS (s : List UInt8) : List (List UInt8) × Int := if s = [] then ([], 0) else match parF [] (spl 32 s) with | none => ([], 60) | some l => if fitsP l = true then (l, 0) else ([], 61)
theorem mem_withP (l : List (List UInt8)) (s x : List UInt8) : x ∈ withP l s ↔ x = s ∨ x ∈ l := by
  unfold withP
  split
  · rename_i h
    rw [List.contains_iff_mem] at h
    constructor
    · exact .inr
    · rintro (rfl | h')
      · exact h
      · exact h'
  · exact mem_insS s l x
theorem count_le (d : UInt8) (s : List UInt8) : (spl d s).length ≤ s.length + 1 := by rw [spl_len]; have := List.count_le_length (a := d) (l := s); omega
end Go.Proofs.YtpcgfhleloonfaaGreatDoor
namespace Go.Proofs.YtpcgfhleloonfaaGreatDoor
open Go.RowKit Jo Ac
/-- A map of names. -/
def NM (b : Nat) (ns : List (List UInt8)) (w : World) : Prop :=
  ∃ D : DataW Unit, w.ownsMap Tryz.prog 9 (plainElem Tryz.prog 3) b ns.length D ∧ (∀ l : List UInt8, Maps.has D (.string l) = decide (l ∈ ns)) ∧ Maps.size D ≤ ns.length
theorem NM.made (w : World) : NM w.heap.size [] (w.alloc (.map #[] 0)) := ⟨_, World.ownsMap_made w _ _ _, fun _l => rfl, Nat.le_refl _⟩
theorem NM.kept {b : Nat} {ns : List (List UInt8)} {w w' : World} (h : NM b ns w) (hk : Kept (fun _ => True) w w') : NM b ns w' := by
  obtain ⟨D, ⟨es, clock, hb, r⟩, hh⟩ := h
  exact ⟨D, ⟨es, clock, (hk.block b (Array.getElem?_eq_some_iff.1 hb).1 trivial).trans hb, r⟩, hh⟩
theorem NM.lt {b : Nat} {ns : List (List UInt8)} {w : World} (h : NM b ns w) : b < w.heap.size := by
  obtain ⟨D, h, _⟩ := h
  exact h.lt
theorem NM.look {b : Nat} {ns : List (List UInt8)} {w : World} (h : NM b ns w) (l : List UInt8) (hl : l.length ≤ maxLen) :
    ∃ c : Int, (Instr.lookup 146 (.map (some b)) (S l) false).run Tryz.prog w = .ok (.int .i64 c) w := by
  obtain ⟨D, hown, _, _⟩ := h
  obtain ⟨c, hrun, _, _⟩ := hown.lookup_int keyedS Tryz.underlying146 Tryz.underlying3 (zeroI w) (keyS l hl)
  exact ⟨c, hrun⟩
theorem NM.store {b : Nat} {ns : List (List UInt8)} {w : World} (h : NM b ns w) (l : List UInt8) (hl : l.length ≤ maxLen) (hn : ns.length < maxLen) (v : Int) (hv : (Lit.int .i64 v).wf = true) :
    ∃ w', (Instr.mapUpdate 146 (.map (some b)) (S l) (.int .i64 v)).run Tryz.prog w = .ok () w' ∧ NM b (ns ++ [l]) w' ∧ Kept (· ≠ b) w w' := by
  obtain ⟨D, hown, hh, hs⟩ := h
  obtain ⟨w', hrun, ho, hg⟩ := hown.update keyedS Tryz.underlying146 hn (keyS l hl) (plainElem_int Tryz.underlying3 hv)
  refine ⟨w', hrun, ⟨_, by rw [List.length_append]; exact ho, fun l' => ?_, ?_⟩, (Kept.of_grown hg).mono fun i _ hi => by simpa using hi⟩
  · by_cases e : l' = l
    · subst e
      rw [Maps.has_put_same hown.isMap (by simp [WideAt.IsKeyLit])]
      simp
    · rw [Maps.has_put_other (by intro e'; apply e; injection e'), hh]
      simp [e]
  · rw [Maps.size_put (hown.tidy keyedS), List.length_append]
    split <;> simp <;> omega
set_option maxRecDepth 100000 in
set_option maxHeartbeats 4000000 in
theorem scopeGather_any (v : Value) (l : List (List UInt8)) (w : World) (h : SL w v l) (hn : l.length ≤ 16777216) (hl : ∀ x ∈ l, x.length ≤ 16777216) (ok : Bool) (hok : l.all nameP = ok) : Calls Tryz.prog 107 #[v] w fun e w' =>
    Kept (fun _ => True) w w' ∧ if ok = true then ∃ b, e = .returned (.tuple #[.map (some b), .int .i64 0]) ∧ NM b l w' else e = .returned (.tuple #[.map none, .int .i64 60]) := by
  have hmm := @run_makeMap Tryz.prog
  obtain ⟨a, c, rfl, hc, hcell⟩ := h
  obtain ⟨N, hN⟩ : ∃ N, l.length = N := ⟨_, rfl⟩
  rw [hN]
  have HN := Lib.hid hN
  have HCC := Lib.hid hcell
  have HLE := Lib.hid hl
  have HOK := Lib.hid hok
  clear hok
  have hn1 : N ≤ 16777216 := by omega
  clear hN hcell hl hn hc
  go_enter Tryz.func107, Tryz.ntmps107
  obtain ⟨w1, hw1⟩ : ∃ w1, w.alloc (.map #[] 0) = w1 := ⟨_, rfl⟩
  have HK1 : Hid (Kept (fun _ => True) w w1) := Lib.hid (by rw [← hw1]; exact (Kept.refl _ _).alloc _)
  have HM1 : Hid (NM w.heap.size [] w1) := Lib.hid (by rw [← hw1]; exact NM.made w)
  obtain ⟨B, hB⟩ : ∃ B, w.heap.size = B := ⟨_, rfl⟩
  rw [hB] at HM1
  go_wp2_with fail
  clear hw1
  have HB := Lib.hid hB
  clear hB
  go_loopg [10] N (fun q iv wx => ∃ i : Nat, iv = .int .i64 (i : Int) ∧ i ≤ N ∧ q = N - i ∧ Hid ((l.take i).all nameP = true) ∧ Hid (NM B (l.take i) wx) ∧ Hid (Kept (fun _ => True) w wx))
  case atStart => exact ⟨0, rfl, by omega, rfl, Lib.hid rfl, HM1, HK1⟩
  case round =>
    obtain ⟨i, rfl, hi, rfl, HA, HM, HK⟩ := hrel
    by_cases hlt : i < N
    · obtain ⟨x, hx⟩ : ∃ x, l[i]? = some x := ⟨_, List.getElem?_eq_getElem (by rw [HN.out]; exact hlt)⟩
      obtain ⟨b, off, rfl, hb, hcx⟩ := HCC.out i x hx
      have c0 : wr.cell? ⟨b, off + i, none⟩ = some (S x) := (HK.out.cell hb trivial).trans hcx
      have hi1 : (i : Int) < (N : Int) := by omega
      have hxl := HLE.out x (List.mem_of_getElem? hx)
      have CN := Lib.hid (fun w => named_any x w hxl)
      have HX := Lib.hid hx
      clear hx hcx
      cases hnm : nameP x with
      | false =>
        obtain rfl : ok = false := by
          rw [← HOK.out, Bool.eq_false_iff]
          intro h
          rw [List.all_eq_true] at h
          have := h x (List.mem_of_getElem? HX.out)
          rw [hnm] at this
          cases this
        rw [hnm] at CN
        clear hnm
        go_wp2_with fail
        refine (CN.out _).mono ?_
        rintro e w2 ⟨rfl, hk2⟩
        go_wp2
        go_ret2
        exact ⟨HK.out.tr hk2, rfl⟩
      | true =>
        have HT : Hid (l.take (i + 1) = l.take i ++ [x]) := Lib.hid (by rw [List.take_add_one, HX.out]; rfl)
        have HA2 : Hid ((l.take (i + 1)).all nameP = true) := Lib.hid (by rw [HT.out, List.all_append, HA.out]; rw [show [x].all nameP = nameP x from by simp, hnm]; rfl)
        rw [hnm] at CN
        clear hnm
        go_wp2_with fail
        refine (CN.out _).mono ?_
        rintro e w2 ⟨rfl, hk2⟩
        obtain ⟨k0, hlook⟩ := (HM.out.kept hk2).look x (by unfold maxLen; omega)
        obtain ⟨w3, hst, hm3, hk3⟩ := (HM.out.kept hk2).store x (by unfold maxLen; omega) (by rw [List.length_take, HN.out]; unfold maxLen; omega) (wrap64 (k0 + 1)) (wrap64_wf _)
        have HM3 : Hid (NM B (l.take (i + 1)) w3) := Lib.hid (by rw [HT.out]; exact hm3)
        have HK3 : Hid (Kept (fun _ => True) w w3) := Lib.hid ((HK.out.tr hk2).trans hk3 fun i hi _ => by rw [HB.out] at hi; omega)
        clear hm3 hk3 hk2
        go_wp2
        go_roundg (N - (i + 1))
        case rel => exact ⟨i + 1, by go_num, by omega, rfl, HA2, HM3, HK3⟩
        case measure => omega
    · obtain rfl : i = N := by omega
      obtain rfl : ok = true := by
        rw [← HOK.out]
        have := HA.out
        rwa [List.take_of_length_le (by rw [HN.out]; exact Nat.le_refl _)] at this
      have HM2 : Hid (NM B l wr) := Lib.hid (by have := HM.out; rwa [List.take_of_length_le (by rw [HN.out]; exact Nat.le_refl _)] at this)
      go_wp2
      go_ret2
      exact ⟨HK.out, ⟨B, rfl, HM2.out⟩⟩
end Go.Proofs.YtpcgfhleloonfaaGreatDoor
