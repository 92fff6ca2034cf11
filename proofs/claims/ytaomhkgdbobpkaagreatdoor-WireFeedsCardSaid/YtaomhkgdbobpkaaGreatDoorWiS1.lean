/- Walks of the reference of layer 5, its reader, first part: lines, texts cut at a sign, blanks cut off. -/
import Derived.Test.YtaomhkgdbobpkaaGreatDoorWiR4
import Derived.Test.YtaomhkgdbobpkaaGreatDoorWiPB
namespace Go.Proofs.YtaomhkgdbobpkaaGreatDoor
open Go.RowKit Wi

/-- What is told of the line that begins at a place. -/
def lineT (p : Nat) : Ln → List UInt8 × Int × Bool × Bool
  | .long => ([], 0, false, true)
  | .none => ([], 0, false, false)
  | .line l _ => (Lib.trimSuffix l [13], ((p + l.length + 1 : Nat) : Int), Lib.hasSuffix l [13], false)
abbrev lineV (x : List UInt8 × Int × Bool × Bool) : Value := .tuple #[S x.1, .int .i64 x.2.1, .bool x.2.2.1, .bool x.2.2.2]
theorem not_take {s : List UInt8} {i : Nat} {c : UInt8} {x : UInt8} (hc : s[i]? = some c) (h : x ∉ s.take i) (hx : c ≠ x) : x ∉ s.take (i + 1) := by
  rw [List.take_add_one, hc]
  simp only [Option.toList_some, List.mem_append, List.mem_singleton, not_or]
  exact ⟨h, fun e => hx e.symm⟩
theorem split_at {s : List UInt8} {i : Nat} {c : UInt8} (hc : s[i]? = some c) : s = s.take i ++ c :: s.drop (i + 1) := by
  obtain ⟨h, e⟩ := List.getElem?_eq_some_iff.1 hc
  rw [← e, ← List.drop_eq_getElem_cons h, List.take_append_drop]
set_option maxHeartbeats 4000000 in
set_option maxRecDepth 100000 in
theorem line_any (s : List UInt8) (p : Nat) (w : World) (hs : s.length ≤ 1099511627776) (hp : p ≤ s.length) :
    Calls Tryz.prog 66 #[S s, .int .i64 p] w fun e w' => e = .returned (lineV (lineT p (lineP 1002 (s.drop p)))) ∧ Kept (fun _ => True) w w' := by
  have hsz : (⟨s.toArray⟩ : ByteArray).size = s.length := size_mk s
  obtain ⟨T, hT⟩ : ∃ T, lineT p (lineP 1002 (s.drop p)) = T := ⟨_, rfl⟩
  rw [hT]
  have HT := Lib.hid hT
  clear hT
  go_enter Tryz.func66, Tryz.ntmps66
  go_wp2_with fail
  go_loopg [8] (s.length - p) (fun q n wr => ∃ k : Nat, n = .int .i64 (p + k : Nat) ∧ q = s.length - (p + k) ∧ p + k ≤ s.length ∧ k ≤ 1002 ∧ Hid (10 ∉ (s.drop p).take k) ∧ Hid (Kept (fun _ => True) w wr))
  case atStart => exact ⟨0, rfl, by simp, hp, by omega, Lib.hid (by simp), Lib.hid (Kept.refl _ _)⟩
  case round =>
    obtain ⟨k, rfl, rfl, hi, hk, HN, HK⟩ := hrel
    obtain ⟨i, hik⟩ : ∃ i, p + k = i := ⟨_, rfl⟩
    rw [hik] at hi ⊢
    have hpi : p ≤ i := by omega
    by_cases hlt : i < s.length
    · obtain ⟨c, hc⟩ : ∃ c, s[i]? = some c := ⟨s[i], List.getElem?_eq_getElem hlt⟩
      have hI := run_at s i c hc
      have hcd : (s.drop p)[k]? = some c := by rw [List.getElem?_drop, hik]; exact hc
      by_cases h1 : k = 1002
      · have h2 : (1001 : Int) < (i : Int) - (p : Int) := by omega
        have HR : Hid (T = ([], 0, false, true)) := Lib.hid (by
          rw [← HT.out, lineP_over (n := 1001) (by have := HN.out; rw [h1] at this; exact this) (by rw [List.length_drop]; omega)]; rfl)
        clear hc hcd hik
        go_wp2
        refine bodyPost_ret (v := .tuple #[S [], .int .i64 0, .bool false, .bool true]) (by simp [results, Tryz.results66, go_sem]) rfl ?_
        exact ⟨by rw [HR.out], HK.out⟩
      · have h2 : ¬ (1001 : Int) < (i : Int) - (p : Int) := by omega
        have HSP := Lib.hid (split_at hcd)
        by_cases h10 : c = 10
        · have q10 : ((c.toNat : Int) == 10) = true := by rw [byte_is c 10 10 rfl]; exact decide_eq_true h10
          have HL : Hid (T = lineT p (.line ((s.drop p).take k) ((s.drop p).drop (k + 1)))) := Lib.hid (by
            rw [← HT.out]
            congr 1
            conv => lhs; rw [HSP.out]
            rw [h10]
            exact lineP_hit HN.out (by rw [List.length_take, List.length_drop]; omega))
          have hkl : ((s.drop p).take k).length = k := by rw [List.length_take, List.length_drop]; omega
          by_cases h0 : k = 0
          · have h3 : ¬ (p : Int) < (i : Int) := by omega
            have HR : Hid (T = ([], (i : Int) + 1, false, false)) := Lib.hid (by
              rw [HL.out, h0]
              obtain rfl : p = i := by omega
              simp [lineT, Lib.trimSuffix, Lib.hasSuffix])
            have EX : (⟨s.toArray⟩ : ByteArray).extract p i = ⟨#[]⟩ := by rw [extract_ba, show i - p = 0 by omega]; simp
            have EX2 : (⟨s.toArray⟩ : ByteArray).extract i i = ⟨#[]⟩ := by rw [extract_ba, show i - i = 0 by omega]; simp
            clear hc hcd HSP HL hkl
            go_wp2
            refine bodyPost_ret (v := .tuple #[S [], .int .i64 ((i : Int) + 1), .bool false, .bool false]) (by simp [results, Tryz.results66, go_sem]) rfl ?_
            exact ⟨by rw [HR.out], HK.out⟩
          · obtain ⟨j, rfl⟩ : ∃ j, i = j + 1 := ⟨i - 1, by omega⟩
            have h3 : (p : Int) < (j : Int) + 1 := by omega
            obtain ⟨d, hd⟩ : ∃ d, s[j]? = some d := ⟨s[j], List.getElem?_eq_getElem (by omega)⟩
            have hI2 := run_at s j d hd
            have hI3 := run_at2 s ((j : Int) + 1) (j + 1) (by omega) c hc
            clear hI
            have htk : (s.drop p).take k = (s.drop p).take (k - 1) ++ [d] := by
              conv => lhs; rw [show k = k - 1 + 1 by omega]
              rw [List.take_add_one, List.getElem?_drop, show p + (k - 1) = j by omega, hd]
              rfl
            by_cases h13 : d = 13
            · have q13 : ((d.toNat : Int) == 13) = true := by rw [byte_is d 13 13 rfl]; exact decide_eq_true h13
              obtain ⟨x, hx⟩ : ∃ x, (s.drop p).take (k - 1) = x := ⟨_, rfl⟩
              have HR : Hid (T = (x, ((j : Int) + 1) + 1, true, false)) := Lib.hid (by
                rw [HL.out]
                unfold lineT
                simp only
                rw [hkl, htk, hx, h13, (suffix13 x).1, (suffix13 x).2, show p + k + 1 = j + 1 + 1 by omega]
                rfl)
              have EX : (⟨s.toArray⟩ : ByteArray).extract p j = ⟨x.toArray⟩ := by rw [extract_ba, ← hx, show j - p = k - 1 by omega]
              clear hc hcd HSP HL hkl htk hx hd
              go_wp2
              refine bodyPost_ret (v := .tuple #[S x, .int .i64 (((j : Int) + 1) + 1), .bool true, .bool false]) (by simp [results, Tryz.results66, go_sem]) rfl ?_
              exact ⟨by rw [HR.out], HK.out⟩
            · have q13 : ((d.toNat : Int) == 13) = false := by rw [byte_is d 13 13 rfl]; exact decide_eq_false h13
              obtain ⟨x, hx⟩ : ∃ x, (s.drop p).take k = x := ⟨_, rfl⟩
              have HR : Hid (T = (x, ((j : Int) + 1) + 1, false, false)) := Lib.hid (by
                rw [HL.out]
                unfold lineT
                simp only
                have hn : ((s.drop p).take k).getLast? ≠ some 13 := by rw [htk]; simpa using h13
                rw [hkl, (suffix_no hn).1, (suffix_no hn).2, hx, show p + k + 1 = j + 1 + 1 by omega]
                rfl)
              have EX : (⟨s.toArray⟩ : ByteArray).extract p (j + 1) = ⟨x.toArray⟩ := by rw [extract_ba, ← hx, show j + 1 - p = k by omega]
              clear hc hcd HSP HL hkl htk hx hd
              go_wp2
              refine bodyPost_ret (v := .tuple #[S x, .int .i64 (((j : Int) + 1) + 1), .bool false, .bool false]) (by simp [results, Tryz.results66, go_sem]) rfl ?_
              exact ⟨by rw [HR.out], HK.out⟩
        · have q10 : ((c.toNat : Int) == 10) = false := by rw [byte_is c 10 10 rfl]; exact decide_eq_false h10
          have HN2 := Lib.hid (not_take hcd HN.out h10)
          clear hc hcd HSP
          go_wp2
          go_roundg (s.length - (p + (k + 1)))
          case rel => exact ⟨k + 1, by first | (rw [show p + (k + 1) = i + 1 by omega]; go_num) | go_num, rfl, by omega, by omega, HN2, HK⟩
          case measure => omega
    · obtain rfl : i = s.length := by omega
      have hdl : (s.drop p).take k = s.drop p := List.take_of_length_le (by rw [List.length_drop]; omega)
      by_cases h1 : k = 1002
      · have h2 : (1001 : Int) < (s.length : Int) - (p : Int) := by omega
        have HR : Hid (T = ([], 0, false, true)) := Lib.hid (by
          rw [← HT.out, lineP_over (n := 1001) (by have := HN.out; rw [h1] at this; exact this) (by rw [List.length_drop]; omega)]; rfl)
        clear hik hdl
        go_wp2
        refine bodyPost_ret (v := .tuple #[S [], .int .i64 0, .bool false, .bool true]) (by simp [results, Tryz.results66, go_sem]) rfl ?_
        exact ⟨by rw [HR.out], HK.out⟩
      · have h2 : ¬ (1001 : Int) < (s.length : Int) - (p : Int) := by omega
        have HR : Hid (T = ([], 0, false, false)) := Lib.hid (by
          rw [← HT.out, lineP_end (by have := HN.out; rw [hdl] at this; exact this) (by rw [List.length_drop]; omega)]; rfl)
        clear hik hdl
        go_wp2
        refine bodyPost_ret (v := .tuple #[S [], .int .i64 0, .bool false, .bool false]) (by simp [results, Tryz.results66, go_sem]) rfl ?_
        exact ⟨by rw [HR.out], HK.out⟩
def cutT (c : UInt8) (s : List UInt8) : List UInt8 × List UInt8 × Bool := match cutP c s with | none => ([], [], false) | some (a, b) => (a, b, true)
abbrev cutV (x : List UInt8 × List UInt8 × Bool) : Value := .tuple #[S x.1, S x.2.1, .bool x.2.2]
set_option maxHeartbeats 4000000 in
set_option maxRecDepth 100000 in
theorem refCut_any (s : List UInt8) (d : UInt8) (w : World) (hs : s.length ≤ 1099511627776) :
    Calls Tryz.prog 69 #[S s, .int .u8 d.toNat] w fun e w' => e = .returned (cutV (cutT d s)) ∧ Kept (fun _ => True) w w' := by
  have hsz : (⟨s.toArray⟩ : ByteArray).size = s.length := size_mk s
  obtain ⟨T, hT⟩ : ∃ T, cutT d s = T := ⟨_, rfl⟩
  rw [hT]
  have HT := Lib.hid hT
  clear hT
  go_enter Tryz.func69, Tryz.ntmps69
  go_wp2_with fail
  go_loopg [7] s.length (fun q n wr => ∃ i : Nat, n = .int .i64 i ∧ q = s.length - i ∧ i ≤ s.length ∧ Hid (d ∉ s.take i) ∧ Hid (Kept (fun _ => True) w wr))
  case atStart => exact ⟨0, rfl, rfl, Nat.zero_le _, Lib.hid (by simp), Lib.hid (Kept.refl _ _)⟩
  case round =>
    obtain ⟨i, rfl, rfl, hi, HN, HK⟩ := hrel
    by_cases hlt : i < s.length
    · obtain ⟨c, hc⟩ : ∃ c, s[i]? = some c := ⟨s[i], List.getElem?_eq_getElem hlt⟩
      have hI := run_at s i c hc
      have hi0 : (0 : Int) ≤ (i : Int) := by omega
      by_cases he : c = d
      · subst he
        have HSP := Lib.hid (split_at hc)
        obtain ⟨x, hx⟩ : ∃ x, s.take i = x := ⟨_, rfl⟩
        obtain ⟨y, hy⟩ : ∃ y, s.drop (i + 1) = y := ⟨_, rfl⟩
        have HR : Hid (T = (x, y, true)) := Lib.hid (by
          rw [← HT.out]
          unfold cutT
          conv => lhs; rw [HSP.out, cutP_hit HN.out, hx, hy])
        have EX : (⟨s.toArray⟩ : ByteArray).extract 0 i = ⟨x.toArray⟩ := by rw [extract_ba, ← hx]; simp
        have EX2 : (⟨s.toArray⟩ : ByteArray).extract (i + 1) s.length = ⟨y.toArray⟩ := by rw [extract_ba, ← hy, List.take_of_length_le (by rw [List.length_drop]; omega)]
        clear hc HSP hx hy HN
        go_wp2
        go_quiet (fail)
        go_wp2
        refine bodyPost_ret (v := .tuple #[S x, S y, .bool true]) (by simp [results, Tryz.results69, go_sem]) rfl ?_
        exact ⟨by rw [HR.out], HK.out.drewN _⟩
      · have q1 : ((c.toNat : Int) == (d.toNat : Int)) = false := by rw [byte_is']; exact decide_eq_false he
        have HN2 := Lib.hid (not_take hc HN.out he)
        clear hc
        go_wp2
        go_roundg (s.length - (i + 1))
        case rel => exact ⟨i + 1, by go_num, rfl, by omega, HN2, HK⟩
        case measure => omega
    · obtain rfl : i = s.length := by omega
      have HR : Hid (T = ([], [], false)) := Lib.hid (by
        rw [← HT.out]
        unfold cutT
        rw [cutP_miss (by have := HN.out; rwa [List.take_length] at this)])
      go_wp2
      refine bodyPost_ret (v := .tuple #[S [], S [], .bool false]) (by simp [results, Tryz.results69, go_sem]) rfl ?_
      exact ⟨by rw [HR.out], HK.out⟩
set_option maxHeartbeats 4000000 in
set_option maxRecDepth 100000 in
theorem trimmed_any (s : List UInt8) (w : World) (hs : s.length ≤ 1099511627776) :
    Calls Tryz.prog 72 #[S s] w fun e w' => e = .returned (S (trimP s)) ∧ Kept (fun _ => True) w w' := by
  obtain ⟨T, hT⟩ : ∃ T, trimP s = T := ⟨_, rfl⟩
  rw [hT]
  have HT := Lib.hid hT
  clear hT
  go_enter Tryz.func72, Tryz.ntmps72
  go_wp2_with fail
  go_loopg [0] s.length (fun q v wr => ∃ l : List UInt8, v = S l ∧ q = l.length ∧ l.length ≤ s.length ∧ Hid (trimP l = T) ∧ Hid (Kept (fun _ => True) w wr))
  case atStart => exact ⟨s, rfl, rfl, Nat.le_refl _, HT, Lib.hid (Kept.refl _ _)⟩
  case round =>
    obtain ⟨l, rfl, rfl, hle, HS, HK⟩ := hrel
    by_cases hst : ∃ r, l = 32 :: r
    · obtain ⟨r, rfl⟩ := hst
      have zl : (⟨(32 :: r).toArray⟩ : ByteArray).size = r.length + 1 := size_mk (32 :: r)
      have EX : (⟨(32 :: r).toArray⟩ : ByteArray).extract 1 (r.length + 1) = ⟨r.toArray⟩ := by rw [extract_ba]; simp
      have I0 := run_at2 (32 :: r) 0 0 rfl 32 rfl
      have HS2 : Hid (trimP r = T) := Lib.hid (by rw [← trimP_left]; exact HS.out)
      have hrl : r.length + 1 ≤ s.length := hle
      have hlp : 0 < (r.length : Int) + 1 := by omega
      clear HS hle
      go_wp2
      go_roundg r.length
      case rel => exact ⟨r, rfl, rfl, by omega, HS2, HK⟩
      case measure => simp
    · have HH : Hid (l.head? ≠ some 32) := Lib.hid fun e => hst (by
        cases l with
        | nil => cases e
        | cons c r => simp only [List.head?_cons, Option.some.injEq] at e; exact ⟨r, by rw [e]⟩)
      clear hst
      rcases l with - | ⟨c, r⟩
      case' nil =>
        go_wp2_with fail
      case' cons =>
        have zl : (⟨(c :: r).toArray⟩ : ByteArray).size = r.length + 1 := size_mk (c :: r)
        have I0 := run_at2 (c :: r) 0 0 rfl c rfl
        have hlp : 0 < (r.length : Int) + 1 := by omega
        have q32 : ((c.toNat : Int) == 32) = false := by
          rw [byte_is c 32 32 rfl]
          exact decide_eq_false fun e => HH.out (by rw [e]; rfl)
        go_wp2_with fail
      all_goals
        go_loopg [0] s.length (fun q v wr2 => ∃ l2 : List UInt8, v = S l2 ∧ l2.length ≤ q ∧ l2.length ≤ s.length ∧ Hid (trimP l2 = T) ∧ Hid (l2.head? ≠ some 32) ∧ Hid (Kept (fun _ => True) w wr2))
        case atStart => exact ⟨_, rfl, hle, hle, HS, HH, HK⟩
        case round =>
          clear HK HH HS hle
          try clear zl I0 hlp q32
          obtain ⟨l2, rfl, hlq, hle, HS, HH, HK⟩ := hrel
          by_cases hst : ∃ r2, l2 = r2 ++ [32]
          · obtain ⟨r2, rfl⟩ := hst
            have hrl : r2.length + 1 ≤ s.length := by simpa using hle
            have hrq := hlq
            rw [List.length_append, List.length_singleton] at hrq
            have zl2 : (⟨(r2 ++ [32]).toArray⟩ : ByteArray).size = r2.length + 1 := by rw [size_mk]; simp
            have EX : (⟨(r2 ++ [32]).toArray⟩ : ByteArray).extract 0 r2.length = ⟨r2.toArray⟩ := by rw [extract_ba]; simp
            have I0 := run_at2 (r2 ++ [32]) (r2.length : Int) r2.length rfl 32 (by simp)
            have HS2 : Hid (trimP r2 = T) := Lib.hid (by rw [← trimP_right]; exact HS.out)
            have HH2 : Hid (r2.head? ≠ some 32) := Lib.hid fun e => HH.out (by
              cases r2 with
              | nil => cases e
              | cons c r => simpa using e)
            have hlp2 : 0 < (r2.length : Int) + 1 := by omega
            clear HS hle hlq HH
            go_wp2
            go_roundg r2.length
            case rel => exact ⟨r2, rfl, Nat.le_refl _, by omega, HS2, HH2, HK⟩
            case measure => omega
          · have HE : Hid (l2.getLast? ≠ some 32) := Lib.hid fun e => hst (by
              obtain ⟨r2, hr2⟩ := List.getLast?_eq_some_iff.1 e
              exact ⟨r2, hr2⟩)
            clear hst
            have HZ : Hid (l2 = T) := Lib.hid (by rw [← HS.out, trimP_bare HH.out HE.out])
            clear HS HH hlq
            rcases List.eq_nil_or_concat l2 with h0 | ⟨r2, c2, h0⟩
            case' inl =>
              subst h0
              go_wp2
            case' inr =>
              rw [List.concat_eq_append] at h0
              subst h0
              have zl2 : (⟨(r2 ++ [c2]).toArray⟩ : ByteArray).size = r2.length + 1 := by rw [size_mk]; simp
              have I0 := run_at2 (r2 ++ [c2]) (r2.length : Int) r2.length rfl c2 (by simp)
              have hlp2 : 0 < (r2.length : Int) + 1 := by omega
              have q32 : ((c2.toNat : Int) == 32) = false := by
                rw [byte_is c2 32 32 rfl]
                exact decide_eq_false fun e => HE.out (by rw [e]; simp)
              have hrl2 : r2.length + 1 ≤ s.length := by have h := hle; rw [List.length_append, List.length_singleton] at h; omega
              clear hle HE
              go_wp2
            all_goals
              go_ret
              exact ⟨ret_str HZ.out, HK.out⟩
end Go.Proofs.YtaomhkgdbobpkaaGreatDoor
