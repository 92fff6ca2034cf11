/- Walks of the reference of layer 5, its reader, second part: lengths, the first line of a message, of an answer. -/
import Derived.Test.YtaomhkgdbobpkaaGreatDoorWiS1
namespace Go.Proofs.YtaomhkgdbobpkaaGreatDoor
open Go.RowKit Wi

abbrev sizeV (x : Int × Int) : Value := .tuple #[.int .i64 x.1, .int .i64 x.2]
theorem decP_take {s : List UInt8} {i : Nat} {c : UInt8} (hc : s[i]? = some c) (h : s.all digitP = true) : decP (s.take (i + 1)) = 10 * decP (s.take i) + (c.toNat - 48) ∧ 48 ≤ c.toNat ∧ c.toNat ≤ 57 := by
  have h1 : digitP c = true := List.all_eq_true.1 h c (List.mem_of_getElem? hc)
  have h2 : (s.take i).all digitP = true := List.all_eq_true.2 fun x hx => List.all_eq_true.1 h x (List.mem_of_mem_take hx)
  rw [List.take_add_one, hc]
  refine ⟨decP_snoc h2 h1, ?_⟩
  unfold digitP at h1
  simp only [Bool.and_eq_true, decide_eq_true_eq] at h1
  exact ⟨UInt8.le_iff_toNat_le.1 h1.1, UInt8.le_iff_toNat_le.1 h1.2⟩
set_option maxHeartbeats 4000000 in
set_option maxRecDepth 100000 in
theorem refSize_any (s : List UInt8) (w : World) (hs : s.length ≤ 1000) :
    Calls Tryz.prog 73 #[S s] w fun e w' => e = .returned (sizeV (sizeP s)) ∧ Kept (fun _ => True) w w' := by
  have WI := Lib.hid (within_any s 48 57 digitP (fun c => by unfold digitP; rw [u8le, u8le]; rfl) w (by omega))
  obtain ⟨T, hT⟩ : ∃ T, sizeP s = T := ⟨_, rfl⟩
  rw [hT]
  have HT := Lib.hid hT
  obtain ⟨b, hb⟩ : ∃ b, s.all digitP = b := ⟨_, rfl⟩
  rw [hb] at WI
  have HB := Lib.hid hb
  clear hT hb
  have hsz : (⟨s.toArray⟩ : ByteArray).size = s.length := size_mk s
  go_enter Tryz.func73, Tryz.ntmps73
  go_wp2_with fail
  refine WI.out.mono ?_
  rintro e w1 ⟨rfl, hk1⟩
  have HK1 := Lib.hid hk1
  clear hk1 WI
  cases b with
  | false =>
    have HR : Hid (T = (0, 52)) := Lib.hid (by rw [← HT.out]; exact sizeP_bad1 (.inl HB.out))
    go_wp2
    refine bodyPost_ret (v := .tuple #[.int .i64 0, .int .i64 52]) (by simp [results, Tryz.results73, go_sem]) rfl ?_
    exact ⟨by rw [HR.out], HK1.out⟩
  | true =>
    rcases s with - | ⟨c0, r⟩
    · have HR : Hid (T = (0, 52)) := Lib.hid (by rw [← HT.out]; exact sizeP_bad1 (.inr rfl))
      go_wp2
      refine bodyPost_ret (v := .tuple #[.int .i64 0, .int .i64 52]) (by simp [results, Tryz.results73, go_sem]) rfl ?_
      exact ⟨by rw [HR.out], HK1.out⟩
    · have hl : (⟨(c0 :: r).toArray⟩ : ByteArray).size = r.length + 1 := size_mk (c0 :: r)
      have I0 := run_at2 (c0 :: r) 0 0 rfl c0 rfl
      have hr : r.length + 1 ≤ 1000 := hs
      clear hsz hs
      by_cases hbad : 1 ≤ r.length ∧ c0 = 48
      · obtain ⟨h1, rfl⟩ := hbad
        have HR : Hid (T = (0, 52)) := Lib.hid (by rw [← HT.out]; exact sizeP_bad2 (by simp only [List.length_cons]; omega) rfl)
        have h2 : 1 < (r.length : Int) + 1 := by omega
        go_wp2
        refine bodyPost_ret (v := .tuple #[.int .i64 0, .int .i64 52]) (by simp [results, Tryz.results73, go_sem]) rfl ?_
        exact ⟨by rw [HR.out], HK1.out⟩
      · have HN : Hid (¬ (1 < (c0 :: r).length ∧ (c0 :: r).head? = some 48)) := Lib.hid (by
          rintro ⟨h1, h2⟩
          simp only [List.length_cons, List.head?_cons, Option.some.injEq] at h1 h2
          exact hbad ⟨by omega, h2⟩)
        have hcs : ¬ (1 < (r.length : Int) + 1) ∨ (1 < (r.length : Int) + 1 ∧ ((c0.toNat : Int) == 48) = false) := by
          by_cases h1 : 1 ≤ r.length
          · refine .inr ⟨by omega, ?_⟩
            rw [byte_is c0 48 48 rfl]
            exact decide_eq_false fun e => hbad ⟨h1, e⟩
          · exact .inl (by omega)
        have HSL : Hid ((c0 :: r).length = r.length + 1) := Lib.hid rfl
        have HIX := Lib.hid (fun (i : Nat) (c : UInt8) (h : (c0 :: r)[i]? = some c) => run_at (c0 :: r) i c h)
        have HDT := Lib.hid (fun (i : Nat) (c : UInt8) (h : (c0 :: r)[i]? = some c) => decP_take h HB.out)
        have HOV := Lib.hid (fun (i : Nat) (h : 4000 < decP ((c0 :: r).take i)) => sizeP_over (v := c0 :: r) (b := (c0 :: r).drop i) (List.take_append_drop i _).symm HB.out (by simp) (by simp only [List.length_cons]; omega) HN.out h)
        have HOK := Lib.hid (fun (h : decP (c0 :: r) ≤ 4000) => sizeP_ok (v := c0 :: r) HB.out (by simp) (by simp only [List.length_cons]; omega) HN.out h)
        have HGE := Lib.hid (fun (i : Nat) (h : i < r.length + 1) => (⟨_, List.getElem?_eq_getElem (show i < (c0 :: r).length from h)⟩ : ∃ c, (c0 :: r)[i]? = some c))
        have HTK : Hid (∀ i, r.length + 1 ≤ i → (c0 :: r).take i = c0 :: r) := Lib.hid fun i h => List.take_of_length_le h
        clear hbad HN
        rcases hcs with h1 | ⟨h1, h2⟩
        all_goals
          go_wp2_with fail
          go_loopg [5, 6] (r.length + 1) (fun q v iv wr => ∃ i d : Nat, v = .int .i64 d ∧ iv = .int .i64 i ∧ q = r.length + 1 - i ∧ i ≤ r.length + 1 ∧ Hid (decP ((c0 :: r).take i) = d) ∧ d ≤ 4000 ∧ Hid (Kept (fun _ => True) w wr))
          case atStart => exact ⟨0, 0, rfl, rfl, rfl, Nat.zero_le _, Lib.hid rfl, by omega, HK1⟩
          case round =>
            clear HK1
            obtain ⟨i, d, rfl, rfl, rfl, hi, HD, hd, HK⟩ := hrel
            by_cases hlt : i < r.length + 1
            · obtain ⟨c, hc⟩ := HGE.out i hlt
              have hI := HIX.out i c hc
              obtain ⟨e1, e2, e3⟩ := HDT.out i c hc
              rw [HD.out] at e1
              obtain ⟨x, hx⟩ : ∃ x, c.toNat = 48 + x := ⟨c.toNat - 48, by omega⟩
              rw [hx] at hI e1
              have hx9 : x ≤ 9 := by omega
              have HE : Hid (decP ((c0 :: r).take (i + 1)) = 10 * d + x) := Lib.hid (by rw [e1]; omega)
              clear e1 e2 e3 hx hc
              by_cases h4 : 4000 < 10 * d + x
              · have HR : Hid (T = (0, 53)) := Lib.hid (by rw [← HT.out]; exact HOV.out (i + 1) (by rw [HE.out]; exact h4))
                have h5 : (4000 : Int) < 10 * (d : Int) + (x : Int) := by omega
                go_wp2
                refine bodyPost_ret (v := .tuple #[.int .i64 0, .int .i64 53]) (by simp [results, Tryz.results73, go_sem]) rfl ?_
                exact ⟨by rw [HR.out], HK.out⟩
              · have h5 : ¬ (4000 : Int) < 10 * (d : Int) + (x : Int) := by omega
                go_wp2
                go_roundg (r.length + 1 - (i + 1))
                case rel => exact ⟨i + 1, 10 * d + x, by go_num, by go_num, rfl, by omega, HE, by omega, HK⟩
                case measure => omega
            · have HR : Hid (T = ((d : Int), 0)) := Lib.hid (by
                rw [← HT.out]
                have h := HD.out
                rw [HTK.out i (by omega)] at h
                rw [HOK.out (by omega), h])
              obtain rfl : i = r.length + 1 := by omega
              go_wp2
              refine bodyPost_ret (v := .tuple #[.int .i64 d, .int .i64 0]) (by simp [results, Tryz.results73, go_sem]) rfl ?_
              exact ⟨by rw [HR.out], HK.out⟩
/-- A reading of the reference at g. -/
def GotAt (g : Nat) (m p : List UInt8) (st : Int) (hv : Value) (w : World) : Prop := w.heap[g]? = some (.cells #[S m, S p, .int .i64 st, hv, S [], .int .i64 0, .bool false, .int .i64 0] 85 (0, 0))
theorem GotAt.facts {g : Nat} {m p : List UInt8} {st : Int} {hv : Value} {w : World} (h : GotAt g m p st hv w) : w.cell? ⟨g, 0, none⟩ = some (S m) ∧ w.cell? ⟨g, 1, none⟩ = some (S p) ∧ w.cell? ⟨g, 2, none⟩ = some (.int .i64 st) ∧ w.cell? ⟨g, 3, none⟩ = some hv ∧ w.cell? ⟨g, 4, none⟩ = some (S []) ∧ w.cell? ⟨g, 5, none⟩ = some (.int .i64 0) ∧ w.cell? ⟨g, 6, none⟩ = some (.bool false) ∧ w.cell? ⟨g, 7, none⟩ = some (.int .i64 0) ∧ ∀ o, w.frozen? ⟨g, o, none⟩ = false := by
  unfold GotAt at h
  refine ⟨?_, ?_, ?_, ?_, ?_, ?_, ?_, ?_, fun o => frozen_row h o⟩ <;> rw [cell_of_row w g _ _ _ (0, 0) h] <;> rfl
theorem GotAt.kept {g : Nat} {m p : List UInt8} {st : Int} {hv : Value} {w w' : World} {ok : Nat → Prop} (h : GotAt g m p st hv w) (hk : Kept ok w w') (ho : ok g) : GotAt g m p st hv w' := (hk.block g (Array.getElem?_eq_some_iff.1 h).1 ho).trans h
theorem GotAt.setMP {g : Nat} {m p : List UInt8} {st : Int} {hv : Value} {w : World} (h : GotAt g m p st hv w) (a b : List UInt8) : ∃ W, (w.setCell ⟨g, 0, none⟩ (S a)).setCell ⟨g, 1, none⟩ (S b) = W ∧ GotAt g a b st hv W ∧ Kept (· ≠ g) w W := by
  refine ⟨_, rfl, ?_, ((Kept.refl _ w).setCell (.inr (by simp)) _).setCell (.inr (by simp)) _⟩
  exact (setCell_heap (o := 1) (setCell_heap (o := 0) h _) _).trans rfl
theorem GotAt.setSt {g : Nat} {m p : List UInt8} {st : Int} {hv : Value} {w : World} (h : GotAt g m p st hv w) (n : Int) : ∃ W, w.setCell ⟨g, 2, none⟩ (.int .i64 n) = W ∧ GotAt g m p n hv W ∧ Kept (· ≠ g) w W := by
  refine ⟨_, rfl, ?_, (Kept.refl _ w).setCell (.inr (by simp)) _⟩
  exact (setCell_heap (o := 2) h _).trans rfl
theorem asked_is (s : List UInt8) : askedP s = if ((cutT 32 s).2.2 && (cutT 32 (cutT 32 s).2.1).2.2 && isMethodP (cutT 32 s).1 && isPathP (cutT 32 (cutT 32 s).2.1).1 && ((cutT 32 (cutT 32 s).2.1).2.1 == versionL)) = true then some ((cutT 32 s).1, (cutT 32 (cutT 32 s).2.1).1) else none := by
  rw [asked_eq]
  unfold cutT
  cases h1 : cutP 32 s with
  | none => simp
  | some x =>
    obtain ⟨a, r⟩ := x
    simp only
    cases h2 : cutP 32 r with
    | none => simp
    | some y =>
      obtain ⟨b, c⟩ := y
      simp only [Bool.true_and, Bool.and_eq_true, beq_iff_eq, and_assoc]
theorem cutP_len {c : UInt8} {s a b : List UInt8} (h : cutP c s = some (a, b)) : a.length + b.length + 1 = s.length := by
  by_cases hc : c ∈ s
  · obtain ⟨x, y, rfl, hx⟩ := List.eq_append_cons_of_mem hc
    rw [cutP_hit hx] at h
    obtain ⟨rfl, rfl⟩ : x = a ∧ y = b := by simpa using h
    simp only [List.length_append, List.length_cons]
    omega
  · rw [cutP_miss hc] at h; cases h
theorem cutT_len (c : UInt8) (s : List UInt8) : (cutT c s).1.length ≤ s.length ∧ (cutT c s).2.1.length ≤ s.length := by
  unfold cutT
  cases h : cutP c s with
  | none => simp
  | some x =>
    obtain ⟨a, b⟩ := x
    have := cutP_len h
    simp only
    omega
/-- What asked leaves. -/
def AskQ (g : Nat) (s : List UInt8) (st : Int) (hv : Value) (w : World) (e : Ending) (w' : World) : Prop := ∃ a b, e = .returned (.bool (askedP s).isSome) ∧ (∀ x, askedP s = some x → x = (a, b)) ∧ GotAt g a b st hv w' ∧ Kept (· ≠ g) w w'
set_option maxHeartbeats 4000000 in
set_option maxRecDepth 100000 in
theorem asked_any (g : Nat) (m p : List UInt8) (st : Int) (hv : Value) (s : List UInt8) (w : World) (h : GotAt g m p st hv w) (hs : s.length ≤ 100000) :
    Calls Tryz.prog 68 #[.pointer (some ⟨g, 0, none⟩), S s] w (AskQ g s st hv w) := by
  have C1 := Lib.hid (fun W => refCut_any s 32 W (by omega))
  have HR := Lib.hid (asked_is s)
  obtain ⟨l1, l2⟩ := cutT_len 32 s
  obtain ⟨X, hX⟩ : ∃ X, cutT 32 s = X := ⟨_, rfl⟩
  rw [hX] at C1 HR l1 l2
  obtain ⟨a, r, one⟩ := X
  simp only at HR l1 l2
  have C2 := Lib.hid (fun W => refCut_any r 32 W (by omega))
  obtain ⟨l3, l4⟩ := cutT_len 32 r
  obtain ⟨Y, hY⟩ : ∃ Y, cutT 32 r = Y := ⟨_, rfl⟩
  rw [hY] at C2 HR l3 l4
  obtain ⟨b, c, two⟩ := Y
  simp only at HR l3 l4
  have M1 := Lib.hid (fun W => refMethod_any a W (by omega))
  have P1 := Lib.hid (fun W => refPath_any b W (by omega))
  obtain ⟨q3, hq3⟩ : ∃ q, isMethodP a = q := ⟨_, rfl⟩
  obtain ⟨q4, hq4⟩ : ∃ q, isPathP b = q := ⟨_, rfl⟩
  rw [hq3] at M1 HR
  rw [hq4] at P1 HR
  obtain ⟨q5, hq5⟩ : ∃ q, (c == versionL) = q := ⟨_, rfl⟩
  rw [hq5] at HR
  have hq5' : (c == [72, 84, 84, 80, 47, 49, 46, 49]) = q5 := hq5
  have HG := Lib.hid h
  clear h hX hY hq3 hq4 hq5
  go_enter Tryz.func68, Tryz.ntmps68
  go_wp2_with fail
  refine (C1.out _).mono ?_
  rintro e w1 ⟨rfl, hk1⟩
  have HK1 := Lib.hid hk1
  clear hk1 C1
  go_wp2_with fail
  refine (C2.out _).mono ?_
  rintro e w2 ⟨rfl, hk2⟩
  have HK2 := Lib.hid (HK1.out.tr hk2)
  clear hk2 C2
  go_wp2_with fail
  refine (M1.out _).mono ?_
  rintro e w3 ⟨rfl, hk3⟩
  have HK3 := Lib.hid (HK2.out.tr hk3)
  clear hk3 M1
  go_wp2_with fail
  refine (P1.out _).mono ?_
  rintro e w4 ⟨rfl, hk4⟩
  have hk := HK3.out.tr hk4
  have hg4 := HG.out.kept hk trivial
  obtain ⟨o0, o1, -, -, -, -, -, -, o9⟩ := hg4.facts
  have f0 := o9 0
  have f1 := o9 1
  obtain ⟨W, hW, hgW, hkW⟩ := hg4.setMP a b
  have HGW := Lib.hid hgW
  have HKW : Hid (Kept (· ≠ g) w W) := Lib.hid ((hk.mono fun _ _ _ => trivial).tr hkW)
  clear hk4 P1 hg4 hgW hkW hk o9 HK3
  cases one
  case' true =>
    cases two
    case' true =>
      cases q3
      case' true =>
        cases q4
        case' true =>
          cases q5
  all_goals
    simp only [Bool.false_and, Bool.and_false, Bool.and_true, if_true, Bool.false_eq_true, if_false] at HR
    go_wp2
    try rw [hW]
    go_ret
    refine ⟨a, b, ?_, fun x hx => ?_, HGW.out, HKW.out⟩
    · rw [HR.out]; rfl
    · rw [HR.out] at hx; first | (cases hx; done) | (injection hx with hx; exact hx.symm)
/-- An answer's first line, taken apart. -/
theorem status_is (a : List UInt8) (b d1 d2 d3 e : UInt8) (rest : List UInt8) (ha : a.length = 8) (hl : rest.length ≤ 1000) :
    statusP (a ++ b :: d1 :: d2 :: d3 :: e :: rest) = if ((a == versionL) && decide (b = 32) && decide (e = 32) && [d1, d2, d3].all digitP && rest.all printedP && decide (100 ≤ decP [d1, d2, d3]) && decide (decP [d1, d2, d3] ≤ 599)) = true then some [d1, d2, d3] else none := by
  have h9 : (a ++ b :: d1 :: d2 :: d3 :: e :: rest).drop 9 = d1 :: d2 :: d3 :: e :: rest := by
    rw [show a ++ b :: d1 :: d2 :: d3 :: e :: rest = (a ++ [b]) ++ d1 :: d2 :: d3 :: e :: rest by simp]
    exact List.drop_left' (by simp [ha])
  have hp : Lib.hasPrefix (a ++ b :: d1 :: d2 :: d3 :: e :: rest) (versionL ++ [32]) = ((a == versionL) && decide (b = 32)) := by
    unfold Lib.hasPrefix
    rw [Bool.eq_iff_iff, List.isPrefixOf_iff_prefix]
    simp only [Bool.and_eq_true, beq_iff_eq, decide_eq_true_eq]
    constructor
    · rintro ⟨t, ht⟩
      have e1 := congrArg (List.take 9) ht
      rw [show a ++ b :: d1 :: d2 :: d3 :: e :: rest = (a ++ [b]) ++ d1 :: d2 :: d3 :: e :: rest by simp, List.take_left' (by rfl), List.take_left' (by simp [ha])] at e1
      have e2 := List.append_inj e1 (by rw [ha]; rfl)
      exact ⟨e2.1.symm, by have := e2.2; simpa using this.symm⟩
    · rintro ⟨rfl, rfl⟩
      exact ⟨_, by simp; rfl⟩
  unfold statusP
  rw [h9, hp]
  have hc : codeP (d1 :: d2 :: d3 :: e :: rest) = (decide (e = 32) && [d1, d2, d3].all digitP && rest.all printedP) := by
    unfold codeP onlyP
    simp [hl]
    by_cases he : e = 32
    · simp [he, Bool.and_assoc]
    · simp [he]
  rw [hc]
  simp only [List.take_succ_cons, List.take_zero, Bool.and_eq_true, decide_eq_true_eq, and_assoc]
theorem status_short {s : List UInt8} (h : s.length < 13) : statusP s = none := by
  unfold statusP
  rw [if_neg]
  rintro ⟨-, h2, -⟩
  unfold codeP at h2
  simp only [Bool.and_eq_true, decide_eq_true_eq, List.length_drop] at h2
  omega
theorem apart13 {s : List UInt8} (h : 13 ≤ s.length) : ∃ a b d1 d2 d3 e rest, s = a ++ b :: d1 :: d2 :: d3 :: e :: rest ∧ a.length = 8 := by
  have h1 := (List.take_append_drop 8 s).symm
  have h2 : (s.drop 8).length = s.length - 8 := List.length_drop
  obtain ⟨t, ht⟩ : ∃ t, s.drop 8 = t := ⟨_, rfl⟩
  rw [ht] at h1 h2
  match t, h2 with
  | b :: d1 :: d2 :: d3 :: e :: rest, _ => exact ⟨_, b, d1, d2, d3, e, rest, h1, by rw [List.length_take]; omega⟩
  | [], h2 => simp at h2; omega
  | [_], h2 => simp at h2; omega
  | [_, _], h2 => simp at h2; omega
  | [_, _, _], h2 => simp at h2; omega
  | [_, _, _, _], h2 => simp at h2; omega
theorem decP3 {d1 d2 d3 : UInt8} {x1 x2 x3 : Nat} (h : [d1, d2, d3].all digitP = true) (h1 : IntKind.u8.wrap ((d1.toNat : Int) - 48) = (x1 : Int)) (h2 : IntKind.u8.wrap ((d2.toNat : Int) - 48) = (x2 : Int)) (h3 : IntKind.u8.wrap ((d3.toNat : Int) - 48) = (x3 : Int)) : decP [d1, d2, d3] = 100 * x1 + 10 * x2 + x3 := by
  simp only [List.all_cons, List.all_nil, Bool.and_true, Bool.and_eq_true] at h
  have k : ∀ d : UInt8, digitP d = true → 48 ≤ d.toNat ∧ d.toNat ≤ 57 := fun d h => by
    unfold digitP at h
    simp only [Bool.and_eq_true, decide_eq_true_eq] at h
    exact ⟨UInt8.le_iff_toNat_le.1 h.1, UInt8.le_iff_toNat_le.1 h.2⟩
  obtain ⟨k1, k2⟩ := k _ h.1
  obtain ⟨k3, k4⟩ := k _ h.2.1
  obtain ⟨k5, k6⟩ := k _ h.2.2
  rw [IntKind.wrap_u8] at h1 h2 h3
  unfold decP
  simp only [Lib.decFrom, digitV h.1, digitV h.2.1, digitV h.2.2, Option.getD_some]
  omega
theorem wrap_u8_ex (d : UInt8) : ∃ x : Nat, IntKind.u8.wrap ((d.toNat : Int) - 48) = (x : Int) ∧ x ≤ 255 := by
  refine ⟨(IntKind.u8.wrap ((d.toNat : Int) - 48)).toNat, ?_, ?_⟩ <;> (rw [IntKind.wrap_u8]; omega)
end Go.Proofs.YtaomhkgdbobpkaaGreatDoor
