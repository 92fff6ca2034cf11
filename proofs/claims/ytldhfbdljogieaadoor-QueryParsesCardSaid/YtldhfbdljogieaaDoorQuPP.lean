/- Walks of the reference's end and of its Parse (layer 3): it computes parse, by positions and not by pieces. -/
import Derived.Test.YtldhfbdljogieaaDoorQuS
namespace Go.Proofs.YtldhfbdljogieaaDoor
open Go.RowKit Qu

namespace Qu
/-- The pieces from position a on: none past the end. -/
def rest (l : List UInt8) (a : Nat) : List (List UInt8) := if a ≤ l.length then pieces (l.drop a) else []
/-- From a on the first x of l lies at e, where e is at most n; or there is none ahead of n = e. -/
def UpTo (x : UInt8) (l : List UInt8) (a e n : Nat) : Prop := a ≤ e ∧ e ≤ n ∧ n ≤ l.length ∧ (∀ j c, a ≤ j → j < e → l[j]? = some c → c ≠ x) ∧ (e = n ∨ l[e]? = some x)
theorem first_of (x : UInt8) (r : List UInt8) : ∃ n, n ≤ r.length ∧ x ∉ r.take n ∧ ((n = r.length ∧ r.take n = r) ∨ (n < r.length ∧ r[n]? = some x ∧ r = r.take n ++ x :: r.drop (n + 1))) := by
  rcases index_mem x r with ⟨_, h⟩ | ⟨i, _, h2, h3, h4⟩
  · exact ⟨r.length, Nat.le_refl _, by rw [List.take_length]; exact h, .inl ⟨rfl, List.take_length⟩⟩
  · refine ⟨i, by omega, h4, .inr ⟨h2, ?_, h3⟩⟩
    rw [h3, List.getElem?_append_right (by rw [List.length_take]; omega), List.length_take, show i - min i r.length = 0 from by omega]
    rfl
theorem not_mem_get {x : UInt8} {p : List UInt8} (h : x ∉ p) {j : Nat} {c : UInt8} (hc : p[j]? = some c) : c ≠ x := fun e => h (e ▸ List.mem_of_getElem? hc)
theorem extract_mid (l : List UInt8) (a c : Nat) : (⟨l.toArray⟩ : ByteArray).extract a c = ⟨((l.drop a).take (c - a)).toArray⟩ := by
  apply ByteArray.ext
  apply Array.ext'
  rw [Lib.extract_data]
theorem piece_at (l : List UInt8) (a : Nat) (ha : a ≤ l.length) : ∃ (p : List UInt8) (c : Nat), rest l a = p :: rest l (a + p.length + 1) ∧ a + p.length ≤ l.length ∧ UpTo 38 l a (a + p.length) l.length ∧ UpTo 61 l a c (a + p.length) ∧
    (⟨l.toArray⟩ : ByteArray).extract a c = ⟨(tw p).toArray⟩ ∧ (c < a + p.length → (⟨l.toArray⟩ : ByteArray).extract (c + 1) (a + p.length) = ⟨(dw p).toArray⟩) ∧ (c = a + p.length → dw p = []) ∧ c = a + (tw p).length := by
  have hrl : (l.drop a).length = l.length - a := List.length_drop
  obtain ⟨n, hn, hno, hat⟩ := first_of 38 (l.drop a)
  obtain ⟨p, hp⟩ : ∃ p, (l.drop a).take n = p := ⟨_, rfl⟩
  have hpl : p.length = n := by rw [← hp, List.length_take]; omega
  obtain ⟨m, hm, hmo, hmat⟩ := first_of 61 p
  have hget : ∀ j, j < n → p[j]? = l[a + j]? := fun j hj => by rw [← hp, List.getElem?_take, if_pos hj, List.getElem?_drop]
  rw [hp] at hno
  have htw : tw p = p.take m ∧ dw p = p.drop (m + 1) := by
    rcases hmat with ⟨e1, e2⟩ | ⟨e1, _, e2⟩
    · rw [e2] at hmo
      obtain ⟨g1, g2⟩ := tw_none p hmo
      exact ⟨by rw [g1, e2], by rw [g2, List.drop_of_length_le (by omega)]⟩
    · have := tw_split (p.take m) (p.drop (m + 1)) hmo
      rw [← e2] at this
      exact this
  refine ⟨p, a + m, ?_, by omega, ⟨by omega, by omega, Nat.le_refl _, fun j c h1 h2 hc => ?_, ?_⟩, ⟨by omega, by omega, by omega, fun j c h1 h2 hc => ?_, ?_⟩, ?_, fun hlt => ?_, fun he => ?_, ?_⟩
  · rw [rest, if_pos ha]
    rcases hat with ⟨e1, e2⟩ | ⟨e1, e2, e3⟩
    · rw [hp] at e2
      rw [rest, if_neg (by omega), ← e2, pieces_none p hno]
    · rw [rest, if_pos (by omega)]
      conv => lhs; rw [e3, hp, pieces_split _ _ hno]
      rw [List.drop_drop, hpl, Nat.add_assoc]
  · refine not_mem_get hno (j := j - a) ?_
    rw [hget _ (by omega), show a + (j - a) = j from by omega, hc]
  · rcases hat with ⟨e1, _⟩ | ⟨e1, e2, _⟩
    · left; omega
    · right
      rw [List.getElem?_drop] at e2
      rw [hpl]; exact e2
  · refine not_mem_get hmo (j := j - a) ?_
    rw [List.getElem?_take, if_pos (by omega), hget _ (by omega), show a + (j - a) = j from by omega, hc]
  · rcases hmat with ⟨e1, _⟩ | ⟨e1, e2, _⟩
    · left; omega
    · right
      rw [← hget m (by omega)]; exact e2
  · rw [extract_mid, htw.1, ← hp, List.take_take, show a + m - a = min m n from by omega]
  · rw [extract_mid, htw.2, hpl, ← hp, List.drop_take, List.drop_drop, show a + n - (a + m + 1) = n - (m + 1) from by omega]
    rfl
  · rw [htw.2, List.drop_of_length_le (by omega)]
  · rw [htw.1, List.length_take]; omega
theorem parse_rest (l : List UInt8) (h : l ≠ []) : parse l = parseGo [] 0 (rest l 0) := by
  rw [rest, if_pos (Nat.zero_le _), List.drop_zero, parse, if_neg h]
theorem rest_end (l : List UInt8) (a : Nat) (h : l.length < a) : rest l a = [] := by rw [rest, if_neg (by omega)]
end Qu

set_option maxHeartbeats 400000 in
theorem refEnd_any (l : List UInt8) (a e : Nat) (hl : l.length ≤ 68719476736) (hU : UpTo 38 l a e l.length) (w : World) :
    Calls Tryd.prog 33 #[S l, .int .i64 a] w fun r w' => r = .returned (.int .i64 e) ∧ w = w' := by
  obtain ⟨h1, h2, _, h3, h4⟩ := hU
  have H3 := Lib.hid h3
  have H4 := Lib.hid h4
  have hsz := size_mk l
  clear h3 h4
  go_enter Tryd.func33, Tryd.ntmps33
  go_wp2
  go_loopw [1] (fun i wr => ∃ k : Nat, i = .int .i64 k ∧ a ≤ k ∧ k ≤ e ∧ w = wr) (fun i _ => e - (intOf i).toNat)
  case atStart => exact ⟨a, rfl, Nat.le_refl _, h1, rfl⟩
  case round =>
    obtain ⟨k, rfl, hk1, hk2, rfl⟩ := hrel
    by_cases hlt : k < e
    · have hkl : k < l.length := by omega
      have hix := run_index_str (P := Tryd.prog) Tryd.underlying9 ⟨l.toArray⟩ k k rfl (by rw [size_mk]; exact hkl) l[k] rfl
      have hc := H3.out k l[k] hk1 hlt (List.getElem?_eq_getElem hkl)
      obtain ⟨c, hcd⟩ : ∃ c, l[k] = c := ⟨_, rfl⟩
      rw [hcd] at hix hc
      have q : ((c.toNat : Int) != 38) = true := by
        have : c.toNat ≠ 38 := fun e => hc (UInt8.toNat.inj e)
        simp; omega
      have hkI : (k : Int) < (l.length : Int) := by omega
      clear hc hcd
      go_wp2
      go_roundw
      case rel => exact ⟨k + 1, by go_num, by omega, by omega, trivial⟩
      case measure => simp [intOf]; omega
    · obtain rfl : k = e := by omega
      rcases H4.out with he | he
      · have hkI : ¬ (k : Int) < (l.length : Int) := by omega
        go_wp2
        go_ret
        exact ⟨rfl, rfl⟩
      · have hkl : k < l.length := (List.getElem?_eq_some_iff.1 he).1
        have hix := run_index_str (P := Tryd.prog) Tryd.underlying9 ⟨l.toArray⟩ k k rfl (by rw [size_mk]; exact hkl) 38 (List.getElem?_eq_some_iff.1 he).2
        have hkI : (k : Int) < (l.length : Int) := by omega
        clear he
        go_wp2
        go_ret
        exact ⟨rfl, rfl⟩

theorem fieldP_bad1 (p : List UInt8) (h : (rd [] 0 (tw p)).2.1 ≠ 0) : fieldP p = (([], []), (rd [] 0 (tw p)).2.1, (rd [] 0 (tw p)).2.2) := by rw [fieldP, if_pos h]
theorem fieldP_bad2 (p : List UInt8) (h : ¬ (rd [] 0 (tw p)).2.1 ≠ 0) (h2 : (rd [] 0 (dw p)).2.1 ≠ 0) : fieldP p = (([], []), (rd [] 0 (dw p)).2.1, (tw p).length + 1 + (rd [] 0 (dw p)).2.2) := by rw [fieldP, if_neg h, if_pos h2]
theorem fieldP_good (p : List UInt8) (h : ¬ (rd [] 0 (tw p)).2.1 ≠ 0) (h2 : ¬ (rd [] 0 (dw p)).2.1 ≠ 0) : fieldP p = (((rd [] 0 (tw p)).1, (rd [] 0 (dw p)).1), 0, 0) := by rw [fieldP, if_neg h, if_neg h2]

set_option maxHeartbeats 4000000 in
set_option maxRecDepth 100000 in
theorem refParse_any (l : List UInt8) (w : World) (hl : l.length ≤ 68719476736) :
    Calls Tryd.prog 15 #[S l] w fun e w' => (∃ v, e = .returned (.tuple #[v, .int .i64 (parse l).2.1, .int .i64 ((parse l).2.2 : Int)]) ∧ OwnF w.heap.size v (parse l).1 w') ∧ Below w.heap.size w w' := by
  by_cases h0 : l = []
  · subst h0
    have hP : parse [] = ([], 0, 0) := rfl
    rw [hP]
    go_enter Tryd.func15, Tryd.ntmps15
    go_wp2
    go_ret3
    exact ⟨⟨_, rfl, OwnF.nil _ _⟩, Below.refl _ _⟩
  · have hP := parse_rest l h0
    rw [hP]
    obtain ⟨R, HR0⟩ : ∃ R, Hid (parseGo [] 0 (rest l 0) = R) := ⟨_, Lib.hid rfl⟩
    rw [HR0.out]
    have hempty : l.isEmpty = false := by cases l with | nil => exact absurd rfl h0 | cons _ _ => rfl
    have hsz := size_mk l
    clear hP h0
    go_enter Tryd.func15, Tryd.ntmps15
    go_wp2
    go_loopw [5, 6] (fun v i wr => ∃ (acc : List Fld) (a : Nat), i = .int .i64 a ∧ a ≤ l.length + 1 ∧ acc.length ≤ a ∧ OwnF w.heap.size v acc wr ∧ Hid (parseGo acc a (rest l a) = R) ∧ Below w.heap.size w wr) (fun _ i _ => l.length + 1 - (intOf i).toNat)
    case atStart => exact ⟨[], 0, rfl, Nat.zero_le _, Nat.le_refl _, OwnF.nil _ _, HR0, Below.refl _ _⟩
    case round =>
      obtain ⟨acc, a, rfl, hal, hac, hown, HR, hbw⟩ := hrel
      have hz := hbw.size
      have hlen : (Builtin.len_ #[31] 3 #[u5]).run Tryd.prog wr = .ok (.int .i64 (acc.length : Int)) wr := by
        obtain ⟨al, acap, hv⟩ := fldIn_len hown.fldIn
        rw [hv]
        rfl
      by_cases hle : a ≤ l.length
      · obtain ⟨p, c, hrest, hpl, hU38, hU61, hE1, hE2, hE3, hcE⟩ := piece_at l a hle
        have HRest := Lib.hid hrest
        obtain ⟨b, hb⟩ : ∃ b, a + p.length = b := ⟨_, rfl⟩
        rw [hb] at hpl hU38 hU61 hE2 hE3
        have HEnd := Lib.hid (refEnd_any l a b hl hU38)
        obtain ⟨hac1, hcb, _, hno, hat61⟩ := hU61
        have HNo := Lib.hid hno
        have HAt := Lib.hid hat61
        have htwl := tw_le p
        have hdwl := dw_le p
        have hrd1 := rd_at (tw p)
        have hrd2 := rd_at (dw p)
        have C1 := fun w => refread_any ((⟨l.toArray⟩ : ByteArray).extract a c) w (by rw [hE1, size_mk]; omega)
        have C2 := fun (h : c < b) w => refread_any ((⟨l.toArray⟩ : ByteArray).extract (c + 1) b) w (by rw [hE2 h, size_mk]; omega)
        have e1 : ((⟨l.toArray⟩ : ByteArray).extract a c).data.toList = tw p := by rw [hE1]
        have e2 : c < b → ((⟨l.toArray⟩ : ByteArray).extract (c + 1) b).data.toList = dw p := fun h => by rw [hE2 h]
        have HC1 : Hid (∀ w, Calls Tryd.prog 26 #[.string ((⟨l.toArray⟩ : ByteArray).extract a c)] w fun e w' => e = .returned (.tuple #[S (rd [] 0 (tw p)).1, .int .i64 (rd [] 0 (tw p)).2.1, .int .i64 ((rd [] 0 (tw p)).2.2 : Int)]) ∧ Below w.heap.size w w') := Lib.hid fun w => by
          have := C1 w
          rw [e1] at this
          exact this
        have HC2 : Hid (c < b → ∀ w, Calls Tryd.prog 26 #[.string ((⟨l.toArray⟩ : ByteArray).extract (c + 1) b)] w fun e w' => e = .returned (.tuple #[S (rd [] 0 (dw p)).1, .int .i64 (rd [] 0 (dw p)).2.1, .int .i64 ((rd [] 0 (dw p)).2.2 : Int)]) ∧ Below w.heap.size w w') := Lib.hid fun h w => by
          have := C2 h w
          rw [e2 h] at this
          exact this
        have HD0 : Hid (c = b → rd [] 0 (dw p) = ([], 0, 0)) := Lib.hid fun h => by rw [hE3 h, rd]
        clear C1 C2 e1 e2 hE1 hE2 hE3 hrest hU38 hno hat61
        have HF1 := Lib.hid (fieldP_bad1 p)
        have HF2 := Lib.hid (fieldP_bad2 p)
        have HF3 := Lib.hid (fieldP_good p)
        by_cases h32 : acc.length = 32
        · have hN : Hid (R = ([], 32, a)) := Lib.hid (by rw [← HR.out, HRest.out, parseGo_many _ _ _ _ h32])
          have q32 : ((acc.length : Int) == 32) = true := by rw [h32]; rfl
          have hlI : (a : Int) ≤ (l.length : Int) := by omega
          clear h32
          go_wp2
          go_ret3
          exact ⟨⟨_, ret_parse hN.out, by rw [hN.out]; exact OwnF.nil _ _⟩, hbw⟩
        · have q32 : ((acc.length : Int) == 32) = false := by simp; omega
          have hlI : (a : Int) ≤ (l.length : Int) := by omega
          by_cases hpe : p = []
          · subst hpe
            simp only [List.length_nil, Nat.add_zero] at hb
            subst hb
            have hN : Hid (R = ([], 31, a)) := Lib.hid (by rw [← HR.out, HRest.out, parseGo_empty _ _ _ h32])
            have qe : ((a : Int) == (a : Int)) = true := by simp
            clear h32
            go_wp2_with fail
            refine (HEnd.out _).mono ?_
            rintro e w1 ⟨rfl, rfl⟩
            go_wp2
            go_ret3
            exact ⟨⟨_, ret_parse hN.out, by rw [hN.out]; exact OwnF.nil _ _⟩, hbw⟩
          · have hp0 : 0 < p.length := List.length_pos_iff.2 hpe
            have qe : ((b : Int) == (a : Int)) = false := by simp; omega
            have HN1 := Lib.hid (fun h => parseGo_bad acc a p (rest l (b + 1)) h32 hpe h)
            have HN2 := Lib.hid (fun h => parseGo_ok acc a p (rest l (b + 1)) h32 hpe h)
            rw [hb] at HRest HN2
            rw [HRest.out] at HR
            rw [HR.out] at HN1 HN2
            clear HRest HR
            obtain ⟨R1, hR1⟩ : ∃ R, rd [] 0 (tw p) = R := ⟨_, rfl⟩
            obtain ⟨R2, hR2⟩ : ∃ R, rd [] 0 (dw p) = R := ⟨_, rfl⟩
            obtain ⟨F, hF⟩ : ∃ F, fieldP p = F := ⟨_, rfl⟩
            obtain ⟨k1, hk1⟩ : ∃ k, (tw p).length = k := ⟨_, rfl⟩
            rw [hF] at HN1 HN2
            rw [hR1, hF] at HF1
            rw [hR1, hR2, hF] at HF2 HF3
            rw [hk1] at HF2 hcE
            rw [hR1] at HC1 hrd1
            rw [hR2] at HC2 HD0 hrd2
            have HcE := Lib.hid hcE
            have hka : k1 ≤ l.length := by omega
            clear hR1 hR2 hF hk1 h32 hpe hcE
            go_wp2_with fail
            refine (HEnd.out _).mono ?_
            rintro e w1 ⟨rfl, rfl⟩
            go_wp2
            go_loopw [8] (fun x wi => ∃ k : Nat, x = .int .i64 k ∧ a ≤ k ∧ k ≤ c ∧ wr = wi) (fun x _ => c - (intOf x).toNat)
            case atStart => exact ⟨a, rfl, Nat.le_refl _, hac1, rfl⟩
            case round =>
              obtain ⟨k, rfl, hk1, hk2, rfl⟩ := hrel
              by_cases hlt : k < c
              · have hkl : k < l.length := by omega
                have hix := run_index_str (P := Tryd.prog) Tryd.underlying9 ⟨l.toArray⟩ k k rfl (by rw [size_mk]; exact hkl) l[k] rfl
                have hc := HNo.out k l[k] hk1 hlt (List.getElem?_eq_getElem hkl)
                obtain ⟨d, hcd⟩ : ∃ d, l[k] = d := ⟨_, rfl⟩
                rw [hcd] at hix hc
                have q : ((d.toNat : Int) != 61) = true := by
                  have : d.toNat ≠ 61 := fun e => hc (UInt8.toNat.inj e)
                  simp; omega
                have hkI : (k : Int) < (b : Int) := by omega
                clear hc hcd
                go_wp2
                go_roundw
                case rel => exact ⟨k + 1, by go_num, by omega, by omega, trivial⟩
                case measure => simp [intOf]; omega
              · obtain rfl : k = c := by omega
                have hak0 : (0 : Int) ≤ (a : Int) := by omega
                have hak1 : (a : Int) ≤ (k : Int) := by omega
                have hak2 : (k : Int) ≤ (l.length : Int) := by omega
                have hways : k = b ∨ (l[k]? = some 61 ∧ k < b) := by
                  rcases HAt.out with h | h
                  · exact .inl h
                  · by_cases hkb : k < b
                    · exact .inr ⟨h, hkb⟩
                    · exact .inl (by omega)
                rcases hways with hkb | ⟨h61, hkb⟩
                · subst hkb
                  have hkI : ¬ (k : Int) < (k : Int) := by omega
                  by_cases he1 : R1.2.1 ≠ 0
                  · have hF := HF1.out he1
                    have hN : Hid (R = ([], R1.2.1, a + R1.2.2)) := Lib.hid (by have := HN1.out (by rw [hF]; exact he1); rw [this, hF])
                    have qe1 : (R1.2.1 != 0) = true := by simpa using he1
                    clear HN1 HN2 HF1 HF2 HF3 he1 hF
                    go_wp2_with fail
                    refine (HC1.out _).mono ?_
                    rintro e w2 ⟨rfl, hb2⟩
                    go_wp2
                    go_ret3
                    exact ⟨⟨_, ret_parse hN.out, by rw [hN.out]; exact OwnF.nil _ _⟩, hbw.trans (hb2.mono hz)⟩
                  · have h2 := HD0.out rfl
                    have hF := HF3.out he1 (by rw [h2]; simp)
                    have hN := Lib.hid (HN2.out (by rw [hF]; simp))
                    have qe1 : (R1.2.1 != 0) = false := by simpa using he1
                    have hF1 : S R1.1 = S F.1.1 := by rw [hF]
                    have hF2 : S [] = S F.1.2 := by rw [hF, h2]
                    clear HN1 HN2 HF1 HF2 HF3 he1 hF h2
                    go_wp2_with fail
                    refine (HC1.out _).mono ?_
                    rintro e w2 ⟨rfl, hb2⟩
                    have hown2 : OwnF w.heap.size _ acc w2 := ownsRow_below hown hb2
                    have hz2 : wr.heap.size ≤ w2.heap.size := hb2.size
                    have hbN := hbw.trans (hb2.mono hz)
                    have hal : acc.length + 1 ≤ 4398046511104 := by omega
                    go_wp2_with (at_builtin; refine wpList_pushRow 31 44 Tryd.underlying31 infoField rfl (by decide) rfl _ _ rfl w.heap.size _ acc.length (fieldCells acc) [S F.1.1, S F.1.2] 1 w2 _ rfl rfl rfl (by intro u hu; simp at hu; rcases hu with rfl | rfl <;> rfl) 1 _ (by simp) rfl rfl hown2 hal (by decide) (by omega) ?_)
                    intro v' w' g1 g2 g3
                    go_wp2
                    go_roundw
                    case rel =>
                      refine ⟨acc ++ [F.1], k + 1, by go_num, by omega, by simp; omega, ?_, ?_, ?_⟩
                      · unfold OwnF
                        rw [fieldCells_snoc, List.length_append]
                        exact g1
                      · exact Lib.hid hN.out.symm
                      · exact hbN.trans g2
                    case measure => simp [intOf]; omega
                · have hix := run_index_str (P := Tryd.prog) Tryd.underlying9 ⟨l.toArray⟩ k k rfl (by rw [size_mk]; exact (List.getElem?_eq_some_iff.1 h61).1) 61 (List.getElem?_eq_some_iff.1 h61).2
                  have hkI : (k : Int) < (b : Int) := by omega
                  have hk10 : (0 : Int) ≤ (k : Int) + 1 := by omega
                  have hk11 : (k : Int) + 1 ≤ (b : Int) := by omega
                  have hk12 : (b : Int) ≤ (l.length : Int) := by omega
                  by_cases he1 : R1.2.1 ≠ 0
                  · have hF := HF1.out he1
                    have hN : Hid (R = ([], R1.2.1, a + R1.2.2)) := Lib.hid (by have := HN1.out (by rw [hF]; exact he1); rw [this, hF])
                    have qe1 : (R1.2.1 != 0) = true := by simpa using he1
                    clear HN1 HN2 HF1 HF2 HF3 he1 hF h61
                    go_wp2_with fail
                    refine (HC1.out _).mono ?_
                    rintro e w2 ⟨rfl, hb2⟩
                    go_wp2
                    go_ret3
                    exact ⟨⟨_, ret_parse hN.out, by rw [hN.out]; exact OwnF.nil _ _⟩, hbw.trans (hb2.mono hz)⟩
                  · have qe1 : (R1.2.1 != 0) = false := by simpa using he1
                    by_cases he2 : R2.2.1 ≠ 0
                    · have hF := HF2.out he1 he2
                      have hN : Hid (R = ([], R2.2.1, k + 1 + R2.2.2)) := Lib.hid (by
                        have := HN1.out (by rw [hF]; exact he2)
                        rw [this, hF]
                        have h5 := HcE.out
                        simp only [Prod.mk.injEq, true_and]
                        omega)
                      have qe2 : (R2.2.1 != 0) = true := by simpa using he2
                      clear HN1 HN2 HF1 HF2 HF3 he1 he2 hF h61
                      go_wp2_with fail
                      refine (HC1.out _).mono ?_
                      rintro e w2 ⟨rfl, hb2⟩
                      have hz2 := hb2.size
                      go_wp2_with fail
                      refine (HC2.out hkb _).mono ?_
                      rintro e w3 ⟨rfl, hb3⟩
                      go_wp2
                      go_ret3
                      exact ⟨⟨_, ret_parse hN.out, by rw [hN.out]; exact OwnF.nil _ _⟩, (hbw.trans (hb2.mono hz)).trans (hb3.mono (by omega))⟩
                    · have qe2 : (R2.2.1 != 0) = false := by simpa using he2
                      have hF := HF3.out he1 he2
                      have hN := Lib.hid (HN2.out (by rw [hF]; simp))
                      have hF1 : S R1.1 = S F.1.1 := by rw [hF]
                      have hF2 : S R2.1 = S F.1.2 := by rw [hF]
                      clear HN1 HN2 HF1 HF2 HF3 he1 he2 hF h61
                      go_wp2_with fail
                      refine (HC1.out _).mono ?_
                      rintro e w2 ⟨rfl, hb2⟩
                      have hz2 : wr.heap.size ≤ w2.heap.size := hb2.size
                      have hown2 : OwnF w.heap.size _ acc w2 := ownsRow_below hown hb2
                      go_wp2_with fail
                      refine (HC2.out hkb _).mono ?_
                      rintro e w3 ⟨rfl, hb3⟩
                      have hz3 : w2.heap.size ≤ w3.heap.size := hb3.size
                      have hown3 : OwnF w.heap.size _ acc w3 := ownsRow_below hown2 hb3
                      have hbN := (hbw.trans (hb2.mono hz)).trans (hb3.mono (by omega))
                      have hal : acc.length + 1 ≤ 4398046511104 := by omega
                      go_wp2_with (at_builtin; refine wpList_pushRow 31 44 Tryd.underlying31 infoField rfl (by decide) rfl _ _ rfl w.heap.size _ acc.length (fieldCells acc) [S F.1.1, S F.1.2] 1 w3 _ rfl rfl rfl (by intro u hu; simp at hu; rcases hu with rfl | rfl <;> rfl) 1 _ (by simp) rfl rfl hown3 hal (by decide) (by omega) ?_)
                      intro v' w' g1 g2 g3
                      go_wp2
                      go_roundw
                      case rel =>
                        refine ⟨acc ++ [F.1], b + 1, by go_num, by omega, by simp; omega, ?_, ?_, ?_⟩
                        · unfold OwnF
                          rw [fieldCells_snoc, List.length_append]
                          exact g1
                        · exact Lib.hid hN.out.symm
                        · exact hbN.trans g2
                      case measure => simp [intOf]; omega
      · have hN : Hid (R = (acc, 0, 0)) := Lib.hid (by rw [← HR.out, rest_end l a (by omega)]; rfl)
        have hlI : ¬ (a : Int) ≤ (l.length : Int) := by omega
        go_wp2
        go_ret3
        exact ⟨⟨_, ret_parse hN.out, by rw [hN.out]; exact hown⟩, hbw⟩
end Go.Proofs.YtldhfbdljogieaaDoor
