/- Walks of wire (layer 5), twelfth part: the first line of an answer. -/
import Derived.Test.YtaomhkgdbobpkaaGreatDoorWiW11
namespace Go.Proofs.YtaomhkgdbobpkaaGreatDoor
open Go.RowKit Wi

set_option maxHeartbeats 8000000 in
set_option maxRecDepth 100000 in
theorem begins_stat (g bx : Nat) (lv fv hv bv : Value) (r : R) (s : List UInt8) (w : World) (h : RdC g bx lv fv hv bv r w) (hl : s.length ≤ 100000) (ha : r.ans = true) :
    Calls Tryz.prog 101 #[.pointer (some ⟨g, 0, none⟩), S s] w (BegQ g bx lv hv bv (beginsP r s) w) := by
  have CP := Lib.hid (fun W => Tryz.strings_CutPrefix ⟨s.toArray⟩ ⟨#[72, 84, 84, 80, 47, 49, 46, 49, 32]⟩ W)
  obtain ⟨ok, hok⟩ : ∃ ok, Lib.hasPrefix s (versionL ++ [32]) = ok := ⟨_, rfl⟩
  obtain ⟨a, haa⟩ : ∃ a, Lib.trimPrefix s (versionL ++ [32]) = a := ⟨_, rfl⟩
  have had : ok = true → a = s.drop 9 := fun e => by
    rw [← haa]
    unfold Lib.trimPrefix
    rw [hok, if_pos e]
    rfl
  have CP2 : Hid (∀ W, Calls Tryz.prog 114 #[S s, .string ⟨#[72, 84, 84, 80, 47, 49, 46, 49, 32]⟩] W fun e w' => e = .returned (.tuple #[S a, .bool ok]) ∧ w' = W) := Lib.hid fun W => by
    rw [← haa, ← hok]; exact CP.out W
  have hal : a.length ≤ 100000 := by
    rw [← haa]
    unfold Lib.trimPrefix
    split
    · rw [List.length_drop]; omega
    · exact hl
  have HR : Hid (beginsP r s = if ok = true ∧ codeP (s.drop 9) = true ∧ 100 ≤ decP ((s.drop 9).take 3) ∧ decP ((s.drop 9).take 3) ≤ 599 then some { r with first := [(s.drop 9).take 3] } else none) := Lib.hid (by
    unfold beginsP statusP
    rw [ha, if_pos rfl, hok]
    split <;> rfl)
  have HC := Lib.hid h
  obtain ⟨-, c1, -⟩ := h.facts
  rw [ha] at c1
  have HAD := Lib.hid had
  clear h ha hok haa CP had
  have HNO : Hid (∀ w', beginsP r s = none → Kept (fun _ => True) w w' → BegQ g bx lv hv bv (beginsP r s) w (.returned (.bool false)) w') := Lib.hid fun w' he hk => by
    rw [he]
    exact ⟨rfl, fun _ h => (by cases h), hk.mono fun _ _ _ => trivial⟩
  cases ok with
  | false =>
    have HZ := Lib.hid (HNO.out w (by rw [HR.out, if_neg (fun h => by cases h.1)]) (Kept.refl _ w))
    go_enter Tryz.func101, Tryz.ntmps101
    go_wp2_with (refine (CP2.out _).mono ?_; rintro e w1 ⟨rfl, rfl⟩)
    go_ret
    exact HZ.out
  | true =>
    have HRA : Hid (beginsP r s = if codeP a = true ∧ 100 ≤ decP (a.take 3) ∧ decP (a.take 3) ≤ 599 then some { r with first := [a.take 3] } else none) := Lib.hid (by
      rw [HR.out, HAD.out rfl]
      by_cases h : codeP (s.drop 9) = true ∧ 100 ≤ decP ((s.drop 9).take 3) ∧ decP ((s.drop 9).take 3) ≤ 599
      · rw [if_pos h, if_pos ⟨rfl, h⟩]
      · rw [if_neg h, if_neg fun k => h k.2])
    have haz : (⟨a.toArray⟩ : ByteArray).size = a.length := size_mk a
    clear HR HAD
    by_cases h4 : a.length < 4
    · have h4' : (a.length : Int) < 4 := by omega
      have HZ := Lib.hid (HNO.out w (by
        rw [HRA.out, if_neg]
        rintro ⟨h, -⟩
        unfold codeP at h
        rw [decide_eq_false (by omega)] at h
        cases h) (Kept.refl _ w))
      clear h4
      go_enter Tryz.func101, Tryz.ntmps101
      go_wp2_with (refine (CP2.out _).mono ?_; rintro e w1 ⟨rfl, rfl⟩)
      go_ret
      exact HZ.out
    have h4' : ¬ (a.length : Int) < 4 := by omega
    obtain ⟨x, hx⟩ : ∃ x, a[3]? = some x := ⟨_, List.getElem?_eq_getElem (by omega)⟩
    have hx2 := run_at a 3 x hx
    have e1 := byte_is x 32 32 rfl
    have h3s : 3 < (⟨a.toArray⟩ : ByteArray).size := by rw [haz]; omega
    have hxg : (⟨a.toArray⟩ : ByteArray)[3]'h3s = x := by
      obtain ⟨h, e⟩ := List.getElem?_eq_some_iff.1 hx
      exact e
    have EX1 : (⟨a.toArray⟩ : ByteArray).extract 0 3 = ⟨(a.take 3).toArray⟩ := by rw [extract_ba]; simp
    have EX2 : (⟨a.toArray⟩ : ByteArray).extract 4 a.length = ⟨(a.drop 4).toArray⟩ := by rw [extract_ba, List.take_of_length_le (by rw [List.length_drop]; omega)]
    obtain ⟨d, hd⟩ : ∃ d, a.take 3 = d := ⟨_, rfl⟩
    obtain ⟨z, hz⟩ : ∃ z, a.drop 4 = z := ⟨_, rfl⟩
    have hdl : d.length = 3 := by rw [← hd, List.length_take]; omega
    have hzl : z.length ≤ 100000 := by rw [← hz, List.length_drop]; omega
    have hdz : (⟨d.toArray⟩ : ByteArray).size = 3 := by rw [size_mk, hdl]
    rw [hd] at EX1
    rw [hz] at EX2
    have OD : Hid (∀ W, Calls Tryz.prog 78 #[S d, .int .i64 3, .int .i64 3, .func (.func 115) #[] #[]] W fun e w' => e = .returned (.bool (onlyP d 3 3 digitP)) ∧ Kept (fun _ => True) W w') := Lib.hid (fun W => only_any d 3 3 _ digitP W digit_may (by omega) (by omega) (by omega))
    have OZ : Hid (∀ W, Calls Tryz.prog 78 #[S z, .int .i64 0, .int .i64 1000, .func (.func 91) #[] #[]] W fun e w' => e = .returned (.bool (onlyP z 0 1000 printedP)) ∧ Kept (fun _ => True) W w') := Lib.hid (fun W => only_any z 0 1000 _ printedP W printed_may (by omega) (by omega) (by omega))
    obtain ⟨q1, hq1⟩ : ∃ q, onlyP d 3 3 digitP = q := ⟨_, rfl⟩
    obtain ⟨q2, hq2⟩ : ∃ q, onlyP z 0 1000 printedP = q := ⟨_, rfl⟩
    have HCO : Hid (codeP a = (decide (x = 32) && q1 && q2)) := Lib.hid (by
      unfold codeP
      rw [decide_eq_true (by omega : 4 ≤ a.length), hx, hd, hz, hq1, hq2]
      simp only [Bool.true_and]
      congr 2)
    rw [hd] at HRA
    rw [hq1] at OD
    rw [hq2] at OZ
    have HQ1 := Lib.hid hq1
    have hxb : ((((⟨a.toArray⟩ : ByteArray)[3]'h3s).toNat : Int) == 32) = decide (x = 32) := by rw [hxg]; exact e1
    obtain ⟨p, hp⟩ : ∃ p, decide (x = 32) = p := ⟨_, rfl⟩
    rw [hp] at HCO hxb e1
    clear hx hxg hd hz hq1 hq2 hp h4
    cases p with
    | false =>
      have e4 : ((((⟨a.toArray⟩ : ByteArray)[3]'h3s).toNat : Int) != 32) = true := by rw [bne, hxb]; rfl
      have HZ := Lib.hid (HNO.out w (by rw [HRA.out, if_neg]; rintro ⟨h, -⟩; rw [HCO.out] at h; cases h) (Kept.refl _ w))
      go_enter Tryz.func101, Tryz.ntmps101
      go_wp2_with (refine (CP2.out _).mono ?_; rintro e w1 ⟨rfl, rfl⟩)
      all_goals
        first
          | (exfalso; simp_all; done)
          | (go_ret
             exact HZ.out)
    | true =>
      have e4 : ((((⟨a.toArray⟩ : ByteArray)[3]'h3s).toNat : Int) != 32) = false := by rw [bne, hxb]; rfl
      cases q1 with
      | false =>
        have HZ := Lib.hid (fun W hk => HNO.out W (by rw [HRA.out, if_neg]; rintro ⟨h, -⟩; rw [HCO.out] at h; cases h) hk)
        go_enter Tryz.func101, Tryz.ntmps101
        go_wp2_with (first
          | (go_at_call 114; refine (CP2.out _).mono ?_; rintro e w1 ⟨rfl, rfl⟩)
          | (go_at_call 78; (with_reducible refine (OD.out _).mono ?_); rintro e w2 ⟨rfl, hk2⟩))
        go_ret
        exact HZ.out _ hk2
      | true =>
        cases q2 with
        | false =>
          have HZ := Lib.hid (fun W hk => HNO.out W (by rw [HRA.out, if_neg]; rintro ⟨h, -⟩; rw [HCO.out] at h; cases h) hk)
          go_enter Tryz.func101, Tryz.ntmps101
          go_wp2_with (first
            | (go_at_call 114; refine (CP2.out _).mono ?_; rintro e w1 ⟨rfl, rfl⟩)
            | (go_at_call 78; (with_reducible refine (OD.out _).mono ?_); rintro e w2 ⟨rfl, hk2⟩)
            | (go_at_call 78; (with_reducible refine (OZ.out _).mono ?_); rintro e w3 ⟨rfl, hk3⟩))
          go_ret
          exact HZ.out _ (hk2.tr hk3)
        | true =>
          have hall : d.all digitP = true := by
            have := HQ1.out
            unfold onlyP at this
            simp only [Bool.and_eq_true] at this
            exact this.1.1
          obtain ⟨hat, hlt⟩ := atoi_digits hall (fun e => by rw [e] at hdl; cases hdl)
          have AT := Lib.hid (fun W => Tryz.strconv_Atoi ⟨d.toArray⟩ (decP d) (by rw [hdz]; omega) hat W)
          obtain ⟨n, hn⟩ : ∃ n, decP d = n := ⟨_, rfl⟩
          rw [hn] at AT HRA hlt
          have hn1 : n < 1000 := by rw [hdl] at hlt; exact hlt
          have HRB : Hid (beginsP r s = if 100 ≤ n ∧ n ≤ 599 then some { r with first := [d] } else none) := Lib.hid (by
            rw [HRA.out]
            by_cases h : 100 ≤ n ∧ n ≤ 599
            · rw [if_pos h, if_pos ⟨by rw [HCO.out]; rfl, h⟩]
            · rw [if_neg h, if_neg fun k => h k.2])
          clear hall hat hlt hn HRA HCO HQ1
          go_enter Tryz.func101, Tryz.ntmps101
          go_wp2_with (first
            | (go_at_call 114; refine (CP2.out _).mono ?_; rintro e w1 ⟨rfl, rfl⟩)
            | (go_at_call 78; (with_reducible refine (OD.out _).mono ?_); rintro e w2 ⟨rfl, hk2⟩)
            | (go_at_call 78; (with_reducible refine (OZ.out _).mono ?_); rintro e w3 ⟨rfl, hk3⟩)
            | (go_at_call 64; fail))
          refine (AT.out _).mono ?_
          rintro e w4 ⟨rfl, t, hw4⟩
          have hk4 : Kept (fun _ => True) w3 w4 := by rw [hw4]; exact Kept.bytesW _ _ _
          obtain ⟨W5, hW5⟩ : ∃ W5, w4.alloc (.cells #[S d] 9) = W5 := ⟨_, rfl⟩
          have hk5 : Kept (fun _ => True) w4 W5 := by rw [← hW5]; exact (Kept.refl _ w4).alloc _
          have hb5 : W5.heap[w4.heap.size]? = some (.cells #[S d] 9 (0, 0)) := by rw [← hW5]; exact heap_alloc_new w4 _
          have HKA := Lib.hid (((hk2.tr hk3).tr hk4).tr hk5)
          have hwz : Hid (w1.heap.size ≤ w4.heap.size) := Lib.hid ((hk2.tr hk3).tr hk4).size
          have HC5 := Lib.hid (HC.out.kept HKA.out fun _ _ => trivial)
          have HB5 := Lib.hid hb5
          have HF := Lib.hid (HC5.out.setFirst (fv' := .slice (some ⟨w4.heap.size, 0, none⟩) 1 1) (ls := [d]) (.inr ⟨_, _, _, _, rfl, HB5.out, by simp, fun j l hj => by
            match j, hj with
            | 0, hj => simpa using hj
            | j + 1, hj => simp at hj⟩))
          have f9 := HC5.out.facts.2.2.2.2.2.2.2.2.2.1 5
          obtain ⟨-, -, -, -, -, c5, -⟩ := HC5.out.facts
          have HKS := Lib.hid (((HKA.out).mono (ok2 := (· ≠ g)) fun _ _ _ => trivial).setCell (p := ⟨g, 5, none⟩) (.inr (by simp)) (.slice (some ⟨w4.heap.size, 0, none⟩) 1 1))
          clear hw4 hk2 hk3 hk4 hk5 hb5
          by_cases h1 : 100 ≤ n
          · by_cases h2 : n ≤ 599
            · have HZ : Hid (BegQ g bx lv hv bv (beginsP r s) w1 (.returned (.bool true)) (W5.setCell ⟨g, 5, none⟩ (.slice (some ⟨w4.heap.size, 0, none⟩) 1 1))) := Lib.hid (by
                rw [HRB.out, if_pos ⟨h1, h2⟩]
                refine ⟨rfl, fun r' hr' => ?_, HKS.out⟩
                obtain rfl := Option.some.inj hr'
                exact ⟨_, HF.out, fun b hb => by
                  obtain rfl : w4.heap.size = b := by simpa [Value.ownBlock] using hb
                  exact hwz.out⟩)
              have h1' : (100 : Int) ≤ (n : Int) := by omega
              have h2' : (n : Int) ≤ 599 := by omega
              clear h1 h2
              go_wp2
              go_ret
              exact HZ.out
            · have HZ : Hid (BegQ g bx lv hv bv (beginsP r s) w1 (.returned (.bool false)) (W5.setCell ⟨g, 5, none⟩ (.slice (some ⟨w4.heap.size, 0, none⟩) 1 1))) := Lib.hid (by
                rw [HRB.out, if_neg fun k => h2 k.2]
                exact ⟨rfl, fun _ h => (by cases h), HKS.out⟩)
              have h1' : (100 : Int) ≤ (n : Int) := by omega
              have h2' : ¬ (n : Int) ≤ 599 := by omega
              have e9 : decide ((n : Int) ≤ 599) = false := decide_eq_false h2'
              clear h1 h2
              go_wp2
              go_ret
              exact HZ.out
          · have HZ : Hid (BegQ g bx lv hv bv (beginsP r s) w1 (.returned (.bool false)) (W5.setCell ⟨g, 5, none⟩ (.slice (some ⟨w4.heap.size, 0, none⟩) 1 1))) := Lib.hid (by
              rw [HRB.out, if_neg fun k => h1 k.1]
              exact ⟨rfl, fun _ h => (by cases h), HKS.out⟩)
            have h1' : ¬ (100 : Int) ≤ (n : Int) := by omega
            clear h1
            go_wp2
            go_ret
            exact HZ.out
end Go.Proofs.YtaomhkgdbobpkaaGreatDoor
