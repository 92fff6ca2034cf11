/- Walks of the reference of layer 5, second part: a header; what headers and a body may be. -/
import Derived.Test.YtaomhkgdbobpkaaGreatDoorWiR1
namespace Go.Proofs.YtaomhkgdbobpkaaGreatDoor
open Go.RowKit Wi

def valueP (s : List UInt8) : Bool := s.all printedP && bareP s
theorem bareP_ends {s : List UInt8} {c d : UInt8} (hc : s[0]? = some c) (hd : s[s.length - 1]? = some d) : bareP s = (decide (c ≠ 32) && decide (d ≠ 32)) := by
  have h1 : s.head? = some c := by rw [List.head?_eq_getElem?, hc]
  have h2 : s.getLast? = some d := by rw [List.getLast?_eq_getElem?]; exact hd
  have h3 : s.isEmpty = false := by cases s with
    | nil => simp at hc
    | cons a s => rfl
  unfold bareP
  rw [h1, h2, h3]
  by_cases k1 : c = 32 <;> by_cases k2 : d = 32 <;> simp [k1, k2]
set_option maxHeartbeats 4000000 in
theorem refValue_any (s : List UInt8) (w : World) (hs : s.length ≤ 4611686018427387904) : Calls Tryz.prog 93 #[S s] w fun e w' => e = .returned (.bool (valueP s)) ∧ Kept (fun _ => True) w w' := by
  have hsz : (⟨s.toArray⟩ : ByteArray).size = s.length := size_mk s
  have WI := Lib.hid (within_any s 32 126 printedP (fun c => by unfold printedP; rw [u8le, u8le]; rfl) w hs)
  have HO : Hid (valueP s = (s.all printedP && bareP s)) := Lib.hid rfl
  obtain ⟨b, hb⟩ : ∃ b, s.all printedP = b := ⟨_, rfl⟩
  rw [hb] at WI HO
  clear hb
  go_enter Tryz.func93, Tryz.ntmps93
  go_wp2_with fail
  refine WI.out.mono ?_
  rintro e w1 ⟨rfl, hk1⟩
  cases b
  · go_wp2
    go_ret
    exact ⟨ret_bool (by rw [HO.out]; rfl), hk1⟩
  · by_cases h0 : s = []
    · subst h0
      go_wp2
      go_ret
      exact ⟨ret_bool (by rw [HO.out]; rfl), hk1⟩
    · have hl : 1 ≤ s.length := by rcases s with _ | _ <;> simp_all
      have q0 : (s == []) = false := beq_eq_false_iff_ne.2 h0
      obtain ⟨c, hc⟩ : ∃ c, s[0]? = some c := ⟨s[0], List.getElem?_eq_getElem (by omega)⟩
      obtain ⟨d, hd⟩ : ∃ d, s[s.length - 1]? = some d := ⟨s[s.length - 1], List.getElem?_eq_getElem (by omega)⟩
      have hI := run_at s 0 c hc
      have hI2 := run_at s (s.length - 1) d hd
      rw [show ((s.length - 1 : Nat) : Int) = (s.length : Int) - 1 by omega] at hI2
      rw [bareP_ends hc hd] at HO
      have h0s : 0 < (⟨s.toArray⟩ : ByteArray).size := by rw [hsz]; omega
      have hb0 := ba_get0 hc h0s
      have e1 : ((((⟨s.toArray⟩ : ByteArray)[0]'h0s).toNat : Int) != 32) = decide (c ≠ 32) := by rw [hb0, bne, byte_is c 32 32 rfl]; simp
      have e2 : ((d.toNat : Int) != 32) = decide (d ≠ 32) := by rw [bne, byte_is d 32 32 rfl]; simp
      obtain ⟨p, hp⟩ : ∃ p, decide (c ≠ 32) = p := ⟨_, rfl⟩
      obtain ⟨q, hq⟩ : ∃ q, decide (d ≠ 32) = q := ⟨_, rfl⟩
      rw [hp, hq] at HO
      rw [hp] at e1
      rw [hq] at e2
      clear hc hd h0 hp hq hb0
      cases p <;> cases q
      all_goals
        go_wp2
        go_ret
        exact ⟨ret_bool (by rw [HO.out]; rfl), hk1⟩
theorem header_eq (f : Fl) : isHeaderP f = (isNameP f.1 && valueP f.2 && decide (f.1.length + 2 + f.2.length ≤ 1000) && (low f.1 != lengthN) && (low f.1 != codingN)) := by
  unfold isHeaderP valueP onlyP
  by_cases h : f.1.length + 2 + f.2.length ≤ 1000
  · rw [decide_eq_true h, decide_eq_true (show f.2.length ≤ 1000 by omega), decide_eq_true (Nat.zero_le f.2.length)]
    cases isNameP f.1 <;> cases f.2.all printedP <;> cases bareP f.2 <;> rfl
  · rw [decide_eq_false h]; simp
theorem three_tests' {a b c : Bool} : (a = false) ∨ (a = true ∧ b = false) ∨ (a = true ∧ b = true ∧ c = false) ∨ (a = true ∧ b = true ∧ c = true) := by cases a <;> cases b <;> cases c <;> simp
set_option maxHeartbeats 4000000 in
set_option maxRecDepth 100000 in
theorem refHeader_any (f : Fl) (w : World) (h1 : f.1.length ≤ 1099511627776) (h2 : f.2.length ≤ 1099511627776) :
    Calls Tryz.prog 83 #[.agg #[S f.1, S f.2]] w fun e w' => e = .returned (.bool (isHeaderP f)) ∧ Kept (fun _ => True) w w' := by
  obtain ⟨n, v⟩ := f
  simp only at h1 h2
  obtain ⟨W0, hW0⟩ : ∃ W0, w.alloc (.cells #[S n, S v] 61) = W0 := ⟨_, rfl⟩
  have hk0 : Kept (fun _ => True) w W0 := by rw [← hW0]; exact (Kept.refl _ w).alloc _
  have hbox : FAt w.heap.size (n, v) W0 := by rw [← hW0]; exact heap_alloc_new w _
  have HB := Lib.hid hbox
  have HK0 := Lib.hid hk0
  have NM := Lib.hid (fun W => refName_any n W (by omega))
  have SM := Lib.hid (fun W => Small_any n W (by omega))
  have VL := Lib.hid (fun W => refValue_any v W (by omega))
  have HR := Lib.hid (header_eq (n, v))
  simp only at HR
  obtain ⟨a, ha⟩ : ∃ a, isNameP n = a := ⟨_, rfl⟩
  obtain ⟨b, hb⟩ : ∃ b, valueP v = b := ⟨_, rfl⟩
  obtain ⟨l, hl⟩ : ∃ l, low n = l := ⟨_, rfl⟩
  rw [ha, hb, hl] at HR
  rw [ha] at NM
  rw [hb] at VL
  rw [hl] at SM
  have hnz : (⟨n.toArray⟩ : ByteArray).size = n.length := size_mk n
  have hvz : (⟨v.toArray⟩ : ByteArray).size = v.length := size_mk v
  obtain ⟨o0, o1⟩ := hbox.facts
  clear hbox hk0 ha hb hl
  simp only at o0 o1
  go_enter Tryz.func83, Tryz.ntmps83
  go_wp2_with fail
  refine (NM.out _).mono ?_
  rintro e w1 ⟨rfl, hk1⟩
  clear o0 o1
  obtain ⟨o0, o1⟩ := (HB.out.kept hk1 trivial).facts
  simp only at o0 o1
  have HK1 := Lib.hid hk1
  clear hk1 hW0
  go_wp2_with fail
  refine (VL.out _).mono ?_
  rintro e w2 ⟨rfl, hk2⟩
  have HK2 := Lib.hid (HK1.out.tr hk2)
  clear o0 o1 hk2
  obtain ⟨o0, o1⟩ := (HB.out.kept HK2.out trivial).facts
  simp only at o0 o1
  go_wp2_with fail
  refine (SM.out _).mono ?_
  rintro e w3 ⟨rfl, hk3⟩
  have HK3 := Lib.hid (HK2.out.tr hk3)
  clear o0 o1 hk3
  obtain ⟨o0, o1⟩ := (HB.out.kept HK3.out trivial).facts
  simp only at o0 o1
  have HKZ := Lib.hid (HK0.out.tr HK3.out)
  cases a with
  | false =>
    go_wp2
    go_ret
    exact ⟨ret_bool (by rw [HR.out]; rfl), HKZ.out⟩
  | true =>
    cases b with
    | false =>
      go_wp2
      go_ret
      exact ⟨ret_bool (by rw [HR.out]; rfl), HKZ.out⟩
    | true =>
      by_cases hlen : n.length + 2 + v.length ≤ 1000
      · have hl2 : (n.length : Int) + 2 + (v.length : Int) ≤ 1000 := by omega
        by_cases e1 : l = lengthN
        · have HF : Hid (isHeaderP (n, v) = false) := Lib.hid (by rw [HR.out, e1]; simp)
          have q1 : (l == [99, 111, 110, 116, 101, 110, 116, 45, 108, 101, 110, 103, 116, 104]) = true := by rw [e1]; rfl
          clear e1
          go_wp2
          go_ret
          exact ⟨ret_bool HF.out.symm, HKZ.out⟩
        · have q1 : (l == [99, 111, 110, 116, 101, 110, 116, 45, 108, 101, 110, 103, 116, 104]) = false := beq_eq_false_iff_ne.2 e1
          by_cases e2 : l = codingN
          · have HF : Hid (isHeaderP (n, v) = false) := Lib.hid (by rw [HR.out, e2]; simp)
            have q2 : (l == [116, 114, 97, 110, 115, 102, 101, 114, 45, 101, 110, 99, 111, 100, 105, 110, 103]) = true := by rw [e2]; rfl
            clear e1 e2
            go_wp2
            go_ret
            exact ⟨ret_bool HF.out.symm, HKZ.out⟩
          · have HF : Hid (isHeaderP (n, v) = true) := Lib.hid (by rw [HR.out]; simp [hlen, e1, e2])
            have q2 : (l == [116, 114, 97, 110, 115, 102, 101, 114, 45, 101, 110, 99, 111, 100, 105, 110, 103]) = false := beq_eq_false_iff_ne.2 e2
            clear e1 e2
            go_wp2
            go_ret
            exact ⟨ret_bool HF.out.symm, HKZ.out⟩
      · have hl2 : ¬ (n.length : Int) + 2 + (v.length : Int) ≤ 1000 := by omega
        have HF : Hid (isHeaderP (n, v) = false) := Lib.hid (by rw [HR.out]; simp [hlen])
        go_wp2
        go_ret
        exact ⟨ret_bool HF.out.symm, HKZ.out⟩
set_option maxHeartbeats 4000000 in
theorem refBodied_any (fs : List Fl) (v : Value) (body : List UInt8) (w : World) (hv : RowF (fun _ => True) w v fs) (hf : SmlF fs) (h3 : Sml body) :
    Calls Tryz.prog 57 #[v, S body] w fun e w' => e = .returned (.bool (restOk fs body)) ∧ Kept (fun _ => True) w w' := by
  obtain ⟨a, c, rfl⟩ := hv.slice
  obtain ⟨hn, hf⟩ := hf
  have hbz : (⟨body.toArray⟩ : ByteArray).size = body.length := size_mk body
  have hbl : body.length ≤ 1099511627776 := h3
  have HV := Lib.hid hv
  have HF := Lib.hid hf
  clear hv hf h3
  go_enter Tryz.func57, Tryz.ntmps57
  go_wp2_with fail
  go_loopg [5] fs.length (fun q n wr => ∃ i : Nat, n = .int .i64 i ∧ q = fs.length - i ∧ i ≤ fs.length ∧ Hid ((fs.take i).all isHeaderP = true) ∧ Hid (Kept (fun _ => True) w wr))
  case atStart => exact ⟨0, rfl, rfl, Nat.zero_le _, Lib.hid (by simp), Lib.hid (Kept.refl _ _)⟩
  case round =>
    obtain ⟨i, rfl, rfl, hi, HA, HK⟩ := hrel
    by_cases hlt : i < fs.length
    · obtain ⟨b, off, rfl, hb, -, f, hfi, x0, x1⟩ := HV.out.at hlt
      obtain ⟨l1, l2⟩ := HF.out f (List.mem_of_getElem? hfi)
      have HC := Lib.hid (refHeader_any f wr l1 l2)
      have HT := Lib.hid (all_takeF isHeaderP hfi HA.out)
      have HO : Hid (isHeaderP f = false → restOk fs body = false) := Lib.hid (fun h => by
        unfold restOk
        rw [show fs.all isHeaderP = false by rw [List.all_eq_false]; exact ⟨f, List.mem_of_getElem? hfi, by rw [h]; simp⟩]
        simp)
      replace x0 := (HK.out.cell hb trivial).trans x0
      replace x1 := (HK.out.cell hb trivial).trans x1
      obtain ⟨q, hq⟩ : ∃ q, isHeaderP f = q := ⟨_, rfl⟩
      rw [hq] at HC HT HO
      clear hfi hq l1 l2
      go_wp2_with fail
      refine HC.out.mono ?_
      rintro e w1 ⟨rfl, hk1⟩
      have HK1 := Lib.hid (HK.out.tr hk1)
      clear x0 x1 hk1
      cases q
      · go_wp2
        go_ret
        exact ⟨ret_bool (HO.out trivial).symm, HK1.out⟩
      · go_wp2
        go_roundg (fs.length - (i + 1))
        case rel => exact ⟨i + 1, by go_num, rfl, by omega, HT, HK1⟩
        case measure => omega
    · obtain rfl : i = fs.length := by omega
      have HO : Hid (restOk fs body = (decide (fs.length ≤ 32) && decide (body.length ≤ 4000))) := Lib.hid (by
        have := HA.out
        rw [List.take_length] at this
        unfold restOk
        rw [this]
        simp)
      by_cases h1 : fs.length ≤ 32
      · by_cases h2 : body.length ≤ 4000
        · go_wp2
          go_ret
          exact ⟨ret_bool (by rw [HO.out]; first | (simp [h1, h2]; done) | (simp [h1, h2]; omega)), HK.out⟩
        · go_wp2
          go_ret
          exact ⟨ret_bool (by rw [HO.out]; first | (simp [h2]; done) | (simp [h2]; omega)), HK.out⟩
      · go_wp2
        go_ret
        exact ⟨ret_bool (by rw [HO.out]; first | (simp [h1]; done) | (simp [h1]; omega)), HK.out⟩
end Go.Proofs.YtaomhkgdbobpkaaGreatDoor
