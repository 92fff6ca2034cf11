/- Walks of the law's writer (layer 4): a text, an order, a value as one of its texts; how many bytes a value's texts have. -/
import Derived.Test.YtmajpambfblhnaaGreatDoorJoSA
import Derived.Deep.DeepCutAuto
import Derived.Deep.CutBlock
import Derived.Test.YtmajpambfblhnaaGreatDoorJoR8
import Derived.Test.YtmajpambfblhnaaGreatDoorJoW2
import Derived.Test.YtmajpambfblhnaaGreatDoorJoL1
import Derived.Test.YtmajpambfblhnaaGreatDoorJoSC
import Derived.Test.YtmajpambfblhnaaGreatDoorJoU6
namespace Go.Proofs.YtmajpambfblhnaaGreatDoor
open Go.RowKit Jo

theorem extract_ba (s : List UInt8) (j k : Nat) : (⟨s.toArray⟩ : ByteArray).extract j k = ⟨((s.drop j).take (k - j)).toArray⟩ := by
  have h := extract_mk s j k
  injection h
def TextQ (t : List UInt8) (e : Ending) (_ : World) : Prop := ∃ out, TxS t out ∧ out.length ≤ 12 * t.length ∧ e = .returned (S (34 :: (out ++ [34])))
set_option maxHeartbeats 16000000 in
set_option maxRecDepth 100000 in
theorem wtext_any (g : Nat) (ra : Option Addr) (rl rc a : Nat) (w : World) (hc : Ch g ra rl rc a w) (t : List UInt8) (hv : Lib.validD t = true) (ht : t.length ≤ 4294967296) :
    Calls Tryz.prog 43 #[.pointer (some ⟨g, 0, none⟩), S t] w (ChQ g ra rl rc w (TextQ t)) := by
  have HC := Lib.hid hc
  have HV := Lib.hid hv
  clear hc hv
  go_enter Tryz.func43, Tryz.ntmps43
  go_wp2_with fail
  go_loopg [1, 5] t.length (fun q sv ov wr => ∃ done rest out : List UInt8, sv = S rest ∧ ov = S (34 :: out) ∧ q = rest.length ∧ Hid (t = done ++ rest) ∧ Hid (TxS done out) ∧ out.length ≤ 12 * done.length ∧ done.length + rest.length = t.length ∧ Hid (Lib.validD rest = true) ∧ Hid (∃ a', Ch g ra rl rc a' wr) ∧ Hid (Kept (· ≠ g) w wr))
  case atStart => exact ⟨[], t, [], rfl, rfl, rfl, Lib.hid rfl, Lib.hid TxS.nil, by simp, by simp, HV, Lib.hid ⟨_, HC.out⟩, Lib.hid (Kept.refl _ _)⟩
  case round =>
    clear HV HC
    obtain ⟨done, rest, out, rfl, rfl, rfl, HT, HX, hol, hdl, HV, HCH, HK⟩ := hrel
    cases rest with
    | nil =>
      have CT := run_cat (P := Tryz.prog) (34 :: out) [34] (34 :: (out ++ [34])) rfl (by simp only [List.length_cons, List.length_nil]; omega)
      go_wp2
      go_ret
      refine ⟨⟨out, by rw [HT.out, List.append_nil]; exact HX.out, by rw [HT.out, List.append_nil]; exact hol, rfl⟩, HCH.out, HK.out⟩
    | cons c r =>
      obtain ⟨k, hk⟩ : ∃ k, letW (c :: r) = some k := by
        have h := HV.out
        rw [validD_letW _ (by simp)] at h
        cases hl : letW (c :: r) with
        | none => rw [hl] at h; cases h
        | some k => exact ⟨k, rfl⟩
      have HVD : Hid (Lib.validD ((c :: r).drop k) = true) := Lib.hid (by
        have h := HV.out
        rw [validD_letW _ (by simp), hk] at h
        exact h)
      obtain ⟨hk1, hk2, -⟩ := letW_some hk
      have hkN := letW_fst hk
      have hk4 : k ≤ 4 := by rw [← hkN]; exact (fstN_le c).2
      simp only [List.length_cons] at hk2 hdl
      have hsz : (⟨(c :: r).toArray⟩ : ByteArray).size = r.length + 1 := size_mk (c :: r)
      have EX1 : (⟨(c :: r).toArray⟩ : ByteArray).extract 0 k = ⟨((c :: r).take k).toArray⟩ := by rw [extract_ba]; simp
      have EX2 : (⟨(c :: r).toArray⟩ : ByteArray).extract k (r.length + 1) = ⟨((c :: r).drop k).toArray⟩ := by rw [extract_ba, List.take_of_length_le (by simp)]
      have F := Lib.hid (fun W => wfirst_any c r (by omega) (by omega) W)
      have hm2 := codeAt_lt c r
      have hct : codeAt c (r.take (k - 1)) = codeAt c r := codeAt_take c r (k - 1) (by omega)
      have hu : (c :: r).take k = c :: r.take (k - 1) := by
        obtain ⟨k', rfl⟩ : ∃ k', k = k' + 1 := ⟨k - 1, by omega⟩
        rfl
      have hlet := letter_take hk
      obtain ⟨u, hue⟩ : ∃ u, (c :: r).take k = u := ⟨_, rfl⟩
      have hul : u.length = k := by rw [← hue, List.length_take, List.length_cons]; omega
      have HUE := Lib.hid hue
      rw [hue] at EX1 hlet hu
      have HLT := Lib.hid hlet
      have hcode : ∀ l, Coded (codeAt c r) l → LetS u l := fun l hl => by rw [hu]; exact .code c _ l (by rw [hct]; exact hl)
      have hback : shortP (codeAt c r) ≠ [] → LetS u (92 :: shortP (codeAt c r)) := fun h => by
        rw [hu, ← hct]
        exact .back c _ (by rw [hct]; exact h)
      have hraw : (32 ≤ codeAt c r ∧ codeAt c r ≠ 34 ∧ codeAt c r ≠ 92) → LetS u u := fun h => by
        have := LetS.raw c (r.take (k - 1)) (by rw [hct]; exact h)
        rw [← hu] at this
        exact this
      rw [hkN] at F
      have F2 : Hid (∀ W, Calls Tryz.prog 68 #[S (c :: r)] W fun e w' => e = .returned (.tuple #[.int .i64 (k : Int), .int .i64 (codeAt c r : Int)]) ∧ W = w') := Lib.hid fun W => by
        have h := F.out W
        unfold codeAt
        rw [hkN]
        exact h
      obtain ⟨m, hm⟩ : ∃ m, codeAt c r = m := ⟨_, rfl⟩
      rw [hm] at hm2 hcode hback hraw F2
      have HCD := Lib.hid hcode
      have HBA := Lib.hid hback
      have HRA := Lib.hid hraw
      have SH := Lib.hid (fun W => wshort_any m hm2 W)
      obtain ⟨sp, hsp⟩ : ∃ sp, shortP m = sp := ⟨_, rfl⟩
      have hspl := shortP_len m
      rw [hsp] at SH HBA hspl
      obtain ⟨a1, hc1⟩ := HCH.out
      have N := Lib.hid (fun W (hk : W = wr) => wnext_any g ra rl rc a1 6 W (hk ▸ hc1) (by omega))
      obtain ⟨MB, hMB⟩ : ∃ MB : Bool, MB = decide (m < 32 ∨ m = 34 ∨ m = 92) := ⟨_, rfl⟩
      have HMB := Lib.hid hMB
      clear hk hkN hct hu hlet hue hcode hback hraw F hm hsp hc1 hMB HCH HV
      go_wp2_with fail
      refine (F2.out _).mono ?_
      rintro e w2 ⟨rfl, rfl⟩
      go_wp2_with fail
      refine (N.out _ rfl).mono ?_
      rintro e w3 ⟨⟨x, hx, rfl⟩, hch3, hk3⟩
      have HCH3 := Lib.hid hch3
      have HK3 := Lib.hid (HK.out.tr hk3)
      clear hch3 hk3 N
      go_wp2_with fail
      refine (SH.out _).mono ?_
      rintro e w4 ⟨rfl, rfl⟩
      go_upto_region 6 with fail
      go_cut [10] (fun y wx => y = .bool MB ∧ wx = w3)
      case first =>
        have hcs : (MB = true ∧ m < 32) ∨ (MB = true ∧ 32 ≤ m ∧ m = 34) ∨ (MB = true ∧ 32 ≤ m ∧ m ≠ 34 ∧ m = 92) ∨ (MB = false ∧ 32 ≤ m ∧ m ≠ 34 ∧ m ≠ 92) := by
          have h := HMB.out
          by_cases h1 : m < 32
          · exact .inl ⟨by rw [h]; exact decide_eq_true (.inl h1), h1⟩
          · by_cases h2 : m = 34
            · exact .inr (.inl ⟨by rw [h]; exact decide_eq_true (.inr (.inl h2)), by omega, h2⟩)
            · by_cases h3 : m = 92
              · exact .inr (.inr (.inl ⟨by rw [h]; exact decide_eq_true (.inr (.inr h3)), by omega, h2, h3⟩))
              · exact .inr (.inr (.inr ⟨by rw [h]; exact decide_eq_false (by omega), by omega, h2, h3⟩))
        rcases hcs with ⟨rfl, i1⟩ | ⟨rfl, i1, rfl⟩ | ⟨rfl, i1, i2, rfl⟩ | ⟨rfl, i1, i2, i3⟩
        · have j1 : (m : Int) < 32 := by omega
          go_wp2
          go_meet
          exact ⟨rfl, rfl⟩
        · go_wp2
          go_meet
          exact ⟨rfl, rfl⟩
        · go_wp2
          go_meet
          exact ⟨rfl, rfl⟩
        · have j1 : ¬ ((m : Int) < 32) := by omega
          have j2 : ((m : Int) == 34) = false := by rw [beq_eq_false_iff_ne]; omega
          have j3 : ((m : Int) == 92) = false := by rw [beq_eq_false_iff_ne]; omega
          go_wp2
          go_meet
          exact ⟨rfl, rfl⟩
      case rest =>
      obtain ⟨rfl, rfl⟩ := hcut
      go_upto_block 2 with fail
      go_cut [5] (fun ov wx => ∃ b : List UInt8, Hid (LetS u b) ∧ b.length ≤ 12 ∧ ov = S (34 :: (out ++ b)) ∧ wx = wc)
      case first =>
        have hxc : x = 1 ∨ x = 2 ∨ (x ≠ 1 ∧ x ≠ 2) := by omega
        rcases hxc with rfl | rfl | ⟨x1, x2⟩
        ·
          go_wp2_with fail
          refine (wcoded_any m hexL (.inr rfl) hm2 _).mono ?_
          rintro e wk ⟨l, hl, rfl, rfl⟩
          have hll := hl.len
          have HL := Lib.hid hl
          have CT := run_cat (P := Tryz.prog) (34 :: out) l (34 :: (out ++ l)) rfl (by simp only [List.length_cons]; omega)
          clear hl
          go_wp2
          go_meet
          exact ⟨l, Lib.hid (HCD.out l HL.out), hll, rfl, rfl⟩
        ·
          go_wp2_with fail
          refine (wcoded_any m hexU (.inl rfl) hm2 _).mono ?_
          rintro e wk ⟨l, hl, rfl, rfl⟩
          have hll := hl.len
          have HL := Lib.hid hl
          have CT := run_cat (P := Tryz.prog) (34 :: out) l (34 :: (out ++ l)) rfl (by simp only [List.length_cons]; omega)
          clear hl
          go_wp2
          go_meet
          exact ⟨l, Lib.hid (HCD.out l HL.out), hll, rfl, rfl⟩
        · have k1 : ((x : Int) == 1) = false := by rw [beq_eq_false_iff_ne]; omega
          have k2 : ((x : Int) == 2) = false := by rw [beq_eq_false_iff_ne]; omega
          have hsc : sp = [] ∨ ∃ y, sp = [y] := by
            cases sp with
            | nil => exact .inl rfl
            | cons y q => exact .inr ⟨y, by simp only [List.length_cons] at hspl; rw [List.eq_nil_of_length_eq_zero (by omega : q.length = 0)]⟩
          rcases hsc with rfl | ⟨y, rfl⟩
          · cases MB
            ·
              have CT := run_cat (P := Tryz.prog) (34 :: out) u (34 :: (out ++ u)) rfl (by simp only [List.length_cons]; omega)
              have HR := Lib.hid (HRA.out (by have h := of_decide_eq_false HMB.out.symm; omega))
              go_wp2
              go_meet
              exact ⟨u, HR, by omega, rfl, rfl⟩
            ·
              go_wp2_with fail
              refine (wcoded_any m hexL (.inr rfl) hm2 _).mono ?_
              rintro e wk ⟨l, hl, rfl, rfl⟩
              have hll := hl.len
              have HL := Lib.hid hl
              have CT := run_cat (P := Tryz.prog) (34 :: out) l (34 :: (out ++ l)) rfl (by simp only [List.length_cons]; omega)
              clear hl
              go_wp2
              go_meet
              exact ⟨l, Lib.hid (HCD.out l HL.out), hll, rfl, rfl⟩
          · cases MB
            · by_cases x3 : x = 3
              · subst x3
                have CT := run_cat (P := Tryz.prog) (34 :: out) [92] (34 :: (out ++ [92])) rfl (by simp only [List.length_cons, List.length_nil]; omega)
                have CT2 := run_cat (P := Tryz.prog) (34 :: (out ++ [92])) [y] (34 :: (out ++ [92, y])) (by simp) (by simp only [List.length_cons, List.length_append, List.length_nil]; omega)
                have HR := Lib.hid (HBA.out (by simp))
                go_wp2
                go_meet
                exact ⟨[92, y], HR, by simp, rfl, rfl⟩
              · have k3 : ((x : Int) == 3) = false := by rw [beq_eq_false_iff_ne]; omega
                have CT := run_cat (P := Tryz.prog) (34 :: out) u (34 :: (out ++ u)) rfl (by simp only [List.length_cons]; omega)
                have HR := Lib.hid (HRA.out (by have h := of_decide_eq_false HMB.out.symm; omega))
                go_wp2
                go_meet
                exact ⟨u, HR, by omega, rfl, rfl⟩
            ·
              have CT := run_cat (P := Tryz.prog) (34 :: out) [92] (34 :: (out ++ [92])) rfl (by simp only [List.length_cons, List.length_nil]; omega)
              have CT2 := run_cat (P := Tryz.prog) (34 :: (out ++ [92])) [y] (34 :: (out ++ [92, y])) (by simp) (by simp only [List.length_cons, List.length_append, List.length_nil]; omega)
              have HR := Lib.hid (HBA.out (by simp))
              go_wp2
              go_meet
              exact ⟨[92, y], HR, by simp, rfl, rfl⟩
      case rest =>
      obtain ⟨b, HB, hbl, rfl, rfl⟩ := hcut
      go_wp2
      go_roundg (((c :: r).drop k).length)
      case rel => exact ⟨done ++ u, (c :: r).drop k, out ++ b, rfl, rfl, rfl, Lib.hid (by rw [HT.out, List.append_assoc, ← HUE.out, List.take_append_drop]), Lib.hid (HX.out.snoc HB.out HLT.out), by simp only [List.length_append]; omega, by simp only [List.length_append, List.length_drop, List.length_cons]; omega, HVD, HCH3, HK3⟩
      case measure => simp only [List.length_drop, List.length_cons]; omega
end Go.Proofs.YtmajpambfblhnaaGreatDoor

namespace Go.Proofs.YtmajpambfblhnaaGreatDoor
open Go.RowKit Jo

theorem infoIntS : (Tryz.prog.info? 3).map (fun i => (i.zero, i.size, i.bytes)) = some (some (.int .i64 0), 1, 8) := by kernel_rfl
def plv (ps : List Nat) : List Value := ps.map fun (p : Nat) => Value.int .i64 (p : Int)
theorem plv_len (ps : List Nat) : (plv ps).length = ps.length := by simp [plv]
theorem plv_one (ps : List Nat) : ∀ u ∈ plv ps, u.oneCell' = true := fun u hu => by
  obtain ⟨p, _, rfl⟩ := List.mem_map.1 hu
  rfl
def OrdQ (n : Nat) (w : World) (e : Ending) (w' : World) : Prop := ∃ (v : Value) (ps : List Nat), e = .returned v ∧ ps.Perm (List.range n) ∧ w'.ownsRow w.heap.size 3 1 v n (plv ps)
set_option maxHeartbeats 8000000 in
set_option maxRecDepth 100000 in
theorem worder_any (g : Nat) (ra : Option Addr) (rl rc a n : Nat) (w : World) (hc : Ch g ra rl rc a w) (hn : n ≤ 100000) :
    Calls Tryz.prog 46 #[.pointer (some ⟨g, 0, none⟩), .int .i64 n] w (ChQ g ra rl rc w (OrdQ n w)) := by
  have HC := Lib.hid hc
  have hgl := hc.lt
  clear hc
  go_enter Tryz.func46, Tryz.ntmps46
  go_wp2_with fail
  go_loopg [5, 6] n (fun q lv iv wr => ∃ (i : Nat) (ps : List Nat), iv = .int .i64 i ∧ q = n - i ∧ i ≤ n ∧ Hid (ps.Perm (List.range i)) ∧ Hid (wr.ownsRow w.heap.size 3 1 lv i (plv ps)) ∧ Hid (∃ a', Ch g ra rl rc a' wr) ∧ Hid (Kept (· ≠ g) w wr))
  case atStart => exact ⟨0, [], rfl, rfl, Nat.zero_le _, Lib.hid (by simp), Lib.hid (World.ownsRow_nil _ _ _ _), Lib.hid ⟨_, HC.out⟩, Lib.hid (Kept.refl _ _)⟩
  case round =>
    clear HC
    rename_i lv _
    obtain ⟨i, ps, rfl, rfl, hi, HP, HO, HCH, HK⟩ := hrel
    have hz := HK.out.size
    by_cases hlt : i < n
    · rcases ownsRow_view HO.out with ⟨rfl, rfl⟩ | ⟨b, cap, rfl, hcap, hbw, hbl, hcl⟩
      · have hpl : Hid (ps.length = 0) := Lib.hid (by rw [HP.out.length_eq, List.length_range])
        obtain ⟨a1, hc1⟩ := HCH.out
        have N := Lib.hid (show Calls Tryz.prog 44 #[.pointer (some ⟨g, 0, none⟩), .int .i64 ((0 : Int) + 1)] wr (ChQ g ra rl rc wr fun e _ => SomeLt (0 + 1) e) from wnext_any g ra rl rc a1 (0 + 1) wr hc1 (by omega))
        clear hc1
        go_wp2_with fail
        refine N.out.mono ?_
        rintro e w2 ⟨⟨x, hx, rfl⟩, hch2, hk2⟩
        obtain ⟨A, hA⟩ : ∃ A, 0 - x = A := ⟨_, rfl⟩
        have hAi : A ≤ 0 := by omega
        have hxA : (0 : Int) - (x : Int) = (A : Int) := by omega
        have hw : IntKind.i64.wrap (A : Int) = (A : Int) := IntWalk.i64_in _ (by omega)
        have HO2 := Lib.hid (ownsRow_kept HO.out hk2 fun c hc => by have := (HO.out.lt c hc).1; omega)
        have HCH2 := Lib.hid hch2
        have HK2 := Lib.hid (HK.out.tr hk2)
        have hz2 := HK2.out.size
        have hlp : Hid ((plv ps).length = 0 * 1) := Lib.hid (by rw [plv_len, hpl.out, Nat.mul_one])
        have hl1 : Hid (((plv ps).take (A * 1)).length = A * 1) := Lib.hid (by rw [List.length_take, hlp.out]; omega)
        have hl2 : Hid (((plv ps).drop (A * 1)).length = (0 - A) * 1) := Lib.hid (by rw [List.length_drop, hlp.out]; omega)
        obtain rfl : A = 0 := by omega
        clear hch2 hk2 N HCH HK HO hz hA
        go_wp2_with (at_builtin; refine wpList_pushAll 46 3 Tryz.underlying46 infoIntS rfl (by decide) rfl _ _ rfl w2.heap.size (.slice none 0 0) 0 [] _ 0 ((plv ps).take (0 * 1)) hl1.out (fun u hu => plv_one ps u (List.mem_of_mem_take hu)) rfl rfl (.inl ⟨none, 0, rfl, rfl, by simp⟩) (World.ownsRow_nil _ _ _ _) (by omega) (by decide) (Nat.le_refl _) ?_)
        intro n1 w3 k1 k2 k3
        obtain ⟨n1a, n1c, rfl⟩ := row_form (by simpa using k1 : w3.ownsRow w2.heap.size 3 1 n1 0 ((plv ps).take (0 * 1)))
        have HR3 : Hid (w3.ownsRow w2.heap.size 3 1 (.slice n1a 0 n1c) 0 ((plv ps).take (0 * 1))) := Lib.hid (by simpa using k1)
        have HB3 := Lib.hid k2
        have hz3 := k2.size
        clear k1 k2 k3
        go_wp2_with (at_builtin; refine wpList_pushOne' 46 3 Tryz.underlying46 infoIntS rfl (by decide) rfl _ _ rfl w2.heap.size (.slice n1a 0 n1c) 0 ((plv ps).take (0 * 1)) [.int .i64 (0 : Int)] w3 _ rfl rfl rfl (by intro u hu; simp at hu; subst hu; rfl) 1 _ rfl rfl rfl HR3.out (by omega) (by decide) hz3 ?_)
        intro n2 w4 k1 k2 k3
        obtain ⟨n2a, n2c, rfl⟩ := row_form k1
        have HR4 := Lib.hid k1
        have HB4 := Lib.hid (HB3.out.trans k2)
        have hz4 := HB4.out.size
        clear k1 k2 k3 HR3 HB3
        have HPE : Hid ((ps.take 0 ++ 0 :: ps.drop 0).Perm (List.range (0 + 1))) := Lib.hid (by
          rw [List.range_succ]
          refine (List.perm_middle).trans ?_
          rw [List.take_append_drop]
          exact (List.Perm.cons _ HP.out).trans (List.perm_append_singleton _ _).symm)
        have HXL : Hid ((plv ps).take (0 * 1) ++ [Value.int .i64 (0 : Int)] ++ (plv ps).drop (0 * 1) = plv (ps.take 0 ++ 0 :: ps.drop 0)) := Lib.hid (by simp [plv])
        have HD0 : Hid ((plv ps).drop (0 * 1) = []) := Lib.hid (by rw [List.drop_eq_nil_iff]; have := hlp.out; omega)
        go_wp2_with (at_builtin; refine wpList_pushAll 46 3 Tryz.underlying46 infoIntS rfl (by decide) rfl _ _ rfl w2.heap.size (.slice n2a (0 + 1) n2c) (0 + 1) _ _ 0 [] rfl (by simp) rfl rfl (.inl ⟨_, _, rfl, rfl, rfl⟩) HR4.out (by omega) (by decide) hz4 ?_)
        intro n3 w5 k1 k2 k3
        have HR5 : Hid (w5.ownsRow w.heap.size 3 1 n3 (0 + 1) (plv (ps.take 0 ++ 0 :: ps.drop 0))) := Lib.hid (by
          rw [← HXL.out, HD0.out, List.append_nil]
          exact ownsRow_base (by simpa using k1) (by omega))
        have hkb : Kept (fun b => b < w2.heap.size) w2 w5 := Kept.of_below' (HB4.out.trans k2)
        have HK5 := Lib.hid (HK2.out.trans hkb fun b hb _ => by omega)
        have HCH5 : Hid (∃ a', Ch g ra rl rc a' w5) := Lib.hid (by
          obtain ⟨a2, hc2⟩ := HCH2.out
          exact ⟨a2, hc2.kept (hkb.mono fun b hb _ => hb)⟩)
        clear k1 k2 k3 hkb
        go_wp2
        go_roundg (n - (0 + 1))
        case rel => exact ⟨0 + 1, _, by go_num, rfl, by omega, HPE, HR5, HCH5, HK5⟩
        case measure => omega
      · clear hcl
        have hpl : Hid (ps.length = i) := Lib.hid (by rw [HP.out.length_eq, List.length_range])
        obtain ⟨a1, hc1⟩ := HCH.out
        have N := Lib.hid (show Calls Tryz.prog 44 #[.pointer (some ⟨g, 0, none⟩), .int .i64 ((i : Int) + 1)] wr (ChQ g ra rl rc wr fun e _ => SomeLt (i + 1) e) from wnext_any g ra rl rc a1 (i + 1) wr hc1 (by omega))
        clear hc1
        go_wp2_with fail
        refine N.out.mono ?_
        rintro e w2 ⟨⟨x, hx, rfl⟩, hch2, hk2⟩
        obtain ⟨A, hA⟩ : ∃ A, i - x = A := ⟨_, rfl⟩
        have hAi : A ≤ i := by omega
        have hxA : (i : Int) - (x : Int) = (A : Int) := by omega
        have hw : IntKind.i64.wrap (A : Int) = (A : Int) := IntWalk.i64_in _ (by omega)
        have HO2 := Lib.hid (ownsRow_kept HO.out hk2 fun c hc => by have := (HO.out.lt c hc).1; omega)
        have HCH2 := Lib.hid hch2
        have HK2 := Lib.hid (HK.out.tr hk2)
        have hz2 := HK2.out.size
        have hlp : Hid ((plv ps).length = i * 1) := Lib.hid (by rw [plv_len, hpl.out, Nat.mul_one])
        have hl1 : Hid (((plv ps).take (A * 1)).length = A * 1) := Lib.hid (by rw [List.length_take, hlp.out]; omega)
        have hl2 : Hid (((plv ps).drop (A * 1)).length = (i - A) * 1) := Lib.hid (by rw [List.length_drop, hlp.out]; omega)
        clear hch2 hk2 N HCH HK HO hz hA
        go_wp2_with (at_builtin; refine wpList_pushAll 46 3 Tryz.underlying46 infoIntS rfl (by decide) rfl _ _ rfl w2.heap.size (.slice none 0 0) 0 [] _ A ((plv ps).take (A * 1)) hl1.out (fun u hu => plv_one ps u (List.mem_of_mem_take hu)) rfl rfl (rd_cut HO2.out hlp.out A hAi _ (by decide)) (World.ownsRow_nil _ _ _ _) (by omega) (by decide) (Nat.le_refl _) ?_)
        intro n1 w3 k1 k2 k3
        obtain ⟨n1a, n1c, rfl⟩ := row_form (by simpa using k1 : w3.ownsRow w2.heap.size 3 1 n1 A ((plv ps).take (A * 1)))
        have HR3 : Hid (w3.ownsRow w2.heap.size 3 1 (.slice n1a A n1c) A ((plv ps).take (A * 1))) := Lib.hid (by simpa using k1)
        have HB3 := Lib.hid k2
        have hz3 := k2.size
        clear k1 k2 k3
        go_wp2_with (at_builtin; refine wpList_pushOne' 46 3 Tryz.underlying46 infoIntS rfl (by decide) rfl _ _ rfl w2.heap.size (.slice n1a A n1c) A ((plv ps).take (A * 1)) [.int .i64 (i : Int)] w3 _ rfl rfl rfl (by intro u hu; simp at hu; subst hu; rfl) 1 _ rfl rfl rfl HR3.out (by omega) (by decide) hz3 ?_)
        intro n2 w4 k1 k2 k3
        obtain ⟨n2a, n2c, rfl⟩ := row_form k1
        have HR4 := Lib.hid k1
        have HB4 := Lib.hid (HB3.out.trans k2)
        have hz4 := HB4.out.size
        clear k1 k2 k3 HR3 HB3
        have HPE : Hid ((ps.take A ++ i :: ps.drop A).Perm (List.range (i + 1))) := Lib.hid (by
          rw [List.range_succ]
          refine (List.perm_middle).trans ?_
          rw [List.take_append_drop]
          exact (List.Perm.cons _ HP.out).trans (List.perm_append_singleton _ _).symm)
        have HXL : Hid ((plv ps).take (A * 1) ++ [Value.int .i64 (i : Int)] ++ (plv ps).drop (A * 1) = plv (ps.take A ++ i :: ps.drop A)) := Lib.hid (by simp [plv])
        by_cases hcn : cap = A
        · have HD0 : Hid ((plv ps).drop (A * 1) = []) := Lib.hid (by rw [List.drop_eq_nil_iff]; have := hlp.out; omega)
          obtain rfl : A = i := by omega
          subst hcn
          go_wp2_with (at_builtin; refine wpList_pushAll 46 3 Tryz.underlying46 infoIntS rfl (by decide) rfl _ _ rfl w2.heap.size (.slice n2a (cap + 1) n2c) (cap + 1) _ _ 0 [] rfl (by simp) rfl rfl (.inl ⟨_, _, rfl, rfl, rfl⟩) HR4.out (by omega) (by decide) hz4 ?_)
          intro n3 w5 k1 k2 k3
          have HR5 : Hid (w5.ownsRow w.heap.size 3 1 n3 (cap + 1) (plv (ps.take cap ++ cap :: ps.drop cap))) := Lib.hid (by
            rw [← HXL.out, HD0.out, List.append_nil]
            exact ownsRow_base (by simpa using k1) (by omega))
          have hkb : Kept (fun b => b < w2.heap.size) w2 w5 := Kept.of_below' (HB4.out.trans k2)
          have HK5 := Lib.hid (HK2.out.trans hkb fun b hb _ => by omega)
          have HCH5 : Hid (∃ a', Ch g ra rl rc a' w5) := Lib.hid (by
            obtain ⟨a2, hc2⟩ := HCH2.out
            exact ⟨a2, hc2.kept (hkb.mono fun b hb _ => hb)⟩)
          clear k1 k2 k3 hkb
          go_wp2
          go_roundg (n - (cap + 1))
          case rel => exact ⟨cap + 1, _, by go_num, rfl, by omega, HPE, HR5, HCH5, HK5⟩
          case measure => omega
        · go_wp2_with (at_builtin; refine wpList_pushAll 46 3 Tryz.underlying46 infoIntS rfl (by decide) rfl _ _ rfl w2.heap.size (.slice n2a (A + 1) n2c) (A + 1) _ _ (i - A) ((plv ps).drop (A * 1)) hl2.out (fun u hu => plv_one ps u (List.mem_of_mem_drop hu)) rfl rfl (rd_rest (ownsRow_below HO2.out HB4.out) hlp.out A hAi _ _ _ (by omega) (fun _ => by simp) (by decide)) HR4.out (by omega) (by decide) hz4 ?_)
          intro n3 w5 k1 k2 k3
          have HR5 : Hid (w5.ownsRow w.heap.size 3 1 n3 (i + 1) (plv (ps.take A ++ i :: ps.drop A))) := Lib.hid (by
            rw [← HXL.out]
            have e : A + 1 + (i - A) = i + 1 := by omega
            rw [e] at k1
            exact ownsRow_base (by simpa using k1) (by omega))
          have hkb : Kept (fun b => b < w2.heap.size) w2 w5 := Kept.of_below' (HB4.out.trans k2)
          have HK5 := Lib.hid (HK2.out.trans hkb fun b hb _ => by omega)
          have HCH5 : Hid (∃ a', Ch g ra rl rc a' w5) := Lib.hid (by
            obtain ⟨a2, hc2⟩ := HCH2.out
            exact ⟨a2, hc2.kept (hkb.mono fun b hb _ => hb)⟩)
          clear k1 k2 k3 hkb
          go_wp2
          go_roundg (n - (i + 1))
          case rel => exact ⟨i + 1, _, by go_num, rfl, by omega, HPE, HR5, HCH5, HK5⟩
          case measure => omega
    · obtain rfl : i = n := by omega
      go_wp2
      go_ret
      exact ⟨⟨_, ps, rfl, HP.out, HO.out⟩, HCH.out, HK.out⟩
end Go.Proofs.YtmajpambfblhnaaGreatDoor

namespace Go.Proofs.YtmajpambfblhnaaGreatDoor
open Go.RowKit Jo

namespace Jo
mutual
/-- How many bytes the names and texts of a value have. -/
def txtJ : J → Nat
  | .mk _ _ t ns xs => t.length + (ns.map List.length).sum + txtAll xs
def txtAll : List J → Nat
  | [] => 0
  | x :: xs => txtJ x + txtAll xs
end
theorem txtAll_snoc (xs : List J) (x : J) : txtAll (xs ++ [x]) = txtAll xs + txtJ x := by
  induction xs with
  | nil => simp [txtAll]
  | cons y ys ih => simp only [List.cons_append, txtAll, ih]; omega
theorem txtAll_take (xs : List J) (j : Nat) : txtAll (xs.take j) ≤ txtAll xs := by
  induction xs generalizing j with
  | nil => simp
  | cons y ys ih => cases j with
    | zero => simp [txtAll]
    | succ j => simp only [List.take_succ_cons, txtAll]; have := ih j; omega
theorem lens_take (ns : List (List UInt8)) (j : Nat) : ((ns.take j).map List.length).sum ≤ (ns.map List.length).sum := by
  induction ns generalizing j with
  | nil => simp
  | cons y ys ih => cases j with
    | zero => simp
    | succ j => simp only [List.take_succ_cons, List.map_cons, List.sum_cons]; have := ih j; omega
end Jo

set_option maxHeartbeats 8000000 in
set_option maxRecDepth 100000 in
theorem texts_any : ∀ x : J, ∀ (v : Value) (w : World) (n : Nat), JIn (fun _ => True) w x v → n + txtJ x ≤ 2147483647 → Calls Tryz.prog 24 #[v, .int .i64 n] w fun e w' => e = .returned (.int .i64 ((n + txtJ x : Nat) : Int)) ∧ Kept (fun _ => True) w w' := by
  refine J.ind fun k a t ns xs IH => ?_
  intro v w n hx hn
  obtain ⟨na, nc, ia, ic, us, rfl, hr, hnn, hi, h⟩ := hx.invM
  have HTX : Hid (txtJ (.mk k a t ns xs) = t.length + (ns.map List.length).sum + txtAll xs) := Lib.hid rfl
  obtain ⟨R, hR⟩ : ∃ R, txtJ (.mk k a t ns xs) = R := ⟨_, rfl⟩
  rw [hR] at HTX hn ⊢
  have hl : ns.length ≤ 9223372036854775807 := hr.2.2.2.2.2.1
  have hxl : xs.length ≤ 9223372036854775807 := hr.2.2.2.2.2.2.2
  have htl : n + t.length ≤ 2147483647 := by have := HTX.out; omega
  obtain ⟨W0, hW0⟩ : ∃ W0, w.alloc (.cells #[.int .i64 k, .int .i64 a, S t, .slice na ns.length nc, .slice ia xs.length ic] 25) = W0 := ⟨_, rfl⟩
  have hk0 : Kept (fun _ => True) w W0 := by rw [← hW0]; exact (Kept.refl _ w).alloc _
  have hbox : OutAt w.heap.size k a t (.slice na ns.length nc) (.slice ia xs.length ic) W0 := by rw [← hW0]; exact OutAt.new w k a t _ _
  have HN := Lib.hid hnn
  have HI := Lib.hid hi
  have HH := Lib.hid (And.intro h IH)
  have hsz : (⟨t.toArray⟩ : ByteArray).size = t.length := size_mk t
  obtain ⟨o0, o1, o2, o3, o4, o5, o6⟩ := hbox.facts
  have HBOX := Lib.hid hbox
  have HK0 := Lib.hid hk0
  clear hx hr hnn hi h IH hbox hk0 hR
  go_enter Tryz.func24, Tryz.ntmps24
  go_upto_block 0 with fail
  go_cut [1] (fun m wx => ∃ M : Nat, m = .int .i64 M ∧ Hid (M = n + t.length + (ns.map List.length).sum) ∧ Hid (Kept (fun _ => True) W0 wx))
  case first =>
    go_wp2_with fail
    go_loopg [1, 5] ns.length (fun q m i wr => ∃ (j M : Nat), i = .int .i64 j ∧ m = .int .i64 M ∧ Hid (M = n + t.length + ((ns.take j).map List.length).sum) ∧ q = ns.length - j ∧ j ≤ ns.length ∧ Hid (Kept (fun _ => True) W0 wr))
    case atStart =>
      exact ⟨0, n + t.length, rfl, by go_num, Lib.hid (by simp), rfl, Nat.zero_le _, Lib.hid (Kept.refl _ _)⟩
    case round =>
      clear o0 o1 o2 o3 o4 o5 o6
      obtain ⟨j, M, rfl, rfl, HM, rfl, hj, HK⟩ := hrel
      obtain ⟨o0, o1, o2, o3, o4, o5, o6⟩ := (HBOX.out.kept HK.out trivial).facts
      have hM2 : M ≤ 2147483647 := by have := HM.out; have := HTX.out; have := lens_take ns j; omega
      by_cases hlt : j < ns.length
      · obtain ⟨b, off, rfl, hb, -, -, l, hl2, hc⟩ := HN.out.at hlt
        have c1 := ((HK0.out.tr HK.out).cell hb trivial).trans hc
        have hls : (⟨l.toArray⟩ : ByteArray).size = l.length := size_mk l
        have htk : ((ns.take (j + 1)).map List.length).sum = ((ns.take j).map List.length).sum + l.length := by rw [List.take_add_one, hl2]; simp
        have hM3 : M + l.length ≤ 2147483647 := by have := HM.out; have := HTX.out; have := lens_take ns (j + 1); omega
        have HM4 : Hid (M + l.length = n + t.length + ((ns.take (j + 1)).map List.length).sum) := Lib.hid (by rw [htk, HM.out]; omega)
        clear htk hc hl2
        go_wp2
        go_roundg (ns.length - (j + 1))
        case rel => exact ⟨j + 1, M + l.length, by go_num, by go_num, HM4, rfl, by omega, HK⟩
        case measure => omega
      · obtain rfl : j = ns.length := by omega
        go_wp2
        go_meet
        exact ⟨M, rfl, Lib.hid (by rw [HM.out, List.take_length]), HK⟩
  case rest =>
    clear o0 o1 o2 o3 o4 o5 o6
    obtain ⟨M0, rfl, HM0, HKc⟩ := hcut
    go_wp2_with fail
    go_loopg [1, 6] xs.length (fun q m i wr => ∃ (j M : Nat), i = .int .i64 j ∧ m = .int .i64 M ∧ Hid (M = M0 + txtAll (xs.take j)) ∧ q = xs.length - j ∧ j ≤ xs.length ∧ Hid (Kept (fun _ => True) W0 wr))
    case atStart => exact ⟨0, M0, rfl, rfl, Lib.hid (by simp [txtAll]), rfl, Nat.zero_le _, HKc⟩
    case round =>
      clear HKc
      obtain ⟨j, M, rfl, rfl, HM, rfl, hj, HK⟩ := hrel
      obtain ⟨o0, o1, o2, o3, o4, o5, o6⟩ := (HBOX.out.kept HK.out trivial).facts
      have hM2 : M ≤ 2147483647 := by have := HM.out; have := HM0.out; have := HTX.out; have := txtAll_take xs j; omega
      have HKW := Lib.hid (HK0.out.tr HK.out)
      by_cases hlt : j < xs.length
      · obtain ⟨b, off, rfl, hb, -, -, kx, nx, tx, nax, nlx, ncx, iax, ilx, icx, e1, c0, c1, c2, c3, c4⟩ := HI.out.at hlt
        replace c0 := (HKW.out.cell hb trivial).trans c0
        replace c1 := (HKW.out.cell hb trivial).trans c1
        replace c2 := (HKW.out.cell hb trivial).trans c2
        replace c3 := (HKW.out.cell hb trivial).trans c3
        replace c4 := (HKW.out.cell hb trivial).trans c4
        obtain ⟨x, hx⟩ : ∃ x, xs[j]? = some x := ⟨xs[j]'hlt, List.getElem?_eq_getElem hlt⟩
        have ht : txtAll (xs.take (j + 1)) = txtAll (xs.take j) + txtJ x := by rw [List.take_add_one, hx]; exact txtAll_snoc _ _
        have hM3 : M + txtJ x ≤ 2147483647 := by have := HM.out; have := HM0.out; have := HTX.out; have := txtAll_take xs (j + 1); omega
        have hC := HH.out.2 x (List.mem_of_getElem? hx) (us j) wr M ((HH.out.1 j x hx).kept HKW.out fun _ _ _ => trivial) hM3
        rw [e1] at hC
        have HC := Lib.hid hC
        obtain ⟨y, hy⟩ : ∃ y, M + txtJ x = y := ⟨_, rfl⟩
        have HM4 : Hid (y = M0 + txtAll (xs.take (j + 1))) := Lib.hid (by rw [← hy, ht, HM.out]; omega)
        rw [hy] at HC
        clear e1 hx hC ht hy
        go_wp2_with (refine HC.out.mono ?_; rintro e w2 ⟨rfl, hk2⟩)
        go_roundg (xs.length - (j + 1))
        case rel => exact ⟨j + 1, y, by go_num, rfl, HM4, rfl, by omega, Lib.hid (HK.out.tr hk2)⟩
        case measure => omega
      · obtain rfl : j = xs.length := by omega
        have HE : Hid (M = n + R) := Lib.hid (by rw [HM.out, List.take_length, HM0.out, HTX.out]; omega)
        go_wp2
        refine bodyPost_ret (v := .int .i64 M) (by simp [results, Tryz.results24, go_sem]) rfl ?_
        exact ⟨by rw [HE.out], HKW.out⟩
end Go.Proofs.YtmajpambfblhnaaGreatDoor

namespace Go.Proofs.YtmajpambfblhnaaGreatDoor
open Go.RowKit Jo

def SaysQ (x : J) (e : Ending) (_ : World) : Prop := ∃ s, SayJ x s ∧ s.length + 1 ≤ 16 * bulkJ x ∧ e = .returned (S s)
/-- The row of places. -/
def OrdAt (g : Nat) (a : Option Addr) (n : Nat) (ps : List Nat) (w : World) : Prop := ∀ j, j < n → ∃ b p, a = some ⟨b, 0, none⟩ ∧ b ≠ g ∧ b < w.heap.size ∧ ps[j]? = some p ∧ p < n ∧ w.cell? ⟨b, j, none⟩ = some (.int .i64 (p : Int))
theorem ord_at {g B n : Nat} {v : Value} {ps : List Nat} {w : World} (hp : ps.Perm (List.range n)) (h : w.ownsRow B 3 1 v n (plv ps)) (hg : g < B) : ∃ a c, v = .slice a n c ∧ OrdAt g a n ps w := by
  have hl : ps.length = n := by rw [hp.length_eq, List.length_range]
  rcases ownsRow_view h with ⟨rfl, rfl⟩ | ⟨b, cap, rfl, hcap, hbw, hbl, hcl⟩
  · exact ⟨none, 0, rfl, fun j hj => by omega⟩
  · refine ⟨_, _, rfl, fun j hj => ?_⟩
    have hjl : j < ps.length := by omega
    refine ⟨b, ps[j], rfl, by omega, hbl, List.getElem?_eq_getElem hjl, ?_, ?_⟩
    · have := hp.mem_iff.1 (List.getElem_mem hjl)
      exact List.mem_range.1 this
    · refine hcl j _ ?_
      simp [plv, hjl]
theorem OrdAt.kept {g n : Nat} {a : Option Addr} {ps : List Nat} {w w' : World} (h : OrdAt g a n ps w) (hk : Kept (· ≠ g) w w') : OrdAt g a n ps w' := fun j hj => by
  obtain ⟨b, p, h1, h2, h3, h4, h5, h6⟩ := h j hj
  exact ⟨b, p, h1, h2, by have := hk.size; omega, h4, h5, (hk.cell h3 h2).trans h6⟩
/-- A value that may be and has no parts is printed so. -/
theorem print_leaf {x : J} (h : mayP x = true) (hd : depthP x = 0) (hl : (layP x).length ≤ 4000) : printP x = (layP x, 0) := by
  unfold printP
  rw [h, if_neg (by simp), if_neg (by omega), if_neg (by omega)]
theorem few_leaf (k n : Int) : Few 1000000 (.mk k n [] [] []) := .mk _ _ _ _ _ (by simp) (by simp) (by simp)
theorem short_leaf (k n : Int) : Short9 (.mk k n [] [] []) := .mk _ _ _ _ _ (by simp) (by simp) (by simp)
theorem may_cases {k n : Int} {t : List UInt8} {ns : List (List UInt8)} {xs : List J} (h : mayP (.mk k n t ns xs) = true) :
    ((k = 0 ∨ k = 1 ∨ k = 2) ∧ n = 0 ∧ t = [] ∧ ns = [] ∧ xs = []) ∨ (k = 3 ∧ t = [] ∧ ns = [] ∧ xs = [] ∧ -9007199254740991 ≤ n ∧ n ≤ 9007199254740991) ∨ (k = 4 ∧ n = 0 ∧ ns = [] ∧ xs = [] ∧ Lib.validD t = true) ∨
    (k = 5 ∧ n = 0 ∧ t = [] ∧ ns = [] ∧ ∀ x ∈ xs, mayP x = true) ∨ (k = 6 ∧ n = 0 ∧ t = [] ∧ ns.length = xs.length ∧ (∀ l ∈ ns, Lib.validD l = true) ∧ ∀ x ∈ xs, mayP x = true) := by
  unfold mayP at h
  split at h
  · rename_i hk
    simp only [Bool.and_eq_true, beq_iff_eq, List.isEmpty_iff] at h
    obtain ⟨⟨⟨h1, h2⟩, h3⟩, h4⟩ := h
    exact .inl ⟨hk, h1, h2, h3, h4⟩
  · split at h
    · rename_i hk
      simp only [Bool.and_eq_true, beq_iff_eq, List.isEmpty_iff, decide_eq_true_eq] at h
      obtain ⟨⟨⟨⟨h1, h2⟩, h3⟩, h4⟩, h5⟩ := h
      exact .inr (.inl ⟨hk, h1, h2, h3, h4, h5⟩)
    · split at h
      · rename_i hk
        simp only [Bool.and_eq_true, beq_iff_eq, List.isEmpty_iff] at h
        obtain ⟨⟨⟨h1, h2⟩, h3⟩, h4⟩ := h
        exact .inr (.inr (.inl ⟨hk, h1, h2, h3, h4⟩))
      · split at h
        · rename_i hk
          simp only [Bool.and_eq_true, beq_iff_eq, mays_all, List.all_eq_true] at h
          obtain ⟨⟨⟨h1, h2⟩, h3⟩, h4⟩ := h
          exact .inr (.inr (.inr (.inl ⟨hk, h1, h2, h3, h4⟩)))
        · split at h
          · rename_i hk
            simp only [Bool.and_eq_true, beq_iff_eq, mays_all, List.all_eq_true] at h
            obtain ⟨⟨⟨⟨h1, h2⟩, hl⟩, hn⟩, h4⟩ := h
            exact .inr (.inr (.inr (.inr ⟨hk, h1, h2, hl, ((namesOk_iff ns).1 hn).1, h4⟩)))
          · cases h

set_option maxHeartbeats 16000000 in
set_option maxRecDepth 100000 in
theorem says_any : ∀ x : J, mayP x = true → Few 100000 x → bulkJ x ≤ 67108864 → ∀ (v : Value) (g : Nat) (ra : Option Addr) (rl rc a : Nat) (w : World), Ch g ra rl rc a w → JIn (· ≠ g) w x v →
    Calls Tryz.prog 27 #[.pointer (some ⟨g, 0, none⟩), v] w (ChQ g ra rl rc w (SaysQ x)) := by
  refine J.ind fun k n t ns xs IH => ?_
  intro hm hf hb v g ra rl rc a w hc hx
  obtain ⟨na, nc, ia, ic, us, rfl, hr, hnn, hi, h⟩ := hx.invM
  have hgl := hc.lt
  have hgw : w.heap.size ≠ g := by omega
  obtain ⟨W0, hW0⟩ : ∃ W0, w.alloc (.cells #[.int .i64 k, .int .i64 n, S t, .slice na ns.length nc, .slice ia xs.length ic] 25) = W0 := ⟨_, rfl⟩
  have hk0 : Kept (fun _ => True) w W0 := by rw [← hW0]; exact (Kept.refl _ w).alloc _
  have hbox : OutAt w.heap.size k n t (.slice na ns.length nc) (.slice ia xs.length ic) W0 := by rw [← hW0]; exact OutAt.new w k n t _ _
  have hcs := may_cases hm
  have HC := Lib.hid (hc.kept hk0)
  have HX := Lib.hid (hx.kept hk0 fun _ _ _ => trivial)
  have HN := Lib.hid hnn
  have HI := Lib.hid hi
  have HH := Lib.hid (And.intro h IH)
  have HF := Lib.hid hf.inv
  have HM := Lib.hid hm
  have HBOX := Lib.hid hbox
  have HK0 : Hid (Kept (· ≠ g) w W0) := Lib.hid (hk0.mono fun _ _ _ => trivial)
  have HBK : Hid (bulkJ (.mk k n t ns xs) = t.length + 6 + (ns.map fun l => l.length + 1).sum + bulkAll xs) := Lib.hid rfl
  have HMC : Hid (∀ o, SayC (.mk k n t ns xs) o → ∀ b1 b2, Bls b1 → Bls b2 → SayJ (.mk k n t ns xs) (b1 ++ (o ++ b2))) := Lib.hid fun o ho b1 b2 h1 h2 => .mk _ _ _ _ h1 ho h2
  have hW := hW0
  obtain ⟨R, hR⟩ : ∃ R, bulkJ (.mk k n t ns xs) = R := ⟨_, rfl⟩
  rw [hR] at hb HBK
  obtain ⟨X, hX⟩ : ∃ X, J.mk k n t ns xs = X := ⟨_, rfl⟩
  have HXX := Lib.hid hX
  have HR : Hid (bulkJ X = R) := Lib.hid (by rw [← hX]; exact hR)
  rw [hX] at HX HM HMC ⊢
  have hxl : xs.length ≤ 100000 := hf.inv.2.1
  have hnl : ns.length ≤ 100000 := hf.inv.1
  obtain ⟨o0, o1, o2, o3, o4, o5, o6⟩ := hbox.facts
  clear hc hx hnn hi h IH hf hm hbox hk0 hR hX hr hW0
  go_enter Tryz.func27, Tryz.ntmps27
  go_upto_block 0 with fail
  go_cut [5] (fun sv wx => ∃ o, sv = S o ∧ Hid (SayC X o) ∧ o.length + 7 ≤ 16 * R ∧ Hid (∃ a', Ch g ra rl rc a' wx) ∧ Hid (Kept (· ≠ g) W0 wx))
  case rest =>
    clear o0 o1 o2 o3 o4 o5 o6 hcs
    obtain ⟨o, rfl, HS, hol, HCH, HK⟩ := hcut
    obtain ⟨a1, hc1⟩ := HCH.out
    go_wp2_with fail
    refine (wblanks_any g ra rl rc a1 _ hc1).mono ?_
    rintro e w1 ⟨⟨b1, hb1, hbl1, rfl⟩, ⟨a2, hc2⟩, hk1⟩
    obtain ⟨r1, hr1⟩ : ∃ r, b1 ++ o = r := ⟨_, rfl⟩
    have hrl : r1.length ≤ o.length + 3 := by rw [← hr1, List.length_append]; omega
    have CT1 := run_cat (P := Tryz.prog) b1 o r1 hr1 (by omega)
    have HR1 := Lib.hid hr1
    have HB1 := Lib.hid hb1
    clear hr1 hb1 hc1 HCH
    go_wp2_with fail
    refine (wblanks_any g ra rl rc a2 _ hc2).mono ?_
    rintro e w2 ⟨⟨b2, hb2, hbl2, rfl⟩, hch3, hk2⟩
    obtain ⟨r2, hr2⟩ : ∃ r, r1 ++ b2 = r := ⟨_, rfl⟩
    have hrl2 : r2.length ≤ o.length + 6 := by rw [← hr2, List.length_append]; omega
    have CT2 := run_cat (P := Tryz.prog) r1 b2 r2 hr2 (by omega)
    have HR2 := Lib.hid hr2
    have HB2 := Lib.hid hb2
    clear hr2 hb2 hc2
    go_wp2
    go_ret
    exact ⟨⟨r2, by rw [← HR2.out, ← HR1.out, List.append_assoc]; exact HMC.out o HS.out b1 b2 HB1.out HB2.out, by rw [HR.out]; omega, rfl⟩, hch3, ((HK0.out.tr HK.out).tr hk1).tr hk2⟩
  case first =>
    rcases hcs with ⟨hk3, rfl, rfl, rfl, rfl⟩ | ⟨rfl, rfl, rfl, rfl, hn1, hn2⟩ | ⟨rfl, rfl, rfl, rfl, htv⟩ | ⟨rfl, rfl, rfl, rfl, hms⟩ | ⟨rfl, rfl, rfl, hlen, hval, hms⟩
    · have hlay : ∃ L, layP X = L ∧ L.length ≤ 5 ∧ SayC X L := by
        rw [← HXX.out]
        rcases hk3 with rfl | rfl | rfl
        · exact ⟨_, layP_null, by simp, .null⟩
        · exact ⟨_, layP_fls, by simp, .fls⟩
        · exact ⟨_, layP_tru, by simp, .tru⟩
      obtain ⟨L, hL, hLl, hSC⟩ := hlay
      have hdp : depthP X = 0 := by
        rw [← HXX.out]
        rcases hk3 with rfl | rfl | rfl <;> rfl
      have PR := Lib.hid (refPrint_any X _ W0 (HX.out.mono fun _ _ _ => trivial) (by rw [← HXX.out]; exact few_leaf _ _) (by rw [← HXX.out]; exact short_leaf _ _) (by omega) (fun _ => by rw [hL]; omega))
      rw [print_leaf HM.out hdp (by rw [hL]; omega), hL] at PR
      have HSC := Lib.hid hSC
      have hR6 : 6 ≤ R := by have := HBK.out; omega
      clear hSC hL hdp
      rcases hk3 with rfl | rfl | rfl
      all_goals
        go_wp2_with fail
        refine PR.out.mono ?_
        rintro e w1 ⟨rfl, hk1⟩
        go_wp2
        go_meet
        exact ⟨L, rfl, HSC, by omega, Lib.hid ⟨_, HC.out.kept hk1⟩, Lib.hid (hk1.mono fun _ _ _ => trivial)⟩
    · have hlay : layP X = Lib.itoa n := by rw [← HXX.out]; exact layP_nr n
      have hil : (Lib.itoa n).length ≤ 20 := itoa_le n hn1 hn2
      have HSC : Hid (SayC X (Lib.itoa n)) := Lib.hid (by rw [← HXX.out]; exact .nr n)
      have HS0 : Hid (n = 0 → SayC X [45, 48]) := Lib.hid (fun e => by rw [← HXX.out, e]; exact .nr0)
      have hdp : depthP X = 0 := by rw [← HXX.out]; rfl
      have PR := Lib.hid (refPrint_any X _ W0 (HX.out.mono fun _ _ _ => trivial) (by rw [← HXX.out]; exact few_leaf _ _) (by rw [← HXX.out]; exact short_leaf _ _) (by omega) (fun _ => by rw [hlay]; omega))
      rw [print_leaf HM.out hdp (by rw [hlay]; omega), hlay] at PR
      have hR6 : 6 ≤ R := by have := HBK.out; omega
      obtain ⟨L, hL⟩ : ∃ L, Lib.itoa n = L := ⟨_, rfl⟩
      rw [hL] at PR HSC hil
      clear hlay hdp hL
      go_wp2_with fail
      refine PR.out.mono ?_
      rintro e w1 ⟨rfl, hk1⟩
      have HC1 := Lib.hid (HC.out.kept hk1)
      have HK1 : Hid (Kept (· ≠ g) W0 w1) := Lib.hid (hk1.mono fun _ _ _ => trivial)
      clear o0 o1 o2 o3 o4 o5 o6
      obtain ⟨o0, o1, o2, o3, o4, o5, o6⟩ := (HBOX.out.kept hk1 trivial).facts
      clear hk1
      by_cases hn0 : n = 0
      · subst hn0
        go_wp2_with fail
        refine (wnext_any g ra rl rc a 3 _ HC1.out (by omega)).mono ?_
        rintro e w2 ⟨⟨r, hr, rfl⟩, hch, hk2⟩
        have HCH := Lib.hid hch
        have HK2 := Lib.hid (HK1.out.tr hk2)
        clear hch hk2
        by_cases hr1 : r = 1
        · subst hr1
          go_wp2
          go_meet
          exact ⟨[45, 48], rfl, Lib.hid (HS0.out trivial), by simp; omega, HCH, HK2⟩
        · have q1 : ((r : Int) == 1) = false := by rw [beq_eq_false_iff_ne]; omega
          go_wp2
          go_meet
          exact ⟨L, rfl, HSC, by omega, HCH, HK2⟩
      · have q1 : (n == 0) = false := by rw [beq_eq_false_iff_ne]; exact hn0
        go_wp2
        go_meet
        exact ⟨L, rfl, HSC, by omega, Lib.hid ⟨_, HC1.out⟩, HK1⟩
    · have HSC : Hid (∀ o, TxS t o → SayC X (34 :: (o ++ [34]))) := Lib.hid (fun o ho => by rw [← HXX.out]; exact .tx t o ho)
      have hRt : t.length + 6 ≤ R := by have := HBK.out; omega
      have TX := Lib.hid (wtext_any g ra rl rc a W0 HC.out t htv (by omega))
      go_wp2_with fail
      refine TX.out.mono ?_
      rintro e w1 ⟨⟨o, ho, hol, rfl⟩, hch, hk1⟩
      have HO := Lib.hid (HSC.out o ho)
      have HCH := Lib.hid hch
      have HK1 := Lib.hid hk1
      clear ho hch hk1
      go_wp2
      go_meet
      exact ⟨_, rfl, HO, by simp only [List.length_cons, List.length_append, List.length_nil]; omega, HCH, HK1⟩
    · have HSC : Hid (∀ o, SayC (J.list xs) o → SayC X o) := Lib.hid (fun o ho => by rw [← HXX.out]; exact ho)
      have hRx : bulkAll xs + 6 ≤ R := by have := HBK.out; omega
      have HMS := Lib.hid hms
      clear hms
      go_wp2_with fail
      go_loopg [5, 6] xs.length (fun q s i wr => ∃ (j : Nat) (Ts : List (List UInt8)), s = S (91 :: joinC Ts) ∧ i = .int .i64 j ∧ q = xs.length - j ∧ j ≤ xs.length ∧ Ts.length = j ∧ Hid (Parts xs Ts) ∧ (joinC Ts).length ≤ 16 * bulkAll (xs.take j) ∧ Hid ((Ts.map fun t => t.length + 1).sum ≤ 16 * bulkAll (xs.take j)) ∧ Hid (∃ a', Ch g ra rl rc a' wr) ∧ Hid (Kept (· ≠ g) W0 wr))
      case atStart => exact ⟨0, [], rfl, rfl, rfl, Nat.zero_le _, rfl, Lib.hid (Parts.nil _), by simp [joinC], Lib.hid (by simp), Lib.hid ⟨_, HC.out⟩, Lib.hid (Kept.refl _ _)⟩
      case round =>
        clear o0 o1 o2 o3 o4 o5 o6
        obtain ⟨j, Ts, rfl, rfl, rfl, hj, hTl, HP, hjl, HSM, HCH, HK⟩ := hrel
        have hbt := bulkAll_take xs j
        obtain ⟨o0, o1, o2, o3, o4, o5, o6⟩ := (HBOX.out.kept HK.out hgw).facts
        by_cases hlt : j < xs.length
        · have HKW := Lib.hid (HK0.out.tr HK.out)
          obtain ⟨b, off, rfl, hb1, hok, -, kx, nx, tx, nax, nlx, ncx, iax, ilx, icx, e1, c0, c1, c2, c3, c4⟩ := HI.out.at hlt
          replace c0 := (HKW.out.cell hb1 hok).trans c0
          replace c1 := (HKW.out.cell hb1 hok).trans c1
          replace c2 := (HKW.out.cell hb1 hok).trans c2
          replace c3 := (HKW.out.cell hb1 hok).trans c3
          replace c4 := (HKW.out.cell hb1 hok).trans c4
          obtain ⟨x, hx⟩ : ∃ x, xs[j]? = some x := ⟨xs[j]'hlt, List.getElem?_eq_getElem hlt⟩
          have hmem := List.mem_of_getElem? hx
          have hbx : bulkJ x ≤ 67108864 := by have := bulkAll_mem hmem; omega
          have hC := fun a' W (hc : Ch g ra rl rc a' W) (hk : Kept (· ≠ g) w W) => HH.out.2 x hmem (HMS.out x hmem) (HF.out.2.2 j x hx) hbx (us j) g ra rl rc a' W hc ((HH.out.1 j x hx).kept hk fun _ _ h => h)
          rw [e1] at hC
          have HCC := Lib.hid hC
          have HXJ := Lib.hid hx
          have hb1s : bulkAll (xs.take (j + 1)) = bulkAll (xs.take j) + bulkJ x := bulkAll_take_one hx
          obtain ⟨B0, hB0⟩ : ∃ B0, bulkAll (xs.take j) = B0 := ⟨_, rfl⟩
          obtain ⟨B1, hB1⟩ : ∃ B1, bulkAll (xs.take (j + 1)) = B1 := ⟨_, rfl⟩
          have hB1l : B1 ≤ bulkAll xs := by rw [← hB1]; exact bulkAll_take _ _
          rw [hB0] at hjl HSM hb1s hbt
          rw [hB1] at hb1s
          have HB1 := Lib.hid hB1
          have HBX := Lib.hid hb1s
          clear e1 hx hC hmem hB0 hB1 hb1s
          have hB01 : B0 ≤ B1 := by have := HBX.out; omega
          go_upto_if 47 with fail
          go_cut [5] (fun sv wx => ∃ P : List UInt8, sv = S P ∧ Hid (P = 91 :: (joinC Ts ++ if Ts.length = 0 then [] else [44])) ∧ P.length ≤ 16 * B0 + 2 ∧ wx = wr)
          case first =>
            cases j with
            | zero =>
              go_wp2
              go_meet
              exact ⟨_, rfl, Lib.hid (by rw [if_pos hTl, List.append_nil]), by simp only [List.length_cons]; omega, rfl⟩
            | succ j =>
              have CT := run_cat (P := Tryz.prog) (91 :: joinC Ts) [44] (91 :: (joinC Ts ++ [44])) rfl (by simp only [List.length_cons, List.length_nil]; omega)
              have hj0 : (0 : Int) < ((j + 1 : Nat) : Int) := by omega
              go_wp2
              go_meet
              exact ⟨_, rfl, Lib.hid (by rw [if_neg (by omega)]), by simp only [List.length_cons, List.length_append, List.length_nil]; omega, rfl⟩
          case rest =>
          obtain ⟨P, rfl, HPE, hPl, rfl⟩ := hcut
          obtain ⟨a1, hc1⟩ := HCH.out
          go_wp2_with fail
          refine (HCC.out a1 _ hc1 HKW.out).mono ?_
          rintro e w2 ⟨⟨T, hT, hTlen, rfl⟩, hch2, hk2⟩
          obtain ⟨r1, hr1⟩ : ∃ r, P ++ T = r := ⟨_, rfl⟩
          have hTb : T.length + 1 + B0 * 16 ≤ 16 * B1 := by have := HBX.out; omega
          have CT1 := run_cat (P := Tryz.prog) P T r1 hr1 (by omega)
          have HE1 : Hid (r1 = 91 :: joinC (Ts ++ [T])) := Lib.hid (by rw [← hr1, HPE.out, joinC_more]; rfl)
          have HP1 := Lib.hid (HP.out.snoc hTl HXJ.out hT)
          have HCH2 := Lib.hid hch2
          have HK2 := Lib.hid (HK.out.tr hk2)
          have HS1 : Hid (((Ts ++ [T]).map fun t => t.length + 1).sum ≤ 16 * B1) := Lib.hid (by rw [List.map_append, List.sum_append]; have := HSM.out; simp; omega)
          clear hr1 hT hch2 hk2 hc1 HCC HCH HK c0 c1 c2 c3 c4 o0 o1 o2 o3 o4 o5 o6
          go_wp2
          go_roundg (xs.length - (j + 1))
          case rel => exact ⟨j + 1, Ts ++ [T], by rw [HE1.out], by go_num, rfl, by omega, by simp [hTl], HP1, by rw [HB1.out]; exact Nat.le_trans (joinC_le _) HS1.out, by rw [HB1.out]; exact HS1, HCH2, HK2⟩
          case measure => omega
        · obtain rfl : j = xs.length := by omega
          rw [List.take_length] at hjl
          obtain ⟨a1, hc1⟩ := HCH.out
          by_cases hx0 : xs.length = 0
          · have q0 : ((xs.length : Int) == 0) = true := by rw [beq_iff_eq]; omega
            have HX0 := Lib.hid hx0
            clear hx0
            go_wp2_with fail
            refine (wblanks_any g ra rl rc a1 _ hc1).mono ?_
            rintro e w2 ⟨⟨bl, hbl, hbll, rfl⟩, hch2, hk2⟩
            have CT1 := run_cat (P := Tryz.prog) (91 :: joinC Ts) bl (91 :: (joinC Ts ++ bl)) rfl (by simp only [List.length_cons]; omega)
            have CT2 := run_cat (P := Tryz.prog) (91 :: (joinC Ts ++ bl)) [93] (91 :: (joinC Ts ++ (bl ++ [93]))) (by simp) (by simp only [List.length_cons, List.length_append, List.length_nil]; omega)
            have HSY := Lib.hid (HSC.out _ (HP.out.say hTl hbl fun hne => absurd (List.eq_nil_of_length_eq_zero HX0.out) hne))
            have HCH2 := Lib.hid hch2
            have HK2 := Lib.hid (HK.out.tr hk2)
            clear hbl hch2 hk2 hc1
            go_wp2
            go_meet
            exact ⟨_, rfl, HSY, by simp only [List.length_cons, List.length_append, List.length_nil]; omega, HCH2, HK2⟩
          · have q0 : ((xs.length : Int) == 0) = false := by rw [beq_eq_false_iff_ne]; omega
            have CT2 := run_cat (P := Tryz.prog) (91 :: joinC Ts) [93] (91 :: (joinC Ts ++ [93])) rfl (by simp only [List.length_cons, List.length_nil]; omega)
            have HSY := Lib.hid (HSC.out _ (HP.out.say hTl Bls.nil fun _ => rfl))
            clear hc1
            go_wp2
            go_meet
            exact ⟨_, rfl, HSY, by simp only [List.length_cons, List.length_append, List.length_nil]; omega, HCH, HK⟩
    · have HSC : Hid (∀ o, SayC (.mk 6 0 [] ns xs) o → SayC X o) := Lib.hid (fun o ho => by rw [← HXX.out]; exact ho)
      have HLEN := Lib.hid hlen
      have HMS := Lib.hid (And.intro hms hval)
      have OR := Lib.hid (worder_any g ra rl rc a ns.length W0 HC.out hnl)
      have HRR : Hid ((ns.map fun l => l.length + 1).sum + bulkAll xs + 6 ≤ R) := Lib.hid (by have := HBK.out; simp only [List.length_nil] at this; omega)
      have hR6 : 6 ≤ R := by have := HRR.out; omega
      have hg0 := HC.out.lt
      clear hms hval hlen
      go_wp2_with fail
      refine OR.out.mono ?_
      rintro e w1 ⟨⟨lv, ps, rfl, hps, hrow⟩, hch1, hk1⟩
      obtain ⟨oa, oc, rfl, hord⟩ := ord_at hps hrow hg0
      have HBS : Hid (∀ i, ((ps.take i).map (memB ns xs)).sum + 6 ≤ R) := Lib.hid (fun i => by have := HRR.out; have := sum_take_le (memB ns xs) ps i; have := memB_sum hps HLEN.out; omega)
      have HPS := Lib.hid hps
      have HORD := Lib.hid hord
      have HCH1 := Lib.hid hch1
      have HK1 := Lib.hid hk1
      clear hps hord hch1 hk1 hrow OR o0 o1 o2 o3 o4 o5 o6
      go_wp2_with fail
      go_loopg [5, 8] ns.length (fun q s i wr => ∃ (j : Nat) (Ms : List (List UInt8)), s = S (123 :: joinC Ms) ∧ i = .int .i64 j ∧ q = ns.length - j ∧ j ≤ ns.length ∧ Ms.length = j ∧ Hid (Mems ns xs ps Ms) ∧ (joinC Ms).length + 96 ≤ 16 * R ∧ Hid ((Ms.map fun t => t.length + 1).sum ≤ 16 * ((ps.take j).map (memB ns xs)).sum) ∧ Hid (∃ a', Ch g ra rl rc a' wr) ∧ Hid (Kept (· ≠ g) w1 wr))
      case atStart => exact ⟨0, [], rfl, rfl, rfl, Nat.zero_le _, rfl, Lib.hid (Mems.nil _ _ _), by simp [joinC]; omega, Lib.hid (by simp), HCH1, Lib.hid (Kept.refl _ _)⟩
      case round =>
        clear HCH1
        obtain ⟨j, Ms, rfl, rfl, rfl, hj, hMl, HP, hjl, HSM, HCH, HK⟩ := hrel
        have HKZ := Lib.hid (HK1.out.tr HK.out)
        by_cases hlt : j < ns.length
        · have HKW := Lib.hid (HK0.out.tr HKZ.out)
          obtain ⟨bo, p, rfl, hbo, hbol, hpj, hpn, hoc⟩ := HORD.out.kept HK.out j hlt
          have hpx : p < xs.length := by have := HLEN.out; omega
          obtain ⟨bn, offn, rfl, hbn1, hbnok, -, nm, hnm, hnc⟩ := HN.out.at hpn
          obtain ⟨bx, offx, rfl, hbx1, hbxok, -, kx, nx, tx, nax, nlx, ncx, iax, ilx, icx, e1, c0, c1, c2, c3, c4⟩ := HI.out.at hpx
          obtain ⟨x, hx⟩ : ∃ x, xs[p]? = some x := ⟨xs[p]'hpx, List.getElem?_eq_getElem hpx⟩
          have hmem := List.mem_of_getElem? hx
          have hRx := HRR.out
          have hbx : bulkJ x ≤ 67108864 := by have := bulkAll_mem hmem; omega
          have hmb : memB ns xs p = nm.length + 1 + bulkJ x := by simp [memB, List.getD_eq_getElem?_getD, hnm, hx]
          have hsum : ((ps.take (j + 1)).map (memB ns xs)).sum = ((ps.take j).map (memB ns xs)).sum + (nm.length + 1 + bulkJ x) := by rw [List.take_add_one, hpj, List.map_append, List.sum_append, ← hmb]; simp
          have hbs := HBS.out (j + 1)
          have hnml : nm.length ≤ 67108864 := by rw [hsum] at hbs; omega
          have HSUM := Lib.hid hsum
          have hC := fun a' W (hc : Ch g ra rl rc a' W) (hk : Kept (· ≠ g) w W) => HH.out.2 x hmem (HMS.out.1 x hmem) (HF.out.2.2 p x hx) hbx (us p) g ra rl rc a' W hc ((HH.out.1 p x hx).kept hk fun _ _ h => h)
          rw [e1] at hC
          have HCC := Lib.hid hC
          have HXJ := Lib.hid (And.intro hpj (And.intro hnm hx))
          have HCX : Hid (∀ W, Kept (· ≠ g) wr W → W.cell? ⟨bo, j, none⟩ = some (.int .i64 (p : Int)) ∧ W.cell? ⟨bx, offx + p * 5, none⟩ = some (.int .i64 kx) ∧ W.cell? ⟨bx, offx + p * 5 + 1, none⟩ = some (.int .i64 nx) ∧ W.cell? ⟨bx, offx + p * 5 + 2, none⟩ = some (S tx) ∧ W.cell? ⟨bx, offx + p * 5 + 3, none⟩ = some (.slice nax nlx ncx) ∧ W.cell? ⟨bx, offx + p * 5 + 4, none⟩ = some (.slice iax ilx icx)) := Lib.hid fun W hk =>
            ⟨(hk.cell hbol hbo).trans hoc, ((HKW.out.tr hk).cell hbx1 hbxok).trans c0, ((HKW.out.tr hk).cell hbx1 hbxok).trans c1, ((HKW.out.tr hk).cell hbx1 hbxok).trans c2, ((HKW.out.tr hk).cell hbx1 hbxok).trans c3, ((HKW.out.tr hk).cell hbx1 hbxok).trans c4⟩
          obtain ⟨o0, o1, o2, o3, o4, o5, o6⟩ := (HBOX.out.kept HKZ.out hgw).facts
          have hwb : w.heap.size < wr.heap.size := (HBOX.out.kept HKZ.out hgw).lt
          have HCK : Hid (∀ W, Kept (· ≠ g) wr W → W.cell? ⟨w.heap.size, 3, none⟩ = some (.slice (some ⟨bn, offn, none⟩) ns.length nc) ∧ W.cell? ⟨bo, j, none⟩ = some (.int .i64 (p : Int)) ∧ W.cell? ⟨bn, offn + p, none⟩ = some (S nm)) := Lib.hid fun W hk =>
            ⟨(hk.cell hwb hgw).trans o3, (hk.cell hbol hbo).trans hoc, ((HKW.out.tr hk).cell hbn1 hbnok).trans hnc⟩
          have BL : Hid (∀ W, (∃ a', Ch g ra rl rc a' W) → Calls Tryz.prog 45 #[.pointer (some ⟨g, 0, none⟩)] W (ChQ g ra rl rc W BlsQ)) := Lib.hid fun W ⟨a', h⟩ => wblanks_any g ra rl rc a' W h
          have TX : Hid (∀ W, (∃ a', Ch g ra rl rc a' W) → Calls Tryz.prog 43 #[.pointer (some ⟨g, 0, none⟩), S nm] W (ChQ g ra rl rc W (TextQ nm))) := Lib.hid fun W ⟨a', h⟩ => wtext_any g ra rl rc a' W h nm (HMS.out.2 nm (List.mem_of_getElem? hnm)) (by omega)
          clear e1 hx hC hmem hpj hnm hnc hoc c0 c1 c2 c3 c4 o0 o1 o2 o3 o4 o5 o6 hsum hmb
          go_upto_if 83 with fail
          go_cut [5] (fun sv wx => ∃ P : List UInt8, sv = S P ∧ Hid (P = 123 :: (joinC Ms ++ if Ms.length = 0 then [] else [44])) ∧ P.length ≤ 16 * R ∧ wx = wr)
          case first =>
            cases j with
            | zero =>
              go_wp2
              go_meet
              exact ⟨_, rfl, Lib.hid (by rw [if_pos hMl, List.append_nil]), by simp only [List.length_cons]; omega, rfl⟩
            | succ j =>
              have CT := run_cat (P := Tryz.prog) (123 :: joinC Ms) [44] (123 :: (joinC Ms ++ [44])) rfl (by simp only [List.length_cons, List.length_nil]; omega)
              have hj0 : (0 : Int) < ((j + 1 : Nat) : Int) := by omega
              go_wp2
              go_meet
              exact ⟨_, rfl, Lib.hid (by rw [if_neg (by omega)]), by simp only [List.length_cons, List.length_append, List.length_nil]; omega, rfl⟩
          case rest =>
          obtain ⟨P, rfl, HPE, hPl, rfl⟩ := hcut
          have hPl2 : P.length ≤ 1073741824 := by omega
          have hkc : Kept (· ≠ g) wc wc.drew := (Kept.refl _ wc).drew
          have hchc : Hid (∃ a', Ch g ra rl rc a' wc.drew) := Lib.hid (by obtain ⟨a1, hc1⟩ := HCH.out; exact ⟨a1, hc1.kept ((Kept.refl _ wc).drew)⟩)
          clear HCH hPl
          go_wp2_with fail
          go_region_held3 (fun wz => wz.cell? ⟨w.heap.size, 3, none⟩ = some (.slice (some ⟨bn, offn, none⟩) ns.length nc) ∧ wz.cell? ⟨bo, j, none⟩ = some (.int .i64 (p : Int)) ∧ wz.cell? ⟨bn, offn + p, none⟩ = some (S nm)) (first | exact HCK.out _ hkc | go_keep)
            (first
              | (go_at_call 45; (with_reducible refine (BL.out _ hchc.out).mono ?_); rintro e W3 ⟨⟨B, hB, hBl, rfl⟩, hch3, hk3⟩; have hkc := hkc.tr hk3; have hchc := Lib.hid hch3; obtain ⟨r3, hr3⟩ : ∃ r, r2 ++ B = r := ⟨_, rfl⟩; have hl3 : r3.length ≤ 2147483651 := (by rw [← hr3, List.length_append]; omega); have CT3 := run_cat (P := Tryz.prog) r2 B r3 hr3 (by omega); obtain ⟨r4, hr4⟩ : ∃ r, r3 ++ [58] = r := ⟨_, rfl⟩; have hl4 : r4.length ≤ 2147483652 := (by rw [← hr4, List.length_append, List.length_cons, List.length_nil]; omega); have CT4 := run_cat (P := Tryz.prog) r3 [58] r4 hr4 (by simp only [List.length_cons, List.length_nil]; omega); have HR3 := Lib.hid (And.intro hr3 hr4); have HB := Lib.hid hB; clear hr3 hr4 hB hch3 hk3)
              | (go_at_call 43; (with_reducible refine (TX.out _ hchc.out).mono ?_); rintro e W2 ⟨⟨O, hO, hOl, rfl⟩, hch2, hk2⟩; have hkc := hkc.tr hk2; have hchc := Lib.hid hch2; obtain ⟨r2, hr2⟩ : ∃ r, r1 ++ (34 :: (O ++ [34])) = r := ⟨_, rfl⟩; have hl2 : r2.length ≤ 2147483647 := (by rw [← hr2, List.length_append, List.length_cons, List.length_append, List.length_cons, List.length_nil]; omega); have CT2 := run_cat (P := Tryz.prog) r1 (34 :: (O ++ [34])) r2 hr2 (by simp only [List.length_cons, List.length_append, List.length_nil]; omega); have HR2 := Lib.hid hr2; have HO := Lib.hid hO; clear hr2 hO hch2 hk2)
              | (go_at_call 45; (with_reducible refine (BL.out _ hchc.out).mono ?_); rintro e W1 ⟨⟨A, hA, hAl, rfl⟩, hch1, hk1⟩; have hkc := hkc.tr hk1; have hchc := Lib.hid hch1; obtain ⟨r1, hr1⟩ : ∃ r, P ++ A = r := ⟨_, rfl⟩; have hl1 : r1.length ≤ 1073741827 := (by rw [← hr1, List.length_append]; omega); have CT1 := run_cat (P := Tryz.prog) P A r1 hr1 (by omega); have HR1 := Lib.hid hr1; have HA := Lib.hid hA; clear hr1 hA hch1 hk1))
          obtain ⟨a3, hc3⟩ := hchc.out
          have HKR := Lib.hid hkc
          have HCZ : Hid (∀ W, Kept (· ≠ g) W3 W → W.cell? ⟨w.heap.size, 4, none⟩ = some (.slice (some ⟨bx, offx, none⟩) xs.length ic) ∧ W.cell? ⟨bo, j, none⟩ = some (.int .i64 (p : Int)) ∧ W.cell? ⟨bx, offx + p * 5, none⟩ = some (.int .i64 kx) ∧ W.cell? ⟨bx, offx + p * 5 + 1, none⟩ = some (.int .i64 nx) ∧ W.cell? ⟨bx, offx + p * 5 + 2, none⟩ = some (S tx) ∧ W.cell? ⟨bx, offx + p * 5 + 3, none⟩ = some (.slice nax nlx ncx) ∧ W.cell? ⟨bx, offx + p * 5 + 4, none⟩ = some (.slice iax ilx icx)) := Lib.hid fun W hk =>
            ⟨(HBOX.out.kept ((HKZ.out.tr HKR.out).tr hk) hgw).facts.2.2.2.2.1, HCX.out _ (HKR.out.tr hk)⟩
          have SY : Hid (∀ W, Kept (fun _ => True) W3 W → Calls Tryz.prog 27 #[.pointer (some ⟨g, 0, none⟩), jotV kx nx tx (.slice nax nlx ncx) (.slice iax ilx icx)] W (ChQ g ra rl rc W (SaysQ x))) := Lib.hid fun W hk => HCC.out a3 _ (hc3.kept hk) ((HKW.out.tr HKR.out).tr (hk.mono fun _ _ _ => trivial))
          have hkd : Kept (· ≠ g) W3 W3.drew := (Kept.refl _ W3).drew
          have hkt : Kept (fun _ => True) W3 W3.drew := (Kept.refl _ W3).drew
          clear hkc hc3 hchc CT1 CT2 CT3 CT4
          go_wp2_with fail
          go_region_held3 (fun wz => wz.cell? ⟨w.heap.size, 4, none⟩ = some (.slice (some ⟨bx, offx, none⟩) xs.length ic) ∧ wz.cell? ⟨bo, j, none⟩ = some (.int .i64 (p : Int)) ∧ wz.cell? ⟨bx, offx + p * 5, none⟩ = some (.int .i64 kx) ∧ wz.cell? ⟨bx, offx + p * 5 + 1, none⟩ = some (.int .i64 nx) ∧ wz.cell? ⟨bx, offx + p * 5 + 2, none⟩ = some (S tx) ∧ wz.cell? ⟨bx, offx + p * 5 + 3, none⟩ = some (.slice nax nlx ncx) ∧ wz.cell? ⟨bx, offx + p * 5 + 4, none⟩ = some (.slice iax ilx icx)) (first | exact HCZ.out _ hkd | go_keep)
            (first
              | (go_at_call 27; (with_reducible refine (SY.out _ hkt).mono ?_); rintro e w4 ⟨⟨T, hT, hTlen, rfl⟩, hch4, hk4⟩; have hkd := hkd.tr hk4; obtain ⟨r5, hr5⟩ : ∃ r, r4 ++ T = r := ⟨_, rfl⟩; have CT5 := run_cat (P := Tryz.prog) r4 T r5 hr5 (by omega); have HR5 := Lib.hid hr5; have HT := Lib.hid hT; have HCH4 := Lib.hid hch4; clear hr5 hT hch4 hk4))
          have HM1 : Hid (MemS nm x (A ++ 34 :: (O ++ (34 :: (B ++ 58 :: T))))) := Lib.hid ⟨A, O, B, T, HA.out, HO.out, HB.out, HT.out, rfl⟩
          obtain ⟨M, hM⟩ : ∃ M, A ++ 34 :: (O ++ (34 :: (B ++ 58 :: T))) = M := ⟨_, rfl⟩
          have HE1 : Hid (r5 = 123 :: joinC (Ms ++ [M])) := Lib.hid (by rw [joinC_more, ← hM, ← HR5.out, ← HR3.out.2, ← HR3.out.1, ← HR2.out, ← HR1.out, HPE.out]; simp)
          have hML : M.length + 1 ≤ 16 * (nm.length + 1 + bulkJ x) := by rw [← hM]; simp only [List.length_append, List.length_cons]; omega
          rw [hM] at HM1
          have HP1 := Lib.hid (HP.out.snoc hMl HXJ.out.1 HXJ.out.2.1 HXJ.out.2.2 HM1.out)
          have HS1 : Hid (((Ms ++ [M]).map fun t => t.length + 1).sum ≤ 16 * ((ps.take (j + 1)).map (memB ns xs)).sum) := Lib.hid (by rw [List.map_append, List.sum_append, HSUM.out]; have := HSM.out; simp only [List.map_cons, List.map_nil, List.sum_cons, List.sum_nil]; omega)
          have hjl2 : (joinC (Ms ++ [M])).length + 96 ≤ 16 * R := by have := joinC_le (Ms ++ [M]); have := HS1.out; omega
          have HK4 := Lib.hid ((HK.out.tr HKR.out).tr hkd)
          have hMl2 : (Ms ++ [M]).length = j + 1 := by simp [hMl]
          clear hkd hkt HCC HK hM SY HCZ HCX HCK BL TX
          go_wp2
          go_roundg (ns.length - (j + 1))
          case rel => exact ⟨j + 1, Ms ++ [M], by rw [HE1.out], by go_num, rfl, by omega, hMl2, HP1, hjl2, HS1, HCH4, HK4⟩
          case measure => omega
        · obtain rfl : j = ns.length := by omega
          have HKF := HKZ
          obtain ⟨a1, hc1⟩ := HCH.out
          by_cases hx0 : ns.length = 0
          · have q0 : ((ns.length : Int) == 0) = true := by rw [beq_iff_eq]; omega
            have HX0 := Lib.hid hx0
            clear hx0
            go_wp2_with fail
            refine (wblanks_any g ra rl rc a1 _ hc1).mono ?_
            rintro e w2 ⟨⟨bl, hbl, hbll, rfl⟩, hch2, hk2⟩
            have CT1 := run_cat (P := Tryz.prog) (123 :: joinC Ms) bl (123 :: (joinC Ms ++ bl)) rfl (by simp only [List.length_cons]; omega)
            have CT2 := run_cat (P := Tryz.prog) (123 :: (joinC Ms ++ bl)) [125] (123 :: (joinC Ms ++ (bl ++ [125]))) (by simp) (by simp only [List.length_cons, List.length_append, List.length_nil]; omega)
            have HSY := Lib.hid (HSC.out _ (HP.out.say HPS.out HLEN.out hMl hbl fun hne => absurd (List.eq_nil_of_length_eq_zero HX0.out) hne))
            have HCH2 := Lib.hid hch2
            have HK2 := Lib.hid (HKF.out.tr hk2)
            clear hbl hch2 hk2 hc1
            go_wp2
            go_meet
            exact ⟨_, rfl, HSY, by simp only [List.length_cons, List.length_append, List.length_nil]; omega, HCH2, HK2⟩
          · have q0 : ((ns.length : Int) == 0) = false := by rw [beq_eq_false_iff_ne]; omega
            have CT2 := run_cat (P := Tryz.prog) (123 :: joinC Ms) [125] (123 :: (joinC Ms ++ [125])) rfl (by simp only [List.length_cons, List.length_nil]; omega)
            have HSY := Lib.hid (HSC.out _ (HP.out.say HPS.out HLEN.out hMl Bls.nil fun _ => rfl))
            clear hc1
            go_wp2
            go_meet
            exact ⟨_, rfl, HSY, by simp only [List.length_cons, List.length_append, List.length_nil]; omega, HCH, HKF⟩
end Go.Proofs.YtmajpambfblhnaaGreatDoor
