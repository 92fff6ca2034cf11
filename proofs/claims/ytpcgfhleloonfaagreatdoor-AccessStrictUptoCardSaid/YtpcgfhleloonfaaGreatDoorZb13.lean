/- What the proof of this law needs, part 13: walks of the program's functions and plain laws (texts AcA5, AcA6, AcA7, AcA8). -/
import Derived.Test.YtpcgfhleloonfaaGreatDoorZb12
namespace Go.Proofs.YtpcgfhleloonfaaGreatDoor
open Go.RowKit Jo Ac
/-- Sign's answer. -/
def sgP (k : Ky) (is : List UInt8) (c : Cl) : List UInt8 × Int :=
  if (keyP k && nameP is) = false then ([], 1) else if claimP c = false then ([], 235) else (bodyP k.num is c ++ 46 :: b64 (mac k.secret (bodyP k.num is c)), 0)
theorem bodyP_le (n : Int) (is : List UInt8) (c : Cl) : (bodyP n is c).length ≤ 20000 := by
  have h1 := b64_le (headP n)
  have h2 := b64_le (saidTP c is)
  have h3 := obP_le headN (headL n)
  have h4 := obP_le saidN (saidL c is)
  unfold bodyP headP saidTP at *
  rw [List.length_append, List.length_cons]
  omega
theorem key_num {k : Ky} (h : keyP k = true) : 1 ≤ k.num ∧ k.num ≤ 1073741824 := by
  unfold keyP at h
  simp only [Bool.and_eq_true, decide_eq_true_eq] at h
  exact h.1.1.1.1
set_option maxRecDepth 100000 in
set_option maxHeartbeats 8000000 in
theorem Sign_any (k : Ky) (is : List UInt8) (c : Cl) (sv : Value) (w : World) (hE : AE w) (hc : ClOk c) (his : is.length ≤ 16777216) (hks : k.secret.length ≤ 16777216) (hs : SL w sv c.scope) : Calls Tryz.prog 10 #[k.v, S is, c.v sv] w fun e w' => e = .returned (.tuple #[S (sgP k is c).1, .int .i64 (sgP k is c).2]) ∧ Kept (fun _ => True) w w' := by
  obtain ⟨sa, sn, sc, rfl⟩ : ∃ a n cc, sv = .slice a n cc := by obtain ⟨a, cc, e, _⟩ := hs; exact ⟨_, _, _, e⟩
  obtain ⟨R, hR⟩ : ∃ R, sgP k is c = R := ⟨_, rfl⟩
  have HR := Lib.hid hR
  have CK := Lib.hid (fun w => isKey_any k w hks)
  have CN := Lib.hid (fun w => isName_any is w his)
  rw [hR]
  clear hR
  obtain ⟨kn, ks, kf, ku⟩ := k
  go_enter Tryz.func10, Tryz.ntmps10
  obtain ⟨W0, hW0⟩ : ∃ W0, w.alloc (.cells #[.int .i64 kn, S ks, .int .i64 kf, .int .i64 ku] 23) = W0 := ⟨_, rfl⟩
  obtain ⟨W, hW⟩ : ∃ W, W0.alloc (.cells #[S c.client, S c.subject, .slice sa sn sc, .int .i64 c.family, .int .i64 c.number, .int .i64 c.issued, .int .i64 c.till] 26) = W := ⟨_, rfl⟩
  have hk0 : Kept (fun _ => True) w W0 := by rw [← hW0]; exact (Kept.refl _ _).alloc _
  have hk1 : Kept (fun _ => True) W0 W := by rw [← hW]; exact (Kept.refl _ _).alloc _
  have HA0 : Hid (At w.heap.size [.int .i64 kn, S ks, .int .i64 kf, .int .i64 ku] W) := Lib.hid (At.kept (by rw [← hW0]; exact At.made w [.int .i64 kn, S ks, .int .i64 kf, .int .i64 ku] _) hk1)
  have HC0 : Hid (At W0.heap.size (c.vs (.slice sa sn sc)) W) := Lib.hid (by rw [← hW]; exact At.made W0 (c.vs (.slice sa sn sc)) _)
  have HK0 := Lib.hid (hk0.tr hk1)
  have HE0 := Lib.hid (hE.kept (hk0.tr hk1))
  have HS0 := Lib.hid (hs.kept (hk0.tr hk1))
  have HCO := Lib.hid hc
  have HI := Lib.hid his
  have HKS := Lib.hid hks
  obtain ⟨B, hB⟩ : ∃ B, w.heap.size = B := ⟨_, rfl⟩
  obtain ⟨C, hC⟩ : ∃ C, W0.heap.size = C := ⟨_, rfl⟩
  rw [hB] at HA0
  rw [hC] at HC0
  clear hk0 hk1 hE hs hc his hks
  have a0 := HA0.out.1 0 _ rfl
  have a1 := HA0.out.1 1 _ rfl
  have a2 := HA0.out.1 2 _ rfl
  have a3 := HA0.out.1 3 _ rfl
  go_wp2_with fail
  refine (CK.out W).mono ?_
  rintro e W1 ⟨rfl, hk1⟩
  have HK1 := Lib.hid (HK0.out.tr hk1)
  have HX1 := Lib.hid hk1
  clear hk1 a0 a1 a2 a3 hW hW0 hB hC CK
  cases hkey : keyP ⟨kn, ks, kf, ku⟩ with
  | false =>
    have HF : Hid (R = ([], 1)) := Lib.hid (by rw [← HR.out, sgP, hkey]; rfl)
    clear hkey
    go_wp2
    go_ret2
    exact ⟨by rw [HF.out]; rfl, HK1.out⟩
  | true =>
    have HKY := Lib.hid hkey
    go_wp2_with fail
    refine (CN.out W1).mono ?_
    rintro e W2 ⟨rfl, hk2⟩
    have HK2 := Lib.hid (HK1.out.tr hk2)
    have HX2 := Lib.hid (HX1.out.tr hk2)
    clear hk2 hkey HK1 HX1 CN
    cases hnm : nameP is with
    | false =>
      have HF : Hid (R = ([], 1)) := Lib.hid (by rw [← HR.out, sgP, HKY.out, hnm]; rfl)
      clear hnm
      go_wp2
      go_ret2
      exact ⟨by rw [HF.out]; rfl, HK2.out⟩
    | true =>
      have HR2 : Hid (R = if claimP c = false then ([], 235) else (bodyP kn is c ++ 46 :: b64 (mac ks (bodyP kn is c)), 0)) := Lib.hid (by rw [← HR.out, sgP, HKY.out, hnm]; rfl)
      clear hnm
      have CC := Lib.hid (claimed_any c (.slice sa sn sc) W2 (HS0.out.kept HX2.out) HCO.out.client HCO.out.subject HCO.out.scn HCO.out.scl)
      have HC2 := Lib.hid (HC0.out.kept HX2.out)
      have c0 := HC2.out.1 0 _ rfl
      have c1 := HC2.out.1 1 _ rfl
      have c2 := HC2.out.1 2 _ rfl
      have c3 := HC2.out.1 3 _ rfl
      have c4 := HC2.out.1 4 _ rfl
      have c5 := HC2.out.1 5 _ rfl
      have c6 := HC2.out.1 6 _ rfl
      go_wp2_with fail
      refine CC.out.mono ?_
      rintro e W3 ⟨rfl, hk3⟩
      have HK3 := Lib.hid (HK2.out.tr hk3)
      have HX3 := Lib.hid (HX2.out.tr hk3)
      clear hk3 c0 c1 c2 c3 c4 c5 c6 HK2 HX2 HC2 CC
      cases hcl : claimP c with
      | false =>
        have HF : Hid (R = ([], 235)) := Lib.hid (by rw [HR2.out, hcl]; rfl)
        clear hcl
        go_wp2
        go_ret2
        exact ⟨by rw [HF.out]; rfl, HK3.out⟩
      | true =>
        obtain ⟨T, hT⟩ : ∃ T, bodyP kn is c = T := ⟨_, rfl⟩
        have HF : Hid (R = (T ++ 46 :: b64 (mac ks T), 0)) := Lib.hid (by rw [HR2.out, hcl, hT]; rfl)
        have HTL : Hid (T.length ≤ 20000) := Lib.hid (by rw [← hT]; exact bodyP_le _ _ _)
        clear hcl
        have HC3 := Lib.hid (HC0.out.kept HX3.out)
        have HA3 := Lib.hid (HA0.out.kept HX3.out)
        have c0 := HC3.out.1 0 _ rfl
        have c1 := HC3.out.1 1 _ rfl
        have c2 := HC3.out.1 2 _ rfl
        have c3 := HC3.out.1 3 _ rfl
        have c4 := HC3.out.1 4 _ rfl
        have c5 := HC3.out.1 5 _ rfl
        have c6 := HC3.out.1 6 _ rfl
        have a0 := HA3.out.1 0 _ rfl
        obtain ⟨W4, hW4⟩ : ∃ W4, W3.alloc (.cells #[headV kn, saidV is c (.slice sa sn sc)] 100) = W4 := ⟨_, rfl⟩
        have hk4 : Kept (fun _ => True) W3 W4 := by rw [← hW4]; exact (Kept.refl _ _).alloc _
        have HG : Hid (At W3.heap.size [headV kn, saidV is c (.slice sa sn sc)] W4) := Lib.hid (by rw [← hW4]; exact At.made W3 [headV kn, saidV is c (.slice sa sn sc)] _)
        have CB := Lib.hid (fun q => body_any kn is c (.slice sa sn sc) W3.heap.size q W4 (HE0.out.kept (HX3.out.tr hk4)) (key_num HKY.out).1 (key_num HKY.out).2 HCO.out HI.out (HS0.out.kept (HX3.out.tr hk4)) HG.out)
        rw [hT] at CB
        have HK4 := Lib.hid (HK3.out.tr hk4)
        have HX4 := Lib.hid (HX3.out.tr hk4)
        clear hk4 hT
        go_wp2_with fail
        refine (CB.out 2).mono ?_
        rintro e W5 ⟨rfl, hk5⟩
        have a1 := (HA0.out.kept (HX4.out.tr hk5)).1 1 _ rfl
        obtain ⟨W6, hW6⟩ : ∃ W6, W5.alloc (.cells #[S T] 9) = W6 := ⟨_, rfl⟩
        have hk6 : Kept (fun _ => True) W5 W6 := by rw [← hW6]; exact (Kept.refl _ _).alloc _
        have HP : Hid (PartsAt W5.heap.size [T] W6) := Lib.hid (by rw [← hW6]; exact heap_alloc_new W5 _)
        have CM := Lib.hid (fun q => MAC_any ks W5.heap.size q [T] W6 HP.out (by simp) (by have := HKS.out; omega) (by have := HTL.out; simp; omega))
        have CT1 := run_cat (P := Tryz.prog) T [46] _ rfl (by have := HTL.out; simp only [List.length_cons, List.length_nil]; omega)
        have HK6 := Lib.hid ((HK4.out.tr hk5).tr hk6)
        clear hk5 hk6 c0 c1 c2 c3 c4 c5 c6 a0 hW4 HG CB
        go_wp2_with fail
        refine (CM.out 1).mono ?_
        rintro e W7 ⟨rfl, hk7⟩
        have hfl : ([T] : List (List UInt8)).flatten = T := by simp
        rw [hfl]
        have hml : (mac ks T).length = 32 := by unfold mac; exact sha_len _
        obtain ⟨M, hM⟩ : ∃ M, mac ks T = M := ⟨_, rfl⟩
        rw [hM] at hml HF ⊢
        have CB2 := Lib.hid (Base64_any M W7 (by omega))
        have hbl := b64_le M
        obtain ⟨b, hb⟩ : ∃ b, b64 M = b := ⟨_, rfl⟩
        rw [hb] at CB2 HF hbl
        have CT2 := run_cat (P := Tryz.prog) (T ++ [46]) b _ rfl (by have := HTL.out; simp only [List.length_append, List.length_cons, List.length_nil]; omega)
        have HK7 := Lib.hid (HK6.out.tr hk7)
        clear hk7 hfl hml hM hb hbl CM HP hW6 a1
        go_wp2_with fail
        refine CB2.out.mono ?_
        rintro e W8 ⟨rfl, hk8⟩
        have HK8 := Lib.hid (HK7.out.tr hk8)
        clear hk8
        go_wp2
        go_ret2
        exact ⟨by rw [HF.out]; simp, HK8.out⟩
end Go.Proofs.YtpcgfhleloonfaaGreatDoor
namespace Go.Proofs.YtpcgfhleloonfaaGreatDoor
open Go.RowKit Jo Ac
theorem or_zero8 (d x y : UInt8) : d ||| (x ^^^ y) = 0 ↔ d = 0 ∧ x = y := by
  rw [← UInt8.toNat_inj, UInt8.toNat_or, UInt8.toNat_xor, ← UInt8.toNat_inj (a := d), ← UInt8.toNat_inj (a := x)]
  show d.toNat ||| (x.toNat ^^^ y.toNat) = 0 ↔ d.toNat = 0 ∧ x.toNat = y.toNat
  rw [Nat.or_eq_zero_iff]
  refine and_congr_right fun _ => ⟨fun h => ?_, fun h => by rw [h, Nat.xor_self]⟩
  have e : (x.toNat ^^^ y.toNat) ^^^ y.toNat = x.toNat := by rw [Nat.xor_assoc, Nat.xor_self, Nat.xor_zero]
  rw [h, Nat.zero_xor] at e
  exact e.symm
set_option maxRecDepth 100000 in
set_option maxHeartbeats 4000000 in
theorem Same_any (s t : List UInt8) (w : World) (hs : s.length ≤ 16777216) (ht : t.length ≤ 16777216) : Calls Tryz.prog 45 #[S s, S t] w fun e w' => e = .returned (.bool (decide (s = t))) ∧ Kept (fun _ => True) w w' := by
  obtain ⟨N, hN⟩ : ∃ N, s.length = N := ⟨_, rfl⟩
  obtain ⟨M, hM⟩ : ∃ M, t.length = M := ⟨_, rfl⟩
  have hsz : (⟨s.toArray⟩ : ByteArray).size = N := by rw [size_mk, hN]
  have htz : (⟨t.toArray⟩ : ByteArray).size = M := by rw [size_mk, hM]
  have hn1 : N ≤ 16777216 := by omega
  have hm1 : M ≤ 16777216 := by omega
  have HN := Lib.hid hN
  have HM := Lib.hid hM
  clear hN hM hs ht
  go_enter Tryz.func45, Tryz.ntmps45
  by_cases hne : N = M
  · subst hne
    go_wp2_with fail
    go_loopg [5, 14] N (fun q dv iv wx => ∃ (i : Nat) (d : UInt8), iv = .int .i64 (i : Int) ∧ i ≤ N ∧ q = N - i ∧ dv = .int .u8 (d.toNat : Int) ∧ Hid (d = 0 ↔ s.take i = t.take i) ∧ Hid (Kept (fun _ => True) w wx))
    case atStart => exact ⟨0, 0, rfl, by omega, rfl, rfl, Lib.hid (by simp), Lib.hid (Kept.refl _ _)⟩
    case round =>
      obtain ⟨i, d, rfl, hi, rfl, rfl, HD, HK⟩ := hrel
      by_cases hlt : i < N
      · obtain ⟨x, hx⟩ : ∃ x, s[i]? = some x := ⟨_, List.getElem?_eq_getElem (by rw [HN.out]; exact hlt)⟩
        obtain ⟨y, hy⟩ : ∃ y, t[i]? = some y := ⟨_, List.getElem?_eq_getElem (by rw [HM.out]; exact hlt)⟩
        have ix := run_index_str (P := Tryz.prog) Tryz.underlying9 ⟨s.toArray⟩ (i : Int) i rfl (by rw [hsz]; exact hlt) x (List.getElem?_eq_some_iff.1 hx).2
        have iy := run_index_str (P := Tryz.prog) Tryz.underlying9 ⟨t.toArray⟩ (i : Int) i rfl (by rw [htz]; exact hlt) y (List.getElem?_eq_some_iff.1 hy).2
        have hi1 : (i : Int) < (N : Int) := by omega
        have HX := Lib.hid (And.intro hx hy)
        have ho : bits .or .u8 (d.toNat : Int) (bits .xor .u8 (x.toNat : Int) (y.toNat : Int)) = ((d ||| (x ^^^ y)).toNat : Int) := by
          rw [u8_xor_nat _ _ x.toNat_lt y.toNat_lt, ← UInt8.toNat_xor, u8_or_nat _ _ d.toNat_lt (x ^^^ y).toNat_lt, ← UInt8.toNat_or]
        have HD2 : Hid (d ||| (x ^^^ y) = 0 ↔ s.take (i + 1) = t.take (i + 1)) := Lib.hid (by
          rw [or_zero8, HD.out, List.take_add_one, List.take_add_one, HX.out.1, HX.out.2]
          constructor
          · rintro ⟨h1, h2⟩
            rw [h1, h2]
          · intro h
            have := List.append_inj h (by rw [List.length_take, List.length_take, HN.out, HM.out])
            exact ⟨this.1, by simpa using this.2⟩)
        clear hx hy HX
        obtain ⟨d2, hd2⟩ : ∃ d2, d ||| (x ^^^ y) = d2 := ⟨_, rfl⟩
        rw [hd2] at ho HD2
        clear hd2
        go_wp2_with (go_quiet (fail))
        have HK2 := Lib.hid (HK.out.drewN nq)
        go_wp2
        go_roundg (N - (i + 1))
        case rel => exact ⟨i + 1, d2, by go_num, by omega, rfl, rfl, HD2, HK2⟩
        case measure => omega
      · obtain rfl : i = N := by omega
        have HF : Hid (decide (s = t) = decide (d = 0)) := Lib.hid (by
          have := HD.out
          rw [List.take_of_length_le (by rw [HN.out]; exact Nat.le_refl _), List.take_of_length_le (by rw [HM.out]; exact Nat.le_refl _)] at this
          simp [this])
        cases hd : decide (d = 0) with
        | true =>
          obtain rfl : d = 0 := of_decide_eq_true hd
          rw [hd] at HF
          clear hd
          go_wp2
          go_ret
          exact ⟨by rw [HF.out]; rfl, HK.out⟩
        | false =>
          rw [hd] at HF
          have hd0 : ((d.toNat : Int) == 0) = false := by
            have := of_decide_eq_false hd
            simp only [beq_eq_false_iff_ne, ne_eq]
            intro h
            exact this (UInt8.toNat_inj.1 (by show d.toNat = 0; omega))
          clear hd
          go_wp2
          go_ret
          exact ⟨by rw [HF.out]; rfl, HK.out⟩
  · have HF : Hid (decide (s = t) = false) := Lib.hid (by
      rw [decide_eq_false_iff_not]
      intro e
      exact hne (by rw [← HN.out, ← HM.out, e]))
    have hb : ((N : Int) != (M : Int)) = true := by simp; omega
    go_wp2
    go_ret
    exact ⟨by rw [HF.out]; rfl, Kept.refl _ _⟩
end Go.Proofs.YtpcgfhleloonfaaGreatDoor
namespace Go.Proofs.YtpcgfhleloonfaaGreatDoor
open Go.RowKit Jo Ac
theorem accFine_of {x : J} (hx : May x) : (layP x).length ≤ 1000000 → Fine x ∧ Few 1000000 x := by
  induction hx with
  | null => intro _; exact ⟨.mk _ _ _ _ _ (by simp [Rng]) (by simp), .mk _ _ _ _ _ (by simp) (by simp) (by simp)⟩
  | fls => intro _; exact ⟨.mk _ _ _ _ _ (by simp [Rng]) (by simp), .mk _ _ _ _ _ (by simp) (by simp) (by simp)⟩
  | tru => intro _; exact ⟨.mk _ _ _ _ _ (by simp [Rng]) (by simp), .mk _ _ _ _ _ (by simp) (by simp) (by simp)⟩
  | nr n h1 h2 => intro _; exact ⟨.mk _ _ _ _ _ (by simp [Rng]; omega) (by simp), .mk _ _ _ _ _ (by simp) (by simp) (by simp)⟩
  | tx t _ =>
    intro h
    rw [layP_tx] at h
    have := quote_len t
    unfold quoteP at h
    simp only [List.length_cons, List.length_append] at h
    exact ⟨.mk _ _ _ _ _ (by simp [Rng]; omega) (by simp), .mk _ _ _ _ _ (by simp) (by simp) (by simp)⟩
  | list xs hm ih =>
    intro h
    rw [layP_list] at h
    simp only [List.length_cons, List.length_append, List.length_nil] at h
    have hc := joinC_count layP xs fun x hx => layP_pos (hm x hx)
    have hj : ∀ (j : Nat) x, xs[j]? = some x → Fine x ∧ Few 1000000 x := fun j x hx => ih x (List.mem_of_getElem? hx) (by
      have := joinC_mem (xs.map layP) (layP x) (List.mem_map_of_mem (List.mem_of_getElem? hx))
      omega)
    exact ⟨.mk _ _ _ _ _ (by simp [Rng]; omega) fun j x hx => (hj j x hx).1, .mk _ _ _ _ _ (by simp) (by omega) fun j x hx => (hj j x hx).2⟩
  | obj ms hv _ hm ih =>
    intro h
    rw [layP_obj] at h
    simp only [List.length_cons, List.length_append, List.length_nil] at h
    have hc := joinC_count memP ms fun x hx => by simp [memP]; omega
    have hj1 : ∀ m ∈ ms, m.1.length ≤ 1000000 ∧ (layP m.2).length ≤ 1000000 := fun m hm => by
      have h1 := joinC_mem (ms.map memP) (memP m) (List.mem_map_of_mem hm)
      have h2 := quote_len m.1
      have h3 : (memP m).length = (quoteP m.1).length + 1 + (layP m.2).length := by unfold memP; rw [List.length_append, List.length_cons]; omega
      have h4 : (quoteP m.1).length = (m.1.flatMap quoteC).length + 2 := by unfold quoteP; simp
      omega
    have hj : ∀ (j : Nat) x, (ms.map (·.2))[j]? = some x → Fine x ∧ Few 1000000 x := fun j x hx => by
      obtain ⟨m, hm, rfl⟩ := List.mem_map.1 (List.mem_of_getElem? hx)
      exact ih m hm (hj1 m hm).2
    exact ⟨.mk _ _ _ _ _ (by
      refine ⟨by omega, by omega, by omega, by omega, by simp, by simp; omega, fun l hl => ?_, by simp; omega⟩
      obtain ⟨m, hm, rfl⟩ := List.mem_map.1 hl
      have := (hj1 m hm).1
      omega) fun j x hx => (hj j x hx).1, .mk _ _ _ _ _ (by simp; omega) (by simp; omega) fun j x hx => (hj j x hx).2⟩
theorem accParse_null {s : List UInt8} {x : J} {e : Int} {p : Nat} (h : parseP s = (x, e, p)) (he : e ≠ 0) : x = J.null := by
  unfold parseP at h
  split at h
  · cases h; rfl
  · unfold readP at h
    split at h
    · cases h; rfl
    · split at h
      · cases h; rfl
      · cases h; exact absurd rfl he
theorem accParse_fine (s : List UInt8) : Fine (parseP s).1 ∧ Few 1000000 (parseP s).1 := by
  obtain ⟨X, E, A, hP⟩ : ∃ X E A, parseP s = (X, E, A) := ⟨_, _, _, rfl⟩
  rw [hP]
  show Fine X ∧ Few 1000000 X
  by_cases he : E = 0
  · subst he
    obtain ⟨m1, m2, m3, m4, -⟩ := parse_short hP
    exact accFine_of (may_of X m1) (by omega)
  · obtain rfl := accParse_null hP he
    exact accFine_of May.null (by simp [J.null, layP])
/-- The value that some letters say. -/
def objJ (s : List UInt8) : J := match unb64 s with | none => J.null | some t => (parseP t).1
theorem objJ_fine (s : List UInt8) : Fine (objJ s) ∧ Few 1000000 (objJ s) := by
  unfold objJ
  split
  · exact accFine_of May.null (by simp [J.null, layP])
  · exact accParse_fine _
theorem unb64_le {s t : List UInt8} (h : unb64 s = some t) : t.length ≤ s.length := by
  unfold unb64 at h
  split at h
  · cases h
  · rename_i u hu
    split at h
    · cases h
      exact dc_len _ _ _ _ hu
    · cases h
/-- A block known whole. -/
abbrev RowW (g : Nat) (T : TypeId) (vs : List Value) (w : World) : Prop := w.heap[g]? = some (.cells vs.toArray T (0, 0))
theorem RowW.kept {g : Nat} {T : TypeId} {vs : List Value} {w w' : World} {ok : Nat → Prop} (h : RowW g T vs w) (hk : Kept ok w w') (ho : ok g) : RowW g T vs w' := (hk.block g (Array.getElem?_eq_some_iff.1 h).1 ho).trans h
theorem RowW.at' {g : Nat} {T : TypeId} {vs : List Value} {w : World} (h : RowW g T vs w) (j : Nat) (v : Value) (hj : vs[j]? = some v) : w.cell? ⟨g, j, none⟩ = some v := by
  rw [cell_of_row _ _ _ _ _ _ h]
  simpa using hj
theorem RowW.lt {g : Nat} {T : TypeId} {vs : List Value} {w : World} (h : RowW g T vs w) : g < w.heap.size := (Array.getElem?_eq_some_iff.1 h).1
section
variable {P : Program} {ops : Array Oper} {rest : List Oper} {o : Oper} {a : Act} {Q : Exit → Act → World → Prop} {w : World}
theorem wpList_storeRow (hg : o.guard = none) (T T' : TypeId) (y x : Operand) (ho : o.op = .store T y x) (g : Nat) (vs : List Value) (us : Array Value) (hy : a.eval y = .pointer (some ⟨g, 0, none⟩)) (hx : a.eval x = .agg us) (hr : RowW g T' vs w) (hl : vs.length = us.size) (hi : (P.info? T).map (·.size) = some us.size) (hone : us.toList.all (·.oneCell') = true)
    (h : ∀ w', RowW g T' us.toList w' → Kept (· ≠ g) w w' → wpList P ops Q rest (a.put o.dst undef) w') : wpList P ops Q (o :: rest) a w := by
  refine wpList_store_mid hg T y x ho g 0 us hy hx (fun j hj => ?_) hi (by rw [← Array.all_toList]; exact hone) ?_
  · rw [Nat.zero_add, cell_of_row _ _ _ _ _ _ hr, frozen_row hr]
    simp [hl, hj]
  · exact h _ (setCells_row hr (by rw [List.size_toArray, hl]; exact Array.length_toList.symm)) (Kept.setCells (.inr fun h => h rfl) _ _ (Kept.refl _ _))
end
theorem accNull_in (ok : Nat → Prop) (w : World) : JIn ok w J.null (jotV 0 0 [] (.slice none 0 0) (.slice none 0 0)) := (JOwn.null w).toIn (accFine_of May.null (by simp [J.null, layP])).1 ok fun b hb => by cases hb
set_option maxRecDepth 100000 in
set_option maxHeartbeats 4000000 in
theorem accObject_any (s : List UInt8) (w : World) (hs : s.length ≤ 8388608) : Calls Tryz.prog 75 #[S s] w fun e w' => ∃ v, e = .returned v ∧ JIn (fun b => w.heap.size ≤ b) w' (objJ s) v ∧ Kept (fun _ => True) w w' := by
  obtain ⟨X, hX⟩ : ∃ X, objJ s = X := ⟨_, rfl⟩
  have HX := Lib.hid hX
  rw [hX]
  clear hX
  go_enter Tryz.func75, Tryz.ntmps75
  obtain ⟨W, hW⟩ : ∃ W, w.alloc (.cells #[.int .i64 0, .int .i64 0, S [], .slice none 0 0, .slice none 0 0] 72) = W := ⟨_, rfl⟩
  have HK0 : Hid (Kept (fun _ => True) w W) := Lib.hid (by rw [← hW]; exact (Kept.refl _ _).alloc _)
  have HA0 : Hid (RowW w.heap.size 72 [.int .i64 0, .int .i64 0, S [], .slice none 0 0, .slice none 0 0] W) := Lib.hid (by rw [← hW]; exact heap_alloc_new w _)
  obtain ⟨B, hB⟩ : ∃ B, w.heap.size = B := ⟨_, rfl⟩
  have HB := Lib.hid hB
  rw [hB] at HA0
  have CF := FromBase64_any s W hs
  go_wp2_with fail
  refine CF.mono ?_
  rintro e W1 ⟨rfl, hk1⟩
  have HK1 := Lib.hid (HK0.out.tr hk1)
  have HA1 := Lib.hid (HA0.out.kept hk1 trivial)
  have HBW : Hid (B < W1.heap.size) := Lib.hid HA1.out.lt
  clear hk1 CF hW hB
  cases hu : unb64 s with
  | none =>
    have hf : fbV s = .tuple #[S [], .int .i64 24] := by unfold fbV; rw [hu]
    have HX2 : Hid (J.null = X) := Lib.hid (by rw [← HX.out, objJ, hu])
    rw [hf]
    clear hf hu
    go_wp2_with (first | (refine wpList_storeRow rfl 72 72 _ _ rfl B _ #[.int .i64 0, .int .i64 0, S [], .slice none 0 0, .slice none 0 0] rfl rfl HA1.out rfl (by kernel_rfl) rfl ?_; refine Hid.out ?_))
    refine Lib.hid ?_
    intro W2 hr2 hk2
    have g0 := hr2.at' 0 _ rfl
    have g1 := hr2.at' 1 _ rfl
    have g2 := hr2.at' 2 _ rfl
    have g3 := hr2.at' 3 _ rfl
    have g4 := hr2.at' 4 _ rfl
    have HK2 : Hid (Kept (fun _ => True) w W2) := Lib.hid (HK1.out.trans hk2 fun i hi _ => by rw [HB.out] at hi; omega)
    clear hr2 hk2
    go_wp2
    refine bodyPost_ret (v := jotV 0 0 [] (.slice none 0 0) (.slice none 0 0)) (by simp [results, Tryz.results75, go_sem, g0, g1, g2, g3, g4]) rfl ?_
    exact ⟨_, rfl, by rw [← HX2.out]; exact accNull_in _ _, HK2.out⟩
  | some t =>
    have hf : fbV s = .tuple #[S t, .int .i64 0] := by unfold fbV; rw [hu]
    have HX2 : Hid ((parseP t).1 = X) := Lib.hid (by rw [← HX.out, objJ, hu])
    have CP := Parse_any t W1 (by have := unb64_le hu; unfold maxLen; omega)
    rw [hf]
    clear hf hu
    go_wp2_with fail
    refine CP.mono ?_
    rintro e W2 ⟨⟨v, fp, rfl, hown, hnd, hfp⟩, hk2⟩
    have HJ : Hid (JIn (fun b => B < b) W2 X v) := Lib.hid (by
      rw [← HX2.out]
      exact hown.toIn (accParse_fine t).1 _ fun b hb => Nat.lt_of_lt_of_le HBW.out (hfp b hb))
    obtain ⟨na, nl, nc, ia, il, ic, hv⟩ := hown.form2
    obtain ⟨k, hk⟩ : ∃ k, (parseP t).1.kind = k := ⟨_, rfl⟩
    obtain ⟨n, hn⟩ : ∃ n, (parseP t).1.num = n := ⟨_, rfl⟩
    obtain ⟨x, hx⟩ : ∃ x, (parseP t).1.text = x := ⟨_, rfl⟩
    rw [hk, hn, hx] at hv
    subst hv
    have HA2 := Lib.hid (HA1.out.kept hk2 trivial)
    have HK2 := Lib.hid (HK1.out.tr hk2)
    clear hown hnd hfp hk2 hk hn hx CP
    go_wp2_with (first | (refine wpList_storeRow rfl 72 72 _ _ rfl B _ #[.int .i64 k, .int .i64 n, S x, .slice na nl nc, .slice ia il ic] rfl rfl (RowW.kept (w := W2) HA2.out ((Kept.refl (fun _ => True) W2).alloc _) trivial) rfl (by kernel_rfl) rfl ?_; refine Hid.out ?_))
    refine Lib.hid ?_
    intro W3 hr3 hk3
    have g0 := hr3.at' 0 _ rfl
    have g1 := hr3.at' 1 _ rfl
    have g2 := hr3.at' 2 _ rfl
    have g3 := hr3.at' 3 _ rfl
    have g4 := hr3.at' 4 _ rfl
    have hka : Kept (fun _ => True) W2 (W2.alloc (.cells #[.int .i64 k, .int .i64 n, S x, .slice na nl nc, .slice ia il ic] 72)) := (Kept.refl _ _).alloc _
    have HK3 : Hid (Kept (fun _ => True) w W3) := Lib.hid ((HK2.out.tr hka).trans hk3 fun i hi _ => by rw [HB.out] at hi; omega)
    have HJ3 : Hid (JIn (fun b => B < b) W3 X (jotV k n x (.slice na nl nc) (.slice ia il ic))) := Lib.hid ((HJ.out.kept hka fun _ _ _ => trivial).kept hk3 fun b _ hb => by omega)
    clear hr3 hk3 hka
    go_wp2
    refine bodyPost_ret (v := jotV k n x (.slice na nl nc) (.slice ia il ic)) (by simp [results, Tryz.results75, go_sem, g0, g1, g2, g3, g4]) rfl ?_
    exact ⟨_, rfl, HJ3.out.mono fun b _ hb => by rw [HB.out]; omega, HK3.out⟩
end Go.Proofs.YtpcgfhleloonfaaGreatDoor
namespace Go.Proofs.YtpcgfhleloonfaaGreatDoor
open Go.RowKit Jo Ac
def gotT (v : J) (name : List UInt8) : List UInt8 := ((getP v name).getD J.null).text
def gotN (v : J) (name : List UInt8) : Int := ((getP v name).getD J.null).num
set_option maxRecDepth 100000 in
set_option maxHeartbeats 4000000 in
theorem gotText_any (v : J) (va : Value) (name : List UInt8) (w : World) (hx : JIn (fun _ => True) w v va) (hf : Few 1000000 v) : Calls Tryz.prog 76 #[va, S name] w fun e w' => e = .returned (S (gotT v name)) ∧ Kept (fun _ => True) w w' := by
  obtain ⟨k, n, t, ns, xs⟩ := v
  have CG := Lib.hid (fun w' (hk : Kept (fun _ => True) w w') => Get_any (.mk k n t ns xs) va name (fun _ => True) w' (hx.kept hk fun _ _ _ => trivial) hf)
  obtain ⟨na, nc, ia, ic, us, rfl, hr, hn, hi, h⟩ := hx.invM
  obtain ⟨X, hX⟩ : ∃ X, (getP (.mk k n t ns xs) name).getD J.null = X := ⟨_, rfl⟩
  have HX : Hid (gotT (.mk k n t ns xs) name = X.text) := Lib.hid (by unfold gotT; rw [hX])
  have HX2 := Lib.hid hX
  clear hr hn hi h hX hf hx
  go_enter Tryz.func76, Tryz.ntmps76
  obtain ⟨W, hW⟩ : ∃ W, w.alloc (.cells #[.int .i64 k, .int .i64 n, S t, .slice na ns.length nc, .slice ia xs.length ic] 72) = W := ⟨_, rfl⟩
  have HK : Hid (Kept (fun _ => True) w W) := Lib.hid (by rw [← hW]; exact (Kept.refl _ _).alloc _)
  have HA : Hid (RowW w.heap.size 72 [.int .i64 k, .int .i64 n, S t, .slice na ns.length nc, .slice ia xs.length ic] W) := Lib.hid (by rw [← hW]; exact heap_alloc_new w _)
  have g0 := HA.out.at' 0 _ rfl
  have g1 := HA.out.at' 1 _ rfl
  have g2 := HA.out.at' 2 _ rfl
  have g3 := HA.out.at' 3 _ rfl
  have g4 := HA.out.at' 4 _ rfl
  have CG2 := CG.out W HK.out
  go_wp2_with fail
  refine CG2.mono ?_
  rintro e w2 ⟨⟨v, fp, rfl, hown, hnd, hfp⟩, hk2⟩
  rw [HX2.out] at hown
  obtain ⟨xa, xl, xc, ya, yl, yc, rfl⟩ := hown.form2
  have HK2 := Lib.hid (HK.out.tr hk2)
  clear hown hnd hfp hk2 g0 g1 g2 g3 g4 hW CG2
  obtain ⟨T, hT⟩ : ∃ T, X.text = T := ⟨_, rfl⟩
  rw [hT] at HX ⊢
  clear hT
  go_wp2
  go_ret
  exact ⟨by rw [HX.out]; rfl, HK2.out.alloc _⟩
set_option maxRecDepth 100000 in
set_option maxHeartbeats 4000000 in
theorem gotNum_any (v : J) (k n : Int) (t : List UInt8) (nv iv : Value) (name : List UInt8) (g : Nat) (w : World) (hx : JIn (fun _ => True) w v (jotV k n t nv iv)) (hf : Few 1000000 v) (hg : RowW g 72 [.int .i64 k, .int .i64 n, S t, nv, iv] w) : Calls Tryz.prog 78 #[S name, .pointer (some ⟨g, 0, none⟩)] w fun e w' => e = .returned (.int .i64 (gotN v name)) ∧ Kept (fun _ => True) w w' := by
  have CG := Lib.hid (Get_any v _ name (fun _ => True) w hx hf)
  obtain ⟨X, hX⟩ : ∃ X, (getP v name).getD J.null = X := ⟨_, rfl⟩
  have HX : Hid (gotN v name = X.num) := Lib.hid (by unfold gotN; rw [hX])
  have HX2 := Lib.hid hX
  obtain ⟨na, nc, ia, ic, us, he, -⟩ := hx.inv
  obtain ⟨nl, hnl⟩ : ∃ nl, v.names.length = nl := ⟨_, rfl⟩
  obtain ⟨il, hil⟩ : ∃ il, v.items.length = il := ⟨_, rfl⟩
  rw [hnl, hil] at he
  clear hnl hil
  obtain ⟨rfl, rfl⟩ : nv = .slice na nl nc ∧ iv = .slice ia il ic := by
    simp only [jotV, Value.agg.injEq, Array.mk.injEq, List.cons.injEq] at he
    exact ⟨he.2.2.2.1, he.2.2.2.2.1⟩
  have g0 := hg.at' 0 _ rfl
  have g1 := hg.at' 1 _ rfl
  have g2 := hg.at' 2 _ rfl
  have g3 := hg.at' 3 _ rfl
  have g4 := hg.at' 4 _ rfl
  clear hx hf hg hX he
  go_enter Tryz.func78, Tryz.ntmps78
  go_wp2_with fail
  refine CG.out.mono ?_
  rintro e w2 ⟨⟨v, fp, rfl, hown, hnd, hfp⟩, hk2⟩
  rw [HX2.out] at hown
  obtain ⟨xa, xl, xc, ya, yl, yc, rfl⟩ := hown.form2
  have HK2 := Lib.hid hk2
  clear hown hnd hfp hk2 g0 g1 g2 g3 g4 CG
  obtain ⟨T, hT⟩ : ∃ T, X.num = T := ⟨_, rfl⟩
  rw [hT] at HX ⊢
  clear hT
  go_wp2
  go_ret
  exact ⟨by rw [HX.out]; rfl, HK2.out.alloc _⟩
/-- Texts and numbers in what was read of a text are small. -/
theorem may_small {x : J} (h : May x) : x.text.length ≤ (layP x).length ∧ -9007199254740991 ≤ x.num ∧ x.num ≤ 9007199254740991 := by
  cases h with
  | null => exact ⟨Nat.zero_le _, by decide, by decide⟩
  | fls => exact ⟨Nat.zero_le _, by decide, by decide⟩
  | tru => exact ⟨Nat.zero_le _, by decide, by decide⟩
  | nr n h1 h2 => exact ⟨Nat.zero_le _, h1, h2⟩
  | tx t _ =>
    refine ⟨?_, show (-9007199254740991 : Int) ≤ 0 by decide, show (0 : Int) ≤ 9007199254740991 by decide⟩
    rw [layP_tx]
    have := quote_len t
    unfold quoteP
    simp only [List.length_cons, List.length_append]
    show t.length ≤ _
    omega
  | list xs hm => exact ⟨Nat.zero_le _, show (-9007199254740991 : Int) ≤ 0 by decide, show (0 : Int) ≤ 9007199254740991 by decide⟩
  | obj ms h1 h2 hm => exact ⟨Nat.zero_le _, show (-9007199254740991 : Int) ≤ 0 by decide, show (0 : Int) ≤ 9007199254740991 by decide⟩
theorem may_items {x : J} (h : May x) : ∀ y ∈ x.items, May y ∧ (layP y).length ≤ (layP x).length := by
  cases h with
  | null => intro y hy; cases hy
  | fls => intro y hy; cases hy
  | tru => intro y hy; cases hy
  | nr n h1 h2 => intro y hy; cases hy
  | tx t _ => intro y hy; cases hy
  | list xs hm =>
    intro y hy
    have hy' : y ∈ xs := hy
    refine ⟨hm y hy', ?_⟩
    rw [layP_list]
    have := joinC_mem (xs.map layP) (layP y) (List.mem_map_of_mem hy')
    simp only [List.length_cons, List.length_append]
    omega
  | obj ms h1 h2 hm =>
    intro y hy
    obtain ⟨q, hq, rfl⟩ := List.mem_map.1 (show y ∈ ms.map (·.2) from hy)
    refine ⟨hm q hq, ?_⟩
    rw [layP_obj]
    have h1 := joinC_mem (ms.map memP) (memP q) (List.mem_map_of_mem hq)
    have h3 : (memP q).length = (quoteP q.1).length + 1 + (layP q.2).length := by unfold memP; rw [List.length_append, List.length_cons]; omega
    simp only [List.length_cons, List.length_append]
    omega
theorem goG_mem {name : List UInt8} {y : J} : ∀ {ns : List (List UInt8)} {xs : List J}, goG name ns xs = some y → y ∈ xs
  | [], xs, h => by simp [goG] at h
  | n :: ns, xs, h => by
    rw [goG] at h
    split at h
    · exact List.mem_of_mem_head? h
    · exact List.mem_of_mem_tail (goG_mem h)
theorem got_small (s name : List UInt8) : (gotT (objJ s) name).length ≤ 4000 ∧ -9007199254740991 ≤ gotN (objJ s) name ∧ gotN (objJ s) name ≤ 9007199254740991 := by
  have key : May (objJ s) ∧ (layP (objJ s)).length ≤ 4000 := by
    unfold objJ
    split
    · exact ⟨May.null, by simp [J.null, layP]⟩
    · rename_i t ht
      obtain ⟨X, E, A, hP⟩ : ∃ X E A, parseP t = (X, E, A) := ⟨_, _, _, rfl⟩
      rw [hP]
      by_cases he : E = 0
      · subst he
        obtain ⟨m1, m2, m3, m4, -⟩ := parse_short hP
        exact ⟨may_of X m1, Nat.le_trans m3 m4⟩
      · obtain rfl := accParse_null hP he
        exact ⟨May.null, by simp [J.null, layP]⟩
  unfold gotT gotN
  cases hg : getP (objJ s) name with
  | none => exact ⟨by decide, by decide, by decide⟩
  | some y =>
    have hy : y ∈ (objJ s).items := by
      unfold getP at hg
      split at hg
      · exact goG_mem hg
      · cases hg
    obtain ⟨h1, h2⟩ := may_items key.1 y hy
    have := may_small h1
    exact ⟨Nat.le_trans (Nat.le_trans this.1 h2) key.2, this.2⟩
end Go.Proofs.YtpcgfhleloonfaaGreatDoor
