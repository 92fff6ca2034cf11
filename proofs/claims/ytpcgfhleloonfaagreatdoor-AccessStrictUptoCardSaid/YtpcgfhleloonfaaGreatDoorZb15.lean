/- What the proof of this law needs, part 15: walks of the program's functions and plain laws (texts AcAB, AcAC, AcL1, AcL2, AcL3, AcL4, AcL5, AcL6, AcP1, AcP2, AcP3). -/
import Derived.Test.YtpcgfhleloonfaaGreatDoorZb14
namespace Go.Proofs.YtpcgfhleloonfaaGreatDoor
open Go.RowKit Jo Ac
/-- A list of keys in memory. -/
def KL (w : World) (v : Value) (l : List Ky) : Prop := ∃ a c, v = .slice a l.length c ∧ ∀ (j : Nat) k, l[j]? = some k → ∃ b off, a = some ⟨b, off, none⟩ ∧ b < w.heap.size ∧ w.cell? ⟨b, off + j * 4, none⟩ = some (.int .i64 k.num) ∧ w.cell? ⟨b, off + j * 4 + 1, none⟩ = some (S k.secret) ∧ w.cell? ⟨b, off + j * 4 + 2, none⟩ = some (.int .i64 k.fr) ∧ w.cell? ⟨b, off + j * 4 + 3, none⟩ = some (.int .i64 k.till)
theorem KL.kept {w w' : World} {v : Value} {l : List Ky} (h : KL w v l) (hk : Kept (fun _ => True) w w') : KL w' v l := by
  obtain ⟨a, c, h1, h2⟩ := h
  refine ⟨a, c, h1, fun j k hj => ?_⟩
  obtain ⟨b, off, e1, e2, e3, e4, e5, e6⟩ := h2 j k hj
  exact ⟨b, off, e1, Nat.lt_of_lt_of_le e2 hk.size, (hk.cell e2 trivial).trans e3, (hk.cell e2 trivial).trans e4, (hk.cell e2 trivial).trans e5, (hk.cell e2 trivial).trans e6⟩
/-- The time that a number counts as. -/
def nearP (n : Int) : Int := min (max n 0) 1099511627776
def verG (n : Int) (c : Cl) (sg si : List UInt8) (t : Int) : List Ky → Cl × Int
  | [] => (zeroCl, 231)
  | k :: r => if k.num = n then (if k.till ≤ t ∨ c.issued < k.fr then (zeroCl, 231) else if si ≠ mac k.secret sg then (zeroCl, 232) else if t < c.issued ∨ c.till ≤ t then (zeroCl, 233) else (c, 0)) else verG n c sg si t r
/-- What a token says, if it is good. -/
def verP (keys : List Ky) (is s : List UInt8) (now : Int) : Cl × Int := match tokP is s with | some (n, c, sg, si) => verG n c sg si (nearP now) keys | none => (zeroCl, 230)
def VerQ (R : Cl × Int) (w : World) (e : Ending) (w' : World) : Prop :=
  (∃ sa sn sc, e = .returned (.tuple #[.agg (R.1.vs (.slice sa sn sc)).toArray, .int .i64 R.2]) ∧ OwnS w.heap.size (.slice sa sn sc) R.1.scope w') ∧ Kept (fun _ => True) w w'
theorem tok_facts {is s : List UInt8} {n : Int} {c : Cl} {sg si : List UInt8} (h : tokP is s = some (n, c, sg, si)) : nameP is = true ∧ si.length = 32 ∧ 1 ≤ n ∧ n ≤ 1073741824 ∧ claimP c = true ∧ sg = bodyP n is c := by
  unfold tokP tokL at h
  split at h
  · rename_i a b m _
    split at h
    · rename_i hn
      unfold tok3 at h
      split at h
      · cases h
      · split at h
        · rename_i hq
          cases h
          simp only [Bool.and_eq_true, decide_eq_true_eq, beq_iff_eq] at hq
          exact ⟨hn, hq.1.1.1.1, hq.1.1.1.2, hq.1.1.2, hq.1.2, hq.2.symm⟩
        · cases h
    · cases h
  · cases h
def relV (g gk : Nat) (k : Ky) (sg si : List UInt8) : List Rel := [isV (.pointer (some ⟨g, 10, none⟩)), isV (S si), isV (.pointer (some ⟨gk, 1, none⟩)), isV (S k.secret), isV (.pointer (some ⟨g, 9, none⟩)), isV (S sg), isRow 9 1 [S sg], isV (S (mac k.secret sg)), isV (.bool (decide (si = mac k.secret sg))), isV (.bool (!decide (si = mac k.secret sg))), isV (.bool (!decide (si = mac k.secret sg)))]
theorem relV_last (g gk : Nat) (k : Ky) (sg si : List UInt8) : Lasts (relOf (relV g gk k sg si)) := lasts_of _ (by
  intro r hr
  simp only [relV, List.mem_cons, List.not_mem_nil, or_false] at hr
  obtain rfl | rfl | rfl | rfl | rfl | rfl | rfl | rfl | rfl | rfl | rfl := hr <;> first | exact isV_last _ | exact isRow_last _ _ _)
set_option maxRecDepth 100000 in
set_option maxHeartbeats 4000000 in
theorem Verify_any (keys : List Ky) (kv : Value) (is s : List UInt8) (now : Int) (w : World) (hE : AE w) (his : is.length ≤ 16777216) (hsl : s.length ≤ 8388608) (hk : KL w kv keys) (hkn : keys.length ≤ 1048576) (hks : ∀ k ∈ keys, k.secret.length ≤ 16777216) : Calls Tryz.prog 19 #[kv, S is, S s, .int .i64 now] w (VerQ (verP keys is s now) w) := by
  obtain ⟨R, hR⟩ : ∃ R, verP keys is s now = R := ⟨_, rfl⟩
  have HR := Lib.hid hR
  rw [hR]
  clear hR
  obtain ⟨t, ht⟩ : ∃ t, nearP now = t := ⟨_, rfl⟩
  have HT := Lib.hid ht
  have CN := Lib.hid (fun w => nearest_any now w)
  rw [show min (max now 0) 1099511627776 = t from ht] at CN
  clear ht
  go_enter Tryz.func19, Tryz.ntmps19
  obtain ⟨W, hW⟩ : ∃ W, w.alloc (.cells #[S [], S [], .slice none 0 0, .int .i64 0, .int .i64 0, .int .i64 0, .int .i64 0] 26) = W := ⟨_, rfl⟩
  have hk0 : Kept (fun _ => True) w W := by rw [← hW]; exact (Kept.refl _ _).alloc _
  have HA0 : Hid (RowW w.heap.size 26 (zeroCl.vs (.slice none 0 0)) W) := Lib.hid (by rw [← hW]; exact heap_alloc_new w _)
  have CP := Lib.hid (parse_any is s W (hE.kept hk0) his hsl)
  have HKL0 := Lib.hid (hk.kept hk0)
  have HKS := Lib.hid hks
  have HK0 := Lib.hid hk0
  obtain ⟨B, hB⟩ : ∃ B, w.heap.size = B := ⟨_, rfl⟩
  have HB := Lib.hid hB
  rw [hB] at HA0
  have CN0 := CN.out W
  clear hk0 hE his hsl hk hks CN
  go_wp2_with fail
  refine CN0.mono ?_
  rintro e W' ⟨rfl, rfl⟩
  clear CN0
  go_wp2_with fail
  refine CP.out.mono ?_
  rintro e W1 ⟨⟨n, is', c, sa, sn, sc, sg, si, rfl, hr⟩, hk1⟩
  have HRR := Lib.hid hr
  have HK1 := Lib.hid (HK0.out.tr hk1)
  have HA1 := Lib.hid (HA0.out.kept hk1 trivial)
  have HKL1 := Lib.hid (HKL0.out.kept hk1)
  have HWZ : Hid (B < W'.heap.size) := Lib.hid HA0.out.lt
  clear hr hk1 hW hB CP HK0 HA0 HKL0
  obtain ⟨W2, hW2⟩ : ∃ W2, W1.alloc (.cells (tokVs n is' c (.slice sa sn sc) sg si).toArray 80) = W2 := ⟨_, rfl⟩
  have hk2 : Kept (fun _ => True) W1 W2 := by rw [← hW2]; exact (Kept.refl _ _).alloc _
  have RT0 : Hid (RowW W1.heap.size 80 (tokVs n is' c (.slice sa sn sc) sg si) W2) := Lib.hid (by rw [← hW2]; exact heap_alloc_new W1 _)
  have HK2 := Lib.hid (HK1.out.tr hk2)
  have HA2 := Lib.hid (HA1.out.kept hk2 trivial)
  have HKL2 := Lib.hid (HKL1.out.kept hk2)
  cases hs : tokP is s with
  | none =>
    have HF : Hid (R = (zeroCl, 230)) := Lib.hid (by rw [← HR.out, verP, hs])
    rw [show (Option.isSome (none : Option (Int × Cl × List UInt8 × List UInt8))) = false from rfl]
    clear hs hk2
    go_wp2_with (first | (refine wpList_storeRow rfl 26 26 _ _ rfl B _ (zeroCl.vs (.slice none 0 0)).toArray rfl rfl HA2.out rfl (by kernel_rfl) rfl ?_; refine Hid.out ?_))
    refine Lib.hid ?_
    intro W3 hr3 hk3
    have g0 := hr3.at' 0 _ rfl
    have g1 := hr3.at' 1 _ rfl
    have g2 := hr3.at' 2 _ rfl
    have g3 := hr3.at' 3 _ rfl
    have g4 := hr3.at' 4 _ rfl
    have g5 := hr3.at' 5 _ rfl
    have g6 := hr3.at' 6 _ rfl
    have HK3 : Hid (Kept (fun _ => True) w W3) := Lib.hid (HK2.out.trans hk3 fun i hi _ => by rw [HB.out] at hi; omega)
    clear hr3 hk3
    go_wp2
    refine bodyPost_ret (v := .tuple #[.agg (zeroCl.vs (.slice none 0 0)).toArray, .int .i64 230]) (by simp [results, Tryz.results19, go_sem, g0, g1, g2, g3, g4, g5, g6]) rfl ?_
    exact ⟨⟨none, 0, 0, by rw [HF.out], by rw [HF.out]; exact ⟨rfl, .inl ⟨rfl, rfl⟩⟩⟩, HK3.out⟩
  | some r =>
    obtain ⟨rfl, -, ho⟩ := HRR.out r hs
    have HTF := Lib.hid (tok_facts hs)
    have HV : Hid (R = verG n c sg si t keys) := Lib.hid (by rw [← HR.out, verP, hs, ← HT.out])
    have HO2 := Lib.hid (OwnS.kept ho hk2)
    rw [show (Option.isSome (some (n, c, sg, si))) = true from rfl]
    obtain ⟨g, hg⟩ : ∃ g, W1.heap.size = g := ⟨_, rfl⟩
    have HGB : Hid (g ≠ B) := Lib.hid (by have := HA1.out.lt; omega)
    rw [hg] at RT0
    clear hs ho hk2 HRR HR HT HK1 HA1 HKL1
    obtain ⟨ka, kc, rfl, hcell⟩ := HKL2.out
    obtain ⟨N, hN⟩ : ∃ N, keys.length = N := ⟨_, rfl⟩
    have HN := Lib.hid hN
    rw [hN]
    have HCL := Lib.hid hcell
    have hn1 : N ≤ 1048576 := by omega
    clear hcell hN hkn HKL2
    go_wp2_with fail
    clear hW2 hg
    go_loopg [27] N (fun q iv wx => ∃ i : Nat, iv = .int .i64 (i : Int) ∧ i ≤ N ∧ q = N - i ∧ Hid (R = verG n c sg si t (keys.drop i)) ∧ Hid (Kept (fun _ => True) W2 wx))
    case atStart => exact ⟨0, rfl, by omega, rfl, HV, Lib.hid (Kept.refl _ _)⟩
    case round =>
      obtain ⟨i, rfl, hi, rfl, HD, HK⟩ := hrel
      by_cases hlt : i < N
      · obtain ⟨k, hkk⟩ : ∃ k, keys[i]? = some k := ⟨_, List.getElem?_eq_getElem (by rw [HN.out]; exact hlt)⟩
        obtain ⟨b, off, rfl, hb, e0, e1, e2, e3⟩ := HCL.out i k hkk
        have k0 := (HK.out.cell hb trivial).trans e0
        have k1 := (HK.out.cell hb trivial).trans e1
        have k2 := (HK.out.cell hb trivial).trans e2
        have k3 := (HK.out.cell hb trivial).trans e3
        have hi1 : (i : Int) < (N : Int) := by omega
        have HDR := Lib.hid (drop_consS hkk)
        clear hkk e0 e1 e2 e3
        have RT := Lib.hid (RT0.out.kept HK.out trivial)
        obtain ⟨W5, hW5⟩ : ∃ W5, wr.alloc (.cells #[.int .i64 k.num, S k.secret, .int .i64 k.fr, .int .i64 k.till] 23) = W5 := ⟨_, rfl⟩
        have hk5 : Kept (fun _ => True) wr W5 := by rw [← hW5]; exact (Kept.refl _ _).alloc _
        have RK : Hid (RowW wr.heap.size 23 [.int .i64 k.num, S k.secret, .int .i64 k.fr, .int .i64 k.till] W5) := Lib.hid (by rw [← hW5]; exact heap_alloc_new wr _)
        have RT5 := Lib.hid (RT.out.kept hk5 trivial)
        have HK5 := Lib.hid (HK.out.tr hk5)
        have HA5 := Lib.hid (HA2.out.kept HK5.out trivial)
        have HKSL := HKS.out k (by rw [← List.take_append_drop i keys]; exact List.mem_append_right _ (by rw [HDR.out]; exact List.mem_cons_self))
        have t0 := RT5.out.at' 0 _ rfl
        have t7 := RT5.out.at' 7 _ rfl
        have t8 := RT5.out.at' 8 _ rfl
        have q0 := RK.out.at' 0 _ rfl
        have q1 := RK.out.at' 1 _ rfl
        have q2 := RK.out.at' 2 _ rfl
        have q3 := RK.out.at' 3 _ rfl
        clear hk5 RT
        by_cases hnum : k.num = n
        · have HD2 : Hid (R = if k.till ≤ t ∨ c.issued < k.fr then (zeroCl, 231) else if si ≠ mac k.secret sg then (zeroCl, 232) else if t < c.issued ∨ c.till ≤ t then (zeroCl, 233) else (c, 0)) := Lib.hid (by rw [HD.out, HDR.out, verG, if_pos hnum])
          have hne : (k.num != n) = false := by simp [hnum]
          by_cases hbad : k.till ≤ t ∨ c.issued < k.fr
          · have HF : Hid (R = (zeroCl, 231)) := Lib.hid (by rw [HD2.out, if_pos hbad])
            by_cases hb1 : k.till ≤ t
            · clear hbad HD2 hnum
              go_wp2_with (first | (refine wpList_storeRow rfl 26 26 _ _ rfl B _ (zeroCl.vs (.slice none 0 0)).toArray rfl rfl HA5.out rfl (by kernel_rfl) rfl ?_; refine Hid.out ?_))
              refine Lib.hid ?_
              intro W9 hr9 hk9
              have g0 := hr9.at' 0 _ rfl
              have g1 := hr9.at' 1 _ rfl
              have g2 := hr9.at' 2 _ rfl
              have g3 := hr9.at' 3 _ rfl
              have g4 := hr9.at' 4 _ rfl
              have g5 := hr9.at' 5 _ rfl
              have g6 := hr9.at' 6 _ rfl
              have HK9 : Hid (Kept (fun _ => True) w W9) := Lib.hid ((HK2.out.tr HK5.out).trans hk9 fun i hi _ => by rw [HB.out] at hi; omega)
              clear hr9 hk9
              go_wp2
              refine bodyPost_ret (v := .tuple #[.agg (zeroCl.vs (.slice none 0 0)).toArray, .int .i64 231]) (by simp [results, Tryz.results19, go_sem, g0, g1, g2, g3, g4, g5, g6]) rfl ?_
              exact ⟨⟨none, 0, 0, by rw [HF.out], by rw [HF.out]; exact ⟨rfl, .inl ⟨rfl, rfl⟩⟩⟩, HK9.out⟩
            · have hb2 : c.issued < k.fr := hbad.resolve_left hb1
              clear hbad HD2 hnum
              go_wp2_with (first | (refine wpList_storeRow rfl 26 26 _ _ rfl B _ (zeroCl.vs (.slice none 0 0)).toArray rfl rfl HA5.out rfl (by kernel_rfl) rfl ?_; refine Hid.out ?_))
              refine Lib.hid ?_
              intro W9 hr9 hk9
              have g0 := hr9.at' 0 _ rfl
              have g1 := hr9.at' 1 _ rfl
              have g2 := hr9.at' 2 _ rfl
              have g3 := hr9.at' 3 _ rfl
              have g4 := hr9.at' 4 _ rfl
              have g5 := hr9.at' 5 _ rfl
              have g6 := hr9.at' 6 _ rfl
              have HK9 : Hid (Kept (fun _ => True) w W9) := Lib.hid ((HK2.out.tr HK5.out).trans hk9 fun i hi _ => by rw [HB.out] at hi; omega)
              clear hr9 hk9
              go_wp2
              refine bodyPost_ret (v := .tuple #[.agg (zeroCl.vs (.slice none 0 0)).toArray, .int .i64 231]) (by simp [results, Tryz.results19, go_sem, g0, g1, g2, g3, g4, g5, g6]) rfl ?_
              exact ⟨⟨none, 0, 0, by rw [HF.out], by rw [HF.out]; exact ⟨rfl, .inl ⟨rfl, rfl⟩⟩⟩, HK9.out⟩
          · have hb1 : ¬ k.till ≤ t := fun h => hbad (.inl h)
            have hb2 : ¬ c.issued < k.fr := fun h => hbad (.inr h)
            have HD3 : Hid (R = if si ≠ mac k.secret sg then (zeroCl, 232) else if t < c.issued ∨ c.till ≤ t then (zeroCl, 233) else (c, 0)) := Lib.hid (by rw [HD2.out, if_neg hbad])
            have HSIL : Hid (si.length ≤ 16777216) := Lib.hid (by have := HTF.out.2.1; omega)
            have HSGL : Hid (sg.length ≤ 20000) := Lib.hid (by rw [HTF.out.2.2.2.2.2]; exact bodyP_le _ _ _)
            obtain ⟨gk, hgk⟩ : ∃ gk, wr.heap.size = gk := ⟨_, rfl⟩
            rw [hgk] at RK q0 q1 q2 q3
            clear hbad HD2 hnum
            go_wp2_with fail
            clear hgk hW5 t0 t7 t8 q0 q1 q2 q3
            refine wp_flow2 rfl [some 53, some 54, some 55, some 56, some 57, some 58, some 59, some 60, some 61, some 62, some 52] rfl (by decide) (by kernel_rfl) (by kernel_rfl) (WIs W5 (relOf (relV g gk k sg si)) []) ?_ ?_ ?_
            · intro vs
              exact WIs.start (fun k t h => by simp at h) (fun k l t u h => by simp at h)
            · intro j o L vs x w1 p h
              have hi : j < 11 := p.lt
              have hR := relV_last g gk k sg si
              have hT : ∀ t ∈ ([] : List Tgt), t.al ≠ some j ∧ t.st ≠ j ∧ (L t.st = true → t.src ≠ j) := fun t ht => by cases ht
              have hk := h.kept fun t ht => by cases ht
              obtain rfl | rfl | rfl | rfl | rfl | rfl | rfl | rfl | rfl | rfl | rfl : j = 0 ∨ j = 1 ∨ j = 2 ∨ j = 3 ∨ j = 4 ∨ j = 5 ∨ j = 6 ∨ j = 7 ∨ j = 8 ∨ j = 9 ∨ j = 10 := by omega
              · obtain rfl : _ = o := Option.some.inj p.isAt
                exact flow_fld p rfl h hR hT rfl rfl ((p.old 10 rfl).trans rfl) (fun w => by kernel_rfl)
              · obtain rfl : _ = o := Option.some.inj p.isAt
                have c0 := (RT5.out.kept hk trivial).at' 10 _ rfl
                exact flow_load p rfl h hR hT rfl rfl (p.isv h 0 53 rfl rfl rfl) (by simp [go_sem, c0])
              · obtain rfl : _ = o := Option.some.inj p.isAt
                exact flow_fld p rfl h hR hT rfl rfl ((p.old 13 rfl).trans rfl) (fun w => by kernel_rfl)
              · obtain rfl : _ = o := Option.some.inj p.isAt
                have c0 := (RK.out.kept hk trivial).at' 1 _ rfl
                exact flow_load p rfl h hR hT rfl rfl (p.isv h 2 55 rfl rfl rfl) (by simp [go_sem, c0])
              · obtain rfl : _ = o := Option.some.inj p.isAt
                exact flow_fld p rfl h hR hT rfl rfl ((p.old 10 rfl).trans rfl) (fun w => by kernel_rfl)
              · obtain rfl : _ = o := Option.some.inj p.isAt
                have c0 := (RT5.out.kept hk trivial).at' 9 _ rfl
                exact flow_load p rfl h hR hT rfl rfl (p.isv h 4 57 rfl rfl rfl) (by simp [go_sem, c0])
              · obtain rfl : _ = o := Option.some.inj p.isAt
                have e58 := p.isv h 5 58 rfl rfl rfl
                simp only [Act.eval, Array.getD_eq_getD_getElem?] at e58
                refine flow_val p rfl h hR hT (v := .slice (some ⟨w1.heap.size, 0, none⟩) 1 1) (w' := w1.alloc (.cells #[S sg] 9)) ?_ ((Kept.refl _ _).alloc _) fun ok hok => ⟨_, rfl, hok _ (Nat.le_refl _), heap_alloc_new _ _⟩
                simp [execOp, go_sem, e58]
              · obtain rfl : _ = o := Option.some.inj p.isAt
                obtain ⟨ok, e59, q, l1, l2, l3⟩ := p.get h 6 59 rfl rfl
                refine flow_call2 p rfl h hR hT rfl (fun w => by kernel_rfl) (p.isv h 3 56 rfl rfl rfl) (e59.trans l1) (MAC_any k.secret q 1 [sg] w1 l3 (by simp) (by omega) (by have := HSGL.out; simp; omega)) ?_
                rintro e w' ⟨rfl, hk'⟩
                exact ⟨_, rfl, hk', fun ok _ => by show _ = S (mac k.secret sg); simp⟩
              · obtain rfl : _ = o := Option.some.inj p.isAt
                refine flow_call2 p rfl h hR hT rfl (fun w => by kernel_rfl) (p.isv h 1 54 rfl rfl rfl) (p.isv h 7 60 rfl rfl rfl) (Same_any si (mac k.secret sg) w1 HSIL.out (by have : (mac k.secret sg).length = 32 := (by unfold mac; exact sha_len _); omega)) ?_
                rintro e w' ⟨rfl, hk'⟩
                exact ⟨_, rfl, hk', fun ok _ => rfl⟩
              · obtain rfl : _ = o := Option.some.inj p.isAt
                have e61 := p.isv h 8 61 rfl rfl rfl
                simp only [Act.eval, Array.getD_eq_getD_getElem?] at e61
                exact flow_is p rfl h hR hT rfl (by simp [execOp, go_sem, e61])
              · obtain rfl : _ = o := Option.some.inj p.isAt
                exact flow_as p rfl h hR hT rfl rfl (p.isv h 9 62 rfl rfl rfl)
            · intro vs w9 L hL h
              have hk9 := h.kept fun t ht => by cases ht
              obtain ⟨ok, G, -, -, -, h3, -⟩ := h
              have e10 : vs 10 = .bool (!decide (si = mac k.secret sg)) := h3 10 (hL 10 (by decide))
              have HKX := Lib.hid ((HK2.out.tr HK5.out).tr hk9)
              have HAX := Lib.hid (HA5.out.kept hk9 trivial)
              have RTX := Lib.hid (RT5.out.kept hk9 trivial)
              have HOW := Lib.hid ((HO2.out.kept HK5.out).kept hk9)
              simp only [putAll, Act.put, List.setIfInBounds_toArray, List.set_cons_zero, List.set_cons_succ, Nat.zero_add, Nat.reduceAdd, e10]
              clear h3 hL e10 hk9 HK5 HA5 RT5 RK HK
              generalize vs 0 = v0
              generalize vs 1 = v1
              generalize vs 2 = v2
              generalize vs 3 = v3
              generalize vs 4 = v4
              generalize vs 5 = v5
              generalize vs 6 = v6
              generalize vs 7 = v7
              generalize vs 8 = v8
              generalize vs 9 = v9
              by_cases hm : si = mac k.secret sg
              · rw [decide_eq_true hm]
                have HD4 : Hid (R = if t < c.issued ∨ c.till ≤ t then (zeroCl, 233) else (c, 0)) := Lib.hid (by rw [HD3.out, if_neg (fun h => h hm)])
                clear hm HD3
                have t7 := RTX.out.at' 7 _ rfl
                have t8 := RTX.out.at' 8 _ rfl
                by_cases h1 : t < c.issued
                · have HF : Hid (R = (zeroCl, 233)) := Lib.hid (by rw [HD4.out, if_pos (.inl h1)])
                  go_wp2_with (first | (refine wpList_storeRow rfl 26 26 _ _ rfl B _ (zeroCl.vs (.slice none 0 0)).toArray rfl rfl HAX.out rfl (by kernel_rfl) rfl ?_; refine Hid.out ?_))
                  refine Lib.hid ?_
                  intro W9 hr9 hk9
                  have g0 := hr9.at' 0 _ rfl
                  have g1 := hr9.at' 1 _ rfl
                  have g2 := hr9.at' 2 _ rfl
                  have g3 := hr9.at' 3 _ rfl
                  have g4 := hr9.at' 4 _ rfl
                  have g5 := hr9.at' 5 _ rfl
                  have g6 := hr9.at' 6 _ rfl
                  have HK9 : Hid (Kept (fun _ => True) w W9) := Lib.hid ((HKX.out).trans hk9 fun i hi _ => by rw [HB.out] at hi; omega)
                  clear hr9 hk9
                  go_wp2
                  refine bodyPost_ret (v := .tuple #[.agg (zeroCl.vs (.slice none 0 0)).toArray, .int .i64 233]) (by simp [results, Tryz.results19, go_sem, g0, g1, g2, g3, g4, g5, g6]) rfl ?_
                  exact ⟨⟨none, 0, 0, by rw [HF.out], by rw [HF.out]; exact ⟨rfl, .inl ⟨rfl, rfl⟩⟩⟩, HK9.out⟩
                · by_cases h2 : c.till ≤ t
                  · have HF : Hid (R = (zeroCl, 233)) := Lib.hid (by rw [HD4.out, if_pos (.inr h2)])
                    go_wp2_with (first | (refine wpList_storeRow rfl 26 26 _ _ rfl B _ (zeroCl.vs (.slice none 0 0)).toArray rfl rfl HAX.out rfl (by kernel_rfl) rfl ?_; refine Hid.out ?_))
                    refine Lib.hid ?_
                    intro W9 hr9 hk9
                    have g0 := hr9.at' 0 _ rfl
                    have g1 := hr9.at' 1 _ rfl
                    have g2 := hr9.at' 2 _ rfl
                    have g3 := hr9.at' 3 _ rfl
                    have g4 := hr9.at' 4 _ rfl
                    have g5 := hr9.at' 5 _ rfl
                    have g6 := hr9.at' 6 _ rfl
                    have HK9 : Hid (Kept (fun _ => True) w W9) := Lib.hid ((HKX.out).trans hk9 fun i hi _ => by rw [HB.out] at hi; omega)
                    clear hr9 hk9
                    go_wp2
                    refine bodyPost_ret (v := .tuple #[.agg (zeroCl.vs (.slice none 0 0)).toArray, .int .i64 233]) (by simp [results, Tryz.results19, go_sem, g0, g1, g2, g3, g4, g5, g6]) rfl ?_
                    exact ⟨⟨none, 0, 0, by rw [HF.out], by rw [HF.out]; exact ⟨rfl, .inl ⟨rfl, rfl⟩⟩⟩, HK9.out⟩
                  · have HF : Hid (R = (c, 0)) := Lib.hid (by rw [HD4.out, if_neg (fun h => h.elim h1 h2)])
                    have t2 := RTX.out.at' 2 _ rfl
                    have t3 := RTX.out.at' 3 _ rfl
                    have t4 := RTX.out.at' 4 _ rfl
                    have t5 := RTX.out.at' 5 _ rfl
                    have t6 := RTX.out.at' 6 _ rfl
                    go_wp2_with (first | (refine wpList_storeRow rfl 26 26 _ _ rfl B _ (c.vs (.slice sa sn sc)).toArray rfl rfl HAX.out rfl (by kernel_rfl) rfl ?_; refine Hid.out ?_))
                    refine Lib.hid ?_
                    intro W9 hr9 hk9
                    have g0 := hr9.at' 0 _ rfl
                    have g1 := hr9.at' 1 _ rfl
                    have g2 := hr9.at' 2 _ rfl
                    have g3 := hr9.at' 3 _ rfl
                    have g4 := hr9.at' 4 _ rfl
                    have g5 := hr9.at' 5 _ rfl
                    have g6 := hr9.at' 6 _ rfl
                    have HK9 : Hid (Kept (fun _ => True) w W9) := Lib.hid ((HKX.out).trans hk9 fun i hi _ => by rw [HB.out] at hi; omega)
                    have HO9 : Hid (OwnS w.heap.size (.slice sa sn sc) c.scope W9) := Lib.hid (ownsRow_base (ownsRow_kept HOW.out hk9 fun b hb => by
                      obtain ⟨q1, q2⟩ := HOW.out.lt b hb
                      have := HWZ.out
                      omega) (by have := HWZ.out; have := HB.out; omega))
                    clear hr9 hk9
                    go_wp2
                    refine bodyPost_ret (v := .tuple #[.agg (c.vs (.slice sa sn sc)).toArray, .int .i64 0]) (by simp [results, Tryz.results19, go_sem, g0, g1, g2, g3, g4, g5, g6]) rfl ?_
                    exact ⟨⟨sa, sn, sc, by rw [HF.out], by rw [HF.out]; exact HO9.out⟩, HK9.out⟩
              · rw [decide_eq_false hm]
                have HF : Hid (R = (zeroCl, 232)) := Lib.hid (by rw [HD3.out, if_pos hm])
                clear hm HD3
                go_wp2_with (first | (refine wpList_storeRow rfl 26 26 _ _ rfl B _ (zeroCl.vs (.slice none 0 0)).toArray rfl rfl HAX.out rfl (by kernel_rfl) rfl ?_; refine Hid.out ?_))
                refine Lib.hid ?_
                intro W9 hr9 hk9
                have g0 := hr9.at' 0 _ rfl
                have g1 := hr9.at' 1 _ rfl
                have g2 := hr9.at' 2 _ rfl
                have g3 := hr9.at' 3 _ rfl
                have g4 := hr9.at' 4 _ rfl
                have g5 := hr9.at' 5 _ rfl
                have g6 := hr9.at' 6 _ rfl
                have HK9 : Hid (Kept (fun _ => True) w W9) := Lib.hid ((HKX.out).trans hk9 fun i hi _ => by rw [HB.out] at hi; omega)
                clear hr9 hk9
                go_wp2
                refine bodyPost_ret (v := .tuple #[.agg (zeroCl.vs (.slice none 0 0)).toArray, .int .i64 232]) (by simp [results, Tryz.results19, go_sem, g0, g1, g2, g3, g4, g5, g6]) rfl ?_
                exact ⟨⟨none, 0, 0, by rw [HF.out], by rw [HF.out]; exact ⟨rfl, .inl ⟨rfl, rfl⟩⟩⟩, HK9.out⟩
        · have HD2 : Hid (R = verG n c sg si t (keys.drop (i + 1))) := Lib.hid (by rw [HD.out, HDR.out, verG, if_neg hnum])
          have hne : (k.num != n) = true := by simpa using hnum
          clear hnum
          go_wp2
          go_roundg (N - (i + 1))
          case rel => exact ⟨i + 1, by go_num, by omega, rfl, HD2, HK5⟩
          case measure => omega
      · obtain rfl : i = N := by omega
        have HF : Hid (R = (zeroCl, 231)) := Lib.hid (by rw [HD.out, List.drop_eq_nil_of_le (by rw [HN.out]; exact Nat.le_refl _), verG])
        have HAX := Lib.hid (HA2.out.kept HK.out trivial)
        go_wp2_with (first | (refine wpList_storeRow rfl 26 26 _ _ rfl B _ (zeroCl.vs (.slice none 0 0)).toArray rfl rfl HAX.out rfl (by kernel_rfl) rfl ?_; refine Hid.out ?_))
        refine Lib.hid ?_
        intro W9 hr9 hk9
        have g0 := hr9.at' 0 _ rfl
        have g1 := hr9.at' 1 _ rfl
        have g2 := hr9.at' 2 _ rfl
        have g3 := hr9.at' 3 _ rfl
        have g4 := hr9.at' 4 _ rfl
        have g5 := hr9.at' 5 _ rfl
        have g6 := hr9.at' 6 _ rfl
        have HK9 : Hid (Kept (fun _ => True) w W9) := Lib.hid ((HK2.out.tr HK.out).trans hk9 fun i hi _ => by rw [HB.out] at hi; omega)
        clear hr9 hk9
        go_wp2
        refine bodyPost_ret (v := .tuple #[.agg (zeroCl.vs (.slice none 0 0)).toArray, .int .i64 231]) (by simp [results, Tryz.results19, go_sem, g0, g1, g2, g3, g4, g5, g6]) rfl ?_
        exact ⟨⟨none, 0, 0, by rw [HF.out], by rw [HF.out]; exact ⟨rfl, .inl ⟨rfl, rfl⟩⟩⟩, HK9.out⟩
end Go.Proofs.YtpcgfhleloonfaaGreatDoor
namespace Go.Proofs.YtpcgfhleloonfaaGreatDoor
open Go.RowKit Jo Ac
def takeK (b : Option Ky) (k : Ky) : Option Ky := match b with | none => some k | some x => if x.fr < k.fr ∨ (k.fr = x.fr ∧ x.num < k.num) then some k else some x
def curStep (t : Int) (b : Option Ky) (k : Ky) : Option Ky := if t < k.fr ∨ k.till ≤ t then b else takeK b k
def curP (keys : List Ky) (now : Int) : Option Ky := keys.foldl (curStep (nearP now)) none
def zeroKy : Ky := ⟨0, [], 0, 0⟩
abbrev Ky.vs (k : Ky) : List Value := [.int .i64 k.num, S k.secret, .int .i64 k.fr, .int .i64 k.till]
set_option maxRecDepth 100000 in
set_option maxHeartbeats 4000000 in
theorem Current_any (keys : List Ky) (kv : Value) (now : Int) (w : World) (hk : KL w kv keys) (hkn : keys.length ≤ 1048576) : Calls Tryz.prog 24 #[kv, .int .i64 now] w fun e w' => e = .returned (.tuple #[((curP keys now).getD zeroKy).v, .bool (curP keys now).isSome]) ∧ Kept (fun _ => True) w w' := by
  obtain ⟨t, ht⟩ : ∃ t, nearP now = t := ⟨_, rfl⟩
  have CN := Lib.hid (fun w => nearest_any now w)
  rw [show min (max now 0) 1099511627776 = t from ht] at CN
  obtain ⟨R, hR⟩ : ∃ R, curP keys now = R := ⟨_, rfl⟩
  have HR : Hid (keys.foldl (curStep t) none = R) := Lib.hid (by rw [← hR, curP, ht])
  rw [hR]
  clear hR ht
  go_enter Tryz.func24, Tryz.ntmps24
  obtain ⟨W, hW⟩ : ∃ W, w.alloc (.cells #[.int .i64 0, S [], .int .i64 0, .int .i64 0] 23) = W := ⟨_, rfl⟩
  have hk0 : Kept (fun _ => True) w W := by rw [← hW]; exact (Kept.refl _ _).alloc _
  have HA0 : Hid (RowW w.heap.size 23 zeroKy.vs W) := Lib.hid (by rw [← hW]; exact heap_alloc_new w _)
  obtain ⟨W2, hW2⟩ : ∃ W2, W.alloc (.cells #[.int .i64 0, S [], .int .i64 0, .int .i64 0] 23) = W2 := ⟨_, rfl⟩
  have hk2 : Kept (fun _ => True) W W2 := by rw [← hW2]; exact (Kept.refl _ _).alloc _
  have HB0 : Hid (RowW W.heap.size 23 zeroKy.vs W2) := Lib.hid (by rw [← hW2]; exact heap_alloc_new W _)
  have HA := Lib.hid (HA0.out.kept hk2 trivial)
  have HK := Lib.hid (hk0.tr hk2)
  obtain ⟨B, hB⟩ : ∃ B, w.heap.size = B := ⟨_, rfl⟩
  have HBB := Lib.hid hB
  obtain ⟨g, hg⟩ : ∃ g, W.heap.size = g := ⟨_, rfl⟩
  have HG : Hid (B < g ∧ g < W2.heap.size) := Lib.hid ⟨by have := HA0.out.lt; omega, by have := HB0.out.lt; omega⟩
  rw [hB] at HA
  rw [hg] at HB0
  have CN0 := CN.out W
  obtain ⟨ka, kc, rfl, hcell⟩ := hk
  obtain ⟨N, hN⟩ : ∃ N, keys.length = N := ⟨_, rfl⟩
  have HN := Lib.hid hN
  rw [hN]
  have HCL := Lib.hid hcell
  have hn1 : N ≤ 1048576 := by omega
  clear hcell hN hkn hk0 hk2 CN HA0
  go_wp2_with fail
  refine CN0.mono ?_
  rintro e W' ⟨rfl, rfl⟩
  clear CN0
  go_wp2_with fail
  go_loopg [7, 14] N (fun q av iv wx => ∃ (i : Nat) (best : Option Ky), iv = .int .i64 (i : Int) ∧ i ≤ N ∧ q = N - i ∧ av = .bool best.isSome ∧ Hid ((keys.take i).foldl (curStep t) none = best) ∧ Hid (RowW g 23 (best.getD zeroKy).vs wx) ∧ Hid (Kept (fun b => b ≠ g) W2 wx))
  case atStart => exact ⟨0, none, rfl, by omega, rfl, rfl, Lib.hid rfl, HB0, Lib.hid (Kept.refl _ _)⟩
  case round =>
    obtain ⟨i, best, rfl, hi, rfl, rfl, HF, HRB, HKR⟩ := hrel
    by_cases hlt : i < N
    · obtain ⟨k, hkk⟩ : ∃ k, keys[i]? = some k := ⟨_, List.getElem?_eq_getElem (by rw [HN.out]; exact hlt)⟩
      obtain ⟨b, off, rfl, hb, e0, e1, e2, e3⟩ := HCL.out i k hkk
      have hbg : b < W2.heap.size ∧ b ≠ g := by
        have h1 := HBB.out
        have h2 := HG.out
        omega
      have k0 := (HKR.out.cell hbg.1 hbg.2).trans ((HK.out.cell hb trivial).trans e0)
      have k1 := (HKR.out.cell hbg.1 hbg.2).trans ((HK.out.cell hb trivial).trans e1)
      have k2 := (HKR.out.cell hbg.1 hbg.2).trans ((HK.out.cell hb trivial).trans e2)
      have k3 := (HKR.out.cell hbg.1 hbg.2).trans ((HK.out.cell hb trivial).trans e3)
      have hi1 : (i : Int) < (N : Int) := by omega
      have HTK : Hid ((keys.take (i + 1)).foldl (curStep t) none = curStep t best k) := Lib.hid (by rw [List.take_add_one, hkk, List.foldl_append, HF.out]; rfl)
      clear hkk e0 e1 e2 e3 hbg hb
      obtain ⟨W5, hW5⟩ : ∃ W5, wr.alloc (.cells #[.int .i64 k.num, S k.secret, .int .i64 k.fr, .int .i64 k.till] 23) = W5 := ⟨_, rfl⟩
      have hk5 : Kept (fun _ => True) wr W5 := by rw [← hW5]; exact (Kept.refl _ _).alloc _
      have RK : Hid (RowW wr.heap.size 23 k.vs W5) := Lib.hid (by rw [← hW5]; exact heap_alloc_new wr _)
      have RB5 := Lib.hid (HRB.out.kept hk5 trivial)
      have HK5 : Hid (Kept (fun b => b ≠ g) W2 W5) := Lib.hid (HKR.out.trans hk5 fun _ _ _ => trivial)
      have q0 := RK.out.at' 0 _ rfl
      have q1 := RK.out.at' 1 _ rfl
      have q2 := RK.out.at' 2 _ rfl
      have q3 := RK.out.at' 3 _ rfl
      clear hk5 HRB HKR HF
      by_cases hskip : t < k.fr ∨ k.till ≤ t
      · have HT2 : Hid ((keys.take (i + 1)).foldl (curStep t) none = best) := Lib.hid (by rw [HTK.out, curStep, if_pos hskip])
        by_cases h1 : t < k.fr
        · clear hskip
          go_wp2
          go_roundg (N - (i + 1))
          case rel => exact ⟨i + 1, best, by go_num, by omega, rfl, rfl, HT2, RB5, HK5⟩
          case measure => omega
        · have h2 : k.till ≤ t := hskip.resolve_left h1
          clear hskip
          go_wp2
          go_roundg (N - (i + 1))
          case rel => exact ⟨i + 1, best, by go_num, by omega, rfl, rfl, HT2, RB5, HK5⟩
          case measure => omega
      · have h1 : ¬ t < k.fr := fun h => hskip (.inl h)
        have h2 : ¬ k.till ≤ t := fun h => hskip (.inr h)
        have HT2 : Hid ((keys.take (i + 1)).foldl (curStep t) none = takeK best k) := Lib.hid (by rw [HTK.out, curStep, if_neg hskip])
        clear hskip HTK
        cases best with
        | none =>
          have HT3 : Hid ((keys.take (i + 1)).foldl (curStep t) none = some k) := Lib.hid HT2.out
          go_wp2_with (first | ((with_reducible refine wpList_storeRow ?hg1 23 23 ?x11 ?x21 ?ho1 g ?vs1 (k.vs.toArray) ?hy1 ?hx1 ?hr1 ?hl1 ?hi1 ?hone1 ?hh1); (case hg1 => exact rfl); (case ho1 => exact rfl); (case hy1 => exact rfl); (case hx1 => exact rfl); (case hr1 => exact RB5.out); (case hl1 => exact rfl); (case hi1 => kernel_rfl); (case hone1 => exact rfl); refine Hid.out ?_))
          refine Lib.hid ?_
          intro W6 hr6 hk6
          have HR6 : Hid (RowW g 23 ((some k).getD zeroKy).vs W6) := Lib.hid hr6
          have HK6 := Lib.hid (HK5.out.tr hk6)
          clear hr6 hk6
          go_wp2
          go_roundg (N - (i + 1))
          case rel => exact ⟨i + 1, some k, by go_num, by omega, rfl, rfl, HT3, HR6, HK6⟩
          case measure => omega
        | some x =>
          have b0 := RB5.out.at' 0 _ rfl
          have b2 := RB5.out.at' 2 _ rfl
          simp only [Option.getD_some] at b0 b2
          by_cases hb : x.fr < k.fr ∨ (k.fr = x.fr ∧ x.num < k.num)
          · have HT3 : Hid ((keys.take (i + 1)).foldl (curStep t) none = some k) := Lib.hid (by rw [HT2.out, takeK]; rw [if_pos hb])
            by_cases c1 : x.fr < k.fr
            · clear hb
              go_wp2_with (first | ((with_reducible refine wpList_storeRow ?hg2 23 23 ?x12 ?x22 ?ho2 g ?vs2 (k.vs.toArray) ?hy2 ?hx2 ?hr2 ?hl2 ?hi2 ?hone2 ?hh2); (case hg2 => exact rfl); (case ho2 => exact rfl); (case hy2 => exact rfl); (case hx2 => exact rfl); (case hr2 => exact RB5.out); (case hl2 => exact rfl); (case hi2 => kernel_rfl); (case hone2 => exact rfl); refine Hid.out ?_))
              refine Lib.hid ?_
              intro W6 hr6 hk6
              have HR6 : Hid (RowW g 23 ((some k).getD zeroKy).vs W6) := Lib.hid hr6
              have HK6 := Lib.hid (HK5.out.tr hk6)
              clear hr6 hk6
              go_wp2
              go_roundg (N - (i + 1))
              case rel => exact ⟨i + 1, some k, by go_num, by omega, rfl, rfl, HT3, HR6, HK6⟩
              case measure => omega
            · obtain ⟨c2, c3⟩ := hb.resolve_left c1
              have c2' : (k.fr == x.fr) = true := by simpa using c2
              clear hb c2
              go_wp2_with (first | ((with_reducible refine wpList_storeRow ?hg3 23 23 ?x13 ?x23 ?ho3 g ?vs3 (k.vs.toArray) ?hy3 ?hx3 ?hr3 ?hl3 ?hi3 ?hone3 ?hh3); (case hg3 => exact rfl); (case ho3 => exact rfl); (case hy3 => exact rfl); (case hx3 => exact rfl); (case hr3 => exact RB5.out); (case hl3 => exact rfl); (case hi3 => kernel_rfl); (case hone3 => exact rfl); refine Hid.out ?_))
              refine Lib.hid ?_
              intro W6 hr6 hk6
              have HR6 : Hid (RowW g 23 ((some k).getD zeroKy).vs W6) := Lib.hid hr6
              have HK6 := Lib.hid (HK5.out.tr hk6)
              clear hr6 hk6
              go_wp2
              go_roundg (N - (i + 1))
              case rel => exact ⟨i + 1, some k, by go_num, by omega, rfl, rfl, HT3, HR6, HK6⟩
              case measure => omega
          · have HT3 : Hid ((keys.take (i + 1)).foldl (curStep t) none = some x) := Lib.hid (by rw [HT2.out, takeK]; rw [if_neg hb])
            have c1 : ¬ x.fr < k.fr := fun h => hb (.inl h)
            by_cases c2 : k.fr = x.fr
            · have c3 : ¬ x.num < k.num := fun h => hb (.inr ⟨c2, h⟩)
              have c2' : (k.fr == x.fr) = true := by simpa using c2
              clear hb c2
              go_wp2
              go_roundg (N - (i + 1))
              case rel => exact ⟨i + 1, some x, by go_num, by omega, rfl, rfl, HT3, RB5, HK5⟩
              case measure => omega
            · have c2' : (k.fr == x.fr) = false := by simpa using c2
              clear hb c2
              go_wp2
              go_roundg (N - (i + 1))
              case rel => exact ⟨i + 1, some x, by go_num, by omega, rfl, rfl, HT3, RB5, HK5⟩
              case measure => omega
    · obtain rfl : i = N := by omega
      have HF2 : Hid (R = best) := Lib.hid (by rw [← HR.out, ← HF.out, List.take_of_length_le (by rw [HN.out]; exact Nat.le_refl _)])
      have b0 := HRB.out.at' 0 _ rfl
      have b1 := HRB.out.at' 1 _ rfl
      have b2 := HRB.out.at' 2 _ rfl
      have b3 := HRB.out.at' 3 _ rfl
      have HAX : Hid (RowW B 23 zeroKy.vs wr) := Lib.hid (HA.out.kept HKR.out (by have := HG.out; omega))
      obtain ⟨y, hy⟩ : ∃ y, best.getD zeroKy = y := ⟨_, rfl⟩
      obtain ⟨an, han⟩ : ∃ an, best.isSome = an := ⟨_, rfl⟩
      have HY : Hid ((R.getD zeroKy).v = y.v ∧ R.isSome = an) := Lib.hid (by rw [HF2.out, hy]; exact ⟨rfl, han⟩)
      rw [hy] at b0 b1 b2 b3
      rw [han]
      clear HF HRB hy han
      go_wp2_with (first | ((with_reducible refine wpList_storeRow ?hg4 23 23 ?x14 ?x24 ?ho4 B ?vs4 (y.vs.toArray) ?hy4 ?hx4 ?hr4 ?hl4 ?hi4 ?hone4 ?hh4); (case hg4 => exact rfl); (case ho4 => exact rfl); (case hy4 => exact rfl); (case hx4 => exact rfl); (case hr4 => exact HAX.out); (case hl4 => exact rfl); (case hi4 => kernel_rfl); (case hone4 => exact rfl); refine Hid.out ?_))
      refine Lib.hid ?_
      intro W9 hr9 hk9
      have g0 := hr9.at' 0 _ rfl
      have g1 := hr9.at' 1 _ rfl
      have g2 := hr9.at' 2 _ rfl
      have g3 := hr9.at' 3 _ rfl
      have HK9 : Hid (Kept (fun _ => True) w W9) := Lib.hid ((HK.out.trans HKR.out fun i hi _ => by have := HG.out; have := HBB.out; omega).trans hk9 fun i hi _ => by have := HBB.out; omega)
      clear hr9 hk9 b0 b1 b2 b3
      go_wp2
      refine bodyPost_ret (v := .tuple #[y.v, .bool an]) (by simp [results, Tryz.results24, go_sem, g0, g1, g2, g3]) rfl ?_
      exact ⟨by rw [HY.out.1, HY.out.2], HK9.out⟩
end Go.Proofs.YtpcgfhleloonfaaGreatDoor
namespace Go.Proofs.YtpcgfhleloonfaaGreatDoor
open Go.RowKit Jo Ac
set_option maxRecDepth 100000 in
set_option maxHeartbeats 4000000 in
theorem accSame_any (v u : Value) (l m : List (List UInt8)) (w : World) (h : SL w v l) (h' : SL w u m) (hn : l.length ≤ 1048576) (hn' : m.length ≤ 1048576) : Calls Tryz.prog 15 #[v, u] w fun e w' => e = .returned (.bool (decide (l = m))) ∧ Kept (fun _ => True) w w' := by
  obtain ⟨a, ca, rfl, hca, hcell⟩ := h
  obtain ⟨a', ca', rfl, hca', hcell'⟩ := h'
  obtain ⟨N, hN⟩ : ∃ N, l.length = N := ⟨_, rfl⟩
  obtain ⟨M, hM⟩ : ∃ M, m.length = M := ⟨_, rfl⟩
  rw [hN, hM]
  have HN := Lib.hid hN
  have HM := Lib.hid hM
  have HC := Lib.hid hcell
  have HC' := Lib.hid hcell'
  have hn1 : N ≤ 1048576 := by omega
  have hm1 : M ≤ 1048576 := by omega
  clear hN hM hcell hcell' hca hca' hn hn'
  go_enter Tryz.func15, Tryz.ntmps15
  by_cases hne : N = M
  · subst hne
    go_wp2_with fail
    go_loopg [5] N (fun q iv wx => ∃ i : Nat, iv = .int .i64 (i : Int) ∧ i ≤ N ∧ q = N - i ∧ Hid (l.take i = m.take i) ∧ Hid (Kept (fun _ => True) w wx))
    case atStart => exact ⟨0, rfl, by omega, rfl, Lib.hid (by simp), Lib.hid (Kept.refl _ _)⟩
    case round =>
      obtain ⟨i, rfl, hi, rfl, HT, HK⟩ := hrel
      by_cases hlt : i < N
      · obtain ⟨x, hx⟩ : ∃ x, l[i]? = some x := ⟨_, List.getElem?_eq_getElem (by rw [HN.out]; exact hlt)⟩
        obtain ⟨y, hy⟩ : ∃ y, m[i]? = some y := ⟨_, List.getElem?_eq_getElem (by rw [HM.out]; exact hlt)⟩
        obtain ⟨b, off, rfl, hb, e0⟩ := HC.out i x hx
        obtain ⟨b', off', rfl, hb', e0'⟩ := HC'.out i y hy
        have c0 : wr.cell? ⟨b, off + i, none⟩ = some (S x) := (HK.out.cell hb trivial).trans e0
        have c1 : wr.cell? ⟨b', off' + i, none⟩ = some (S y) := (HK.out.cell hb' trivial).trans e0'
        have hi1 : (i : Int) < (N : Int) := by omega
        have HX := Lib.hid (And.intro hx hy)
        clear hx hy e0 e0'
        by_cases he : x = y
        · subst he
          have hq : (x == x) = true := by simp
          have HT2 : Hid (l.take (i + 1) = m.take (i + 1)) := Lib.hid (by rw [List.take_add_one, List.take_add_one, HX.out.1, HX.out.2, HT.out])
          go_wp2_with fail
          go_quiet (fail)
          have HK2 := Lib.hid (HK.out.drewN nq)
          go_wp2
          go_roundg (N - (i + 1))
          case rel => exact ⟨i + 1, by go_num, by omega, rfl, HT2, HK2⟩
          case measure => omega
        · have hq : (x == y) = false := by simpa using he
          have HF : Hid (decide (l = m) = false) := Lib.hid (by
            rw [decide_eq_false_iff_not]
            intro e
            have h1 := HX.out.1
            rw [e, HX.out.2] at h1
            exact he (Option.some.inj h1).symm)
          clear he
          go_wp2_with fail
          go_quiet (fail)
          have HK2 := Lib.hid (HK.out.drewN nq)
          go_wp2
          go_ret
          exact ⟨by rw [HF.out]; rfl, HK2.out⟩
      · obtain rfl : i = N := by omega
        have HF : Hid (decide (l = m) = true) := Lib.hid (by
          have := HT.out
          rw [List.take_of_length_le (by rw [HN.out]; exact Nat.le_refl _), List.take_of_length_le (by rw [HM.out]; exact Nat.le_refl _)] at this
          simp [this])
        go_wp2
        go_ret
        exact ⟨by rw [HF.out]; rfl, HK.out⟩
  · have HF : Hid (decide (l = m) = false) := Lib.hid (by
      rw [decide_eq_false_iff_not]
      intro e
      exact hne (by rw [← HN.out, ← HM.out, e]))
    have hb : ((N : Int) != (M : Int)) = true := by simp; omega
    go_wp2
    go_ret
    exact ⟨by rw [HF.out]; rfl, Kept.refl _ _⟩
def keyK : Ky := ⟨3, List.replicate 24 115, 10, 100⟩
def claimsK : Cl := ⟨[97, 112, 112], [97, 110, 110], [[114, 101, 97, 100]], 1, 2, 20, 40⟩
theorem accKey_any (w : World) : Calls Tryz.prog 22 #[] w fun e w' => e = .returned keyK.v ∧ Kept (fun _ => True) w w' := by
  go_enter Tryz.func22, Tryz.ntmps22
  go_wp2
  refine bodyPost_ret (v := keyK.v) (by simp [results, Tryz.results22, go_sem]; exact ⟨rfl, rfl, rfl, rfl⟩) rfl ?_
  refine ⟨rfl, ?_⟩
  repeat refine Kept.setCell ?_ (.inl (by simp)) _
  exact (Kept.refl _ _).alloc _
theorem accPick_any (n m : Int) (w : World) (h0 : -9223372036854775808 ≤ n) (h1 : n ≤ 9223372036854775807) (hm : 0 < m) (hm1 : m ≤ 9223372036854775807) : Calls Tryz.prog 17 #[.int .i64 n, .int .i64 m] w fun e w' => (∃ i : Nat, e = .returned (.int .i64 (i : Int)) ∧ (i : Int) < m) ∧ w' = w := by
  go_enter Tryz.func17, Tryz.ntmps17
  by_cases h : n < 0
  · have e : -((n + 1).tmod m) = (-(n + 1)) % m := by rw [← Int.neg_tmod, Int.tmod_eq_emod_of_nonneg (by omega)]
    have p1 := Int.emod_lt_of_pos (-(n + 1)) hm
    have p2 := Int.emod_nonneg (-(n + 1)) (show m ≠ 0 by omega)
    obtain ⟨i, hi⟩ : ∃ i : Nat, -((n + 1).tmod m) = (i : Int) := ⟨((-(n + 1)) % m).toNat, by omega⟩
    have hlt : (i : Int) < m := by omega
    clear e p1 p2
    go_wp2
    go_ret
    exact ⟨⟨i, by simp, hlt⟩, rfl⟩
  · have e : n.tmod m = n % m := Int.tmod_eq_emod_of_nonneg (by omega)
    have p1 := Int.emod_lt_of_pos n hm
    have p2 := Int.emod_nonneg n (show m ≠ 0 by omega)
    obtain ⟨i, hi⟩ : ∃ i : Nat, n.tmod m = (i : Int) := ⟨(n % m).toNat, by omega⟩
    have hlt : (i : Int) < m := by omega
    clear e p1 p2
    go_wp2
    go_ret
    exact ⟨⟨i, by simp, hlt⟩, rfl⟩
end Go.Proofs.YtpcgfhleloonfaaGreatDoor
namespace Go.Proofs.YtpcgfhleloonfaaGreatDoor
open Go.RowKit Jo Ac
/-- Where the part behind the last point begins. -/
def IsLast (s : List UInt8) (i : Nat) : Prop := i ≤ s.length ∧ (∀ j, i ≤ j → j < s.length → s[j]? ≠ some 46) ∧ (i = 0 ∨ s[i - 1]? = some 46)
set_option maxRecDepth 100000 in
set_option maxHeartbeats 4000000 in
theorem accLast_any (s : List UInt8) (w : World) (hs : s.length ≤ 1099511627776) : Calls Tryz.prog 20 #[S s] w fun e w' => (∃ i : Nat, e = .returned (.int .i64 (i : Int)) ∧ IsLast s i) ∧ Kept (fun _ => True) w w' := by
  obtain ⟨N, hN⟩ : ∃ N, s.length = N := ⟨_, rfl⟩
  have hsz : (⟨s.toArray⟩ : ByteArray).size = N := by rw [size_mk, hN]
  have hn1 : N ≤ 1099511627776 := by omega
  have HN := Lib.hid hN
  clear hN hs
  go_enter Tryz.func20, Tryz.ntmps20
  go_wp2_with fail
  go_loopg [3] N (fun q iv wx => ∃ i : Nat, iv = .int .i64 (i : Int) ∧ i ≤ N ∧ i = q ∧ Hid (∀ j, i ≤ j → j < N → s[j]? ≠ some 46) ∧ Hid (Kept (fun _ => True) w wx))
  case atStart => exact ⟨N, rfl, Nat.le_refl _, rfl, Lib.hid fun j h1 h2 => by omega, Lib.hid (Kept.refl _ _)⟩
  case round =>
    obtain ⟨i, rfl, hi, rfl, HM, HK⟩ := hrel
    by_cases h0 : 0 < i
    · obtain ⟨x, hx⟩ : ∃ x, s[i - 1]? = some x := ⟨_, List.getElem?_eq_getElem (by rw [HN.out]; omega)⟩
      have ix := run_index_str (P := Tryz.prog) Tryz.underlying9 ⟨s.toArray⟩ ((i - 1 : Nat) : Int) (i - 1) rfl (by rw [hsz]; omega) x (List.getElem?_eq_some_iff.1 hx).2
      have hi1 : (0 : Int) < (i : Int) := by omega
      have hc : (i : Int) - 1 = ((i - 1 : Nat) : Int) := by omega
      have HX := Lib.hid hx
      clear hx
      by_cases hd : x = 46
      · subst hd
        have hq : (((46 : UInt8).toNat : Int) != 46) = false := by decide
        go_wp2
        go_ret
        exact ⟨⟨i, rfl, by rw [HN.out]; exact hi, fun j h1 h2 => HM.out j h1 (by rw [HN.out] at h2; exact h2), .inr HX.out⟩, HK.out⟩
      · have hq : ((x.toNat : Int) != 46) = true := by
          simp only [bne_iff_ne, ne_eq]
          intro h
          exact hd (UInt8.toNat_inj.1 (by show x.toNat = 46; omega))
        have HM2 : Hid (∀ j, i - 1 ≤ j → j < N → s[j]? ≠ some 46) := Lib.hid fun j h1 h2 => by
          by_cases e : j = i - 1
          · rw [e, HX.out]
            simpa using hd
          · exact HM.out j (by omega) h2
        clear hd
        go_wp2
        go_roundg (i - 1)
        case rel => exact ⟨i - 1, rfl, by omega, rfl, HM2, HK⟩
        case measure => omega
    · obtain rfl : i = 0 := by omega
      go_wp2
      go_ret
      exact ⟨⟨0, rfl, Nat.zero_le _, fun j h1 h2 => HM.out j h1 (by rw [HN.out] at h2; exact h2), .inl rfl⟩, HK.out⟩
end Go.Proofs.YtpcgfhleloonfaaGreatDoor
namespace Go.Proofs.YtpcgfhleloonfaaGreatDoor
open Go.RowKit Jo Ac
def firstP (keys : List Ky) (at' : Nat) : Bool := (keys.take at').all fun k => k.num != ((keys[at']?.map Ky.num).getD 0)
set_option maxRecDepth 100000 in
set_option maxHeartbeats 4000000 in
theorem accFirst_any (keys : List Ky) (kv : Value) (p : Nat) (w : World) (h : KL w kv keys) (hp : p < keys.length) (hn : keys.length ≤ 1048576) : Calls Tryz.prog 18 #[kv, .int .i64 (p : Int)] w fun e w' => e = .returned (.bool (firstP keys p)) ∧ Kept (fun _ => True) w w' := by
  obtain ⟨a, c, rfl, hcell⟩ := h
  obtain ⟨N, hN⟩ : ∃ N, keys.length = N := ⟨_, rfl⟩
  rw [hN]
  have HN := Lib.hid hN
  have HC := Lib.hid hcell
  have hn1 : N ≤ 1048576 := by omega
  have hpN : p < N := by omega
  obtain ⟨kp, hkp⟩ : ∃ kp, keys[p]? = some kp := ⟨_, List.getElem?_eq_getElem hp⟩
  obtain ⟨b, off, rfl, hb, f0, f1, f2, f3⟩ := hcell p kp hkp
  have HKP := Lib.hid hkp
  have HP : Hid (firstP keys p = (keys.take p).all fun k => k.num != kp.num) := Lib.hid (by unfold firstP; rw [hkp]; rfl)
  have F0 := Lib.hid f0
  clear hN hcell hp hn hkp f0 f1 f2 f3
  go_enter Tryz.func18, Tryz.ntmps18
  go_wp2_with fail
  go_loopg [5] p (fun q iv wx => ∃ i : Nat, iv = .int .i64 (i : Int) ∧ i ≤ p ∧ q = p - i ∧ Hid (((keys.take i).all fun k => k.num != kp.num) = true) ∧ Hid (Kept (fun _ => True) w wx))
  case atStart => exact ⟨0, rfl, by omega, rfl, Lib.hid rfl, Lib.hid (Kept.refl _ _)⟩
  case round =>
    obtain ⟨i, rfl, hi, rfl, HT, HK⟩ := hrel
    by_cases hlt : i < p
    · obtain ⟨k, hk⟩ : ∃ k, keys[i]? = some k := ⟨_, List.getElem?_eq_getElem (by rw [HN.out]; omega)⟩
      obtain ⟨b', off', e1, hb', e0, -, -, -⟩ := HC.out i k hk
      cases e1
      have c0 := (HK.out.cell hb trivial).trans e0
      have c1 := (HK.out.cell hb trivial).trans F0.out
      have hi1 : (i : Int) < (p : Int) := by omega
      have hiN : i < N := by omega
      have HX := Lib.hid hk
      clear hk e0
      by_cases he : k.num = kp.num
      · have hq : (k.num == kp.num) = true := by simpa using he
        have HF : Hid (firstP keys p = false) := Lib.hid (by
          rw [HP.out, Bool.eq_false_iff]
          intro h
          rw [List.all_eq_true] at h
          have := h k (List.mem_of_getElem? (i := i) (by rw [List.getElem?_take_of_lt hlt]; exact HX.out))
          simp [he] at this)
        clear he
        go_wp2_with fail
        go_quiet (fail)
        have HK2 := Lib.hid (HK.out.drewN nq)
        go_wp2
        go_ret
        exact ⟨by rw [HF.out]; rfl, HK2.out⟩
      · have hq : (k.num == kp.num) = false := by simpa using he
        have HT2 : Hid (((keys.take (i + 1)).all fun k => k.num != kp.num) = true) := Lib.hid (by
          rw [List.take_add_one, HX.out, List.all_append, HT.out]
          simpa using he)
        clear he
        go_wp2_with fail
        go_quiet (fail)
        have HK2 := Lib.hid (HK.out.drewN nq)
        go_wp2
        go_roundg (p - (i + 1))
        case rel => exact ⟨i + 1, by go_num, by omega, rfl, HT2, HK2⟩
        case measure => omega
    · obtain rfl : i = p := by omega
      have HF : Hid (firstP keys i = true) := Lib.hid (HP.out.trans HT.out)
      go_wp2
      go_ret
      exact ⟨by rw [HF.out]; rfl, HK.out⟩
end Go.Proofs.YtpcgfhleloonfaaGreatDoor
namespace Go.Proofs.YtpcgfhleloonfaaGreatDoor
open Go.RowKit Jo Ac
def sameCl (c d : Cl) : Bool := decide (c.scope = d.scope) && (c.client == d.client) && (c.subject == d.subject) && (c.family == d.family) && (c.number == d.number) && (c.issued == d.issued) && (c.till == d.till)
set_option maxRecDepth 100000 in
set_option maxHeartbeats 4000000 in
theorem sameClaims_any (c d : Cl) (sv su : Value) (w : World) (h : SL w sv c.scope) (h' : SL w su d.scope) (hn : c.scope.length ≤ 1048576) (hn' : d.scope.length ≤ 1048576) : Calls Tryz.prog 14 #[c.v sv, d.v su] w fun e w' => e = .returned (.bool (sameCl c d)) ∧ Kept (fun _ => True) w w' := by
  have CS := Lib.hid (fun w' (hk : Kept (fun _ => True) w w') => accSame_any sv su c.scope d.scope w' (h.kept hk) (h'.kept hk) hn hn')
  clear h h' hn hn'
  go_enter Tryz.func14, Tryz.ntmps14
  obtain ⟨W0, hW0⟩ : ∃ W0, w.alloc (.cells #[S c.client, S c.subject, sv, .int .i64 c.family, .int .i64 c.number, .int .i64 c.issued, .int .i64 c.till] 26) = W0 := ⟨_, rfl⟩
  obtain ⟨W, hW⟩ : ∃ W, W0.alloc (.cells #[S d.client, S d.subject, su, .int .i64 d.family, .int .i64 d.number, .int .i64 d.issued, .int .i64 d.till] 26) = W := ⟨_, rfl⟩
  have hk0 : Kept (fun _ => True) w W0 := by rw [← hW0]; exact (Kept.refl _ _).alloc _
  have hk1 : Kept (fun _ => True) W0 W := by rw [← hW]; exact (Kept.refl _ _).alloc _
  have HA : Hid (At w.heap.size (c.vs sv) W) := Lib.hid (At.kept (by rw [← hW0]; exact At.made w (c.vs sv) _) hk1)
  have HD : Hid (At W0.heap.size (d.vs su) W) := Lib.hid (by rw [← hW]; exact At.made W0 (d.vs su) _)
  have HK := Lib.hid (hk0.tr hk1)
  obtain ⟨B, hB⟩ : ∃ B, w.heap.size = B := ⟨_, rfl⟩
  obtain ⟨C, hC⟩ : ∃ C, W0.heap.size = C := ⟨_, rfl⟩
  rw [hB] at HA
  rw [hC] at HD
  have a2 := HA.out.1 2 _ rfl
  have d2 := HD.out.1 2 _ rfl
  have CS1 := CS.out W HK.out
  clear hk0 hk1 CS
  go_wp2_with fail
  refine CS1.mono ?_
  rintro e w1 ⟨rfl, hk1⟩
  have HK1 := Lib.hid (HK.out.tr hk1)
  have HA1 := Lib.hid (HA.out.kept hk1)
  have HD1 := Lib.hid (HD.out.kept hk1)
  clear hk1 a2 d2 CS1 hW hW0 hB hC
  have a0 := HA1.out.1 0 _ rfl
  have d0 := HD1.out.1 0 _ rfl
  have a1 := HA1.out.1 1 _ rfl
  have d1 := HD1.out.1 1 _ rfl
  have a3 := HA1.out.1 3 _ rfl
  have d3 := HD1.out.1 3 _ rfl
  have a4 := HA1.out.1 4 _ rfl
  have d4 := HD1.out.1 4 _ rfl
  have a5 := HA1.out.1 5 _ rfl
  have d5 := HD1.out.1 5 _ rfl
  have a6 := HA1.out.1 6 _ rfl
  have d6 := HD1.out.1 6 _ rfl
  cases hs : decide (c.scope = d.scope) with
  | false =>
    have HF : Hid (sameCl c d = false) := Lib.hid (by unfold sameCl; rw [hs]; rfl)
    clear hs
    go_wp2
    go_ret
    exact ⟨by rw [HF.out]; rfl, HK1.out⟩
  | true =>
    have HS := Lib.hid hs
    clear hs
    cases h0 : (c.client == d.client) with
    | false =>
      have HF : Hid (sameCl c d = false) := Lib.hid (by unfold sameCl; rw [h0]; simp)
      go_wp2
      go_ret
      exact ⟨by rw [HF.out]; rfl, HK1.out⟩
    | true =>
      cases h1 : (c.subject == d.subject) with
      | false =>
        have HF : Hid (sameCl c d = false) := Lib.hid (by unfold sameCl; rw [h1]; simp)
        go_wp2
        go_ret
        exact ⟨by rw [HF.out]; rfl, HK1.out⟩
      | true =>
        cases h2 : (c.family == d.family) with
        | false =>
          have HF : Hid (sameCl c d = false) := Lib.hid (by unfold sameCl; rw [h2]; simp)
          go_wp2
          go_ret
          exact ⟨by rw [HF.out]; rfl, HK1.out⟩
        | true =>
          cases h3 : (c.number == d.number) with
          | false =>
            have HF : Hid (sameCl c d = false) := Lib.hid (by unfold sameCl; rw [h3]; simp)
            go_wp2
            go_ret
            exact ⟨by rw [HF.out]; rfl, HK1.out⟩
          | true =>
            cases h4 : (c.issued == d.issued) with
            | false =>
              have HF : Hid (sameCl c d = false) := Lib.hid (by unfold sameCl; rw [h4]; simp)
              go_wp2
              go_ret
              exact ⟨by rw [HF.out]; rfl, HK1.out⟩
            | true =>
              cases h5 : (c.till == d.till) with
              | false =>
                have HF : Hid (sameCl c d = false) := Lib.hid (by unfold sameCl; rw [h5]; simp)
                go_wp2
                go_ret
                exact ⟨by rw [HF.out]; rfl, HK1.out⟩
              | true =>
                have HF : Hid (sameCl c d = true) := Lib.hid (by unfold sameCl; rw [HS.out, h0, h1, h2, h3, h4, h5]; rfl)
                go_wp2
                go_ret
                exact ⟨by rw [HF.out]; rfl, HK1.out⟩
end Go.Proofs.YtpcgfhleloonfaaGreatDoor
namespace Go.Proofs.YtpcgfhleloonfaaGreatDoor
open Go.RowKit Jo Ac
theorem accClaims_any (w : World) : Calls Tryz.prog 23 #[] w fun e w' => (∃ g, e = .returned (claimsK.v (.slice (some ⟨g, 0, none⟩) 1 1)) ∧ w.heap.size ≤ g ∧ RowW g 9 [S [114, 101, 97, 100]] w') ∧ Kept (fun _ => True) w w' := by
  go_enter Tryz.func23, Tryz.ntmps23
  obtain ⟨W, hW⟩ : ∃ W, w.alloc (.cells #[S [], S [], .slice none 0 0, .int .i64 0, .int .i64 0, .int .i64 0, .int .i64 0] 26) = W := ⟨_, rfl⟩
  have HK : Hid (Kept (fun _ => True) w W) := Lib.hid (by rw [← hW]; exact (Kept.refl _ _).alloc _)
  have HA : Hid (RowW w.heap.size 26 [S [], S [], .slice none 0 0, .int .i64 0, .int .i64 0, .int .i64 0, .int .i64 0] W) := Lib.hid (by rw [← hW]; exact heap_alloc_new w _)
  obtain ⟨W2, hW2⟩ : ∃ W2, W.alloc (.cells #[S [114, 101, 97, 100]] 9) = W2 := ⟨_, rfl⟩
  have hk2 : Kept (fun _ => True) W W2 := by rw [← hW2]; exact (Kept.refl _ _).alloc _
  have HR : Hid (RowW W.heap.size 9 [S [114, 101, 97, 100]] W2) := Lib.hid (by rw [← hW2]; exact heap_alloc_new W _)
  have HA2 := Lib.hid (HA.out.kept hk2 trivial)
  have HK2 := Lib.hid (HK.out.tr hk2)
  obtain ⟨B, hB⟩ : ∃ B, w.heap.size = B := ⟨_, rfl⟩
  have HB := Lib.hid hB
  obtain ⟨g, hg⟩ : ∃ g, W.heap.size = g := ⟨_, rfl⟩
  rw [hB] at HA2
  rw [hg] at HR
  have HG : Hid (B < g) := Lib.hid (by have := HA.out.lt; rw [hB, hg] at this; exact this)
  clear hk2 HA
  go_wp2_with (first | (refine wpList_storeRow rfl 26 26 _ _ rfl B _ (claimsK.vs (.slice (some ⟨g, 0, none⟩) 1 1)).toArray rfl rfl HA2.out rfl (by kernel_rfl) rfl ?_; refine Hid.out ?_))
  refine Lib.hid ?_
  intro W3 hr3 hk3
  have g0 := hr3.at' 0 _ rfl
  have g1 := hr3.at' 1 _ rfl
  have g2 := hr3.at' 2 _ rfl
  have g3 := hr3.at' 3 _ rfl
  have g4 := hr3.at' 4 _ rfl
  have g5 := hr3.at' 5 _ rfl
  have g6 := hr3.at' 6 _ rfl
  have HR3 : Hid (RowW g 9 [S [114, 101, 97, 100]] W3) := Lib.hid (HR.out.kept hk3 (by have := HG.out; omega))
  have HK3 : Hid (Kept (fun _ => True) w W3) := Lib.hid (HK2.out.trans hk3 fun i hi _ => by rw [HB.out] at hi; omega)
  clear hr3 hk3 hW hW2 hB hg
  go_wp2
  refine bodyPost_ret (v := claimsK.v (.slice (some ⟨g, 0, none⟩) 1 1)) (by simp [results, Tryz.results23, go_sem, g0, g1, g2, g3, g4, g5, g6]) rfl ?_
  exact ⟨⟨g, rfl, by rw [HB.out]; have := HG.out; omega, HR3.out⟩, HK3.out⟩
end Go.Proofs.YtpcgfhleloonfaaGreatDoor
namespace Go.Proofs.YtpcgfhleloonfaaGreatDoor
open Go.RowKit Jo Ac
def homeB : List UInt8 := [104, 111, 109, 101]
/-- The document's example. -/
def exTok : List UInt8 := (sgP keyK homeB claimsK).1
set_option maxRecDepth 1000000 in
theorem ex_sign : (sgP keyK homeB claimsK).2 = 0 ∧ exTok.length = 223 ∧ exTok.drop 220 = [120, 45, 119] := by decide +kernel
end Go.Proofs.YtpcgfhleloonfaaGreatDoor
namespace Go.Proofs.YtpcgfhleloonfaaGreatDoor
open Go.RowKit Jo Ac
theorem accJoinC_le (M : Nat) : ∀ l : List (List UInt8), (∀ x ∈ l, x.length ≤ M) → (joinC l).length ≤ l.length * (M + 1)
  | [], _ => by simp [joinC]
  | [a], h => by
    have := h a List.mem_cons_self
    simp only [joinC, List.length_singleton]
    omega
  | a :: b :: r, h => by
    have h1 := h a List.mem_cons_self
    have ih := accJoinC_le M (b :: r) fun x hx => h x (List.mem_cons_of_mem _ hx)
    simp only [joinC, List.length_append, List.length_cons, Nat.add_mul] at ih ⊢
    omega
-- a number's digits, read
theorem uint_app (c : UInt8) (hc : 48 ≤ c.toNat ∧ c.toNat ≤ 57) : ∀ (l : List UInt8) (acc u : Nat), Lib.parseUint10 acc l = .ok u → u < 1844674407370955162 → Lib.parseUint10 acc (l ++ [c]) = .ok (u * 10 + (c.toNat - 48)) ∨ 18446744073709551616 ≤ u * 10 + (c.toNat - 48)
  | [], acc, u, h, hu => by
    simp only [Lib.parseUint10] at h
    injection h with h
    subst h
    simp only [List.nil_append, Lib.parseUint10]
    rw [if_pos hc, if_neg (by omega)]
    by_cases hb : 18446744073709551616 ≤ acc * 10 + (c.toNat - 48)
    · exact .inr hb
    · rw [if_neg hb]; exact .inl rfl
  | x :: r, acc, u, h, hu => by
    simp only [Lib.parseUint10, List.cons_append] at h ⊢
    split at h
    · rename_i hx
      rw [if_pos hx]
      split at h
      · cases h
      · rename_i h1
        rw [if_neg h1]
        split at h
        · cases h
        · rename_i h2
          rw [if_neg h2]
          exact uint_app c hc r _ u h hu
    · cases h
theorem uint_dec : ∀ (n u : Nat), u ≤ n → u ≤ 1073741824 → Lib.parseUint10 0 (Lib.decDigits u) = .ok u
  | n, u, hn, hu => by
    rw [Lib.decDigits]
    by_cases h : u < 10
    · rw [dif_pos h]
      simp only [Lib.parseUint10]
      have e : (UInt8.ofNat (48 + u)).toNat = 48 + u := by simp; omega
      rw [e, if_pos (by omega), if_neg (by omega), if_neg (by omega)]
      congr 1
      omega
    · rw [dif_neg h]
      have e : (UInt8.ofNat (48 + u % 10)).toNat = 48 + u % 10 := by simp; omega
      match n, hn with
      | 0, hn => omega
      | n + 1, hn =>
        rcases uint_app (UInt8.ofNat (48 + u % 10)) (by rw [e]; omega) _ 0 _ (uint_dec n (u / 10) (by omega) (by omega)) (by omega) with h1 | h1
        · rw [h1, e]
          congr 1
          omega
        · rw [e] at h1
          omega
theorem dech (u : Nat) : ∃ c r, Lib.decDigits u = c :: r ∧ 48 ≤ c.toNat ∧ c.toNat ≤ 57 := by
  have : ∀ n u, u ≤ n → ∃ c r, Lib.decDigits u = c :: r ∧ 48 ≤ c.toNat ∧ c.toNat ≤ 57 := by
    intro n
    induction n with
    | zero =>
      intro u hu
      obtain rfl : u = 0 := by omega
      exact ⟨48, [], by rw [Lib.decDigits, dif_pos (by omega)]; rfl, by decide, by decide⟩
    | succ n ih =>
      intro u hu
      rw [Lib.decDigits]
      by_cases h : u < 10
      · rw [dif_pos h]
        refine ⟨_, [], rfl, ?_, ?_⟩ <;> (simp; omega)
      · rw [dif_neg h]
        obtain ⟨c, r, h1, h2⟩ := ih (u / 10) (by omega)
        rw [h1]
        exact ⟨c, r ++ [UInt8.ofNat (48 + u % 10)], rfl, h2⟩
  exact this u u (Nat.le_refl _)
theorem kid_itoa {n : Int} (h1 : 1 ≤ n) (h2 : n ≤ 1073741824) : kidN (Lib.itoa n) = n := by
  obtain ⟨u, rfl⟩ : ∃ u : Nat, n = u := ⟨n.toNat, by omega⟩
  rw [Lib.itoa_nonneg]
  obtain ⟨c, r, hd, hc1, hc2⟩ := dech u
  have hp : Lib.parseMag (c :: r) = .ok u := by
    unfold Lib.parseMag
    rw [if_neg (by simp), ← hd]
    exact uint_dec u u (Nat.le_refl _) (by omega)
  unfold kidN
  rw [hd]
  unfold Lib.atoiAll
  simp only
  rw [if_neg (by omega), hp]
  simp only
  rw [if_neg (by omega), if_neg (by omega), if_neg (by omega)]
-- a text, cut again
theorem spl_free {d : UInt8} : ∀ {s : List UInt8}, d ∉ s → spl d s = [s]
  | [], _ => rfl
  | c :: s, h => by
    simp only [List.mem_cons, not_or] at h
    unfold spl
    rw [if_neg (fun e => h.1 e.symm), spl_free h.2]
theorem spl_cat {d : UInt8} : ∀ {x : List UInt8} (s : List UInt8), d ∉ x → spl d (x ++ d :: s) = x :: spl d s
  | [], s, _ => by rw [List.nil_append, spl, if_pos rfl]
  | c :: x, s, h => by
    simp only [List.mem_cons, not_or] at h
    rw [List.cons_append, spl, if_neg (fun e => h.1 e.symm), spl_cat s h.2]
/-- The parts, and a text put together of them. -/
def catD (d : UInt8) : List (List UInt8) → List UInt8
  | [] => []
  | [x] => x
  | x :: y :: r => x ++ d :: catD d (y :: r)
theorem spl_catD (d : UInt8) : ∀ (l : List (List UInt8)), l ≠ [] → (∀ x ∈ l, d ∉ x) → spl d (catD d l) = l
  | [], h, _ => absurd rfl h
  | [x], _, h => spl_free (h x List.mem_cons_self)
  | x :: y :: r, _, h => by
    rw [catD, spl_cat _ (h x List.mem_cons_self), spl_catD d (y :: r) (by simp) fun z hz => h z (List.mem_cons_of_mem _ hz)]
theorem catD_spl (d : UInt8) : ∀ s : List UInt8, catD d (spl d s) = s
  | [] => rfl
  | c :: s => by
    have ih := catD_spl d s
    obtain ⟨x, r, h⟩ := spl_ne d s
    rw [spl]
    by_cases e : c = d
    · rw [if_pos e, h]
      rw [h] at ih
      rw [catD, ih, e]
      rfl
    · rw [if_neg e, h]
      rw [h] at ih
      cases r with
      | nil => simp only [catD] at ih ⊢; rw [ih]
      | cons y r => simp only [catD] at ih ⊢; rw [List.cons_append, ih]
theorem join_catD : ∀ l : List (List UInt8), txP l = catD 32 l
  | [] => by simp [txP, Lib.join_nil, catD]
  | [x] => by simp [txP, Lib.join_one, catD]
  | x :: y :: r => by
    have ih := join_catD (y :: r)
    rw [catD, ← ih]
    simp only [txP, Lib.join_cons, Lib.joinTail, List.flatten_cons, List.append_assoc, List.map_cons]
    simp
-- names
theorem name_mem {s : List UInt8} (h : nameP s = true) {c : UInt8} (hc : c ∈ s) : nameB c.toNat = true := by
  unfold nameP at h
  simp only [Bool.and_eq_true, List.all_eq_true] at h
  exact h.1 c hc
theorem nameB_lt {n : Nat} (h : nameB n = true) : n < 128 ∧ n ≠ 32 ∧ 45 ≤ n := by
  unfold nameB at h
  simp only [Bool.or_eq_true, decide_eq_true_eq, beq_iff_eq] at h
  omega
theorem name_nospace {s : List UInt8} (h : nameP s = true) : (32 : UInt8) ∉ s := fun hm => by
  have := nameB_lt (name_mem h hm)
  exact this.2.1 rfl
theorem ascii_valid {s : List UInt8} (h : ∀ c ∈ s, c.toNat < 128) : Lib.validD s = true := by
  rw [Lib.validD_ascii s.length s (by rw [List.take_length]; exact h), List.drop_length]
  exact Lib.validD_nil
theorem name_valid {s : List UInt8} (h : nameP s = true) : Lib.validD s = true := ascii_valid fun _ hc => (nameB_lt (name_mem h hc)).1
-- scopes
theorem rises_srt : ∀ (l : List (List UInt8)) (p : Option (List UInt8)), risesF p l = true → Srt l ∧ ∀ t, p = some t → ∀ x ∈ l, ltB t x = true
  | [], _, _ => ⟨.nil, fun _ _ _ h => (by cases h)⟩
  | s :: r, p, h => by
    unfold risesF at h
    simp only [Bool.and_eq_true] at h
    obtain ⟨ih1, ih2⟩ := rises_srt r (some s) h.2
    refine ⟨List.pairwise_cons.2 ⟨fun x hx => ih2 s rfl x hx, ih1⟩, fun t ht x hx => ?_⟩
    subst ht
    have h1 : ltB t s = true := h.1.2
    rcases List.mem_cons.1 hx with rfl | hx
    · exact h1
    · exact ltB_trans h1 (ih2 s rfl x hx)
theorem srt_perm {l m : List (List UInt8)} (h : Srt l) (h' : Srt m) (hm : ∀ x, x ∈ l ↔ x ∈ m) : l = m :=
  asc_unique h h' ((List.perm_ext_iff_of_nodup h.nodup h'.nodup).2 hm)
theorem scope_back {l : List (List UInt8)} (h : scopeP l = true) : parseS (printS l).1 = (l, 0) := by
  have hz := printS_zero l
  unfold scopeP at h
  simp only [Bool.and_eq_true, decide_eq_true_eq] at h
  obtain ⟨⟨hr, h8⟩, h60⟩ := h
  have hp : printS l = (txP l, 0) := by
    unfold printS
    rw [if_neg (by rw [hr]; decide), if_neg (by omega)]
  rw [hp]
  cases l with
  | nil => rfl
  | cons x r =>
    have hn := rises_names _ _ hr
    have hs := (rises_srt _ _ hr).1
    have hx := name_len (hn x List.mem_cons_self)
    have hc : catD 32 (x :: r) ≠ [] := by
      obtain ⟨c, x', rfl⟩ : ∃ c x', x = c :: x' := by cases x with | nil => simp at hx | cons c x' => exact ⟨_, _, rfl⟩
      cases r <;> simp [catD]
    show parseS (txP (x :: r)) = _
    rw [join_catD]
    unfold parseS
    rw [if_neg hc, spl_catD 32 _ (by simp) fun y hy => name_nospace (hn y hy)]
    rcases parF_all (x :: r) [] .nil with ⟨-, L, h2, h3, h4⟩ | ⟨h1, -⟩
    · rw [h2]
      simp only
      have : L = x :: r := srt_perm h3 hs fun y => by rw [h4]; simp
      rw [this, if_pos (by unfold fitsP; simp only [Bool.and_eq_true, decide_eq_true_eq]; exact ⟨h8, h60⟩)]
    · exact absurd (List.all_eq_true.2 hn) (by rw [h1]; decide)
theorem scope_text {l : List (List UInt8)} (h : scopeP l = true) : (printS l).1 = txP l ∧ (txP l).length ≤ 60 ∧ ∀ c ∈ txP l, c.toNat < 128 := by
  unfold scopeP at h
  simp only [Bool.and_eq_true, decide_eq_true_eq] at h
  obtain ⟨⟨hr, h8⟩, h60⟩ := h
  refine ⟨by unfold printS; rw [if_neg (by rw [hr]; decide), if_neg (by omega)], h60, ?_⟩
  have hn := rises_names _ _ hr
  rw [join_catD]
  clear hr h8 h60
  induction l with
  | nil => intro c hc; cases hc
  | cons x r ih =>
    intro c hc
    have hx := fun c (h : c ∈ x) => (nameB_lt (name_mem (hn x List.mem_cons_self) h)).1
    cases r with
    | nil => exact hx c hc
    | cons y r =>
      rw [catD] at hc
      rcases List.mem_append.1 hc with h | h
      · exact hx c h
      · rcases List.mem_cons.1 h with rfl | h
        · decide
        · exact ih (fun s hs => hn s (List.mem_cons_of_mem _ hs)) c h
end Go.Proofs.YtpcgfhleloonfaaGreatDoor
namespace Go.Proofs.YtpcgfhleloonfaaGreatDoor
open Go.RowKit Jo Ac
def Lf.may : Lf → Prop
  | .t s => Lib.validD s = true
  | .n x => -9007199254740991 ≤ x ∧ x ≤ 9007199254740991
theorem leaf_may (x : Lf) (h : x.may) : mayP x.j = true := by
  cases x with
  | t s =>
    have h1 : Lib.validD s = true := h
    simp [Lf.j, mayP, h1]
  | n x =>
    have h1 : -9007199254740991 ≤ x ∧ x ≤ 9007199254740991 := h
    simp [Lf.j, mayP, h1.1, h1.2]
theorem accNamesOk : ∀ ns : List (List UInt8), (∀ n ∈ ns, Lib.validD n = true) → Srt ns → namesOk ns = true := fun ns h1 h2 => (namesOk_iff ns).2 ⟨h1, h2⟩
theorem obj_may {ns : List (List UInt8)} {ls : List Lf} (hl : ns.length = ls.length) (hn : namesOk ns = true) (h : ∀ x ∈ ls, x.may) : mayP (.mk 6 0 [] ns (ls.map Lf.j)) = true := by
  have hm : mays (ls.map Lf.j) = true := by
    rw [mays_all, List.all_eq_true]
    intro y hy
    obtain ⟨x, hx, rfl⟩ := List.mem_map.1 hy
    exact leaf_may x (h x hx)
  simp [mayP, hn, hm, hl]
theorem obj_depth (ns : List (List UInt8)) (ls : List Lf) : depthP (.mk 6 0 [] ns (ls.map Lf.j)) ≤ 16 := by
  have : ∀ ls : List Lf, deepest (ls.map Lf.j) = 0 := fun ls => by
    induction ls with
    | nil => rfl
    | cons x r ih =>
      rw [List.map_cons, deepest, ih]
      cases x <;> rfl
  unfold depthP
  rw [if_pos (.inr rfl), this]
  omega
def Lf.few : Lf → Prop
  | .t s => s.length ≤ 60
  | .n x => -9223372036854775808 ≤ x ∧ x ≤ 9223372036854775807
theorem dec_len (u : Nat) (h : u < 10 ^ 19) : (Lib.decDigits u).length ≤ 19 := by
  rw [Lib.decDigits_length]
  have : ∀ (k u : Nat), u < 10 ^ (k + 1) → Lib.nDigits u ≤ k + 1 := by
    intro k
    induction k with
    | zero =>
      intro u h
      rw [Lib.nDigits_small (by simpa using h)]
      exact Nat.le_refl _
    | succ k ih =>
      intro u h
      by_cases h10 : u < 10
      · rw [Lib.nDigits_small h10]; omega
      · rw [Lib.nDigits_big h10]
        have := ih (u / 10) (by rw [Nat.pow_succ] at h; omega)
        omega
  exact this 18 u h
theorem itoa_len (n : Int) (h1 : -9223372036854775808 ≤ n) (h2 : n ≤ 9223372036854775807) : (Lib.itoa n).length ≤ 20 := by
  unfold Lib.itoa
  split
  · have := dec_len n.natAbs (by simp only [Nat.reducePow]; omega)
    rw [List.length_cons]
    omega
  · have := dec_len n.toNat (by simp only [Nat.reducePow]; omega)
    omega
theorem leaf_few (x : Lf) (h : x.few) : (layP x.j).length ≤ 362 := by
  cases x with
  | t s =>
    have h1 : s.length ≤ 60 := h
    have h2 := quoteP_le s
    show (layP (.mk 4 0 s [] [])).length ≤ _
    have : layP (.mk 4 0 s [] []) = quoteP s := by simp [layP]
    rw [this]
    omega
  | n x =>
    have h1 := itoa_len x h.1 h.2
    show (layP (.mk 3 x [] [] [])).length ≤ _
    have : layP (.mk 3 x [] [] []) = Lib.itoa x := by simp [layP]
    rw [this]
    omega
theorem obj_few (ns : List (List UInt8)) (ls : List Lf) (hl : ns.length ≤ 8) (hn : ∀ n ∈ ns, n.length ≤ 9) (hf : ∀ x ∈ ls, x.few) : (layP (.mk 6 0 [] ns (ls.map Lf.j))).length ≤ 4000 := by
  have e : layP (.mk 6 0 [] ns (ls.map Lf.j)) = 123 :: (joinC (List.zipWith (fun n y => quoteP n ++ 58 :: y) ns (layAll (ls.map Lf.j))) ++ [125]) := by simp [layP]
  have h1 := accJoinC_le 419 (List.zipWith (fun n y => quoteP n ++ 58 :: y) ns (layAll (ls.map Lf.j))) fun x hx => by
    obtain ⟨i, hi, rfl⟩ := List.getElem_of_mem hx
    rw [List.getElem_zipWith]
    have h3 := hn _ (List.getElem_mem (l := ns) (n := i) (by rw [List.length_zipWith] at hi; omega))
    have h4 := quoteP_le (ns[i]'(by rw [List.length_zipWith] at hi; omega))
    have h5 : ∀ y ∈ layAll (ls.map Lf.j), y.length ≤ 362 := fun y hy => by
      rw [layAll_map, List.map_map] at hy
      obtain ⟨x, hx, rfl⟩ := List.mem_map.1 hy
      exact leaf_few x (hf x hx)
    have h6 := h5 _ (List.getElem_mem (l := layAll (ls.map Lf.j)) (n := i) (by rw [List.length_zipWith] at hi; omega))
    rw [List.length_append, List.length_cons]
    omega
  have h2 : (List.zipWith (fun n y => quoteP n ++ 58 :: y) ns (layAll (ls.map Lf.j))).length ≤ 8 := by rw [List.length_zipWith]; omega
  have h3 : (List.zipWith (fun n y => quoteP n ++ 58 :: y) ns (layAll (ls.map Lf.j))).length * (419 + 1) ≤ 8 * (419 + 1) := Nat.mul_le_mul_right _ h2
  rw [e, List.length_cons, List.length_append, List.length_singleton]
  omega
/-- An object that is printed and written by Base64 is read again. -/
theorem obj_back {ns : List (List UInt8)} {ls : List Lf} (hl : ns.length = ls.length) (hn : namesOk ns = true) (h : ∀ x ∈ ls, x.may ∧ x.few) (h8 : ns.length ≤ 8) (h9 : ∀ n ∈ ns, n.length ≤ 9) : objJ (b64 (obP ns ls)) = .mk 6 0 [] ns (ls.map Lf.j) := by
  have h1 := obj_may hl hn fun x hx => (h x hx).1
  have h2 := obj_depth ns ls
  have h3 := obj_few ns ls h8 h9 fun x hx => (h x hx).2
  have hp : obP ns ls = layP (.mk 6 0 [] ns (ls.map Lf.j)) := by
    unfold obP printP
    rw [if_neg (by rw [h1]; decide), if_neg (by omega), if_neg (by omega)]
  unfold objJ
  rw [unb64_b64]
  simp only
  rw [hp, parse_lay h1 h2 h3]
theorem head_names : namesOk headN = true := by
  refine accNamesOk _ (fun n hn => ascii_valid fun c hc => ?_) ?_
  · have : headN.all (fun n => n.all fun c => decide (c.toNat < 128)) = true := by decide
    have := List.all_eq_true.1 this n hn
    have := List.all_eq_true.1 this c hc
    simpa using this
  · unfold headN Srt
    simp only [List.pairwise_cons, List.mem_cons, List.not_mem_nil, or_false]
    refine ⟨?_, ?_, ?_, .nil⟩
    · rintro a (rfl | rfl) <;> kernel_rfl
    · rintro a rfl; kernel_rfl
    · rintro a ⟨⟩
theorem said_names : namesOk saidN = true := by
  refine accNamesOk _ (fun n hn => ascii_valid fun c hc => ?_) ?_
  · have : saidN.all (fun n => n.all fun c => decide (c.toNat < 128)) = true := by decide
    have := List.all_eq_true.1 this n hn
    have := List.all_eq_true.1 this c hc
    simpa using this
  · have hs : ∀ l : List (List UInt8), risesF none l = true → Srt l := fun l h => (rises_srt l none h).1
    exact hs _ (by kernel_rfl)
theorem accDec_lt : ∀ (n u : Nat), u ≤ n → ∀ c ∈ Lib.decDigits u, c.toNat < 128
  | n, u, hn => by
    rw [Lib.decDigits]
    by_cases h : u < 10
    · rw [dif_pos h]
      intro c hc
      rw [List.mem_singleton.1 hc]
      simp; omega
    · rw [dif_neg h]
      match n, hn with
      | 0, hn => omega
      | n + 1, hn =>
        intro c hc
        rcases List.mem_append.1 hc with hc | hc
        · exact accDec_lt n (u / 10) (by omega) c hc
        · rw [List.mem_singleton.1 hc]
          simp; omega
theorem head_back {n : Int} (h1 : 1 ≤ n) (h2 : n ≤ 1073741824) : objJ (b64 (headP n)) = .mk 6 0 [] headN ((headL n).map Lf.j) := by
  refine obj_back rfl head_names (fun x hx => ?_) (by decide) (by decide)
  simp only [headL, List.mem_cons, List.not_mem_nil, or_false] at hx
  rcases hx with rfl | rfl | rfl
  · exact ⟨ascii_valid (by decide), (by decide : (6 : Nat) - 1 ≤ 60)⟩
  · refine ⟨ascii_valid ?_, ?_⟩
    · obtain ⟨u, rfl⟩ : ∃ u : Nat, n = u := ⟨n.toNat, by omega⟩
      rw [Lib.itoa_nonneg]
      exact accDec_lt u u (Nat.le_refl _)
    · have := itoa_len n (by omega) (by omega)
      show (Lib.itoa n).length ≤ 60
      omega
  · exact ⟨ascii_valid (by decide), (by decide : (7 : Nat) - 1 ≤ 60)⟩
theorem head_kid (n : Int) : gotT (.mk 6 0 [] headN ((headL n).map Lf.j)) [107, 105, 100] = Lib.itoa n := by
  unfold gotT getP
  rw [if_pos rfl]
  simp [J.names, J.items, headN, headL, goG, Lf.j, J.text]
theorem claim_parts {c : Cl} (h : claimP c = true) : nameP c.client = true ∧ nameP c.subject = true ∧ scopeP c.scope = true ∧ inP c.family = true ∧ inP c.number = true ∧ timeP c.issued = true ∧ timeP c.till = true ∧ c.issued ≤ c.till := by
  unfold claimP at h
  simp only [Bool.and_eq_true, decide_eq_true_eq] at h
  exact ⟨h.1.1.1.1.1.1.1, h.1.1.1.1.1.1.2, h.1.1.1.1.1.2, h.1.1.1.1.2, h.1.1.1.2, h.1.1.2, h.1.2, h.2⟩
theorem in_le {n : Int} (h : inP n = true) : 1 ≤ n ∧ n ≤ 9007199254740991 := by simpa [inP] using h
theorem time_le {n : Int} (h : timeP n = true) : 0 ≤ n ∧ n ≤ 1099511627776 := by simpa [timeP] using h
theorem said_back {is : List UInt8} {c : Cl} (hi : nameP is = true) (hc : claimP c = true) : objJ (b64 (saidTP c is)) = .mk 6 0 [] saidN ((saidL c is).map Lf.j) := by
  obtain ⟨p1, p2, p3, p4, p5, p6, p7, -⟩ := claim_parts hc
  have hnm : ∀ s, nameP s = true → (Lf.t s).may ∧ (Lf.t s).few := fun s h => ⟨name_valid h, by have := name_len h; show s.length ≤ 60; omega⟩
  have hin : ∀ n, inP n = true → (Lf.n n).may ∧ (Lf.n n).few := fun n h => by have := in_le h; exact ⟨⟨by omega, by omega⟩, by omega, by omega⟩
  have htm : ∀ n, timeP n = true → (Lf.n n).may ∧ (Lf.n n).few := fun n h => by have := time_le h; exact ⟨⟨by omega, by omega⟩, by omega, by omega⟩
  have hsc : (Lf.t (printS c.scope).1).may ∧ (Lf.t (printS c.scope).1).few := by
    obtain ⟨e, h1, h2⟩ := scope_text p3
    rw [e]
    exact ⟨ascii_valid h2, h1⟩
  refine obj_back rfl said_names (fun x hx => ?_) (by decide) (by decide)
  simp only [saidL, List.mem_cons, List.not_mem_nil, or_false] at hx
  rcases hx with rfl | rfl | rfl | rfl | rfl | rfl | rfl | rfl
  · exact hnm _ p1
  · exact htm _ p7
  · exact hin _ p4
  · exact htm _ p6
  · exact hnm _ hi
  · exact hin _ p5
  · exact hsc
  · exact hnm _ p2
theorem said_claims {is : List UInt8} {c : Cl} (hc : claimP c = true) : cOf (.mk 6 0 [] saidN ((saidL c is).map Lf.j)) = c := by
  obtain ⟨p1, p2, p3, -⟩ := claim_parts hc
  have hs := scope_back p3
  obtain ⟨a, b, s, d, e, f, g⟩ := c
  simp only at hs
  have hs1 : (parseS (printS s).1).1 = s := by rw [hs]
  unfold cOf gotT gotN getP
  simp [J.names, J.items, J.kind, saidN, saidL, goG, Lf.j, J.text, J.num, hs1]
theorem said_iss (is : List UInt8) (c : Cl) : gotT (.mk 6 0 [] saidN ((saidL c is).map Lf.j)) [105, 115, 115] = is := by
  unfold gotT getP
  simp [J.names, J.items, J.kind, saidN, saidL, goG, Lf.j, J.text]
-- letters of Base64
theorem b64_nodot (s : List UInt8) : (46 : UInt8) ∉ b64 s := by
  have hsg : ∀ k, sg ofNames k ≠ 46 := fun k => by
    by_cases h : k < 64
    · have : ∀ k, k < 64 → sg ofNames k ≠ 46 := by decide
      exact this k h
    · unfold sg
      rw [List.getD_eq_getElem?_getD, List.getElem?_eq_none (by show ofNames.length ≤ k; rw [show ofNames.length = 64 from rfl]; omega)]
      decide
  have hem : ∀ h n, (46 : UInt8) ∉ em ofNames h n := fun h n => by
    unfold em
    split
    · simp
    · split
      · simpa using fun e => hsg _ e.symm
      · simp only [List.mem_cons, List.not_mem_nil, or_false, not_or]
        exact ⟨fun e => hsg _ e.symm, fun e => hsg _ e.symm⟩
  have : ∀ (s : List UInt8) (h n : Nat), (46 : UInt8) ∉ sx ofNames h n s := by
    intro s
    induction s with
    | nil =>
      intro h n
      unfold sx
      split
      · simp
      · simpa using fun e => hsg _ e.symm
    | cons c s ih =>
      intro h n
      rw [sx, List.mem_append, not_or]
      exact ⟨hem _ _, ih _ _⟩
  exact this s 0 0
theorem unb64_nodot {s t : List UInt8} (h : unb64 s = some t) : (46 : UInt8) ∉ s := by rw [unb64_some h]; exact b64_nodot t
end Go.Proofs.YtpcgfhleloonfaaGreatDoor
namespace Go.Proofs.YtpcgfhleloonfaaGreatDoor
open Go.RowKit Jo Ac
theorem mac_len (k s : List UInt8) : (mac k s).length = 32 := by unfold mac; exact sha_len _
theorem sign_ok {k : Ky} {is : List UInt8} {c : Cl} (h : (sgP k is c).2 = 0) : keyP k = true ∧ nameP is = true ∧ claimP c = true ∧ (sgP k is c).1 = bodyP k.num is c ++ 46 :: b64 (mac k.secret (bodyP k.num is c)) := by
  unfold sgP at h ⊢
  split at h
  · cases h
  · rename_i h1
    split at h
    · cases h
    · rename_i h2
      rw [if_neg h1, if_neg h2]
      simp only [Bool.not_eq_false, Bool.and_eq_true] at h1 h2
      exact ⟨h1.1, h1.2, h2, rfl⟩
theorem sign_err {k : Ky} {is : List UInt8} {c : Cl} (h : (sgP k is c).2 ≠ 0) : (sgP k is c).1 = [] ∧ ((sgP k is c).2 = 1 ∨ (sgP k is c).2 = 235) := by
  unfold sgP at h ⊢
  split
  · exact ⟨rfl, .inl rfl⟩
  · split
    · exact ⟨rfl, .inr rfl⟩
    · rename_i h1 h2
      rw [if_neg h1, if_neg h2] at h
      exact absurd rfl h
theorem key_parts {k : Ky} (h : keyP k = true) : 1 ≤ k.num ∧ k.num ≤ 1073741824 ∧ k.secret.length = 24 ∧ timeP k.fr = true ∧ timeP k.till = true ∧ k.fr ≤ k.till := by
  unfold keyP at h
  simp only [Bool.and_eq_true, decide_eq_true_eq] at h
  exact ⟨h.1.1.1.1.1, h.1.1.1.1.2, h.1.1.1.2, h.1.1.2, h.1.2, h.2⟩
theorem body_spl (n : Int) (is : List UInt8) (c : Cl) (m : List UInt8) : spl 46 (bodyP n is c ++ 46 :: m) = b64 (headP n) :: b64 (saidTP c is) :: spl 46 m := by
  unfold bodyP
  rw [List.append_assoc, List.cons_append, spl_cat _ (b64_nodot _), spl_cat _ (b64_nodot _)]
theorem body_cut {n : Int} {is : List UInt8} {c : Cl} {a b : List UInt8} (ha : (46 : UInt8) ∉ a) (hb : (46 : UInt8) ∉ b) (h : bodyP n is c = a ++ 46 :: b) : a = b64 (headP n) ∧ b = b64 (saidTP c is) := by
  have h1 := congrArg (spl 46) h
  unfold bodyP at h1
  rw [spl_cat _ (b64_nodot _), spl_free (b64_nodot _), spl_cat _ ha, spl_free hb] at h1
  simp only [List.cons.injEq, and_true] at h1
  exact ⟨h1.1.symm, h1.2.symm⟩
/-- What a token of a key's own says. -/
theorem tok3_body {n : Int} {is : List UInt8} {c : Cl} {m x : List UInt8} (h1 : 1 ≤ n) (h2 : n ≤ 1073741824) (hi : nameP is = true) (hc : claimP c = true) (hm : unb64 m = some x) (hx : x.length = 32) : tok3 is (b64 (headP n)) (b64 (saidTP c is)) m = some (n, c, bodyP n is c, x) := by
  unfold tok3
  rw [hm]
  simp only
  rw [head_back h1 h2, said_back hi hc, head_kid, kid_itoa h1 h2, said_claims hc, if_pos]
  · rfl
  · simp only [Bool.and_eq_true, decide_eq_true_eq, beq_iff_eq]
    exact ⟨⟨⟨⟨hx, h1⟩, h2⟩, hc⟩, rfl⟩
theorem tok3_bad {is a b m : List UInt8} (h : ∀ x, unb64 m = some x → x.length ≠ 32) : tok3 is a b m = none := by
  unfold tok3
  split
  · rfl
  · rename_i x hx
    rw [if_neg]
    simp only [Bool.and_eq_true, decide_eq_true_eq, beq_iff_eq]
    exact fun hh => h x hx hh.1.1.1.1
/-- Just what is taken. -/
theorem tok_iff {is s : List UInt8} {n : Int} {c : Cl} {sg si : List UInt8} : tokP is s = some (n, c, sg, si) ↔ (1 ≤ n ∧ n ≤ 1073741824 ∧ nameP is = true ∧ claimP c = true ∧ sg = bodyP n is c ∧ si.length = 32 ∧ s = bodyP n is c ++ 46 :: b64 si) := by
  constructor
  · intro h
    obtain ⟨hn, hl, h1, h2, hc, hsg⟩ := tok_facts h
    refine ⟨h1, h2, hn, hc, hsg, hl, ?_⟩
    unfold tokP tokL at h
    split at h
    · rename_i a b m hs
      rw [if_pos hn] at h
      unfold tok3 at h
      split at h
      · cases h
      · rename_i x hx
        split at h
        · rename_i hq
          cases h
          have hm := unb64_some hx
          have := catD_spl 46 s
          rw [hs] at this
          simp only [catD] at this
          rw [← this, ← hsg, ← hm, List.append_assoc, List.cons_append]
        · cases h
    · cases h
  · rintro ⟨h1, h2, hn, hc, rfl, hl, rfl⟩
    unfold tokP
    rw [body_spl, spl_free (b64_nodot _)]
    show (if nameP is = true then _ else _) = _
    rw [if_pos hn, tok3_body h1 h2 hn hc (unb64_b64 si) hl]
theorem body_inj {n n' : Int} {is is' : List UInt8} {c c' : Cl} (h1 : 1 ≤ n) (h2 : n ≤ 1073741824) (h1' : 1 ≤ n') (h2' : n' ≤ 1073741824) (hn : nameP is = true) (hn' : nameP is' = true) (hc : claimP c = true) (hc' : claimP c' = true) (h : bodyP n is c = bodyP n' is' c') : n = n' ∧ is = is' ∧ c = c' := by
  obtain ⟨e1, e2⟩ := body_cut (b64_nodot _) (b64_nodot _) (show bodyP n is c = b64 (headP n') ++ 46 :: b64 (saidTP c' is') from h)
  have q1 := head_back h1 h2
  rw [← e1, head_back h1' h2'] at q1
  have q2 := said_back hn hc
  rw [← e2, said_back hn' hc'] at q2
  refine ⟨?_, ?_, ?_⟩
  · have := head_kid n
    rw [← q1, head_kid] at this
    rw [← kid_itoa h1 h2, ← this, kid_itoa h1' h2']
  · have := said_iss is c
    rw [← q2, said_iss] at this
    exact this.symm
  · have := said_claims (is := is) hc
    rw [← q2, said_claims hc'] at this
    exact this.symm
theorem dot_cut {x y x' y' : List UInt8} (hy : (46 : UInt8) ∉ y) (hy' : (46 : UInt8) ∉ y') (h : x ++ 46 :: y = x' ++ 46 :: y') : x = x' ∧ y = y' := by
  have : ∀ (x x' : List UInt8), x ++ 46 :: y = x' ++ 46 :: y' → x = x' := by
    intro x
    induction x with
    | nil =>
      intro x' h
      cases x' with
      | nil => rfl
      | cons c x' =>
        simp only [List.nil_append, List.cons_append, List.cons.injEq] at h
        exact absurd (by rw [h.2]; simp) hy
    | cons c x ih =>
      intro x' h
      cases x' with
      | nil =>
        simp only [List.nil_append, List.cons_append, List.cons.injEq] at h
        exact absurd (by rw [← h.2]; simp) hy'
      | cons c' x' =>
        simp only [List.cons_append, List.cons.injEq] at h
        rw [h.1, ih x' h.2]
  have e := this x x' h
  subst e
  exact ⟨rfl, by have := List.append_cancel_left h; injection this⟩
-- AccessBack
theorem sign_tok {k : Ky} {is : List UInt8} {c : Cl} (h : (sgP k is c).2 = 0) : tokP is (sgP k is c).1 = some (k.num, c, bodyP k.num is c, mac k.secret (bodyP k.num is c)) := by
  obtain ⟨hk, hn, hc, hs⟩ := sign_ok h
  obtain ⟨h1, h2, -⟩ := key_parts hk
  exact tok_iff.2 ⟨h1, h2, hn, hc, rfl, mac_len _ _, hs⟩
theorem sign_other {k : Ky} {is other : List UInt8} {c : Cl} (h : (sgP k is c).2 = 0) (ho : other ≠ is) : tokP other (sgP k is c).1 = none := by
  cases ht : tokP other (sgP k is c).1 with
  | none => rfl
  | some r =>
    obtain ⟨n, d, sg, si⟩ := r
    obtain ⟨a1, a2, a3, a4, a5, a6, a7⟩ := tok_iff.1 ht
    obtain ⟨b1, b2, b3, b4, b5, b6, b7⟩ := tok_iff.1 (sign_tok h)
    have := (dot_cut (b64_nodot _) (b64_nodot _) (a7.symm.trans b7)).1
    exact absurd (body_inj a1 a2 b1 b2 a3 b3 a4 b4 this).2.1 ho
theorem verG_first {n : Int} {c : Cl} {sg si : List UInt8} {t : Int} : ∀ {keys : List Ky} {i : Nat} {k : Ky}, keys[i]? = some k → k.num = n → ((keys.take i).all fun x => x.num != n) = true → verG n c sg si t keys = if k.till ≤ t ∨ c.issued < k.fr then (zeroCl, 231) else if si ≠ mac k.secret sg then (zeroCl, 232) else if t < c.issued ∨ c.till ≤ t then (zeroCl, 233) else (c, 0)
  | [], i, k, h, _, _ => by simp at h
  | x :: r, 0, k, h, hn, _ => by
    simp only [List.getElem?_cons_zero, Option.some.injEq] at h
    subst h
    rw [verG, if_pos hn]
  | x :: r, i + 1, k, h, hn, ha => by
    simp only [List.take_succ_cons, List.all_cons, Bool.and_eq_true, bne_iff_ne, ne_eq] at ha
    rw [verG, if_neg ha.1]
    exact verG_first (by simpa using h) hn ha.2
theorem sign_ver {k : Ky} {is : List UInt8} {c : Cl} {keys : List Ky} {i : Nat} {now : Int} (h : (sgP k is c).2 = 0) (hk : keys[i]? = some k) (ha : ((keys.take i).all fun x => x.num != k.num) = true) : verP keys is (sgP k is c).1 now = if k.till ≤ nearP now ∨ c.issued < k.fr then (zeroCl, 231) else if nearP now < c.issued ∨ c.till ≤ nearP now then (zeroCl, 233) else (c, 0) := by
  unfold verP
  rw [sign_tok h]
  simp only
  rw [verG_first hk rfl ha]
  congr 1
  rw [if_neg (by simp)]
-- AccessStrict
theorem verG_find {n : Int} {c : Cl} {sg si : List UInt8} {t : Int} : ∀ {keys : List Ky}, (verG n c sg si t keys).2 = 0 → ∃ i k, keys[i]? = some k ∧ k.num = n ∧ ((keys.take i).all fun x => x.num != n) = true
  | [], h => by cases h
  | x :: r, h => by
    unfold verG at h
    by_cases hx : x.num = n
    · exact ⟨0, x, rfl, hx, rfl⟩
    · rw [if_neg hx] at h
      obtain ⟨i, k, h1, h2, h3⟩ := verG_find h
      refine ⟨i + 1, k, by simpa using h1, h2, ?_⟩
      simp only [List.take_succ_cons, List.all_cons, Bool.and_eq_true, bne_iff_ne, ne_eq]
      exact ⟨hx, h3⟩
/-- What is known of a token that is taken. -/
theorem ver_ok {keys : List Ky} {is s : List UInt8} {now : Int} (h : (verP keys is s now).2 = 0) : ∃ (n : Int) (si : List UInt8) (i : Nat) (k : Ky), tokP is s = some (n, (verP keys is s now).1, bodyP n is (verP keys is s now).1, si) ∧ keys[i]? = some k ∧ k.num = n ∧ ((keys.take i).all fun x => x.num != n) = true ∧ ¬ (k.till ≤ nearP now ∨ (verP keys is s now).1.issued < k.fr) ∧ si = mac k.secret (bodyP n is (verP keys is s now).1) := by
  cases ht : tokP is s with
  | none => unfold verP at h; rw [ht] at h; cases h
  | some r =>
    obtain ⟨n, c, sg, si⟩ := r
    obtain ⟨-, -, -, -, hsg, -⟩ := tok_iff.1 ht
    have hv : verP keys is s now = verG n c sg si (nearP now) keys := by unfold verP; rw [ht]
    rw [hv] at h
    obtain ⟨i, k, h1, h2, h3⟩ := verG_find h
    have hg := verG_first (c := c) (sg := sg) (si := si) (t := nearP now) h1 h2 h3
    rw [hg] at h
    split at h
    · cases h
    · rename_i q1
      split at h
      · cases h
      · rename_i q2
        split at h
        · cases h
        · rename_i q3
          have hc : (verP keys is s now).1 = c := by rw [hv, hg, if_neg q1, if_neg q2, if_neg q3]
          rw [hc]
          exact ⟨n, si, i, k, by rw [hsg], h1, h2, h3, q1, by rw [← hsg]; exact Classical.not_not.1 q2⟩
theorem strict_sign {n : Int} {is s : List UInt8} {c : Cl} {k : Ky} (ht : tokP is s = some (n, c, bodyP n is c, mac k.secret (bodyP n is c))) (hk : k.num = n) (h : (sgP k is c).2 = 0) : (sgP k is c).1 = s := by
  obtain ⟨-, -, -, -, -, -, hs⟩ := tok_iff.1 ht
  rw [(sign_ok h).2.2.2, hs, hk]
/-- Another last part. -/
theorem strict_part {n : Int} {is a part : List UInt8} {c : Cl} {k : Ky} {m : List UInt8} {keys : List Ky} {now : Int} {i : Nat} (ha : a = bodyP n is c) (ht : tokP is (a ++ 46 :: m) = some (n, c, bodyP n is c, mac k.secret (bodyP n is c))) (hm : (46 : UInt8) ∉ m) (hp : part ≠ m) (hk : keys[i]? = some k) (hkn : k.num = n) (hf : ((keys.take i).all fun x => x.num != n) = true) (hw : ¬ (k.till ≤ nearP now ∨ c.issued < k.fr)) :
    verP keys is (a ++ 46 :: part) now = (zeroCl, if (match unb64 part with | some x => decide (x.length = 32) | none => false) = true then 232 else 230) := by
  obtain ⟨h1, h2, hn, hc, -, -, hs⟩ := tok_iff.1 ht
  subst ha
  have hb : m = b64 (mac k.secret (bodyP n is c)) := (dot_cut hm (b64_nodot _) hs).2
  cases hu : unb64 part with
  | none =>
    have : tokP is (bodyP n is c ++ 46 :: part) = none := by
      cases ht' : tokP is (bodyP n is c ++ 46 :: part) with
      | none => rfl
      | some r =>
        obtain ⟨n', c', sg', si'⟩ := r
        obtain ⟨-, -, -, -, -, -, hs'⟩ := tok_iff.1 ht'
        unfold tokP at ht'
        rw [body_spl] at ht'
        obtain ⟨x, r, hx⟩ := spl_ne 46 part
        rw [hx] at ht'
        cases r with
        | nil =>
          have hpx : part = x := by have := catD_spl 46 part; rw [hx] at this; exact this.symm
          rw [← hpx] at ht'
          unfold tokL at ht'
          simp only at ht'
          rw [if_pos hn, tok3_bad (fun y hy => by rw [hu] at hy; cases hy)] at ht'
          cases ht'
        | cons y r =>
          unfold tokL at ht'
          cases ht'
    unfold verP
    rw [this]
    rfl
  | some x =>
    have hd := unb64_nodot hu
    have hpb := unb64_some hu
    by_cases hl : x.length = 32
    · have : tokP is (bodyP n is c ++ 46 :: part) = some (n, c, bodyP n is c, x) := tok_iff.2 ⟨h1, h2, hn, hc, rfl, hl, by rw [hpb]⟩
      unfold verP
      rw [this]
      simp only
      rw [verG_first hk hkn hf, if_neg hw, if_pos (fun e => hp (by rw [hpb, hb, e])), if_pos (by simpa using hl)]
    · have : tokP is (bodyP n is c ++ 46 :: part) = none := by
        unfold tokP
        rw [body_spl, spl_free hd]
        show (if nameP is = true then _ else _) = _
        rw [if_pos hn, tok3_bad (fun y hy => by rw [hu] at hy; cases hy; exact hl)]
      unfold verP
      rw [this]
      simp only
      rw [if_neg (by simpa using hl)]
end Go.Proofs.YtpcgfhleloonfaaGreatDoor
