/- Walks of the law of layer 5: texts read as an answer: any, and such as came of an answer that may be. -/
import Derived.Test.YtaomhkgdbobpkaaGreatDoorWiT7
namespace Go.Proofs.YtaomhkgdbobpkaaGreatDoor
open Go.RowKit Wi

theorem Col.still {gb B : Nat} {us ws : List Value} {fs : List (List Fl)} {w : World} (h : Col gb B us ws fs w) (hn : us.length ≤ 1000) :
    Calls Tryz.prog 19 #[.pointer (some ⟨gb, 0, none⟩)] w fun e w' => e = .returned (.bool true) ∧ Kept (· < B) w w' := by
  obtain ⟨vs, xs, hb, e0, e1, e3, e4, HO⟩ := outer_nil gb B us ws fs w h
  have hc := h.2
  have hf : ∀ (j : Nat) v (l : List Value), l.length = fs.length → l[j]? = some v → fs[j]? = some (fs.getD j []) := fun j v l hl hv => by
    obtain ⟨f, hf⟩ := get_len hv hl
    rw [List.getD_eq_getElem?_getD, hf]; rfl
  exact still_any gb B vs xs us ws (fun j => fs.getD j []) w hb e0 e1 e3 e4 (hc.lu.trans hc.lw.symm) (by omega) (fun j u hu => hc.ou j u _ hu (hf j u us hc.lu hu)) (fun j u hu => hc.ow j u _ hu (hf j u ws hc.lw hu)) (apart_of us hc.nd) (fun u hu b hub => hc.lo b (List.mem_filterMap.2 ⟨u, hu, hub⟩)) HO
set_option maxHeartbeats 8000000 in
set_option maxRecDepth 100000 in
theorem answers_law (s : List UInt8) (x : Ans) (va : Value) (pl bl : Int) (w : World) (hE : WE w.heap.size w) (hva : RowF (fun _ => True) w va x.hs) (hst : -9223372036854775808 ≤ x.st ∧ x.st ≤ 9223372036854775807) (hpl : -9223372036854775808 ≤ pl ∧ pl ≤ 9223372036854775807)
    (hsz : 2 * s.length + 2 * toldNn x.hs x.body ≤ 2147483647) :
    Calls Tryz.prog 6 #[S s, .agg #[.int .i64 x.st, va, S x.body], .int .i64 pl, .int .i64 bl] w fun e w' => e = .returned (.bool true) ∧ Kept (fun _ => True) w w' := by
  obtain ⟨st, fs, ab⟩ := x
  simp only at hva hst hsz ⊢
  obtain ⟨aa, ac, rfl⟩ := hva.slice
  obtain ⟨W1, hW1⟩ : ∃ W1, w.alloc (.cells #[.int .i64 st, .slice aa fs.length ac, S ab] 56) = W1 := ⟨_, rfl⟩
  have hk1 : Kept (fun _ => True) w W1 := by rw [← hW1]; exact (Kept.refl _ w).alloc _
  have hba : three w.heap.size st (.slice aa fs.length ac) ab W1 := by rw [← hW1]; exact heap_alloc_new w _
  have hw1 : weightN fs ≤ 2147483647 := by unfold toldNn at hsz; omega
  have hl1 : Sml ab := by unfold toldNn at hsz; unfold Sml; omega
  have TO := Lib.hid (fun W (hk : Kept (fun _ => True) w W) => ltold_any st ab fs (.slice aa fs.length ac) W (hva.kept hk fun _ _ _ => trivial) (by omega))
  obtain ⟨t, ht⟩ : ∃ t, toldNn fs ab = t := ⟨_, rfl⟩
  rw [ht] at hsz TO
  have hsl : (⟨s.toArray⟩ : ByteArray).size = s.length := size_mk s
  have g1 := Lib.hid (addZ_rng (n := (s.length : Int)) (m := (s.length : Int)) (by omega) (by omega))
  have g2 := Lib.hid (addZ_rng (n := (t : Int)) (m := (t : Int)) (by omega) (by omega))
  have hq : ¬ (2147483647 : Int) < addZ (addZ (s.length : Int) (s.length : Int)) (addZ (t : Int) (t : Int)) := by
    rw [addZ_of (n := (s.length : Int)) (by omega), addZ_of (n := (t : Int)) (by omega), addZ_of (by omega)]
    omega
  have hsl2 : s.length ≤ 2147483647 := by omega
  have ht2 : t ≤ 2147483647 := by omega
  have HK1 := Lib.hid hk1
  have HBA := Lib.hid hba
  have HEW := Lib.hid hE
  have HVA := Lib.hid hva
  have HSW : Hid (∀ W, Kept (fun _ => True) W1 W → W.cell? ⟨w.heap.size, 0, none⟩ = some (.int .i64 st) ∧ W.cell? ⟨w.heap.size, 1, none⟩ = some (.slice aa fs.length ac) ∧ W.cell? ⟨w.heap.size, 2, none⟩ = some (S ab)) := Lib.hid fun W hk => (HBA.out.kept hk trivial).facts
  have HKD : Hid (Kept (fun _ => True) W1 W1.drew) := Lib.hid (Kept.refl _ _).drew
  have hss := HSW.out _ HKD.out
  clear hE hba hva hk1 ht hsz
  go_enter Tryz.func6, Tryz.ntmps6
  go_wp2_with fail
  go_region_held3 (fun wz => wz.cell? ⟨w.heap.size, 0, none⟩ = some (.int .i64 st) ∧ wz.cell? ⟨w.heap.size, 1, none⟩ = some (.slice aa fs.length ac) ∧ wz.cell? ⟨w.heap.size, 2, none⟩ = some (S ab)) (first | exact hss | go_keep)
    (first
      | (go_at_call 23; refine (TO.out _ (HK1.out.tr HKD.out)).mono ?_; rintro e w1 ⟨rfl, hk1⟩; have HKD := Lib.hid (HKD.out.tr hk1); have hss := HSW.out _ HKD.out; clear hk1)
      | (go_at_call 8; refine (add_z _ _ _ (by first | omega | exact ⟨g1.out.1, by have := g1.out.2.1; omega⟩ | exact ⟨g2.out.1, by have := g2.out.2.1; omega⟩) (by first | omega | exact ⟨g1.out.1, by have := g1.out.2.1; omega⟩ | exact ⟨g2.out.1, by have := g2.out.2.1; omega⟩)).mono ?_; rintro e w1 ⟨rfl, rfl⟩))
  have HK3 := Lib.hid (HK1.out.tr HKD.out)
  have AW := Lib.hid (awake_any w1 ((HEW.out.kept HK3.out fun _ _ => trivial).le HK3.out.size))
  clear hss HSW TO ht2 hW1
  go_wp2_with fail
  refine AW.out.mono ?_
  rintro e w2 ⟨rfl, hk2⟩
  obtain ⟨W3, hW3⟩ : ∃ W3, w2.alloc (.cells #[.slice none 0 0, .slice none 0 0, .slice none 0 0, .slice none 0 0, .slice none 0 0, .slice none 0 0, .slice none 0 0, .slice none 0 0] 38) = W3 := ⟨_, rfl⟩
  have hk3 : Kept (fun _ => True) w2 W3 := by rw [← hW3]; exact (Kept.refl _ w2).alloc _
  have HC00 : Hid (Col w2.heap.size w2.heap.size [] [] [] W3) := Lib.hid (by rw [← hW3]; exact ⟨⟨_, _, Bk.new w2, rfl, rfl, rfl, rfl, rfl, rfl, rfl⟩, ColF.nil _ _⟩)
  have HK4 := Lib.hid ((HK3.out.tr hk2).tr hk3)
  have HK42 := Lib.hid (HK3.out.tr hk2)
  have HE00 : Hid (WE w2.heap.size W3) := Lib.hid ((HEW.out.kept HK4.out fun _ _ => trivial).le HK42.out.size)
  have HBA4 := Lib.hid (HBA.out.kept ((HKD.out.tr hk2).tr hk3) trivial)
  have AN := Lib.hid (answer_any st ab fs (.slice aa fs.length ac) W3 hst (HVA.out.kept HK4.out fun _ _ _ => trivial) (smlF_of hw1) hl1)
  obtain ⟨c0, c1, c2⟩ := HBA4.out.facts
  clear hk2 hk3 g1 g2 hq
  go_wp2_with fail
  refine AN.out.mono ?_
  rintro e w4 ⟨⟨sx, hs, bx, hv, rfl, n1, n2, n3, n4⟩, hk4⟩
  obtain ⟨oa, oc, rfl⟩ := rowf_slice n1
  have PO := printA_ok (st := sx) n4 n2 n3
  have hsm : SmlF hs ∧ Sml bx := restOk_sml n4
  have PA := Lib.hid (refPrintA_any ⟨sx, hs, bx⟩ (.slice oa hs.length oc) w4 (rowf_of n1) hsm.1 hsm.2)
  have AP := ans_pieces (st := sx) n4 n2 n3
  obtain ⟨T, hT⟩ : ∃ T, (printA ⟨sx, hs, bx⟩).1 = T := ⟨_, rfl⟩
  rw [show printA ⟨sx, hs, bx⟩ = (T, 0) from Prod.ext hT PO.1] at PA AP PO
  have hT2 : T.length ≤ 41000 := PO.2
  have hT1 : 1 ≤ T.length := AP.1
  replace PA : Hid (Calls Tryz.prog 29 #[.agg #[.int .i64 sx, .slice oa hs.length oc, S bx]] w4 (PrintQ (T, 0) w4)) := PA
  have HK34 := Lib.hid hk4
  clear n1 n2 n3 n4 AP PO hT hsm c0 c1 c2 AN hk4 hW3
  go_wp2_with fail
  refine PA.out.mono ?_
  rintro e w5 ⟨rfl, hk5⟩
  have HK35 := Lib.hid (HK34.out.tr hk5)
  have HC0 := Lib.hid (HC00.out.keptT HK35.out)
  have HE0 := Lib.hid (HE00.out.kept HK35.out fun _ _ => trivial)
  have HB0 : Hid (Kept (· < w2.heap.size) W3 w5) := Lib.hid (HK35.out.mono fun _ _ _ => trivial)
  have hTz : (⟨T.toArray⟩ : ByteArray).size = T.length := size_mk T
  clear hk5 HC00 HE00 HK35 HK34 PA
  have PS1 := Lib.hid (parses_any w2.heap.size w2.heap.size _ _ _ (s) w5 HC0.out HE0.out (by simp) (by omega))
  go_wp2_with fail
  with_reducible refine PS1.out.mono ?_
  rintro e v1 ⟨rfl, x1, y1, z1, f1, hc, hk⟩
  have HC1 := Lib.hid hc
  have HE1 := Lib.hid (HE0.out.kept hk fun _ h => .inl h)
  have HB1 : Hid (Kept (· < w2.heap.size) W3 v1) := Lib.hid (HB0.out.tr (hk.mono fun _ _ h => .inl h))
  clear hc hk HC0 HE0 HB0 PS1
  have PS2 := Lib.hid (parses_any w2.heap.size w2.heap.size _ _ _ (T) v1 HC1.out HE1.out (by simp) (by omega))
  go_wp2_with fail
  with_reducible refine PS2.out.mono ?_
  rintro e v2 ⟨rfl, x2, y2, z2, f2, hc, hk⟩
  have HC2 := Lib.hid hc
  have HE2 := Lib.hid (HE1.out.kept hk fun _ h => .inl h)
  have HB2 : Hid (Kept (· < w2.heap.size) W3 v2) := Lib.hid (HB1.out.tr (hk.mono fun _ _ h => .inl h))
  clear hc hk HC1 HE1 HB1 PS2
  have CT := run_cat (P := Tryz.prog) T s (T ++ s) rfl (by omega)
  have PS3 := Lib.hid (parses_any w2.heap.size w2.heap.size _ _ _ (T ++ s) v2 HC2.out HE2.out (by simp) (by rw [List.length_append]; omega))
  go_wp2_with fail
  with_reducible refine PS3.out.mono ?_
  rintro e v3 ⟨rfl, x3, y3, z3, f3, hc, hk⟩
  have HC3 := Lib.hid hc
  have HE3 := Lib.hid (HE2.out.kept hk fun _ h => .inl h)
  have HB3 : Hid (Kept (· < w2.heap.size) W3 v3) := Lib.hid (HB2.out.tr (hk.mono fun _ _ h => .inl h))
  clear hc hk HC2 HE2 HB2 PS3
  have PK := Lib.hid (pick_is pl T.length v3 hpl ⟨hT1, by omega⟩)
  have hkl := pickZ_lt pl T.length hT1
  obtain ⟨k, hk⟩ : ∃ k, pickZ pl T.length = k := ⟨_, rfl⟩
  rw [hk] at PK hkl
  have EX : (⟨T.toArray⟩ : ByteArray).extract 0 k = ⟨(T.take k).toArray⟩ := by rw [extract_ba]; simp
  clear hk CT
  go_wp2_with fail
  refine PK.out.mono ?_
  rintro e v9 ⟨rfl, rfl⟩
  have PS4 := Lib.hid (parses_any w2.heap.size w2.heap.size _ _ _ (T.take k) v9 HC3.out HE3.out (by simp) (by rw [List.length_take]; omega))
  go_wp2_with fail
  with_reducible refine PS4.out.mono ?_
  rintro e v4 ⟨rfl, x4, y4, z4, f4, hc, hk⟩
  have HC4 := Lib.hid hc
  have HE4 := Lib.hid (HE3.out.kept hk fun _ h => .inl h)
  have HB4 : Hid (Kept (· < w2.heap.size) W3 v4) := Lib.hid (HB3.out.tr (hk.mono fun _ _ h => .inl h))
  clear hc hk HC3 HE3 HB3 PS4
  have BN := Lib.hid (bent_any T pl bl v4 hT1 (by omega) hpl)
  clear EX PK hkl
  go_wp2_with fail
  refine BN.out.mono ?_
  rintro e u5 ⟨⟨t5, rfl, hl5⟩, hk5⟩
  have HCq := Lib.hid (HC4.out.keptT hk5)
  have HEq := Lib.hid (HE4.out.kept hk5 fun _ _ => trivial)
  have HBq : Hid (Kept (· < w2.heap.size) W3 u5) := Lib.hid (HB4.out.trans hk5 fun _ _ _ => trivial)
  clear HC4 HE4 HB4
  have HC4 := HCq
  have HE4 := HEq
  have HB4 := HBq
  clear HCq HEq HBq
  clear hk5 BN
  have PS5 := Lib.hid (parses_any w2.heap.size w2.heap.size _ _ _ (t5) u5 HC4.out HE4.out (by simp) (by omega))
  go_wp2_with fail
  with_reducible refine PS5.out.mono ?_
  rintro e v5 ⟨rfl, x5, y5, z5, f5, hc, hk⟩
  have HC5 := Lib.hid hc
  have HE5 := Lib.hid (HE4.out.kept hk fun _ h => .inl h)
  have HB5 : Hid (Kept (· < w2.heap.size) W3 v5) := Lib.hid (HB4.out.tr (hk.mono fun _ _ h => .inl h))
  clear hc hk HC4 HE4 HB4 PS5
  have PK : Hid (Calls Tryz.prog 12 #[.int .i64 pl, .int .i64 40] v5 fun e w' => e = .returned (.int .i64 (pickZ pl 40 : Nat)) ∧ w' = v5) := Lib.hid (pick_is pl 40 v5 hpl ⟨by omega, by omega⟩)
  obtain ⟨k6, hk6⟩ : ∃ k, pickZ pl 40 = k := ⟨_, rfl⟩
  have hk6l := pickZ_lt pl 40 (by omega)
  rw [hk6] at PK hk6l
  clear hk6
  go_wp2_with fail
  with_reducible refine PK.out.mono ?_
  rintro e u6 ⟨rfl, rfl⟩
  have BN := Lib.hid (bent_any T (k6 : Int) bl u6 hT1 (by omega) (by omega))
  clear PK
  go_wp2_with fail
  with_reducible refine BN.out.mono ?_
  rintro e u7 ⟨⟨t6, rfl, hl6⟩, hk7⟩
  have HCq := Lib.hid (HC5.out.keptT hk7)
  have HEq := Lib.hid (HE5.out.kept hk7 fun _ _ => trivial)
  have HBq : Hid (Kept (· < w2.heap.size) W3 u7) := Lib.hid (HB5.out.trans hk7 fun _ _ _ => trivial)
  clear HC5 HE5 HB5
  have HC5 := HCq
  have HE5 := HEq
  have HB5 := HBq
  clear HCq HEq HBq
  clear hk7 BN
  have PS6 := Lib.hid (parses_any w2.heap.size w2.heap.size _ _ _ (t6) u7 HC5.out HE5.out (by simp) (by omega))
  go_wp2_with fail
  with_reducible refine PS6.out.mono ?_
  rintro e v6 ⟨rfl, x6, y6, z6, f6, hc, hk⟩
  have HC6 := Lib.hid hc
  have HE6 := Lib.hid (HE5.out.kept hk fun _ h => .inl h)
  have HB6 : Hid (Kept (· < w2.heap.size) W3 v6) := Lib.hid (HB5.out.tr (hk.mono fun _ _ h => .inl h))
  clear hc hk HC5 HE5 HB5 PS6
  have ST := Lib.hid (HC6.out.still (by simp))
  go_wp2_with fail
  refine ST.out.mono ?_
  rintro e v7 ⟨rfl, hk7⟩
  have HKF : Hid (Kept (fun _ => True) w v7) := Lib.hid ((HK4.out.trans (HB6.out.tr hk7) fun i hi _ => by have := HK42.out.size; omega))
  clear hk7 ST HC6 HE6 HB6
  go_wp2
  go_ret
  exact ⟨rfl, HKF.out⟩
end Go.Proofs.YtaomhkgdbobpkaaGreatDoor
