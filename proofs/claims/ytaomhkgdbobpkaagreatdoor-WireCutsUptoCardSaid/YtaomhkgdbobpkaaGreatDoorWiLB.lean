/- Walks of the law of layer 5, eleventh part: an answer and more behind it, there and back; a message in two pieces. -/
import Derived.Test.YtaomhkgdbobpkaaGreatDoorWiLA
import Derived.Test.YtaomhkgdbobpkaaGreatDoorWiW19
namespace Go.Proofs.YtaomhkgdbobpkaaGreatDoor
open Go.RowKit Wi

theorem weightN_all {fs : List Fl} : ∀ {f : Fl}, f ∈ fs → f.1.length + f.2.length ≤ weightN fs := by
  induction fs with
  | nil => intro f h; cases h
  | cons g fs ih =>
    intro f h
    have e : weightN (g :: fs) = fl2 g + weightN fs := by simp [weightN]
    rw [e]
    rcases List.mem_cons.1 h with rfl | h
    · unfold fl2; omega
    · have := ih h; omega
theorem weightN_len : ∀ fs : List Fl, fs.length ≤ weightN fs
  | [] => by simp
  | g :: fs => by
    have := weightN_len fs
    have e : weightN (g :: fs) = fl2 g + weightN fs := by simp [weightN]
    rw [e, List.length_cons]
    unfold fl2; omega
theorem smlF_of {fs : List Fl} (h : weightN fs ≤ 2147483647) : SmlF fs := by
  have := weightN_len fs
  refine ⟨by omega, fun f hf => ?_⟩
  have := weightN_all hf
  unfold Sml
  omega
theorem restOk_len {fs : List Fl} {b : List UInt8} (h : restOk fs b = true) : fs.length ≤ 32 := by
  unfold restOk at h
  simp only [Bool.and_eq_true, decide_eq_true_eq] at h
  omega
theorem restOk_sml {fs : List Fl} {b : List UInt8} (h : restOk fs b = true) : SmlF fs ∧ Sml b := by
  unfold restOk at h
  simp only [Bool.and_eq_true, decide_eq_true_eq] at h
  refine ⟨⟨by omega, fun f hf => ?_⟩, by unfold Sml; omega⟩
  have := headP_len (List.all_eq_true.1 h.2 f hf)
  simp only [headP, List.length_append, List.length_cons, List.length_nil] at this
  unfold Sml
  omega
theorem set_same {cs : Array Value} {o : Nat} {v : Value} (h : cs[o]? = some v) : cs.setIfInBounds o v = cs := by
  apply Array.ext_getElem?
  intro i
  rw [Array.getElem?_setIfInBounds]
  split
  · rename_i e
    subst e
    rw [h, if_pos (Array.getElem?_eq_some_iff.1 h).1]
  · rfl
/-- A store of what stands there leaves the world as it is. -/
theorem setCell_id {w : World} {g o : Nat} {cs : Array Value} {t : TypeId} {fz : Nat × Nat} {v : Value} (h : w.heap[g]? = some (.cells cs t fz)) (hc : cs[o]? = some v) : w.setCell ⟨g, o, none⟩ v = w := by
  have e : ∀ i : Nat, (w.setCell ⟨g, o, none⟩ v).heap[i]? = w.heap[i]? := by
    intro i
    simp only [World.setCell, Array.getElem?_modify]
    split
    · rename_i e
      subst e
      rw [h]
      simp only [Option.map_some, Option.isSome_none, Bool.false_eq_true, if_false, set_same hc]
    · rfl
  have e2 : (w.setCell ⟨g, o, none⟩ v).heap = w.heap := Array.ext_getElem? e
  have : w.setCell ⟨g, o, none⟩ v = { w with heap := (w.setCell ⟨g, o, none⟩ v).heap } := rfl
  rw [this, e2]
abbrev AM (a b : Nat) (st : Int) (va : Value) (ab m p : List UInt8) (vm : Value) (mb : List UInt8) (w : World) : Prop := w.cell? ⟨a, 0, none⟩ = some (.int .i64 st) ∧ w.cell? ⟨a, 1, none⟩ = some va ∧ w.cell? ⟨a, 2, none⟩ = some (S ab) ∧
  w.cell? ⟨b, 0, none⟩ = some (S m) ∧ w.cell? ⟨b, 1, none⟩ = some (S p) ∧ w.cell? ⟨b, 2, none⟩ = some vm ∧ w.cell? ⟨b, 3, none⟩ = some (S mb)
theorem AM.of {a b : Nat} {st : Int} {va vm : Value} {ab m p mb : List UInt8} {w : World} (h1 : three a st va ab w) (h2 : four b m p vm mb w) : AM a b st va ab m p vm mb w := ⟨h1.facts.1, h1.facts.2.1, h1.facts.2.2, h2.facts⟩
set_option maxHeartbeats 8000000 in
set_option maxRecDepth 100000 in
theorem back_law (x : Ans) (y : Msg) (va vm : Value) (more : List UInt8) (pl : Int) (w : World) (hE : WE w.heap.size w) (hva : RowF (fun _ => True) w va x.hs) (hvm : RowF (fun _ => True) w vm y.hs) (hst : -9223372036854775808 ≤ x.st ∧ x.st ≤ 9223372036854775807) (hpl : -9223372036854775808 ≤ pl ∧ pl ≤ 9223372036854775807)
    (hsz : 2 * (toldNn x.hs x.body + sizeN y.m y.p y.hs y.body) + 2 * more.length ≤ 2147483647) :
    Calls Tryz.prog 7 #[.agg #[.int .i64 x.st, va, S x.body], .agg #[S y.m, S y.p, vm, S y.body], S more, .int .i64 pl] w fun e w' => e = .returned (.bool true) ∧ Kept (fun _ => True) w w' := by
  obtain ⟨st, fs, ab⟩ := x
  obtain ⟨m, p, gs, mb⟩ := y
  simp only at hva hvm hst hsz ⊢
  obtain ⟨aa, ac, rfl⟩ := hva.slice
  obtain ⟨ma, mc, rfl⟩ := hvm.slice
  obtain ⟨W1, hW1⟩ : ∃ W1, w.alloc (.cells #[.int .i64 st, .slice aa fs.length ac, S ab] 56) = W1 := ⟨_, rfl⟩
  obtain ⟨W2, hW2⟩ : ∃ W2, W1.alloc (.cells #[S m, S p, .slice ma gs.length mc, S mb] 50) = W2 := ⟨_, rfl⟩
  have hk1 : Kept (fun _ => True) w W1 := by rw [← hW1]; exact (Kept.refl _ w).alloc _
  have hk12 : Kept (fun _ => True) W1 W2 := by rw [← hW2]; exact (Kept.refl _ W1).alloc _
  have hz1 : W1.heap.size = w.heap.size + 1 := by rw [← hW1]; simp
  have hba : three w.heap.size st (.slice aa fs.length ac) ab W2 := three.kept (by rw [← hW1]; exact heap_alloc_new w _) hk12 trivial
  have hbm : four W1.heap.size m p (.slice ma gs.length mc) mb W2 := by rw [← hW2]; exact heap_alloc_new W1 _
  have hw1 : weightN fs ≤ 2147483647 := by unfold toldNn at hsz; omega
  have hw2 : weightN gs ≤ 2147483647 := by unfold sizeN at hsz; omega
  have hl1 : Sml ab := by unfold toldNn at hsz; unfold Sml; omega
  have hl2 : Sml m ∧ Sml p ∧ Sml mb := by unfold sizeN at hsz; unfold Sml; omega
  have TO := Lib.hid (fun W (hk : Kept (fun _ => True) w W) => ltold_any st ab fs (.slice aa fs.length ac) W (hva.kept hk fun _ _ _ => trivial) (by omega))
  have SZ := Lib.hid (fun W (hk : Kept (fun _ => True) w W) => size_any m p mb gs (.slice ma gs.length mc) W (hvm.kept hk fun _ _ _ => trivial) (by omega))
  obtain ⟨t, ht⟩ : ∃ t, toldNn fs ab = t := ⟨_, rfl⟩
  obtain ⟨z, hz⟩ : ∃ z, sizeN m p gs mb = z := ⟨_, rfl⟩
  rw [ht] at hsz TO
  rw [hz] at hsz SZ
  have hml : (⟨more.toArray⟩ : ByteArray).size = more.length := size_mk more
  have g1 := Lib.hid (addZ_rng (n := (t : Int)) (m := (z : Int)) (by omega) (by omega))
  have g2 := Lib.hid (addZ_rng (n := (more.length : Int)) (m := (more.length : Int)) (by omega) (by omega))
  have g3 := Lib.hid (addZ_rng (n := addZ (t : Int) (z : Int)) (m := addZ (more.length : Int) (more.length : Int)) g1.out.1 g2.out.1)
  have hq : ¬ (2147483647 : Int) < addZ (addZ (t : Int) (z : Int)) (addZ (addZ (t : Int) (z : Int)) (addZ (more.length : Int) (more.length : Int))) := by
    rw [addZ_of (n := (t : Int)) (by omega), addZ_of (n := (more.length : Int)) (by omega), addZ_of (n := (t : Int) + (z : Int)) (m := (more.length : Int) + (more.length : Int)) (by omega), addZ_of (by omega)]
    omega
  have HZ := Lib.hid hsz
  have hmore : more.length ≤ 2147483647 := by omega
  have ht2 : t ≤ 2147483647 := by omega
  have hz2 : z ≤ 2147483647 := by omega
  have HK2 := Lib.hid (hk1.tr hk12)
  have HBA := Lib.hid hba
  have HBM := Lib.hid hbm
  have HEW := Lib.hid hE
  have HVA := Lib.hid hva
  have HVM := Lib.hid hvm
  have HSW : Hid (∀ W, Kept (fun _ => True) W2 W → AM w.heap.size W1.heap.size st (.slice aa fs.length ac) ab m p (.slice ma gs.length mc) mb W) := Lib.hid fun W hk => AM.of (HBA.out.kept hk trivial) (HBM.out.kept hk trivial)
  have HKD : Hid (Kept (fun _ => True) W2 W2.drew) := Lib.hid (Kept.refl _ _).drew
  have hss := HSW.out _ HKD.out
  clear hE hba hbm hva hvm hk1 hk12 hz1 ht hz hsz
  go_enter Tryz.func7, Tryz.ntmps7
  go_wp2_with fail
  go_region_held3 (fun wz => AM w.heap.size W1.heap.size st (.slice aa fs.length ac) ab m p (.slice ma gs.length mc) mb wz) (first | exact hss | go_keep)
    (first
      | (go_at_call 23; refine (TO.out _ (HK2.out.tr HKD.out)).mono ?_; rintro e w1 ⟨rfl, hk1⟩; have HKD := Lib.hid (HKD.out.tr hk1); have hss := HSW.out _ HKD.out; clear hk1)
      | (go_at_call 20; refine (SZ.out _ (HK2.out.tr HKD.out)).mono ?_; rintro e w1 ⟨rfl, hk1⟩; have HKD := Lib.hid (HKD.out.tr hk1); have hss := HSW.out _ HKD.out; clear hk1)
      | (go_at_call 8; refine (add_z _ _ _ (by first | omega | exact ⟨g1.out.1, by have := g1.out.2.1; omega⟩ | exact ⟨g2.out.1, by have := g2.out.2.1; omega⟩ | exact ⟨g3.out.1, by have := g3.out.2.1; omega⟩) (by first | omega | exact ⟨g1.out.1, by have := g1.out.2.1; omega⟩ | exact ⟨g2.out.1, by have := g2.out.2.1; omega⟩ | exact ⟨g3.out.1, by have := g3.out.2.1; omega⟩)).mono ?_; rintro e w1 ⟨rfl, rfl⟩))
  have HK3 := Lib.hid (HK2.out.tr HKD.out)
  have AW := Lib.hid (awake_any w1 ((HEW.out.kept HK3.out fun _ _ => trivial).le HK3.out.size))
  clear hss HSW TO SZ HZ ht2 hz2
  go_wp2_with fail
  refine AW.out.mono ?_
  rintro e w2 ⟨rfl, hk2⟩
  have HK4 := Lib.hid (HK3.out.tr hk2)
  have HBA4 := Lib.hid (HBA.out.kept (HKD.out.tr hk2) trivial)
  have HBM4 := Lib.hid (HBM.out.kept (HKD.out.tr hk2) trivial)
  have AN := Lib.hid (answer_any st ab fs (.slice aa fs.length ac) w2 hst (HVA.out.kept HK4.out fun _ _ _ => trivial) (smlF_of hw1) hl1)
  obtain ⟨c0, c1, c2⟩ := HBA4.out.facts
  clear hk2 g1 g2 g3 hq
  go_wp2_with fail
  refine AN.out.mono ?_
  rintro e w3 ⟨⟨sx, hs, bx, hv, rfl, n1, n2, n3, n4⟩, hk3⟩
  obtain ⟨oa, oc, rfl⟩ := rowf_slice n1
  have hrx := rowf_of n1
  obtain ⟨W4, hW4⟩ : ∃ W4, w3.alloc (.cells #[.int .i64 sx, .slice oa hs.length oc, S bx] 56) = W4 := ⟨_, rfl⟩
  have hk34 : Kept (fun _ => True) w3 W4 := by rw [← hW4]; exact (Kept.refl _ w3).alloc _
  have hbx : three w3.heap.size sx (.slice oa hs.length oc) bx W4 := by rw [← hW4]; exact heap_alloc_new w3 _
  have HK5 := Lib.hid ((HK4.out.tr hk3).tr hk34)
  have HBX := Lib.hid hbx
  have HRX := Lib.hid (hrx.kept hk34 fun _ _ _ => trivial)
  have HBM5 := Lib.hid (HBM4.out.kept (hk3.tr hk34) trivial)
  have HN := Lib.hid (And.intro n2 (And.intro n3 n4))
  have PO := printA_ok (st := sx) n4 n2 n3
  have hsm : SmlF hs ∧ Sml bx := restOk_sml n4
  have PA := Lib.hid (printA_any ⟨sx, hs, bx⟩ (.slice oa hs.length oc) W4 ((HEW.out.kept HK5.out fun _ _ => trivial).le HK5.out.size) HRX.out hsm.1 hsm.2)
  have AP := Lib.hid (ans_pieces (st := sx) n4 n2 n3)
  obtain ⟨T, hT⟩ : ∃ T, (printA ⟨sx, hs, bx⟩).1 = T := ⟨_, rfl⟩
  rw [show printA ⟨sx, hs, bx⟩ = (T, 0) from Prod.ext hT PO.1] at PA AP PO
  replace PO : T.length ≤ 41000 := PO.2
  replace AP : Hid (1 ≤ T.length ∧ (∀ more, parseA (T ++ more) = (⟨sx, hs, bx⟩, more, 0)) ∧ ∀ k, k < T.length → parseA (T.take k) = (⟨0, [], []⟩, [], 56)) := AP
  replace PA : Hid (Calls Tryz.prog 32 #[.agg #[.int .i64 sx, .slice oa hs.length oc, S bx]] W4 (PrintQ (T, 0) W4)) := PA
  obtain ⟨d0, d1, d2⟩ := hbx.facts
  clear hk3 n1 n2 n3 n4 hrx hk34 hbx hsm hT c0 c1 c2
  go_wp2_with fail
  refine PA.out.mono ?_
  rintro e w5 ⟨rfl, hk5⟩
  have HK6 := Lib.hid (HK5.out.tr hk5)
  have CT := run_cat (P := Tryz.prog) T more (T ++ more) rfl (by omega)
  have PZ := Lib.hid (ParseAnswer_any (T ++ more) w5 ((HEW.out.kept HK6.out fun _ _ => trivial).le HK6.out.size) (by rw [List.length_append]; omega))
  have HBX6 := Lib.hid (HBX.out.kept hk5 trivial)
  have HRX6 := Lib.hid (HRX.out.kept hk5 fun _ _ _ => trivial)
  have HBM6 := Lib.hid (HBM5.out.kept hk5 trivial)
  have hTz : (⟨T.toArray⟩ : ByteArray).size = T.length := size_mk T
  clear hk5 hW4 d0 d1 d2
  go_wp2_with fail
  refine PZ.out.mono ?_
  rintro e w6 ⟨hy, rfl, n1, -, hk6⟩
  rw [AP.out.2.1 more] at n1 ⊢
  simp only at n1 ⊢
  have hry := rowf_of n1
  obtain ⟨ya, yc, rfl⟩ := rowf_slice n1
  obtain ⟨W6, hW6⟩ : ∃ W6, w6.alloc (.cells #[.int .i64 sx, .slice ya hs.length yc, S bx] 56) = W6 := ⟨_, rfl⟩
  have hk66 : Kept (fun _ => True) w6 W6 := by rw [← hW6]; exact (Kept.refl _ w6).alloc _
  have hby : three w6.heap.size sx (.slice ya hs.length yc) bx W6 := by rw [← hW6]; exact heap_alloc_new w6 _
  have HK7 := Lib.hid ((HK6.out.tr hk6).tr hk66)
  have HBY := Lib.hid hby
  have HRY := Lib.hid (hry.kept hk66 fun _ _ _ => trivial)
  have HBX7 := Lib.hid (HBX6.out.kept (hk6.tr hk66) trivial)
  have HRX7 := Lib.hid (HRX6.out.kept (hk6.tr hk66) fun _ _ _ => trivial)
  have HBM7 := Lib.hid (HBM6.out.kept (hk6.tr hk66) trivial)
  have hT1 : 1 ≤ T.length := AP.out.1
  have PK := Lib.hid (pick_is pl T.length W6 hpl ⟨hT1, by omega⟩)
  have hkl := pickZ_lt pl T.length hT1
  obtain ⟨k, hk⟩ : ∃ k, pickZ pl T.length = k := ⟨_, rfl⟩
  rw [hk] at PK hkl
  have EX : (⟨T.toArray⟩ : ByteArray).extract 0 k = ⟨(T.take k).toArray⟩ := by rw [extract_ba]; simp
  have PZ2 := Lib.hid (ParseAnswer_any (T.take k) W6 ((HEW.out.kept HK7.out fun _ _ => trivial).le HK7.out.size) (by rw [List.length_take]; omega))
  have HP2 := Lib.hid (AP.out.2.2 k hkl)
  clear hk6 n1 hry hk66 hby hk CT PZ PA
  go_wp2_with fail
  refine PK.out.mono ?_
  rintro e w7 ⟨rfl, rfl⟩
  go_wp2_with fail
  refine PZ2.out.mono ?_
  rintro e w8 ⟨hz8, rfl, n1, -, hk8⟩
  rw [HP2.out] at n1 ⊢
  simp only at n1 ⊢
  obtain ⟨za, zc, rfl⟩ := rowf_slice n1
  obtain ⟨W8, hW8⟩ : ∃ W8, w8.alloc (.cells #[.int .i64 0, .slice za 0 zc, S []] 56) = W8 := ⟨_, rfl⟩
  have hk88 : Kept (fun _ => True) w8 W8 := by rw [← hW8]; exact (Kept.refl _ w8).alloc _
  have hb8 : three w8.heap.size 0 (.slice za 0 zc) [] W8 := by rw [← hW8]; exact heap_alloc_new w8 _
  have hid8 : W8.setCell ⟨w8.heap.size, 2, none⟩ (.string ⟨#[]⟩) = W8 := setCell_id hb8 rfl
  have hfz8 := frozen_row hb8 2
  have hce8 : W8.cell? ⟨w8.heap.size, 2, none⟩ = some (.string ⟨#[]⟩) := hb8.facts.2.2
  obtain ⟨c0, c1, c2⟩ := (HBX7.out.kept (hk8.tr hk88) trivial).facts
  obtain ⟨d0, d1, d2⟩ := (HBY.out.kept (hk8.tr hk88) trivial).facts
  have HK9 := Lib.hid ((HK7.out.tr hk8).tr hk88)
  have HBM9 := Lib.hid (HBM7.out.kept (hk8.tr hk88) trivial)
  have SA := Lib.hid (sameAnswer_any ⟨sx, hs, bx⟩ ⟨sx, hs, bx⟩ _ _ W8 (HRX7.out.kept (hk8.tr hk88) fun _ _ _ => trivial) (HRY.out.kept (hk8.tr hk88) fun _ _ _ => trivial) (restOk_sml HN.out.2.2).1.1 (restOk_sml HN.out.2.2).1.1)
  clear n1 hk8 hk88 hb8
  go_wp2_with fail
  refine SA.out.mono ?_
  rintro e w9 ⟨⟨q, rfl, hq⟩, hk9⟩
  obtain rfl : q = true := hq.2 (by first | rfl | trivial)
  have HK10 := Lib.hid (HK9.out.tr hk9)
  have HBM10 := Lib.hid (HBM9.out.kept hk9 trivial)
  have MS := Lib.hid (message_any m p mb gs (.slice ma gs.length mc) w9 (HVM.out.kept HK10.out fun _ _ _ => trivial) (smlF_of hw2) hl2.1 hl2.2.1 hl2.2.2)
  clear c0 c1 c2 d0 d1 d2 hid8 hfz8 hce8 hk9 hq hW8 hW6
  obtain ⟨c0, c1, c2, c3⟩ := HBM10.out.facts
  go_wp2_with fail
  refine MS.out.mono ?_
  rintro e w10 ⟨⟨zm, zv, rfl, n1, n2, n3, n4⟩, hk10⟩
  obtain ⟨xm, xp, zs, xb⟩ := zm
  simp only at n1 n2 n3 n4 ⊢
  obtain ⟨ya, yc, rfl⟩ := rowf_slice n1
  have hrz := rowf_of n1
  obtain ⟨WA, hWA⟩ : ∃ WA, w10.alloc (.cells #[S xm, S xp, .slice ya zs.length yc, S xb] 50) = WA := ⟨_, rfl⟩
  have hkA : Kept (fun _ => True) w10 WA := by rw [← hWA]; exact (Kept.refl _ w10).alloc _
  have hbz : four w10.heap.size xm xp (.slice ya zs.length yc) xb WA := by rw [← hWA]; exact heap_alloc_new w10 _
  have HK11 := Lib.hid ((HK10.out.tr hk10).tr hkA)
  have HBZ := Lib.hid hbz
  have HRZ : Hid (RowF (· < WA.heap.size) WA (.slice ya zs.length yc) zs) := Lib.hid ((hrz.kept hkA fun _ _ _ => trivial).mono fun b hb _ => hb)
  have PO2 := printM_ok (x := ⟨xm, xp, zs, xb⟩) n4 n2 n3
  have hsm : SmlF zs ∧ Sml xb := restOk_sml n4
  have hsm2 : Sml xm ∧ Sml xp := ⟨by have := method_len n2; unfold Sml; omega, by have := path_len n3; unfold Sml; omega⟩
  have hs32 : Hid (zs.length ≤ 32) := Lib.hid (restOk_len n4)
  have PM := Lib.hid (printM_any ⟨xm, xp, zs, xb⟩ (.slice ya zs.length yc) WA ((HEW.out.kept HK11.out fun _ _ => trivial).le HK11.out.size) (HRZ.out.mono fun _ _ _ => trivial) hsm.1 hsm2.1 hsm2.2 hsm.2)
  obtain ⟨wm, hm1, hm2, hm3, hT1', -, hmk⟩ := msg_pieces (x := ⟨xm, xp, zs, xb⟩) n4 n2 n3
  have HMSG : Hid (msgOf wm = ⟨xm, xp, zs, xb⟩) := Lib.hid (by unfold msgOf; rw [hm1, hm2, hm3]; rfl)
  obtain ⟨T2, hT2⟩ : ∃ T2, (printM ⟨xm, xp, zs, xb⟩).1 = T2 := ⟨_, rfl⟩
  have hT2' : printM ⟨xm, xp, zs, xb⟩ = (T2, 0) := Prod.ext hT2 PO2.1
  rw [hT2'] at PM
  rw [hT2] at hmk hT1' PO2
  replace PO2 : T2.length ≤ 41000 := PO2.2
  replace PM : Hid (Calls Tryz.prog 22 #[.agg #[S xm, S xp, .slice ya zs.length yc, S xb]] WA (PrintQ (T2, 0) WA)) := PM
  clear c0 c1 c2 c3
  obtain ⟨c0, c1, c2, c3⟩ := hbz.facts
  clear n1 n2 n3 n4 hk10 hkA hbz hrz hsm hsm2 hm1 hm2 hm3 hT2 hT2'
  go_wp2_with fail
  refine PM.out.mono ?_
  rintro e w11 ⟨rfl, hk11⟩
  have HK12 := Lib.hid (HK11.out.tr hk11)
  have HS11 := Lib.hid hk11.size
  have HBZ12 := Lib.hid (HBZ.out.kept hk11 trivial)
  have HRZ12 := Lib.hid (HRZ.out.kept hk11 fun _ _ _ => trivial)
  have NR := Lib.hid (NewReader_any w11)
  clear c0 c1 c2 c3 hk11 hWA
  go_wp2_with fail
  refine NR.out.mono ?_
  rintro e w12 ⟨pr, fp, rfl, hr4, hf4, hk12⟩
  have HK13 := Lib.hid (HK12.out.tr hk12)
  have HE13 := Lib.hid (HEW.out.kept HK13.out fun _ _ => trivial)
  have HF13 : Hid (∀ b ∈ fp, w11.heap.size ≤ b) := Lib.hid hf4
  have HRR := Lib.hid hr4
  have HS12 := Lib.hid hk12.size
  have HBZ13 := Lib.hid (HBZ12.out.kept hk12 trivial)
  have HRZ13 := Lib.hid (HRZ12.out.kept hk12 fun _ _ _ => trivial)
  have hT1 : 1 ≤ T2.length := hT1'
  have PK2 := Lib.hid (pick_is pl T2.length w12 hpl ⟨hT1, by omega⟩)
  have hkl2 := pickZ_lt pl T2.length hT1
  obtain ⟨k2, hk2⟩ : ∃ k, pickZ pl T2.length = k := ⟨_, rfl⟩
  rw [hk2] at PK2 hkl2
  obtain ⟨rk, hr1, hr2, hr3⟩ := hmk k2 hkl2
  have HRI := Lib.hid (feedP_inv (T2.take k2) (begin' false) (RI.begin false) rfl (by rw [hr1]))
  rw [hr1] at HRI
  have HR1 := Lib.hid hr1
  have HR2 := Lib.hid hr2
  have HR3 := Lib.hid hr3
  have EX1 : (⟨T2.toArray⟩ : ByteArray).extract 0 k2 = ⟨(T2.take k2).toArray⟩ := by rw [extract_ba]; simp
  have EX2 : (⟨T2.toArray⟩ : ByteArray).extract k2 T2.length = ⟨(T2.drop k2).toArray⟩ := by rw [extract_ba, List.take_of_length_le (by rw [List.length_drop]; omega)]
  have hTz2 : (⟨T2.toArray⟩ : ByteArray).size = T2.length := size_mk T2
  have FE1 := Lib.hid (Feed_any pr (begin' false) (T2.take k2) fp w12 w.heap.size HE13.out HRR.out (RI.begin false) rfl (by simp only [begin', List.length_take]; omega) ⟨fun b hb => by have := HF13.out b hb; have := HK12.out.size; omega, HK13.out.size⟩)
  clear hk12 hf4 hr4 hmk hr1 hr2 hr3 hk2 hT1'
  go_wp2_with fail
  refine PK2.out.mono ?_
  rintro e w13 ⟨rfl, rfl⟩
  go_wp2_with fail
  refine FE1.out.mono ?_
  rintro e w14 hq
  obtain ⟨a5, k5, fp5, rfl, -, -, hf5, hr5, -, hk5⟩ := hq.ok HR1.out
  have HK14 : Hid (Kept (· < w11.heap.size) w13 w14) := Lib.hid (hk5.mono fun i hi ho hm => by have := HF13.out i hm; omega)
  have WT : Hid (Calls Tryz.prog 17 #[.pointer (some ⟨pr, 0, none⟩)] w14 fun e w' => e = .returned (.int .i64 k2) ∧ Kept (fun _ => True) w14 w') := Lib.hid (by
    have h := Waiting_any pr rk fp5 w14 hr5
    rw [HR2.out] at h
    exact h)
  have HR5 := Lib.hid hr5
  have HF5 : Hid (∀ b ∈ fp5, w11.heap.size ≤ b) := Lib.hid fun b hb => (hf5 b hb).elim (HF13.out b) fun h => by have := HS12.out; omega
  have HE14 := Lib.hid (HE13.out.kept HK14.out fun b hb => by have := HK12.out.size; omega)
  have HRZ14 := Lib.hid (HRZ13.out.kept HK14.out fun b hb ho => by have := HS11.out; omega)
  have HBZ14 := Lib.hid (HBZ13.out.kept HK14.out (by have := HBZ12.out.lt; omega))
  clear hf5 hk5 hr5 hq
  go_wp2_with fail
  refine WT.out.mono ?_
  rintro e w15 ⟨rfl, hk6⟩
  have HR6 := Lib.hid (HR5.out.kept hk6)
  have HK15 : Hid (Kept (· < w11.heap.size) w13 w15) := Lib.hid (HK14.out.trans hk6 fun _ _ _ => trivial)
  have HE15 := Lib.hid (HE14.out.kept hk6 fun _ _ => trivial)
  have HRZ15 := Lib.hid (HRZ14.out.kept hk6 fun _ _ _ => trivial)
  have HBZ15 := Lib.hid (HBZ14.out.kept hk6 trivial)
  have FE2 := Lib.hid (Feed_any pr rk (T2.drop k2) fp5 w15 w.heap.size HE15.out HR6.out HRI.out.1 HRI.out.2 (by rw [HR2.out, List.length_drop]; omega) ⟨fun b hb => by have := HF5.out b hb; have := HK12.out.size; omega, by have := HK13.out.size; have := HK15.out.size; omega⟩)
  clear hk6
  go_wp2_with fail
  refine FE2.out.mono ?_
  rintro e w16 hq
  obtain ⟨a7, k7, fp7, rfl, hrm7, hsm7, hf7, hr7, -, hk7⟩ := hq.ok HR3.out
  rw [show [wm].map msgOf = [⟨xm, xp, zs, xb⟩] by simp [HMSG.out]] at hrm7 hsm7
  have HK16 : Hid (Kept (· < w11.heap.size) w13 w16) := Lib.hid (HK15.out.trans hk7 fun i hi ho hm => by have := HF5.out i hm; omega)
  have HR7 := Lib.hid hr7
  have HM7 := Lib.hid hrm7
  have HBZ16 := Lib.hid (HBZ15.out.kept hk7 fun hm => by have := HF5.out _ hm; have := HBZ12.out.lt; omega)
  have HRZ16 := Lib.hid (HRZ15.out.kept hk7 fun b hb ho hm => by have := HF5.out b hm; have := HS11.out; omega)
  obtain ⟨c0, c1, c2, c3⟩ := HBZ16.out.facts
  obtain ⟨WB, hWB⟩ : ∃ WB, w16.alloc (.cells #[S xm, S xp, .slice ya zs.length yc, S xb] 50) = WB := ⟨_, rfl⟩
  have hk78 : Kept (fun _ => True) w16 WB := by rw [← hWB]; exact (Kept.refl _ w16).alloc _
  have hbox8 : four w16.heap.size xm xp (.slice ya zs.length yc) xb WB := by rw [← hWB]; exact heap_alloc_new w16 _
  have ME := Lib.hid (messages_any [⟨xm, xp, zs, xb⟩] [⟨xm, xp, zs, xb⟩] _ _ WB (HM7.out.kept hk78) (rowM_one (x := ⟨xm, xp, zs, xb⟩) (cap := 1) hbox8 ((HRZ16.out.kept hk78 fun _ _ _ => trivial).mono fun _ _ _ => trivial) (Nat.le_refl _)) ⟨by simp, fun x hx => by have := hsm7 x hx; omega⟩ ⟨by simp, fun x hx => by have := hsm7 x hx; omega⟩)
  have HK78 := Lib.hid hk78
  clear hf7 hk7 hr7 hq hrm7 hsm7 hk78 hbox8
  go_wp2_with fail
  refine ME.out.mono ?_
  rintro e w17 ⟨⟨q, rfl, hq⟩, hk9⟩
  obtain rfl : q = true := hq.2 (by first | rfl | trivial)
  have hk79 := HK78.out.tr hk9
  have HK17 : Hid (Kept (· < w11.heap.size) w13 w17) := Lib.hid (HK16.out.trans hk79 fun _ _ _ => trivial)
  have WT2 : Hid (Calls Tryz.prog 17 #[.pointer (some ⟨pr, 0, none⟩)] w17 fun e w' => e = .returned (.int .i64 0) ∧ Kept (fun _ => True) w17 w') := Lib.hid (Waiting_any pr (begin' false) fp7 w17 (HR7.out.kept hk79))
  clear hk9 hk79 hq hWB c0 c1 c2 c3
  go_wp2_with fail
  refine WT2.out.mono ?_
  rintro e w18 ⟨rfl, hk18⟩
  have HKZ : Hid (Kept (fun _ => True) w w18) := Lib.hid (HK13.out.trans (HK17.out.trans hk18 fun _ _ _ => trivial) fun i hi _ => by have := HK12.out.size; omega)
  clear hk18
  go_wp2
  go_ret
  exact ⟨rfl, HKZ.out⟩
end Go.Proofs.YtaomhkgdbobpkaaGreatDoor
