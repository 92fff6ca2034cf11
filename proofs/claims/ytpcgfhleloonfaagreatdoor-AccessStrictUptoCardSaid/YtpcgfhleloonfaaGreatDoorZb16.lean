/- What the proof of this law needs, part 16: walks of the program's functions and plain laws (texts AcL7, AcRow, AcM1, AcM2). -/
import Derived.Test.YtpcgfhleloonfaaGreatDoorZb15
import Derived.Test.YtpcgfhleloonfaaGreatDoorCards
import Derived.Test.YtpcgfhleloonfaaGreatDoorTie
import Derived.ProofKit
import Derived.OpenShut
import Derived.Deep.DeepHandedRow
import Derived.Lib.LaidTab
import Derived.Lib.LaidU8T
import Derived.PinnedBridge
import Derived.Lay
import Derived.LaidLaws
import Derived.Deep.Slices
import Derived.Deep.Fields
import Derived.ChangeSame
import Derived.Carry
namespace Go.Proofs.YtpcgfhleloonfaaGreatDoor
open Go.RowKit Jo Ac
def isClaim : Rel := fun ok v w => ∃ g, v = claimsK.v (.slice (some ⟨g, 0, none⟩) 1 1) ∧ ok g ∧ RowW g 9 [S [114, 101, 97, 100]] w
theorem isClaim_last : Last1 isClaim := ⟨fun _ok _v _w _w' ⟨g, h1, h2, h3⟩ hk => ⟨g, h1, h2, (hk.block g (Array.getElem?_eq_some_iff.1 h3).1 h2).trans h3⟩, fun _ok _ok2 _v _w ⟨g, h1, h2, h3⟩ hm => ⟨g, h1, hm g (Array.getElem?_eq_some_iff.1 h3).1 h2, h3⟩⟩
theorem sl_one {g : Nat} {x : List UInt8} {w : World} (h : RowW g 9 [S x] w) : SL w (.slice (some ⟨g, 0, none⟩) 1 1) [x] := ⟨some ⟨g, 0, none⟩, 1, rfl, Nat.le_refl _, fun j s hj => ⟨g, 0, rfl, h.lt, by
  have hj0 : j = 0 := by have := (List.getElem?_eq_some_iff.1 hj).1; simp at this; exact this
  subst hj0
  obtain rfl := Option.some.inj (show some x = some s from hj)
  exact h.at' 0 _ rfl⟩⟩
theorem kl_one {g : Nat} {k : Ky} {w : World} (h : RowW g 23 k.vs w) : KL w (.slice (some ⟨g, 0, none⟩) 1 1) [k] := ⟨some ⟨g, 0, none⟩, 1, rfl, fun j s hj => by
  have hj0 : j = 0 := by have := (List.getElem?_eq_some_iff.1 hj).1; simp at this; exact this
  subst hj0
  obtain rfl := Option.some.inj (show some k = some s from hj)
  exact ⟨g, 0, rfl, h.lt, h.at' 0 _ rfl, h.at' 1 _ rfl, h.at' 2 _ rfl, h.at' 3 _ rfl⟩⟩
theorem same_claimsK : sameCl claimsK claimsK = true := by decide +kernel
section
variable {P : Program} {ops : Array Oper} {Q : Exit → Act → World → Prop} {ds : List (Option Nat)} {base : Act} {W : World} {R : Nat → (Nat → Prop) → Value → World → Prop} {tgs : List Tgt} {L : Nat → Bool} {vs : Nat → Value} {a : Act} {w w' : World} {i : Nat} {o : Oper} {v : Value}
theorem flow_call0 (p : Pre ops ds base L vs a i o) (hg : o.guard = none) (h : WIs W R tgs L vs w) (hR : Lasts R) (hT : ∀ t ∈ tgs, t.al ≠ some i ∧ t.st ≠ i ∧ (L t.st = true → t.src ≠ i)) {f : FuncId} {K : Ending → World → Prop} (ho : o.op = .call { callee := .value (.func f), args := #[], argTypes := #[] }) (hcf : ∀ w, (callFunc f #[]).run P w = .ok (.enter f #[]) w) (hc : Calls P f #[] w K)
    (hv : ∀ e w', K e w' → ∃ v, e = .returned v ∧ Kept (fun _ => True) w w' ∧ ∀ ok : Nat → Prop, (∀ b, w.heap.size ≤ b → ok b) → R i ok v w') : FG P ops Q W R tgs L vs a i o w := by
  refine flow_call p hg h hR hT ?_ hc hv
  have hf : a.eval (.func f) = .func (.func f) #[] #[] := rfl
  simp [execOp, ho, resolve, invoke, hf, Deferred.ofValue, hcf]
theorem flow_call0W (p : Pre ops ds base L vs a i o) (hw : Region.wanted o (yielded ops a.tmps) = true) (h : WIs W R tgs L vs w) (hR : Lasts R) (hT : ∀ t ∈ tgs, t.al ≠ some i ∧ t.st ≠ i ∧ (L t.st = true → t.src ≠ i)) {f : FuncId} {K : Ending → World → Prop} (ho : o.op = .call { callee := .value (.func f), args := #[], argTypes := #[] }) (hcf : ∀ w, (callFunc f #[]).run P w = .ok (.enter f #[]) w) (hc : Calls P f #[] w K)
    (hv : ∀ e w', K e w' → ∃ v, e = .returned v ∧ Kept (fun _ => True) w w' ∧ ∀ ok : Nat → Prop, (∀ b, w.heap.size ≤ b → ok b) → R i ok v w') : FG P ops Q W R tgs L vs a i o w := by
  refine wpOp_wanted p.isAt hw ?_
  have hrun : (execOp a.eval o).run P w = .ok (.enter f #[]) w := by
    have hf : a.eval (.func f) = .func (.func f) #[] #[] := rfl
    simp [execOp, ho, resolve, invoke, hf, Deferred.ofValue, hcf]
  unfold Oper.wp
  rw [hrun, Oper.upon_enter]
  refine hc.mono fun e w' hK => ?_
  obtain ⟨v, rfl, hk, hv⟩ := hv e w' hK
  exact ⟨v, rfl, h.value hR p.fresh hT hk hv⟩
end
/-- What is known of the document's example. -/
structure Exm (T : List UInt8) : Prop where
  sign : sgP keyK homeB claimsK = (T, 0)
  len : T.length = 223
  foot : (⟨T.toArray⟩ : ByteArray).extract 220 223 = ⟨#[120, 45, 119]⟩
  read : readT homeB T = (3, claimsK, 0)
  good : verP [keyK] homeB T 39 = (claimsK, 0)
  late : verP [keyK] homeB T 40 = (zeroCl, 233)
theorem accExtract (s : List UInt8) (j k : Nat) : (⟨s.toArray⟩ : ByteArray).extract j k = ⟨((s.drop j).take (k - j)).toArray⟩ := by
  have h := extract_mk s j k
  injection h
theorem exm : Exm exTok := by
  have h0 : (sgP keyK homeB claimsK).2 = 0 := ex_sign.1
  have ht := sign_tok h0
  refine ⟨Prod.ext rfl h0, ex_sign.2.1, ?_, ?_, ?_, ?_⟩
  · rw [accExtract, ex_sign.2.2]
    rfl
  · unfold readT
    rw [show exTok = (sgP keyK homeB claimsK).1 from rfl, ht]
    rfl
  · have := sign_ver (now := 39) (keys := [keyK]) (i := 0) h0 rfl rfl
    exact this
  · have := sign_ver (now := 40) (keys := [keyK]) (i := 0) h0 rfl rfl
    exact this
theorem cur_ex : curP [keyK] 50 = some keyK := rfl
theorem claimsK_ok : ClOk claimsK := ⟨by decide, by decide, by decide, by decide, by decide, by decide, by decide, by decide⟩
def relK (sv : Value) : List Rel := [isV (claimsK.v sv), isClaim, isV (.bool true), isV (.bool true)]
theorem relK_last (sv : Value) : Lasts (relOf (relK sv)) := lasts_of _ (by
  intro r hr
  simp only [relK, List.mem_cons, List.not_mem_nil, or_false] at hr
  obtain rfl | rfl | rfl | rfl := hr <;> first | exact isV_last _ | exact isRow_last _ _ _ | exact isClaim_last)
def relL (T : List UInt8) : List Rel := [isV (.int .i64 0), isV (.bool true), isV (.bool true), isV (S T), isV (.int .i64 223), isV (.bool true), isV (.bool true), isV (.bool true), isV (S T), isV (S T), isV (.int .i64 223), isV (.int .i64 220), isV (S [120, 45, 119]), isV (.bool true), isV (.bool true), isV (.bool true), isV (.int .i64 0), isV (.bool true), isV (.bool true), isV (.bool true), isV (.int .i64 3), isV (.bool true), isV (.bool true), isV (.bool true), isV (.bool true), isV (.bool true), isV (.bool true), isV (.bool true), isV (.bool true), isV (.bool true), isV (.int .i64 0), isV (.bool true), isV (.bool true), isV (.bool true), isV (.int .i64 233), isV (.bool true), isV (.bool true), isV (.bool true), isV (.bool true), isV (.bool true), isV (.bool true), isV keyK.v, isV keyK.v, isV (.bool true), isV (.bool true), isV (.bool true)]
theorem relL_last (T : List UInt8) : Lasts (relOf (relL T)) := lasts_of _ (by
  intro r hr
  simp only [relL, List.mem_cons, List.not_mem_nil, or_false] at hr
  obtain rfl | rfl | rfl | rfl | rfl | rfl | rfl | rfl | rfl | rfl | rfl | rfl | rfl | rfl | rfl | rfl | rfl | rfl | rfl | rfl | rfl | rfl | rfl | rfl | rfl | rfl | rfl | rfl | rfl | rfl | rfl | rfl | rfl | rfl | rfl | rfl | rfl | rfl | rfl | rfl | rfl | rfl | rfl | rfl | rfl | rfl := hr <;> first | exact isV_last _ | exact isRow_last _ _ _)
set_option maxRecDepth 100000 in
set_option maxHeartbeats 8000000 in
theorem known_any (w : World) (hE : AE w) : Calls Tryz.prog 7 #[] w fun e w' => e = .returned (.bool true) ∧ Kept (fun _ => True) w w' := by
  obtain ⟨T, hT⟩ : ∃ T, exTok = T := ⟨_, rfl⟩
  have HX0 : Hid (Exm T) := Lib.hid (by rw [← hT]; exact exm)
  have HTZ : Hid ((⟨T.toArray⟩ : ByteArray).size = 223) := Lib.hid (by rw [size_mk, HX0.out.len])
  have HX : Hid ((⟨T.toArray⟩ : ByteArray).extract 220 223 = ⟨#[120, 45, 119]⟩) := Lib.hid HX0.out.foot
  have HE := Lib.hid hE
  clear hT hE
  go_enter Tryz.func7, Tryz.ntmps7
  go_wp2_with fail
  refine (accKey_any _).mono ?_
  rintro e w1 ⟨rfl, hk1⟩
  have HK1 := Lib.hid hk1
  clear hk1
  go_wp2_with fail
  refine (accClaims_any _).mono ?_
  rintro e w2 ⟨⟨g2, rfl, hg2, hr2⟩, hk2⟩
  have HK2 := Lib.hid (HK1.out.tr hk2)
  have CS : Hid (Calls Tryz.prog 10 #[keyK.v, S [104, 111, 109, 101], claimsK.v (.slice (some ⟨g2, 0, none⟩) 1 1)] w2 fun e w' => e = .returned (.tuple #[S T, .int .i64 0]) ∧ Kept (fun _ => True) w2 w') := Lib.hid (by
    have := Sign_any keyK homeB claimsK (.slice (some ⟨g2, 0, none⟩) 1 1) w2 (HE.out.kept HK2.out) claimsK_ok (by decide) (by decide) (sl_one hr2)
    rw [HX0.out.sign] at this
    exact this)
  clear hk2 hg2 hr2
  go_wp2_with fail
  refine CS.out.mono ?_
  rintro e w3 ⟨rfl, hk3⟩
  have HK3 := Lib.hid (HK2.out.tr hk3)
  have CR : Hid (Calls Tryz.prog 13 #[S [104, 111, 109, 101], S T] w3 fun e w' => (∃ sa sn sc, e = .returned (.tuple #[.agg (claimsK.vs (.slice sa sn sc)).toArray, .int .i64 3, .int .i64 0]) ∧ OwnS w3.heap.size (.slice sa sn sc) claimsK.scope w') ∧ Kept (fun _ => True) w3 w') := Lib.hid (by
    have := Read_any homeB T w3 (HE.out.kept HK3.out) (by decide) (by rw [HX0.out.len]; decide)
    unfold ReadQ at this
    rw [HX0.out.read] at this
    exact this)
  clear hk3 CS
  go_wp2_with fail
  refine CR.out.mono ?_
  rintro e w4 ⟨⟨sa, sn, sc, rfl, ho4⟩, hk4⟩
  obtain ⟨W4, hW4⟩ : ∃ W4, w4.alloc (.cells (claimsK.vs (.slice sa sn sc)).toArray 26) = W4 := ⟨_, rfl⟩
  have hk44 : Kept (fun _ => True) w4 W4 := by rw [← hW4]; exact (Kept.refl _ _).alloc _
  have RC4 : Hid (RowW w4.heap.size 26 (claimsK.vs (.slice sa sn sc)) W4) := Lib.hid (by rw [← hW4]; exact heap_alloc_new w4 _)
  have HK4 := Lib.hid ((HK3.out.tr hk4).tr hk44)
  have SC4 : Hid (SL W4 (.slice sa sn sc) claimsK.scope) := Lib.hid (ho4.sl.kept hk44)
  obtain ⟨b3, hb3⟩ : ∃ b, w4.heap.size = b := ⟨_, rfl⟩
  rw [hb3] at RC4
  clear hk4 hk44 ho4 CR
  go_wp2_with fail
  clear hW4 hb3
  refine (accKey_any _).mono ?_
  rintro e w5 ⟨rfl, hk5⟩
  obtain ⟨W5, hW5⟩ : ∃ W5, w5.alloc (.cells keyK.vs.toArray 23) = W5 := ⟨_, rfl⟩
  have hk55 : Kept (fun _ => True) w5 W5 := by rw [← hW5]; exact (Kept.refl _ _).alloc _
  have HK5 := Lib.hid ((HK4.out.tr hk5).tr hk55)
  have RC5 := Lib.hid (RC4.out.kept (hk5.tr hk55) trivial)
  have SC5 := Lib.hid (SC4.out.kept (hk5.tr hk55))
  have CV : Hid (Calls Tryz.prog 19 #[.slice (some ⟨w5.heap.size, 0, none⟩) 1 1, S [104, 111, 109, 101], S T, .int .i64 39] W5 fun e w' => (∃ sa sn sc, e = .returned (.tuple #[.agg (claimsK.vs (.slice sa sn sc)).toArray, .int .i64 0]) ∧ OwnS W5.heap.size (.slice sa sn sc) claimsK.scope w') ∧ Kept (fun _ => True) W5 w') := Lib.hid (by
    have := Verify_any [keyK] (.slice (some ⟨w5.heap.size, 0, none⟩) 1 1) homeB T 39 W5 (HE.out.kept HK5.out) (by decide) (by rw [HX0.out.len]; decide) (kl_one (by rw [← hW5]; exact heap_alloc_new w5 _)) (by decide) (by decide)
    unfold VerQ at this
    rw [HX0.out.good] at this
    exact this)
  clear hk5 hk55 RC4 SC4
  go_wp2_with fail
  clear hW5
  refine CV.out.mono ?_
  rintro e w6 ⟨⟨ta, tn, tc, rfl, ho6⟩, hk6⟩
  obtain ⟨W6, hW6⟩ : ∃ W6, w6.alloc (.cells (claimsK.vs (.slice ta tn tc)).toArray 26) = W6 := ⟨_, rfl⟩
  have hk66 : Kept (fun _ => True) w6 W6 := by rw [← hW6]; exact (Kept.refl _ _).alloc _
  have RD6 : Hid (RowW w6.heap.size 26 (claimsK.vs (.slice ta tn tc)) W6) := Lib.hid (by rw [← hW6]; exact heap_alloc_new w6 _)
  have HK6 := Lib.hid ((HK5.out.tr hk6).tr hk66)
  have SD6 : Hid (SL W6 (.slice ta tn tc) claimsK.scope) := Lib.hid (ho6.sl.kept hk66)
  have RC6 := Lib.hid (RC5.out.kept (hk6.tr hk66) trivial)
  have SC6 := Lib.hid (SC5.out.kept (hk6.tr hk66))
  obtain ⟨b6, hb6⟩ : ∃ b, w6.heap.size = b := ⟨_, rfl⟩
  rw [hb6] at RD6
  clear hk6 hk66 ho6 CV RC5 SC5
  go_wp2_with fail
  clear hW6 hb6
  refine (accKey_any _).mono ?_
  rintro e w7 ⟨rfl, hk7⟩
  obtain ⟨W7, hW7⟩ : ∃ W7, w7.alloc (.cells keyK.vs.toArray 23) = W7 := ⟨_, rfl⟩
  have hk77 : Kept (fun _ => True) w7 W7 := by rw [← hW7]; exact (Kept.refl _ _).alloc _
  have HK7 := Lib.hid ((HK6.out.tr hk7).tr hk77)
  have hq := hk7.tr hk77
  have RC7 := Lib.hid (RC6.out.kept hq trivial)
  have SC7 := Lib.hid (SC6.out.kept hq)
  have RD7 := Lib.hid (RD6.out.kept hq trivial)
  have SD7 := Lib.hid (SD6.out.kept hq)
  have CV : Hid (Calls Tryz.prog 19 #[.slice (some ⟨w7.heap.size, 0, none⟩) 1 1, S [104, 111, 109, 101], S T, .int .i64 40] W7 fun e w' => (∃ sa sn sc, e = .returned (.tuple #[.agg (zeroCl.vs (.slice sa sn sc)).toArray, .int .i64 233]) ∧ OwnS W7.heap.size (.slice sa sn sc) zeroCl.scope w') ∧ Kept (fun _ => True) W7 w') := Lib.hid (by
    have := Verify_any [keyK] (.slice (some ⟨w7.heap.size, 0, none⟩) 1 1) homeB T 40 W7 (HE.out.kept HK7.out) (by decide) (by rw [HX0.out.len]; decide) (kl_one (by rw [← hW7]; exact heap_alloc_new w7 _)) (by decide) (by decide)
    unfold VerQ at this
    rw [HX0.out.late] at this
    exact this)
  clear hk7 hk77 hq RC6 SC6 RD6 SD6
  go_wp2_with fail
  clear hW7
  refine CV.out.mono ?_
  rintro e w8 ⟨⟨ua, un, uc, rfl, -⟩, hk8⟩
  obtain ⟨W8, hW8⟩ : ∃ W8, w8.alloc (.cells (zeroCl.vs (.slice ua un uc)).toArray 26) = W8 := ⟨_, rfl⟩
  have hk88 : Kept (fun _ => True) w8 W8 := by rw [← hW8]; exact (Kept.refl _ _).alloc _
  have HK8 := Lib.hid ((HK7.out.tr hk8).tr hk88)
  have hq := hk8.tr hk88
  have RC8 := Lib.hid (RC7.out.kept hq trivial)
  have SC8 := Lib.hid (SC7.out.kept hq)
  have RD8 := Lib.hid (RD7.out.kept hq trivial)
  have SD8 := Lib.hid (SD7.out.kept hq)
  clear hk8 hk88 hq CV RC7 SC7 RD7 SD7
  go_wp2_with fail
  clear hW8
  refine (accKey_any _).mono ?_
  rintro e w9 ⟨rfl, hk9⟩
  obtain ⟨W9, hW9⟩ : ∃ W9, w9.alloc (.cells keyK.vs.toArray 23) = W9 := ⟨_, rfl⟩
  have hk99 : Kept (fun _ => True) w9 W9 := by rw [← hW9]; exact (Kept.refl _ _).alloc _
  have HK9 := Lib.hid ((HK8.out.tr hk9).tr hk99)
  have hq := hk9.tr hk99
  have RC9 := Lib.hid (RC8.out.kept hq trivial)
  have SC9 := Lib.hid (SC8.out.kept hq)
  have RD9 := Lib.hid (RD8.out.kept hq trivial)
  have SD9 := Lib.hid (SD8.out.kept hq)
  have CU : Hid (Calls Tryz.prog 24 #[.slice (some ⟨w9.heap.size, 0, none⟩) 1 1, .int .i64 50] W9 fun e w' => e = .returned (.tuple #[keyK.v, .bool true]) ∧ Kept (fun _ => True) W9 w') := Lib.hid (by
    have := Current_any [keyK] (.slice (some ⟨w9.heap.size, 0, none⟩) 1 1) 50 W9 (kl_one (by rw [← hW9]; exact heap_alloc_new w9 _)) (by decide)
    rw [cur_ex] at this
    exact this)
  clear hk9 hk99 hq RC8 SC8 RD8 SD8
  go_wp2_with fail
  clear hW9
  refine CU.out.mono ?_
  rintro e wA ⟨rfl, hkA⟩
  obtain ⟨W5, hWA⟩ : ∃ WA, wA.alloc (.cells keyK.vs.toArray 23) = WA := ⟨_, rfl⟩
  have hkAA : Kept (fun _ => True) wA W5 := by rw [← hWA]; exact (Kept.refl _ _).alloc _
  have HKW := Lib.hid ((HK9.out.tr hkA).tr hkAA)
  have hq := hkA.tr hkAA
  have RC := Lib.hid (RC9.out.kept hq trivial)
  have SC := Lib.hid (SC9.out.kept hq)
  have RD5 := Lib.hid (RD9.out.kept hq trivial)
  have SD5 := Lib.hid (SD9.out.kept hq)
  have RK5 : Hid (RowW wA.heap.size 23 keyK.vs W5) := Lib.hid (by rw [← hWA]; exact heap_alloc_new wA _)
  obtain ⟨bA, hbA⟩ : ∃ b, wA.heap.size = b := ⟨_, rfl⟩
  rw [hbA] at RK5
  clear hkA hkAA hq CU RC9 SC9 RD9 SD9
  go_wp2_with fail
  clear hWA hbA
  refine wp_flow2 rfl [some 46, some 47, some 48, some 12] rfl (by decide) (by kernel_rfl) (by kernel_rfl) (WIs W5 (relOf (relK (.slice sa sn sc))) []) ?_ ?_ ?_
  · intro vs
    exact WIs.start (fun k t h => by simp at h) (fun k l t u h => by simp at h)
  · intro i o L vs x w1 p h
    have hi : i < 4 := p.lt
    have hR := relK_last (.slice sa sn sc)
    have hk := h.kept fun t ht => by cases ht
    obtain rfl | rfl | rfl | rfl : i = 0 ∨ i = 1 ∨ i = 2 ∨ i = 3 := by omega
    · obtain rfl : _ = o := Option.some.inj p.isAt
      have c0 := (RC.out.kept hk trivial).at' 0 _ rfl
      have c1 := (RC.out.kept hk trivial).at' 1 _ rfl
      have c2 := (RC.out.kept hk trivial).at' 2 _ rfl
      have c3 := (RC.out.kept hk trivial).at' 3 _ rfl
      have c4 := (RC.out.kept hk trivial).at' 4 _ rfl
      have c5 := (RC.out.kept hk trivial).at' 5 _ rfl
      have c6 := (RC.out.kept hk trivial).at' 6 _ rfl
      exact flow_load p rfl h hR (tok_of [] 0 rfl L) rfl rfl ((p.old 3 rfl).trans rfl) (by simp [go_sem, c0, c1, c2, c3, c4, c5, c6])
    · obtain rfl : _ = o := Option.some.inj p.isAt
      refine flow_call0 p rfl h hR (tok_of [] 1 rfl L) rfl (fun w => by kernel_rfl) (accClaims_any w1) ?_
      rintro e w' ⟨⟨g, rfl, hg, hr⟩, hk'⟩
      exact ⟨_, rfl, hk', fun ok hok => ⟨g, rfl, hok g hg, hr⟩⟩
    · obtain rfl : _ = o := Option.some.inj p.isAt
      obtain ⟨ok, e46, k1⟩ := p.get h 0 46 rfl rfl
      obtain ⟨ok2, e47, g, l1, l2, l3⟩ := p.get h 1 47 rfl rfl
      refine flow_call2 p rfl h hR (tok_of [] 2 rfl L) rfl (fun w => by kernel_rfl) (e46.trans k1) (e47.trans l1) (sameClaims_any claimsK claimsK (.slice sa sn sc) (.slice (some ⟨g, 0, none⟩) 1 1) w1 (SC.out.kept hk) (sl_one l3) (by decide) (by decide)) ?_
      rintro e w' ⟨rfl, hk'⟩
      exact ⟨_, rfl, hk', fun ok _ => by show _ = Value.bool true; rw [same_claimsK]⟩
    · obtain rfl : _ = o := Option.some.inj p.isAt
      exact flow_as p rfl h hR (tok_of [] 3 rfl L) rfl rfl (p.isv h 2 48 rfl rfl rfl)
  · intro vs y6 L hL h
    have hk9 := h.kept fun t ht => by cases ht
    obtain ⟨ok, G, -, -, -, h3, -⟩ := h
    have e3 : vs 3 = .bool true := h3 3 (hL 3 (by decide))
    have HKX := Lib.hid (HKW.out.tr hk9)
    have RD := Lib.hid (RD5.out.kept hk9 trivial)
    have SD := Lib.hid (SD5.out.kept hk9)
    have RK6 := Lib.hid (RK5.out.kept hk9 trivial)
    simp only [putAll, Act.put, List.setIfInBounds_toArray, List.set_cons_zero, List.set_cons_succ, Nat.zero_add, Nat.reduceAdd, e3]
    clear h3 hL e3 hk9 RC SC RD5 SD5 RK5 HKW
    generalize vs 0 = v0
    generalize vs 1 = v1
    generalize vs 2 = v2
    go_wp2_with fail
    refine wp_flow2 rfl [some 49, some 50, some 51, some 13] rfl (by decide) (by kernel_rfl) (by kernel_rfl) (WIs y6 (relOf (relK (.slice ta tn tc))) []) ?_ ?_ ?_
    · intro vs
      exact WIs.start (fun k t h => by simp at h) (fun k l t u h => by simp at h)
    · intro i o L vs x w1 p h
      have hi : i < 4 := p.lt
      have hR := relK_last (.slice ta tn tc)
      have hk := h.kept fun t ht => by cases ht
      obtain rfl | rfl | rfl | rfl : i = 0 ∨ i = 1 ∨ i = 2 ∨ i = 3 := by omega
      · obtain rfl : _ = o := Option.some.inj p.isAt
        have c0 := (RD.out.kept hk trivial).at' 0 _ rfl
        have c1 := (RD.out.kept hk trivial).at' 1 _ rfl
        have c2 := (RD.out.kept hk trivial).at' 2 _ rfl
        have c3 := (RD.out.kept hk trivial).at' 3 _ rfl
        have c4 := (RD.out.kept hk trivial).at' 4 _ rfl
        have c5 := (RD.out.kept hk trivial).at' 5 _ rfl
        have c6 := (RD.out.kept hk trivial).at' 6 _ rfl
        exact flow_load p rfl h hR (tok_of [] 0 rfl L) rfl rfl ((p.old 6 rfl).trans rfl) (by simp [go_sem, c0, c1, c2, c3, c4, c5, c6])
      · obtain rfl : _ = o := Option.some.inj p.isAt
        refine flow_call0 p rfl h hR (tok_of [] 1 rfl L) rfl (fun w => by kernel_rfl) (accClaims_any w1) ?_
        rintro e w' ⟨⟨g, rfl, hg, hr⟩, hk'⟩
        exact ⟨_, rfl, hk', fun ok hok => ⟨g, rfl, hok g hg, hr⟩⟩
      · obtain rfl : _ = o := Option.some.inj p.isAt
        obtain ⟨ok, e49, k1⟩ := p.get h 0 49 rfl rfl
        obtain ⟨ok2, e50, g, l1, l2, l3⟩ := p.get h 1 50 rfl rfl
        refine flow_call2 p rfl h hR (tok_of [] 2 rfl L) rfl (fun w => by kernel_rfl) (e49.trans k1) (e50.trans l1) (sameClaims_any claimsK claimsK (.slice ta tn tc) (.slice (some ⟨g, 0, none⟩) 1 1) w1 (SD.out.kept hk) (sl_one l3) (by decide) (by decide)) ?_
        rintro e w' ⟨rfl, hk'⟩
        exact ⟨_, rfl, hk', fun ok _ => by show _ = Value.bool true; rw [same_claimsK]⟩
      · obtain rfl : _ = o := Option.some.inj p.isAt
        exact flow_as p rfl h hR (tok_of [] 3 rfl L) rfl rfl (p.isv h 2 51 rfl rfl rfl)
    · intro vs y7 L hL h
      have hk9 := h.kept fun t ht => by cases ht
      obtain ⟨ok, G, -, -, -, h3, -⟩ := h
      have e3 : vs 3 = .bool true := h3 3 (hL 3 (by decide))
      have HKW := Lib.hid (HKX.out.tr hk9)
      have RK := Lib.hid (RK6.out.kept hk9 trivial)
      simp only [putAll, Act.put, List.setIfInBounds_toArray, List.set_cons_zero, List.set_cons_succ, Nat.zero_add, Nat.reduceAdd, e3]
      clear h3 hL e3 hk9 RD SD RK6 HKX
      generalize vs 0 = v0
      generalize vs 1 = v1
      generalize vs 2 = v2
      go_wp2_with fail
      refine wp_flow2 rfl [some 52, some 53, some 54, some 55, some 56, some 57, some 58, some 59, some 60, some 61, some 62, some 63, some 64, some 65, some 66, some 67, some 68, some 69, some 70, some 71, some 72, some 73, some 74, some 75, some 76, some 77, some 78, some 79, some 80, some 81, some 82, some 83, some 84, some 85, some 86, some 87, some 88, some 89, some 90, some 91, some 92, some 93, some 94, some 95, some 96, some 0] rfl (by decide) (by kernel_rfl) (by kernel_rfl) (WIs y7 (relOf (relL T)) []) ?_ ?_ ?_
      · intro vs
        exact WIs.start (fun k t h => by simp at h) (fun k l t u h => by simp at h)
      · intro i o L vs x w1 p h
        have hi : i < 46 := p.lt
        have hR := relL_last T
        have hk := h.kept fun t ht => by cases ht
        obtain rfl | rfl | rfl | rfl | rfl | rfl | rfl | rfl | rfl | rfl | rfl | rfl | rfl | rfl | rfl | rfl | rfl | rfl | rfl | rfl | rfl | rfl | rfl | rfl | rfl | rfl | rfl | rfl | rfl | rfl | rfl | rfl | rfl | rfl | rfl | rfl | rfl | rfl | rfl | rfl | rfl | rfl | rfl | rfl | rfl | rfl : i = 0 ∨ i = 1 ∨ i = 2 ∨ i = 3 ∨ i = 4 ∨ i = 5 ∨ i = 6 ∨ i = 7 ∨ i = 8 ∨ i = 9 ∨ i = 10 ∨ i = 11 ∨ i = 12 ∨ i = 13 ∨ i = 14 ∨ i = 15 ∨ i = 16 ∨ i = 17 ∨ i = 18 ∨ i = 19 ∨ i = 20 ∨ i = 21 ∨ i = 22 ∨ i = 23 ∨ i = 24 ∨ i = 25 ∨ i = 26 ∨ i = 27 ∨ i = 28 ∨ i = 29 ∨ i = 30 ∨ i = 31 ∨ i = 32 ∨ i = 33 ∨ i = 34 ∨ i = 35 ∨ i = 36 ∨ i = 37 ∨ i = 38 ∨ i = 39 ∨ i = 40 ∨ i = 41 ∨ i = 42 ∨ i = 43 ∨ i = 44 ∨ i = 45 := by omega
        · obtain rfl : _ = o := Option.some.inj p.isAt
          exact flow_mv p rfl h hR (tok_of [] 0 rfl L) rfl rfl ((p.old 2 rfl).trans (show _ = (Value.int .i64 0) from rfl))
        · obtain rfl : _ = o := Option.some.inj p.isAt
          have e52 := (p.isv h 0 52 rfl rfl rfl)
          simp only [Act.eval, Array.getD_eq_getD_getElem?] at e52
          exact flow_is p rfl h hR (tok_of [] 1 rfl L) rfl (by simp [execOp, go_sem, e52])
        · obtain rfl : _ = o := Option.some.inj p.isAt
          exact flow_mv p rfl h hR (tok_of [] 2 rfl L) rfl rfl (p.isv h 1 53 rfl rfl rfl)
        · obtain rfl : _ = o := Option.some.inj p.isAt
          have e1 := ((p.old 1 rfl).trans (show _ = (S T) from rfl))
          simp only [Act.eval, Array.getD_eq_getD_getElem?] at e1
          exact flow_isW p (p.wanted h 2 54 true true rfl rfl rfl rfl rfl) h hR (tok_of [] 3 rfl L) rfl (by simp [execOp, go_sem, e1])
        · obtain rfl : _ = o := Option.some.inj p.isAt
          have e55 := (p.isv h 3 55 rfl rfl rfl)
          simp only [Act.eval, Array.getD_eq_getD_getElem?] at e55
          exact flow_isW p (p.wanted h 2 54 true true rfl rfl rfl rfl rfl) h hR (tok_of [] 4 rfl L) rfl (by simp [execOp, go_sem, e55, HTZ.out])
        · obtain rfl : _ = o := Option.some.inj p.isAt
          have e56 := (p.isv h 4 56 rfl rfl rfl)
          simp only [Act.eval, Array.getD_eq_getD_getElem?] at e56
          exact flow_isW p (p.wanted h 2 54 true true rfl rfl rfl rfl rfl) h hR (tok_of [] 5 rfl L) rfl (by simp [execOp, go_sem, e56])
        · obtain rfl : _ = o := Option.some.inj p.isAt
          have e54 := (p.isv h 2 54 rfl rfl rfl)
          have e57 := (p.isv h 5 57 rfl rfl rfl)
          simp only [Act.eval, Array.getD_eq_getD_getElem?] at e54 e57
          exact flow_is p rfl h hR (tok_of [] 6 rfl L) rfl (by simp [execOp, go_sem, e54, e57])
        · obtain rfl : _ = o := Option.some.inj p.isAt
          exact flow_mv p rfl h hR (tok_of [] 7 rfl L) rfl rfl (p.isv h 6 58 rfl rfl rfl)
        · obtain rfl : _ = o := Option.some.inj p.isAt
          have e1 := ((p.old 1 rfl).trans (show _ = (S T) from rfl))
          simp only [Act.eval, Array.getD_eq_getD_getElem?] at e1
          exact flow_isW p (p.wanted h 7 59 true true rfl rfl rfl rfl rfl) h hR (tok_of [] 8 rfl L) rfl (by simp [execOp, go_sem, e1])
        · obtain rfl : _ = o := Option.some.inj p.isAt
          have e1 := ((p.old 1 rfl).trans (show _ = (S T) from rfl))
          simp only [Act.eval, Array.getD_eq_getD_getElem?] at e1
          exact flow_isW p (p.wanted h 7 59 true true rfl rfl rfl rfl rfl) h hR (tok_of [] 9 rfl L) rfl (by simp [execOp, go_sem, e1])
        · obtain rfl : _ = o := Option.some.inj p.isAt
          have e61 := (p.isv h 9 61 rfl rfl rfl)
          simp only [Act.eval, Array.getD_eq_getD_getElem?] at e61
          exact flow_isW p (p.wanted h 7 59 true true rfl rfl rfl rfl rfl) h hR (tok_of [] 10 rfl L) rfl (by simp [execOp, go_sem, e61, HTZ.out])
        · obtain rfl : _ = o := Option.some.inj p.isAt
          have e62 := p.isv h 10 62 rfl rfl rfl
          simp only [Act.eval, Array.getD_eq_getD_getElem?] at e62
          exact flow_isW p (p.wanted h 7 59 true true rfl rfl rfl rfl rfl) h hR (tok_of [] 11 rfl L) rfl (by simp [execOp, go_sem, e62]; kernel_rfl)
        · obtain rfl : _ = o := Option.some.inj p.isAt
          have e60 := p.isv h 8 60 rfl rfl rfl
          have e63 := p.isv h 11 63 rfl rfl rfl
          simp only [Act.eval, Array.getD_eq_getD_getElem?] at e60 e63
          exact flow_isW p (p.wanted h 7 59 true true rfl rfl rfl rfl rfl) h hR (tok_of [] 12 rfl L) rfl (by simp [execOp, go_sem, e60, e63, HTZ.out, HX.out])
        · obtain rfl : _ = o := Option.some.inj p.isAt
          have e64 := (p.isv h 12 64 rfl rfl rfl)
          simp only [Act.eval, Array.getD_eq_getD_getElem?] at e64
          exact flow_isW p (p.wanted h 7 59 true true rfl rfl rfl rfl rfl) h hR (tok_of [] 13 rfl L) rfl (by simp [execOp, go_sem, e64])
        · obtain rfl : _ = o := Option.some.inj p.isAt
          have e59 := (p.isv h 7 59 rfl rfl rfl)
          have e65 := (p.isv h 13 65 rfl rfl rfl)
          simp only [Act.eval, Array.getD_eq_getD_getElem?] at e59 e65
          exact flow_is p rfl h hR (tok_of [] 14 rfl L) rfl (by simp [execOp, go_sem, e59, e65])
        · obtain rfl : _ = o := Option.some.inj p.isAt
          exact flow_mv p rfl h hR (tok_of [] 15 rfl L) rfl rfl (p.isv h 14 66 rfl rfl rfl)
        · obtain rfl : _ = o := Option.some.inj p.isAt
          have e5 := ((p.old 5 rfl).trans (show _ = (Value.int .i64 0) from rfl))
          simp only [Act.eval, Array.getD_eq_getD_getElem?] at e5
          exact flow_isW p (p.wanted h 15 67 true true rfl rfl rfl rfl rfl) h hR (tok_of [] 16 rfl L) rfl (by simp [execOp, go_sem, e5])
        · obtain rfl : _ = o := Option.some.inj p.isAt
          have e68 := (p.isv h 16 68 rfl rfl rfl)
          simp only [Act.eval, Array.getD_eq_getD_getElem?] at e68
          exact flow_isW p (p.wanted h 15 67 true true rfl rfl rfl rfl rfl) h hR (tok_of [] 17 rfl L) rfl (by simp [execOp, go_sem, e68])
        · obtain rfl : _ = o := Option.some.inj p.isAt
          have e67 := (p.isv h 15 67 rfl rfl rfl)
          have e69 := (p.isv h 17 69 rfl rfl rfl)
          simp only [Act.eval, Array.getD_eq_getD_getElem?] at e67 e69
          exact flow_is p rfl h hR (tok_of [] 18 rfl L) rfl (by simp [execOp, go_sem, e67, e69])
        · obtain rfl : _ = o := Option.some.inj p.isAt
          exact flow_mv p rfl h hR (tok_of [] 19 rfl L) rfl rfl (p.isv h 18 70 rfl rfl rfl)
        · obtain rfl : _ = o := Option.some.inj p.isAt
          have e4 := ((p.old 4 rfl).trans (show _ = (Value.int .i64 3) from rfl))
          simp only [Act.eval, Array.getD_eq_getD_getElem?] at e4
          exact flow_isW p (p.wanted h 19 71 true true rfl rfl rfl rfl rfl) h hR (tok_of [] 20 rfl L) rfl (by simp [execOp, go_sem, e4])
        · obtain rfl : _ = o := Option.some.inj p.isAt
          have e72 := (p.isv h 20 72 rfl rfl rfl)
          simp only [Act.eval, Array.getD_eq_getD_getElem?] at e72
          exact flow_isW p (p.wanted h 19 71 true true rfl rfl rfl rfl rfl) h hR (tok_of [] 21 rfl L) rfl (by simp [execOp, go_sem, e72])
        · obtain rfl : _ = o := Option.some.inj p.isAt
          have e71 := (p.isv h 19 71 rfl rfl rfl)
          have e73 := (p.isv h 21 73 rfl rfl rfl)
          simp only [Act.eval, Array.getD_eq_getD_getElem?] at e71 e73
          exact flow_is p rfl h hR (tok_of [] 22 rfl L) rfl (by simp [execOp, go_sem, e71, e73])
        · obtain rfl : _ = o := Option.some.inj p.isAt
          exact flow_mv p rfl h hR (tok_of [] 23 rfl L) rfl rfl (p.isv h 22 74 rfl rfl rfl)
        · obtain rfl : _ = o := Option.some.inj p.isAt
          have e12 := ((p.old 12 rfl).trans (show _ = (Value.bool true) from rfl))
          simp only [Act.eval, Array.getD_eq_getD_getElem?] at e12
          exact flow_isW p (p.wanted h 23 75 true true rfl rfl rfl rfl rfl) h hR (tok_of [] 24 rfl L) rfl (by simp [execOp, go_sem, e12])
        · obtain rfl : _ = o := Option.some.inj p.isAt
          have e75 := (p.isv h 23 75 rfl rfl rfl)
          have e76 := (p.isv h 24 76 rfl rfl rfl)
          simp only [Act.eval, Array.getD_eq_getD_getElem?] at e75 e76
          exact flow_is p rfl h hR (tok_of [] 25 rfl L) rfl (by simp [execOp, go_sem, e75, e76])
        · obtain rfl : _ = o := Option.some.inj p.isAt
          exact flow_mv p rfl h hR (tok_of [] 26 rfl L) rfl rfl (p.isv h 25 77 rfl rfl rfl)
        · obtain rfl : _ = o := Option.some.inj p.isAt
          have e13 := ((p.old 13 rfl).trans (show _ = (Value.bool true) from rfl))
          simp only [Act.eval, Array.getD_eq_getD_getElem?] at e13
          exact flow_isW p (p.wanted h 26 78 true true rfl rfl rfl rfl rfl) h hR (tok_of [] 27 rfl L) rfl (by simp [execOp, go_sem, e13])
        · obtain rfl : _ = o := Option.some.inj p.isAt
          have e78 := (p.isv h 26 78 rfl rfl rfl)
          have e79 := (p.isv h 27 79 rfl rfl rfl)
          simp only [Act.eval, Array.getD_eq_getD_getElem?] at e78 e79
          exact flow_is p rfl h hR (tok_of [] 28 rfl L) rfl (by simp [execOp, go_sem, e78, e79])
        · obtain rfl : _ = o := Option.some.inj p.isAt
          exact flow_mv p rfl h hR (tok_of [] 29 rfl L) rfl rfl (p.isv h 28 80 rfl rfl rfl)
        · obtain rfl : _ = o := Option.some.inj p.isAt
          have e7 := ((p.old 7 rfl).trans (show _ = (Value.int .i64 0) from rfl))
          simp only [Act.eval, Array.getD_eq_getD_getElem?] at e7
          exact flow_isW p (p.wanted h 29 81 true true rfl rfl rfl rfl rfl) h hR (tok_of [] 30 rfl L) rfl (by simp [execOp, go_sem, e7])
        · obtain rfl : _ = o := Option.some.inj p.isAt
          have e82 := (p.isv h 30 82 rfl rfl rfl)
          simp only [Act.eval, Array.getD_eq_getD_getElem?] at e82
          exact flow_isW p (p.wanted h 29 81 true true rfl rfl rfl rfl rfl) h hR (tok_of [] 31 rfl L) rfl (by simp [execOp, go_sem, e82])
        · obtain rfl : _ = o := Option.some.inj p.isAt
          have e81 := (p.isv h 29 81 rfl rfl rfl)
          have e83 := (p.isv h 31 83 rfl rfl rfl)
          simp only [Act.eval, Array.getD_eq_getD_getElem?] at e81 e83
          exact flow_is p rfl h hR (tok_of [] 32 rfl L) rfl (by simp [execOp, go_sem, e81, e83])
        · obtain rfl : _ = o := Option.some.inj p.isAt
          exact flow_mv p rfl h hR (tok_of [] 33 rfl L) rfl rfl (p.isv h 32 84 rfl rfl rfl)
        · obtain rfl : _ = o := Option.some.inj p.isAt
          have e9 := ((p.old 9 rfl).trans (show _ = (Value.int .i64 233) from rfl))
          simp only [Act.eval, Array.getD_eq_getD_getElem?] at e9
          exact flow_isW p (p.wanted h 33 85 true true rfl rfl rfl rfl rfl) h hR (tok_of [] 34 rfl L) rfl (by simp [execOp, go_sem, e9])
        · obtain rfl : _ = o := Option.some.inj p.isAt
          have e86 := (p.isv h 34 86 rfl rfl rfl)
          simp only [Act.eval, Array.getD_eq_getD_getElem?] at e86
          exact flow_isW p (p.wanted h 33 85 true true rfl rfl rfl rfl rfl) h hR (tok_of [] 35 rfl L) rfl (by simp [execOp, go_sem, e86])
        · obtain rfl : _ = o := Option.some.inj p.isAt
          have e85 := (p.isv h 33 85 rfl rfl rfl)
          have e87 := (p.isv h 35 87 rfl rfl rfl)
          simp only [Act.eval, Array.getD_eq_getD_getElem?] at e85 e87
          exact flow_is p rfl h hR (tok_of [] 36 rfl L) rfl (by simp [execOp, go_sem, e85, e87])
        · obtain rfl : _ = o := Option.some.inj p.isAt
          exact flow_mv p rfl h hR (tok_of [] 37 rfl L) rfl rfl (p.isv h 36 88 rfl rfl rfl)
        · obtain rfl : _ = o := Option.some.inj p.isAt
          have e11 := ((p.old 11 rfl).trans (show _ = (Value.bool true) from rfl))
          simp only [Act.eval, Array.getD_eq_getD_getElem?] at e11
          exact flow_isW p (p.wanted h 37 89 true true rfl rfl rfl rfl rfl) h hR (tok_of [] 38 rfl L) rfl (by simp [execOp, go_sem, e11])
        · obtain rfl : _ = o := Option.some.inj p.isAt
          have e89 := (p.isv h 37 89 rfl rfl rfl)
          have e90 := (p.isv h 38 90 rfl rfl rfl)
          simp only [Act.eval, Array.getD_eq_getD_getElem?] at e89 e90
          exact flow_is p rfl h hR (tok_of [] 39 rfl L) rfl (by simp [execOp, go_sem, e89, e90])
        · obtain rfl : _ = o := Option.some.inj p.isAt
          exact flow_mv p rfl h hR (tok_of [] 40 rfl L) rfl rfl (p.isv h 39 91 rfl rfl rfl)
        · obtain rfl : _ = o := Option.some.inj p.isAt
          have c0 := (RK.out.kept hk trivial).at' 0 _ rfl
          have c1 := (RK.out.kept hk trivial).at' 1 _ rfl
          have c2 := (RK.out.kept hk trivial).at' 2 _ rfl
          have c3 := (RK.out.kept hk trivial).at' 3 _ rfl
          exact flow_loadW p (p.wanted h 40 92 true true rfl rfl rfl rfl rfl) h hR (tok_of [] 41 rfl L) rfl rfl ((p.old 10 rfl).trans rfl) (by simp [go_sem, c0, c1, c2, c3])
        · obtain rfl : _ = o := Option.some.inj p.isAt
          refine flow_call0W p (p.wanted h 40 92 true true rfl rfl rfl rfl rfl) h hR (tok_of [] 42 rfl L) rfl (fun w => by kernel_rfl) (accKey_any w1) ?_
          rintro e w' ⟨rfl, hk'⟩
          exact ⟨_, rfl, hk', fun ok _ => rfl⟩
        · obtain rfl : _ = o := Option.some.inj p.isAt
          have e93 := (p.isv h 41 93 rfl rfl rfl)
          have e94 := (p.isv h 42 94 rfl rfl rfl)
          simp only [Act.eval, Array.getD_eq_getD_getElem?] at e93 e94
          exact flow_isW p (p.wanted h 40 92 true true rfl rfl rfl rfl rfl) h hR (tok_of [] 43 rfl L) rfl (by simp [execOp, go_sem, e93, e94, keyK])
        · obtain rfl : _ = o := Option.some.inj p.isAt
          have e92 := (p.isv h 40 92 rfl rfl rfl)
          have e95 := (p.isv h 43 95 rfl rfl rfl)
          simp only [Act.eval, Array.getD_eq_getD_getElem?] at e92 e95
          exact flow_is p rfl h hR (tok_of [] 44 rfl L) rfl (by simp [execOp, go_sem, e92, e95])
        · obtain rfl : _ = o := Option.some.inj p.isAt
          exact flow_as p rfl h hR (tok_of [] 45 rfl L) rfl rfl (p.isv h 44 96 rfl rfl rfl)
      · intro vs y8 L hL h
        have hk9 := h.kept fun t ht => by cases ht
        obtain ⟨ok, G, -, -, -, h3, -⟩ := h
        have e45 : vs 45 = .bool true := h3 45 (hL 45 (by decide))
        have HKX := Lib.hid (HKW.out.tr hk9)
        simp only [putAll, Act.put, List.setIfInBounds_toArray, List.set_cons_zero, List.set_cons_succ, Nat.zero_add, Nat.reduceAdd, e45]
        clear h3 hL e45 hk9
        generalize vs 0 = v0
        generalize vs 1 = v1
        generalize vs 2 = v2
        generalize vs 3 = v3
        generalize vs 4 = v4
        generalize vs 5 = v5
        generalize vs 6 = v6
        generalize vs 7 = v7
        generalize vs 8 = v8
        generalize vs 9 = v9
        generalize vs 10 = v10
        generalize vs 11 = v11
        generalize vs 12 = v12
        generalize vs 13 = v13
        generalize vs 14 = v14
        generalize vs 15 = v15
        generalize vs 16 = v16
        generalize vs 17 = v17
        generalize vs 18 = v18
        generalize vs 19 = v19
        generalize vs 20 = v20
        generalize vs 21 = v21
        generalize vs 22 = v22
        generalize vs 23 = v23
        generalize vs 24 = v24
        generalize vs 25 = v25
        generalize vs 26 = v26
        generalize vs 27 = v27
        generalize vs 28 = v28
        generalize vs 29 = v29
        generalize vs 30 = v30
        generalize vs 31 = v31
        generalize vs 32 = v32
        generalize vs 33 = v33
        generalize vs 34 = v34
        generalize vs 35 = v35
        generalize vs 36 = v36
        generalize vs 37 = v37
        generalize vs 38 = v38
        generalize vs 39 = v39
        generalize vs 40 = v40
        generalize vs 41 = v41
        generalize vs 42 = v42
        generalize vs 43 = v43
        generalize vs 44 = v44
        go_wp2
        go_ret
        exact ⟨rfl, HKX.out⟩
end Go.Proofs.YtpcgfhleloonfaaGreatDoor
namespace Go.Proofs.YtpcgfhleloonfaaGreatDoor
open Go.ChangeShapes Go.WideShapes Go.ChangeAt Go.RowKit Go.Lib Go.Deep Jo Ac
section
variable {H : Type} {enc : TypeId × Value → H}
theorem witness_row {C : Checked} {os : Os} {f : FuncId} {fn : Func} {s : OpenSpec} {conds : List PathCond} {apart : Bool} {laid : List (String × DataW Unit)} (w0 : World) (args : Array Value) (hos : w0.os = os)
    (hsh : (w0.forCall (fun _ _ => 0) ⟨#[], args, []⟩).Shaped C.prog)
    (hok : Input.okWideB C.prog (w0.forCall (fun _ _ => 0) ⟨#[], args, []⟩) f ⟨#[], args, []⟩ = true)
    (hrow : s.preRow enc C.prog fn conds apart laid (w0.forCall (fun _ _ => 0) ⟨#[], args, []⟩).memory args) :
    ∃ (w : World) (tape : Tape) (i : Input), w.os = os ∧ (w.forCall tape i).Shaped C.prog ∧ i.vars = [] ∧ Input.okWide C.prog (w.forCall tape i) .any w.heap.size f i ∧
      s.preRow enc C.prog fn conds apart laid (w.forCall tape i).memory i.args ∧ ({ modest := false } : Assume).holds C.prog (lone (Frame.enter C.prog f i.args .normal) [] (w.forCall tape i)) :=
  ⟨w0, fun _ _ => 0, ⟨#[], args, []⟩, hos, hsh, (Input.okWide_of_okWideB (base := 0) hok).1, (Input.okWide_of_okWideB hok).2, hrow, by
    simp only [Assume.holds]
    exact ⟨by simp, by simp, fun _ => Modest.zero, by simp, by simp⟩⟩
end
section
variable {H : Type} {enc : TypeId × Value → H} {P : Program}
/-- The row's last step where of the call's world 'Below' alone is known. -/
theorem post_of_below {f : Func} {s : ChangeSpec} {apart fresh handsOn again : Bool} {W W' : World} {args : Array Value} {v : Value} {ds gs : List (DataW H)} {before pa pv : List MemPlace}
    (hW : DataW.Whole enc P f.params.toList s.vars apart W args.toList ds gs before)
    (hres : ∀ (b : Nat) (sp : Nat → Bool) (hd : Bool), DataW.TrodAll enc P W' b sp hd f.resultTypes.toList (v.resultList f.resultTypes.size) (s.fn H (ds ++ gs)).results [])
    (hargs : ∀ sp : Nat → Bool, (∀ p ∈ before, sp p.block = true) → DataW.TrodAll enc P W' 0 sp true f.params.toList args.toList (s.fn H (ds ++ gs)).args pa)
    (hvars : ∀ sp : Nat → Bool, (∀ p ∈ before, sp p.block = true) → DataW.TrodVars enc P W' sp s.vars (s.fn H (ds ++ gs)).vars pv)
    (hps : before = pa ++ pv) (hb : Below W.heap.size W W')
    (hok : ∀ (j : Nat) (t : TypeId) (r : Value), f.resultTypes[j]? = some t → (v.resultList f.resultTypes.size)[j]? = some r → Value.okWide P W' .any 0 t r) :
    s.post enc P f apart fresh handsOn again W args v W' := by
  have hlt : ∀ p ∈ before, p.block < W.heap.size := fun p hp => hW.lt p hp
  have hold : ∀ p ∈ before, (fun b => decide (b < W.heap.size)) p.block = true := fun p hp => by simpa using hlt p hp
  refine ⟨ds, gs, before, [], pa, pv, hW, hres _ _ _, hargs _ hold, hvars _ hold, World.keptBut_mono (fun p hp => ⟨hp, ?_⟩) (hb.frame (· ∈ before)), fun _ => ?_⟩
  · rw [hps, List.mem_append] at hp
    exact Or.inr hp
  · obtain ⟨_, _, _, _, _, hz, hn⟩ := hW
    refine ⟨hok, _, _, ([] ++ pa) ++ pv, ⟨[] ++ pa, pv, trodAll_append (hargs _ (fun _ _ => rfl)) (hres _ _ _), hvars _ (fun _ _ => rfl), rfl, ?_, ?_⟩, ?_⟩
    · intro b off hp
      have hin : MemPlace.cell b off ∈ before := by rw [hps]; simpa using hp
      rw [hb.frozen (hlt _ hin)]
      exact hz b off hin
    · intro ha
      have := hn ha
      rw [hps] at this
      simpa using this
    · intro p hp _
      rw [hps]
      simpa using hp
end
theorem own : ownKnob Tryz.prog.godebug = none := by kernel_rfl
/-- What the rows list. -/
abbrev laidL : List (String × DataW Unit) := [("math/bits.deBruijn32tab", Rows.laid_math_bits_deBruijn32tab), ("math/bits.deBruijn64tab", Rows.laid_math_bits_deBruijn64tab), ("internal/strconv.uint64pow10", Rows.laid_internal_strconv_uint64pow10), ("unicode/utf8.acceptRanges", Rows.laid_unicode_utf8_acceptRanges), ("strconv.ErrRange", Rows.laid_strconv_ErrRange), ("strconv.ErrSyntax", Rows.laid_strconv_ErrSyntax), ("unicode/utf8.first", Rows.laid_unicode_utf8_first)]
theorem accept_eq : (Rows.laid_unicode_utf8_acceptRanges : DataW Unit) = Lib.acceptData := by kernel_rfl
theorem first_eq : (Rows.laid_unicode_utf8_first : DataW Unit) = Lib.firstData := Pinned.utf8First_eq
theorem pow_eq : (Rows.laid_internal_strconv_uint64pow10 : DataW Unit) = Lib.tabData .u64 Lib.pow10Tab := by kernel_rfl
theorem u8x : U8Extra Tryz.prog Tryz.laysValid_ren := ⟨by kernel_rfl, by kernel_rfl, by kernel_rfl, by kernel_rfl, by kernel_rfl, by kernel_rfl, by kernel_rfl⟩
theorem tabIs_of_reads {P : Program} {W : World} {name : String} {k : IntKind} {zs : List Int} {g : Nat} {t e : TypeId} {n : Nat}
    (hg : P.globalNamed name = some g) (hty : (P.globals[g]?).map (·.type) = some t) (ht : P.underlying t = some (.array n e)) (he : P.underlying e = some (.int k)) (hce : P.cellsOf e = 1) (hct : P.cellsOf t = n)
    (h : VarReads P W name (tabData k zs)) : TabIs P W name k zs := by
  obtain ⟨g', t', cs, fuel, p, hg', ht', hvar, hd⟩ := h
  obtain rfl := Option.some.inj (hg.symm.trans hg')
  obtain rfl := Option.some.inj (hty.symm.trans ht')
  unfold TabIs
  rw [hvar, ← cells_of_tab ht he hce hct hd]
theorem iface_of_reads {P : Program} {W : World} {name n : String} {d : DataW Unit} {g : Nat} {t : TypeId} {ms : Array (String × TypeId)}
    (hg : P.globalNamed name = some g) (hty : (P.globals[g]?).map (·.type) = some t) (ht : P.underlying t = some (.interface ms)) (h : VarReads P W name (.iface n d)) : ∃ u v, W.cell? ⟨g, 0, none⟩ = some (.iface u v) := by
  obtain ⟨g', t', cs, fuel, p, hg', ht', hvar, hd⟩ := h
  obtain rfl := Option.some.inj (hg.symm.trans hg')
  obtain rfl := Option.some.inj (hty.symm.trans ht')
  obtain ⟨f, u, v, hcs, -, -⟩ := Go.iface_of_trod ht hd
  refine ⟨u, v, ?_⟩
  unfold World.var? at hvar
  rw [hg] at hvar
  simp only [Option.bind_some] at hvar
  cases hx : W.heap[g]? with
  | none => rw [hx] at hvar; cases hvar
  | some o =>
    rw [hx] at hvar
    cases o <;> simp at hvar
    rename_i xs T spot
    subst hvar
    have : xs = #[.iface u v] := Array.toList_inj.1 hcs
    subst this
    unfold World.cell?
    simp [hx]
theorem env_of {W : World} (hL : laidMetH Tryz.prog laidL W) (hsh : W.ShapedOpen Tryz.prog) : AE W := by
  rw [MakeChecks.laidMetH_plain _ _ _ (by kernel_rfl)] at hL
  have h0 := Lib.laidMet.reads hL (.tail _ (.tail _ (.head _)))
  have h1 := Lib.laidMet.reads hL (.tail _ (.tail _ (.tail _ (.head _))))
  have h3 := Lib.laidMet.reads hL (.tail _ (.tail _ (.tail _ (.tail _ (.head _)))))
  have h4 := Lib.laidMet.reads hL (.tail _ (.tail _ (.tail _ (.tail _ (.tail _ (.head _))))))
  have h2 := Lib.laidMet.reads hL (.tail _ (.tail _ (.tail _ (.tail _ (.tail _ (.tail _ (.head _)))))))
  rw [pow_eq] at h0
  rw [accept_eq] at h1
  rw [first_eq] at h2
  have ht := tabIs_of_reads (g := 5) (t := 268) (e := 140) (n := 20) (by kernel_rfl) (by kernel_rfl) (by kernel_rfl) (by kernel_rfl) (by kernel_rfl) (by kernel_rfl) h0
  have hu : Lib.Utf8Tabs 3 4 W := utf8Tabs_of_readsT (.of196 Tryz.laysValid) u8x h2 h1
  have hp : 5 < W.heap.size := by
    have h := ht
    unfold Lib.TabIs World.var? at h
    rw [pow_named] at h
    simp only [Option.bind_some] at h
    rcases Nat.lt_or_ge 5 W.heap.size with h' | h'
    · exact h'
    · rw [Array.getElem?_eq_none h'] at h; cases h
  refine ⟨⟨hu, ht, cell_isLt (hu.1 0 (by decide)), cell_isLt (hu.2 0 (by decide)).1, hp⟩, Tryz.laysM146.s1_3 W hsh, ?_, ?_⟩
  · exact iface_of_reads (by kernel_rfl) (by kernel_rfl) Tryz.underlying115 h4
  · exact iface_of_reads (by kernel_rfl) (by kernel_rfl) Tryz.underlying115 h3
/-- A world that fits: the listed variables laid. -/
noncomputable def laidWorld (os : Os) : World := World.laidAll Tryz.prog os laidL
theorem laid_met (os : Os) (args : Array Value) : laidMetH Tryz.prog laidL ((laidWorld os).forCall (fun _ _ => 0) ⟨#[], args, []⟩).memory := by
  rw [MakeChecks.laidMetH_plain _ _ _ (by kernel_rfl)]
  exact laidMet_laidAll _ (by kernel_rfl) (by kernel_rfl)
theorem Kept.toBelow {w w' : World} (h : Kept (fun _ => True) w w') : Below w.heap.size w w' := ⟨h.os, h.tape, h.output, h.size, fun k hk => h.block k hk trivial⟩
section
variable {H : Type} {enc : TypeId × Value → H} {P : Program} {w : World} {base : Nat} {spare : Nat → Bool} {held : Bool}
/-- The argument is handed back as it came: below the heap's old size nothing has turned. -/
theorem trod_back {t : TypeId} (hl : laidOutB P = true) (hr : P.readableRec t = true) (hrow : t < P.types.size) {W W' : World} {v : Value} {d : DataW H} {ps : List MemPlace}
    (h : DataW.Trod enc P W 0 (fun _ => true) true t v d ps) (hb : Below W.heap.size W W') (hlt : ∀ x ∈ ps, x.block < W.heap.size) (sp : Nat → Bool) (hsp : ∀ x ∈ ps, sp x.block = true) : DataW.Trod enc P W' 0 sp true t v d ps :=
  WideElems.Trod_stays hl hr hrow h (fun x hx => hb.same (hlt x hx)) hsp
end
theorem addr_add (b off k : Nat) : (⟨b, off, none⟩ : Addr).add k = ⟨b, off + k, none⟩ := by unfold Addr.add; split <;> simp_all
theorem structKey : ∃ f0 f1 f2 f3 : Field, Tryz.prog.underlying 23 = some (.struct #[f0, f1, f2, f3]) ∧ f0.type = 3 ∧ f1.type = 9 ∧ f2.type = 3 ∧ f3.type = 3 ∧ oneCellFields Tryz.prog #[f0, f1, f2, f3] = true :=
  ⟨_, _, _, _, Tryz.underlying23, rfl, rfl, rfl, rfl, by kernel_rfl⟩
theorem cellsKey : Tryz.prog.cellsOf 23 = 4 := by kernel_rfl
theorem structClaims : ∃ f0 f1 f2 f3 f4 f5 f6 : Field, Tryz.prog.underlying 26 = some (.struct #[f0, f1, f2, f3, f4, f5, f6]) ∧ f0.type = 9 ∧ f1.type = 9 ∧ f2.type = 24 ∧ f3.type = 3 ∧ f4.type = 3 ∧ f5.type = 3 ∧ f6.type = 3 ∧ oneCellFields Tryz.prog #[f0, f1, f2, f3, f4, f5, f6] = true :=
  ⟨_, _, _, _, _, _, _, Tryz.underlying26, rfl, rfl, rfl, rfl, rfl, rfl, rfl, by kernel_rfl⟩
theorem cellsClaims : Tryz.prog.cellsOf 26 = 7 := by kernel_rfl
theorem cellsStr : Tryz.prog.cellsOf 9 = 1 := by kernel_rfl
theorem laidOut : laidOutB Tryz.prog = true := by kernel_rfl
section
variable {H : Type} {enc : TypeId × Value → H} {W : World} {sp : Nat → Bool}
theorem upto_mem {ds : List (DataW H)} {d : DataW H} (h : d ∈ ds) : Rows.uptoBulk d ≤ Rows.uptoBulkAll ds := by
  induction ds with
  | nil => cases h
  | cons e r ih =>
    rw [Rows.uptoBulkAll]
    rcases List.mem_cons.1 h with rfl | h
    · omega
    · have := ih h
      omega
theorem upto_len : ∀ ds : List (DataW H), ds.length ≤ Rows.uptoBulkAll ds
  | [] => by simp [Rows.uptoBulkAll]
  | d :: r => by
    have := upto_len r
    have h1 : 1 ≤ Rows.uptoBulk d := by
      cases d with
      | lit l => cases l <;> simp [Rows.uptoBulk]
      | _ => simp [Rows.uptoBulk]
    rw [Rows.uptoBulkAll, List.length_cons]
    omega
set_option maxRecDepth 100000 in
/-- A text that came in. -/
theorem str_in {fuel : Nat} {c : Value} {y : DataW H × List MemPlace} (h : DataW.trod enc Tryz.prog W 0 sp true fuel 9 [c] = some y) : ∃ s : List UInt8, c = S s ∧ Rows.uptoBulk y.1 = s.length + 1 := by
  obtain ⟨s, e, rfl, hs⟩ := DataW.trod_string Tryz.underlying9 h
  obtain rfl : c = .string s := by simpa using e
  exact ⟨s.data.toList, rfl, by simp [Rows.uptoBulk]⟩
/-- A number that came in. -/
theorem int_in {fuel : Nat} {c : Value} {y : DataW H × List MemPlace} (h : DataW.trod enc Tryz.prog W 0 sp true fuel 3 [c] = some y) : ∃ k : Int, c = .int .i64 k ∧ (-9223372036854775808 ≤ k ∧ k ≤ 9223372036854775807) ∧ Rows.uptoBulk y.1 = 1 := by
  obtain ⟨k, e0, rfl, w0⟩ := DataW.trod_int Tryz.underlying3 h
  obtain rfl : c = .int .i64 k := by simpa using e0
  exact ⟨k, rfl, by simp [Lit.wf] at w0; exact ⟨w0.1, w0.2⟩, by simp [Rows.uptoBulk]⟩
set_option maxRecDepth 100000 in
/-- A slice of texts that came in. -/
theorem names_in {fuel : Nat} {c : Value} {y : DataW H × List MemPlace} (h : DataW.trod enc Tryz.prog W 0 sp true fuel 24 [c] = some y) :
    ∃ ns : List (List UInt8), SL W c ns ∧ ns.length ≤ Rows.uptoBulk y.1 ∧ ∀ l ∈ ns, l.length ≤ Rows.uptoBulk y.1 := by
  rcases DataW.trod_slice Tryz.underlying24 h with ⟨hc, rfl⟩ | ⟨a, len, cap, elems, rest, n, rfl, hc, rfl, _, hl, hm, hlen, hel, _, _⟩
  · obtain rfl : c = .slice none 0 0 := by simpa using hc
    exact ⟨[], ⟨none, 0, rfl, Nat.le_refl _, fun j s hj => by simp at hj⟩, by simp, by simp⟩
  · obtain rfl : c = .slice (some a) len cap := by simpa using hc
    rw [cellsStr] at hel
    have hp : ∀ i, i < len → ∃ l : List UInt8, W.cell? (a.add i) = some (S l) ∧ ∃ e, elems[i]? = some e ∧ l.length + 1 ≤ Rows.uptoBulk e.1 := by
      intro i hi
      have h1 := hel i hi
      have he : elems[i]? = some (elems[i]'(by omega)) := List.getElem?_eq_getElem (by omega)
      rw [he] at h1
      obtain ⟨cs, hcs, ht⟩ := Option.bind_eq_some_iff.1 h1
      rw [Nat.mul_one] at hcs
      obtain ⟨_, hcl, hat⟩ := World.cells?_some hcs
      obtain ⟨s, rfl, hx, hs⟩ := DataW.trod_string Tryz.underlying9 ht
      have := hat 0 (by omega)
      have ha0 : a.add i = (a.add i).add 0 := by unfold Addr.add; split <;> simp_all
      rw [← ha0] at this
      exact ⟨s.data.toList, by rw [this]; rfl, _, he, by rw [hx]; simp [Rows.uptoBulk]⟩
    obtain ⟨f, hf⟩ := choose_lt hp
    have hnl : ((List.range len).map f).length = len := by rw [List.length_map, List.length_range]
    have hbulk : len ≤ Rows.uptoBulk (DataW.slice (elems.map (·.1)) (rest.map (·.1))) := by
      have := upto_len (elems.map (·.1))
      rw [List.length_map, hlen] at this
      simp only [Rows.uptoBulk]
      omega
    refine ⟨(List.range len).map f, ?_, by rw [hnl]; exact hbulk, ?_⟩
    · by_cases h0 : len = 0
      · subst h0; exact ⟨some a, cap, rfl, Nat.zero_le _, fun j s hj => by simp at hj⟩
      · obtain ⟨b, off, spot⟩ := a
        have c0 := (hf 0 (by omega)).1
        have hspot : spot = none := by simpa [Addr.add] using World.cell?_spot c0
        subst hspot
        refine ⟨some ⟨b, off, none⟩, cap, by rw [hnl], by rw [hnl]; exact hl, fun j l hj => ?_⟩
        have hjl : j < len := by have := (List.getElem?_eq_some_iff.1 hj).1; omega
        rw [List.getElem?_map, List.getElem?_range hjl] at hj
        obtain rfl : f j = l := by simpa using hj
        have := (hf j hjl).1
        rw [addr_add] at this
        exact ⟨b, off, rfl, cell_isLt this, this⟩
    · intro l hl
      obtain ⟨i, hi, rfl⟩ := List.mem_map.1 hl
      obtain ⟨e, he, hb⟩ := (hf i (by simpa using hi)).2
      have := upto_mem (List.mem_map_of_mem (f := (·.1)) (List.mem_of_getElem? he))
      simp only [Rows.uptoBulk]
      omega
set_option maxRecDepth 100000 in
/-- A slice of keys that came in. -/
theorem keys_in {fuel : Nat} {c : Value} {y : DataW H × List MemPlace} (h : DataW.trod enc Tryz.prog W 0 sp true fuel 40 [c] = some y) :
    ∃ ks : List Ky, KL W c ks ∧ ks.length ≤ Rows.uptoBulk y.1 ∧ ∀ k ∈ ks, k.secret.length ≤ Rows.uptoBulk y.1 := by
  obtain ⟨f0, f1, f2, f3, hst, t0, t1, t2, t3, hone⟩ := structKey
  rcases DataW.trod_slice Tryz.underlying40 h with ⟨hc, rfl⟩ | ⟨a, len, cap, elems, rest, n, rfl, hc, rfl, _, hl, hm, hlen, hel, _, _⟩
  · obtain rfl : c = .slice none 0 0 := by simpa using hc
    exact ⟨[], ⟨none, 0, rfl, fun j s hj => by simp at hj⟩, by simp, by simp⟩
  · obtain rfl : c = .slice (some a) len cap := by simpa using hc
    rw [cellsKey] at hel
    have hp : ∀ i, i < len → ∃ k : Ky, W.cell? (a.add (i * 4)) = some (.int .i64 k.num) ∧ W.cell? ((a.add (i * 4)).add 1) = some (S k.secret) ∧ W.cell? ((a.add (i * 4)).add 2) = some (.int .i64 k.fr) ∧ W.cell? ((a.add (i * 4)).add 3) = some (.int .i64 k.till) ∧ ∃ e, elems[i]? = some e ∧ k.secret.length ≤ Rows.uptoBulk e.1 := by
      intro i hi
      have h1 := hel i hi
      have he : elems[i]? = some (elems[i]'(by omega)) := List.getElem?_eq_getElem (by omega)
      rw [he] at h1
      obtain ⟨cs, hcs, ht⟩ := Option.bind_eq_some_iff.1 h1
      obtain ⟨_, hcl, hat⟩ := World.cells?_some hcs
      obtain ⟨xs, n', rfl, hx, hcl2, hxl, hf⟩ := DataW.trod_struct hst ht
      obtain ⟨c0, c1, c2, c3, rfl⟩ : ∃ c0 c1 c2 c3, cs = [c0, c1, c2, c3] := by
        match cs, (show cs.length = 4 from hcl) with
        | [a, b, c, d], _ => exact ⟨a, b, c, d, rfl⟩
      obtain ⟨x0, x1, x2, x3, rfl⟩ : ∃ c0 c1 c2 c3, xs = [c0, c1, c2, c3] := by
        match xs, (show xs.length = 4 from hxl) with
        | [a, b, c, d], _ => exact ⟨a, b, c, d, rfl⟩
      have g0 := hf 0 f0 rfl
      have g1 := hf 1 f1 rfl
      have g2 := hf 2 f2 rfl
      have g3 := hf 3 f3 rfl
      rw [(hone_of hone 0 f0 rfl).1, (hone_of hone 0 f0 rfl).2, t0] at g0
      rw [(hone_of hone 1 f1 rfl).1, (hone_of hone 1 f1 rfl).2, t1] at g1
      rw [(hone_of hone 2 f2 rfl).1, (hone_of hone 2 f2 rfl).2, t2] at g2
      rw [(hone_of hone 3 f3 rfl).1, (hone_of hone 3 f3 rfl).2, t3] at g3
      obtain ⟨k0, rfl, -, b0⟩ := int_in (c := c0) (y := x0) g0
      obtain ⟨s1, rfl, b1⟩ := str_in (c := c1) (y := x1) g1
      obtain ⟨k2, rfl, -, b2⟩ := int_in (c := c2) (y := x2) g2
      obtain ⟨k3, rfl, -, b3⟩ := int_in (c := c3) (y := x3) g3
      have r0 := hat 0 (by omega)
      have r1 := hat 1 (by omega)
      have r2 := hat 2 (by omega)
      have r3 := hat 3 (by omega)
      have ha0 : (a.add (i * 4)).add 0 = a.add (i * 4) := by unfold Addr.add; split <;> simp_all
      rw [ha0] at r0
      refine ⟨⟨k0, s1, k2, k3⟩, r0, r1, r2, r3, _, he, ?_⟩
      rw [hx]
      simp only [Rows.uptoBulk, Rows.uptoBulkAll, List.map_cons, List.map_nil, b1]
      omega
    have : Inhabited Ky := ⟨zeroKy⟩
    obtain ⟨f, hf⟩ := choose_lt hp
    have hnl : ((List.range len).map f).length = len := by rw [List.length_map, List.length_range]
    have hbulk : len ≤ Rows.uptoBulk (DataW.slice (elems.map (·.1)) (rest.map (·.1))) := by
      have := upto_len (elems.map (·.1))
      rw [List.length_map, hlen] at this
      simp only [Rows.uptoBulk]
      omega
    refine ⟨(List.range len).map f, ?_, by rw [hnl]; exact hbulk, ?_⟩
    · by_cases h0 : len = 0
      · subst h0; exact ⟨some a, cap, rfl, fun j s hj => by simp at hj⟩
      · obtain ⟨b, off, spot⟩ := a
        have c0 := (hf 0 (by omega)).1
        have hspot : spot = none := by simpa [Addr.add] using World.cell?_spot c0
        subst hspot
        refine ⟨some ⟨b, off, none⟩, cap, by rw [hnl], fun j l hj => ?_⟩
        have hjl : j < len := by have := (List.getElem?_eq_some_iff.1 hj).1; omega
        rw [List.getElem?_map, List.getElem?_range hjl] at hj
        obtain rfl : f j = l := by simpa using hj
        obtain ⟨r0, r1, r2, r3, -⟩ := hf j hjl
        rw [addr_add] at r0 r1 r2 r3
        rw [addr_add] at r1 r2 r3
        exact ⟨b, off, rfl, cell_isLt r0, r0, r1, r2, r3⟩
    · intro k hk
      obtain ⟨i, hi, rfl⟩ := List.mem_map.1 hk
      obtain ⟨e, he, hb⟩ := (hf i (by simpa using hi)).2.2.2.2
      have := upto_mem (List.mem_map_of_mem (f := (·.1)) (List.mem_of_getElem? he))
      simp only [Rows.uptoBulk]
      omega
theorem keys_arg {v : Value} {d : DataW H} {p : List MemPlace} (h : DataW.Trod enc Tryz.prog W 0 sp true 40 v d p) (hv : ∃ a n c, v = .slice a n c) :
    ∃ ks : List Ky, KL W v ks ∧ ks.length ≤ Rows.uptoBulk d ∧ ∀ k ∈ ks, k.secret.length ≤ Rows.uptoBulk d := by
  obtain ⟨a, n, c, rfl⟩ := hv
  obtain ⟨fuel, hf⟩ := h
  exact keys_in (c := .slice a n c) (y := (d, p)) hf
set_option maxRecDepth 100000 in
theorem claims_arg {v : Value} {d : DataW H} {p : List MemPlace} (h : DataW.Trod enc Tryz.prog W 0 sp true 26 v d p) :
    ∃ (c : Cl) (sv : Value), v = c.v sv ∧ SL W sv c.scope ∧ c.client.length ≤ Rows.uptoBulk d ∧ c.subject.length ≤ Rows.uptoBulk d ∧ c.scope.length ≤ Rows.uptoBulk d ∧ (∀ s ∈ c.scope, s.length ≤ Rows.uptoBulk d) ∧ (-9223372036854775808 ≤ c.family ∧ c.family ≤ 9223372036854775807) ∧ (-9223372036854775808 ≤ c.number ∧ c.number ≤ 9223372036854775807) ∧ (-9223372036854775808 ≤ c.issued ∧ c.issued ≤ 9223372036854775807) ∧ (-9223372036854775808 ≤ c.till ∧ c.till ≤ 9223372036854775807) := by
  obtain ⟨fuel, hf⟩ := h
  obtain ⟨f0, f1, f2, f3, f4, f5, f6, hst, t0, t1, t2, t3, t4, t5, t6, hone⟩ := structClaims
  obtain ⟨xs, n, rfl, hx, hcl, hxl, hf⟩ := DataW.trod_struct hst hf
  rw [cellsClaims] at hcl
  obtain ⟨c0, c1, c2, c3, c4, c5, c6, hcs⟩ : ∃ c0 c1 c2 c3 c4 c5 c6, v.cells.toList = [c0, c1, c2, c3, c4, c5, c6] := by
    match hv : v.cells.toList, hcl with
    | [a, b, c, d, e, f, g], _ => exact ⟨a, b, c, d, e, f, g, rfl⟩
  rw [hcs] at hf
  obtain ⟨x0, x1, x2, x3, x4, x5, x6, rfl⟩ : ∃ c0 c1 c2 c3 c4 c5 c6, xs = [c0, c1, c2, c3, c4, c5, c6] := by
    match xs, (show xs.length = 7 from hxl) with
    | [a, b, c, d, e, f, g], _ => exact ⟨a, b, c, d, e, f, g, rfl⟩
  have g0 := hf 0 f0 rfl
  have g1 := hf 1 f1 rfl
  have g2 := hf 2 f2 rfl
  have g3 := hf 3 f3 rfl
  have g4 := hf 4 f4 rfl
  have g5 := hf 5 f5 rfl
  have g6 := hf 6 f6 rfl
  rw [(hone_of hone 0 f0 rfl).1, (hone_of hone 0 f0 rfl).2, t0] at g0
  rw [(hone_of hone 1 f1 rfl).1, (hone_of hone 1 f1 rfl).2, t1] at g1
  rw [(hone_of hone 2 f2 rfl).1, (hone_of hone 2 f2 rfl).2, t2] at g2
  rw [(hone_of hone 3 f3 rfl).1, (hone_of hone 3 f3 rfl).2, t3] at g3
  rw [(hone_of hone 4 f4 rfl).1, (hone_of hone 4 f4 rfl).2, t4] at g4
  rw [(hone_of hone 5 f5 rfl).1, (hone_of hone 5 f5 rfl).2, t5] at g5
  rw [(hone_of hone 6 f6 rfl).1, (hone_of hone 6 f6 rfl).2, t6] at g6
  obtain ⟨s0, rfl, b0⟩ := str_in (c := c0) (y := x0) g0
  obtain ⟨s1, rfl, b1⟩ := str_in (c := c1) (y := x1) g1
  obtain ⟨ns, hns, n1, n2⟩ := names_in (c := c2) (y := x2) g2
  obtain ⟨k3, rfl, r3, b3⟩ := int_in (c := c3) (y := x3) g3
  obtain ⟨k4, rfl, r4, b4⟩ := int_in (c := c4) (y := x4) g4
  obtain ⟨k5, rfl, r5, b5⟩ := int_in (c := c5) (y := x5) g5
  obtain ⟨k6, rfl, r6, b6⟩ := int_in (c := c6) (y := x6) g6
  have hd : Rows.uptoBulk x0.1 + Rows.uptoBulk x1.1 + Rows.uptoBulk x2.1 ≤ Rows.uptoBulk d := by
    have hd : d = .agg ([x0, x1, x2, x3, x4, x5, x6].map (·.1)) := congrArg Prod.fst hx
    rw [hd]
    simp only [Rows.uptoBulk, Rows.uptoBulkAll, List.map_cons, List.map_nil]
    omega
  refine ⟨⟨s0, s1, ns, k3, k4, k5, k6⟩, c2, ?_, hns, by simp only; omega, by simp only; omega, by simp only; omega, fun s hs => by have := n2 s hs; omega, r3, r4, r5, r6⟩
  cases v <;> simp [Value.cells] at hcs
  congr 1
  exact Array.toList_inj.1 hcs
end
end Go.Proofs.YtpcgfhleloonfaaGreatDoor
namespace Go.Proofs.YtpcgfhleloonfaaGreatDoor
open Go.RowKit Jo Ac
theorem sameCl_refl (c : Cl) : sameCl c c = true := by unfold sameCl; simp
theorem first_iff {keys : List Ky} {i : Nat} {k : Ky} (h : keys[i]? = some k) : firstP keys i = (keys.take i).all fun x => x.num != k.num := by unfold firstP; rw [h]; rfl
set_option maxRecDepth 100000 in
set_option maxHeartbeats 8000000 in
theorem accBack_law (keys : List Ky) (kv : Value) (at' : Int) (is ot : List UInt8) (c : Cl) (sv : Value) (now : Int) (w : World) (hE : AE w) (hk : KL w kv keys) (hkn : keys.length ≤ 1048576) (hks : ∀ k ∈ keys, k.secret.length ≤ 1048576) (hat : -9223372036854775808 ≤ at' ∧ at' ≤ 9223372036854775807) (his : is.length ≤ 1048576) (hot : ot.length ≤ 1048576) (hc : ClOk c) (hs : SL w sv c.scope) :
    Calls Tryz.prog 5 #[kv, .int .i64 at', S is, S ot, c.v sv, .int .i64 now] w fun e w' => e = .returned (.bool true) ∧ Kept (fun _ => True) w w' := by
  have HE := Lib.hid hE
  have HKL := Lib.hid hk
  have HSL := Lib.hid hs
  have HCK := Lib.hid hc
  have HKS := Lib.hid hks
  obtain ⟨ka, kc, rfl, hcell⟩ := hk
  have HCL := Lib.hid hcell
  obtain ⟨N, hN⟩ : ∃ N, keys.length = N := ⟨_, rfl⟩
  rw [hN] at HKL ⊢
  have HN := Lib.hid hN
  have hn1 : N ≤ 1048576 := by omega
  clear hE hcell hN hkn hs hc hks
  go_enter Tryz.func5, Tryz.ntmps5
  obtain ⟨W, hW⟩ : ∃ W, w.alloc (.cells #[S c.client, S c.subject, sv, .int .i64 c.family, .int .i64 c.number, .int .i64 c.issued, .int .i64 c.till] 26) = W := ⟨_, rfl⟩
  have hk0 : Kept (fun _ => True) w W := by rw [← hW]; exact (Kept.refl _ _).alloc _
  have RC0 : Hid (RowW w.heap.size 26 (c.vs sv) W) := Lib.hid (by rw [← hW]; exact heap_alloc_new w _)
  have HK0 := Lib.hid hk0
  obtain ⟨B, hB⟩ : ∃ B, w.heap.size = B := ⟨_, rfl⟩
  rw [hB] at RC0
  have KN := Lib.hid (known_any W (HE.out.kept hk0))
  clear hk0
  go_wp2_with fail
  clear hW hB
  refine KN.out.mono ?_
  rintro e w1 ⟨rfl, hk1⟩
  have HK1 := Lib.hid (HK0.out.tr hk1)
  have RC1 := Lib.hid (RC0.out.kept hk1 trivial)
  clear hk1 KN RC0 HK0
  by_cases hN0 : N = 0
  · have hb : ((N : Int) == 0) = true := by simp [hN0]
    go_wp2
    go_ret
    exact ⟨rfl, HK1.out⟩
  · have hb : ((N : Int) == 0) = false := by simp [hN0]
    have PK := Lib.hid (accPick_any at' N w1 hat.1 hat.2 (by omega) (by omega))
    go_wp2_with fail
    refine PK.out.mono ?_
    rintro e w2 ⟨⟨i, rfl, hi⟩, rfl⟩
    have hiN : i < N := by omega
    obtain ⟨k, hkk⟩ : ∃ k, keys[i]? = some k := ⟨_, List.getElem?_eq_getElem (by rw [HN.out]; exact hiN)⟩
    obtain ⟨b, off, rfl, hb0, e0, e1, e2, e3⟩ := HCL.out i k hkk
    have k0 := (HK1.out.cell hb0 trivial).trans e0
    have k1 := (HK1.out.cell hb0 trivial).trans e1
    have k2 := (HK1.out.cell hb0 trivial).trans e2
    have k3 := (HK1.out.cell hb0 trivial).trans e3
    have HKK := Lib.hid hkk
    have HKSI : Hid (k.secret.length ≤ 1048576) := Lib.hid (HKS.out k (List.mem_of_getElem? hkk))
    have HKS2 := Lib.hid HKS.out
    clear hkk e0 e1 e2 e3 hb0 PK HKS HCL hb
    obtain ⟨W3, hW3⟩ : ∃ W3, w2.alloc (.cells #[.int .i64 k.num, S k.secret, .int .i64 k.fr, .int .i64 k.till] 23) = W3 := ⟨_, rfl⟩
    have hk3 : Kept (fun _ => True) w2 W3 := by rw [← hW3]; exact (Kept.refl _ _).alloc _
    have RK3 : Hid (RowW w2.heap.size 23 k.vs W3) := Lib.hid (by rw [← hW3]; exact heap_alloc_new w2 _)
    have RC3 := Lib.hid (RC1.out.kept hk3 trivial)
    have HK3 := Lib.hid (HK1.out.tr hk3)
    obtain ⟨D, hD⟩ : ∃ D, w2.heap.size = D := ⟨_, rfl⟩
    rw [hD] at RK3
    have q0 := RK3.out.at' 0 _ rfl
    have q1 := RK3.out.at' 1 _ rfl
    have q2 := RK3.out.at' 2 _ rfl
    have q3 := RK3.out.at' 3 _ rfl
    have c0 := RC3.out.at' 0 _ rfl
    have c1 := RC3.out.at' 1 _ rfl
    have c2 := RC3.out.at' 2 _ rfl
    have c3 := RC3.out.at' 3 _ rfl
    have c4 := RC3.out.at' 4 _ rfl
    have c5 := RC3.out.at' 5 _ rfl
    have c6 := RC3.out.at' 6 _ rfl
    have CS := Lib.hid (Sign_any k is c sv W3 (HE.out.kept HK3.out) HCK.out (by omega) (by have := HKSI.out; omega) (HSL.out.kept HK3.out))
    clear hk3
    go_wp2_with fail
    clear hW3 hD k0 k1 k2 k3 q0 q1 q2 q3 c0 c1 c2 c3 c4 c5 c6
    refine CS.out.mono ?_
    rintro e w4 ⟨rfl, hk4⟩
    have HK4 := Lib.hid (HK3.out.tr hk4)
    have RC4 := Lib.hid (RC3.out.kept hk4 trivial)
    have RK4 := Lib.hid (RK3.out.kept hk4 trivial)
    obtain ⟨s, hs⟩ : ∃ s, (sgP k is c).1 = s := ⟨_, rfl⟩
    obtain ⟨E, hE⟩ : ∃ E, (sgP k is c).2 = E := ⟨_, rfl⟩
    rw [hs, hE]
    have HS := Lib.hid (And.intro hs hE)
    clear hs hE hk4 CS RC1 RC3 RK3 HK1 HK3
    by_cases hE0 : E = 0
    · subst hE0
      have HTK : Hid (tokP is s = some (k.num, c, bodyP k.num is c, mac k.secret (bodyP k.num is c))) := Lib.hid (by rw [← HS.out.1]; exact sign_tok HS.out.2)
      have hsl : s.length ≤ 30000 := by
        rw [← HS.out.1, (sign_ok HS.out.2).2.2.2, List.length_append, List.length_cons]
        have h1 := bodyP_le k.num is c
        have h2 := b64_le (mac k.secret (bodyP k.num is c))
        have h3 := mac_len k.secret (bodyP k.num is c)
        omega
      have CR : Hid (Calls Tryz.prog 13 #[S is, S s] w4 fun e w' => (∃ sa sn sc, e = .returned (.tuple #[.agg (c.vs (.slice sa sn sc)).toArray, .int .i64 k.num, .int .i64 0]) ∧ OwnS w4.heap.size (.slice sa sn sc) c.scope w') ∧ Kept (fun _ => True) w4 w') := Lib.hid (by
        have := Read_any is s w4 (HE.out.kept HK4.out) (by omega) (by omega)
        unfold ReadQ readT at this
        rw [HTK.out] at this
        exact this)
      go_wp2_with fail
      refine CR.out.mono ?_
      rintro e w5 ⟨⟨sa, sn, sc, rfl, ho5⟩, hk5⟩
      obtain ⟨W5, hW5⟩ : ∃ W5, w5.alloc (.cells (c.vs (.slice sa sn sc)).toArray 26) = W5 := ⟨_, rfl⟩
      have hk55 : Kept (fun _ => True) w5 W5 := by rw [← hW5]; exact (Kept.refl _ _).alloc _
      have RD5 : Hid (RowW w5.heap.size 26 (c.vs (.slice sa sn sc)) W5) := Lib.hid (by rw [← hW5]; exact heap_alloc_new w5 _)
      have HK5 := Lib.hid ((HK4.out.tr hk5).tr hk55)
      have RC5 := Lib.hid (RC4.out.kept (hk5.tr hk55) trivial)
      have RK5 := Lib.hid (RK4.out.kept (hk5.tr hk55) trivial)
      have CM := Lib.hid (sameClaims_any c c (.slice sa sn sc) sv W5 (ho5.sl.kept hk55) (HSL.out.kept HK5.out) HCK.out.scn HCK.out.scn)
      rw [sameCl_refl] at CM
      obtain ⟨F, hF⟩ : ∃ F, w5.heap.size = F := ⟨_, rfl⟩
      rw [hF] at RD5
      have d0 := RD5.out.at' 0 _ rfl
      have d1 := RD5.out.at' 1 _ rfl
      have d2 := RD5.out.at' 2 _ rfl
      have d3 := RD5.out.at' 3 _ rfl
      have d4 := RD5.out.at' 4 _ rfl
      have d5 := RD5.out.at' 5 _ rfl
      have d6 := RD5.out.at' 6 _ rfl
      have c0 := RC5.out.at' 0 _ rfl
      have c1 := RC5.out.at' 1 _ rfl
      have c2 := RC5.out.at' 2 _ rfl
      have c3 := RC5.out.at' 3 _ rfl
      have c4 := RC5.out.at' 4 _ rfl
      have c5 := RC5.out.at' 5 _ rfl
      have c6 := RC5.out.at' 6 _ rfl
      clear hk5 hk55 ho5 RC4 RK4 CR HK4
      go_wp2_with fail
      clear hW5 hF d0 d1 d2 d3 d4 d5 d6 c0 c1 c2 c3 c4 c5 c6
      refine CM.out.mono ?_
      rintro e w6 ⟨rfl, hk6⟩
      have HK6 := Lib.hid (HK5.out.tr hk6)
      have RC6 := Lib.hid (RC5.out.kept hk6 trivial)
      have RK6 := Lib.hid (RK5.out.kept hk6 trivial)
      have q0 := RK6.out.at' 0 _ rfl
      clear hk6 CM RC5 RK5 RD5 HK5
      by_cases ho : ot = is
      case' pos =>
        obtain rfl := ho.symm
        obtain ⟨wc, hwc⟩ : ∃ wc, wc = w6 := ⟨_, rfl⟩
        subst hwc
        have HK7 := Lib.hid HK6.out
        have RC7 := Lib.hid RC6.out
        have RK7 := Lib.hid RK6.out
        clear RC6 RK6 HK6
      case' neg =>
        have hq : (ot == is) = false := by simpa using ho
        have HTN : Hid (tokP ot s = none) := Lib.hid (by rw [← HS.out.1]; exact sign_other HS.out.2 ho)
        have CR : Hid (Calls Tryz.prog 13 #[S ot, S s] w6 fun e w' => (∃ sa sn sc, e = .returned (.tuple #[.agg (zeroCl.vs (.slice sa sn sc)).toArray, .int .i64 0, .int .i64 230]) ∧ OwnS w6.heap.size (.slice sa sn sc) zeroCl.scope w') ∧ Kept (fun _ => True) w6 w') := Lib.hid (by
          have := Read_any ot s w6 (HE.out.kept HK6.out) (by omega) (by omega)
          unfold ReadQ readT at this
          rw [HTN.out] at this
          exact this)
        clear ho HTN
        go_wp2_with fail
        refine CR.out.mono ?_
        rintro e w7 ⟨⟨ta, tn, tc, rfl, -⟩, hk7⟩
        obtain ⟨wc, hW7⟩ : ∃ W7, w7.alloc (.cells (zeroCl.vs (.slice ta tn tc)).toArray 26) = W7 := ⟨_, rfl⟩
        have hk77 : Kept (fun _ => True) w7 wc := by rw [← hW7]; exact (Kept.refl _ _).alloc _
        have HK7 := Lib.hid (HK6.out.tr (hk7.tr hk77))
        have RC7 := Lib.hid (RC6.out.kept (hk7.tr hk77) trivial)
        have RK7 := Lib.hid (RK6.out.kept (hk7.tr hk77) trivial)
        clear hk7 hk77 CR RC6 RK6 HK6 q0 hq
        go_wp2_with fail
        clear hW7
      all_goals
        have FI := Lib.hid (accFirst_any keys (.slice (some ⟨b, off, none⟩) N kc) i wc (HKL.out.kept HK7.out) (by rw [HN.out]; exact hiN) (by rw [HN.out]; exact hn1))
        rw [first_iff HKK.out] at FI
        go_wp2_with fail
        refine FI.out.mono ?_
        rintro e w8 ⟨rfl, hk8⟩
        have HK8 := Lib.hid (HK7.out.tr hk8)
        have RC8 := Lib.hid (RC7.out.kept hk8 trivial)
        have RK8 := Lib.hid (RK7.out.kept hk8 trivial)
        clear hk8 FI RC7 RK7 HK7
        cases hfi : ((keys.take i).all fun x => x.num != k.num) with
        | false =>
          go_wp2
          go_ret
          exact ⟨rfl, HK8.out⟩
        | true =>
          obtain ⟨t, ht⟩ : ∃ t, min (max now 0) 1099511627776 = t := ⟨_, rfl⟩
          have HV : Hid (verP keys is s now = if k.till ≤ t ∨ c.issued < k.fr then (zeroCl, 231) else if t < c.issued ∨ c.till ≤ t then (zeroCl, 233) else (c, 0)) := Lib.hid (by
            have := sign_ver (now := now) HS.out.2 HKK.out hfi
            rw [HS.out.1, show nearP now = t from ht] at this
            exact this)
          have CV := fun (d : Cl) (x : Int) (h : verP keys is s now = (d, x)) => show Calls Tryz.prog 19 #[.slice (some ⟨b, off, none⟩) N kc, S is, S s, .int .i64 now] w8 fun e w' => (∃ sa sn sc, e = .returned (.tuple #[.agg (d.vs (.slice sa sn sc)).toArray, .int .i64 x]) ∧ OwnS w8.heap.size (.slice sa sn sc) d.scope w') ∧ Kept (fun _ => True) w8 w' from by
            have := Verify_any keys (.slice (some ⟨b, off, none⟩) N kc) is s now w8 (HE.out.kept HK8.out) (by omega) (by omega) (HKL.out.kept HK8.out) (by rw [HN.out]; exact hn1) (fun k hk => by have := HKS2.out k hk; omega)
            unfold VerQ at this
            rw [h] at this
            exact this
          have HCV := Lib.hid CV
          clear hfi CV
          by_cases hbad : k.till ≤ t ∨ c.issued < k.fr
          · have CX := Lib.hid (HCV.out zeroCl 231 (by rw [HV.out, if_pos hbad]))
            have HBD := Lib.hid hbad
            clear hbad
            go_wp2_with fail
            refine CX.out.mono ?_
            rintro e w9 ⟨⟨ta, tn, tc, rfl, -⟩, hk9⟩
            obtain ⟨W9, hW9⟩ : ∃ W9, w9.alloc (.cells (zeroCl.vs (.slice ta tn tc)).toArray 26) = W9 := ⟨_, rfl⟩
            have hk99 : Kept (fun _ => True) w9 W9 := by rw [← hW9]; exact (Kept.refl _ _).alloc _
            have d0 : W9.cell? ⟨w9.heap.size, 0, none⟩ = some (S []) := RowW.at' (vs := zeroCl.vs (.slice ta tn tc)) (by rw [← hW9]; exact heap_alloc_new w9 _) 0 _ rfl
            have HK9 := Lib.hid ((HK8.out.tr hk9).tr hk99)
            have RC9 := RC8.out.kept (hk9.tr hk99) trivial
            have RK9 := RK8.out.kept (hk9.tr hk99) trivial
            have q2 := RK9.at' 2 _ rfl
            have q3 := RK9.at' 3 _ rfl
            have c5 := RC9.at' 5 _ rfl
            clear hk9 hk99 RC9 RK9 CX HCV
            by_cases h1 : k.till ≤ t
            · go_wp2
              go_ret
              exact ⟨rfl, HK9.out⟩
            · have h2 : c.issued < k.fr := HBD.out.resolve_left h1
              go_wp2
              go_ret
              exact ⟨rfl, HK9.out⟩
          · have h1 : ¬ k.till ≤ t := fun h => hbad (.inl h)
            have h2 : ¬ c.issued < k.fr := fun h => hbad (.inr h)
            have HV2 : Hid (verP keys is s now = if t < c.issued ∨ c.till ≤ t then (zeroCl, 233) else (c, 0)) := Lib.hid (by rw [HV.out, if_neg hbad])
            clear hbad HV
            by_cases hlate : t < c.issued ∨ c.till ≤ t
            · have CX := Lib.hid (HCV.out zeroCl 233 (by rw [HV2.out, if_pos hlate]))
              have HBD := Lib.hid hlate
              clear hlate
              go_wp2_with fail
              refine CX.out.mono ?_
              rintro e w9 ⟨⟨ta, tn, tc, rfl, -⟩, hk9⟩
              obtain ⟨W9, hW9⟩ : ∃ W9, w9.alloc (.cells (zeroCl.vs (.slice ta tn tc)).toArray 26) = W9 := ⟨_, rfl⟩
              have hk99 : Kept (fun _ => True) w9 W9 := by rw [← hW9]; exact (Kept.refl _ _).alloc _
              have d0 : W9.cell? ⟨w9.heap.size, 0, none⟩ = some (S []) := RowW.at' (vs := zeroCl.vs (.slice ta tn tc)) (by rw [← hW9]; exact heap_alloc_new w9 _) 0 _ rfl
              have HK9 := Lib.hid ((HK8.out.tr hk9).tr hk99)
              have RC9 := RC8.out.kept (hk9.tr hk99) trivial
              have RK9 := RK8.out.kept (hk9.tr hk99) trivial
              have q2 := RK9.at' 2 _ rfl
              have q3 := RK9.at' 3 _ rfl
              have c5 := RC9.at' 5 _ rfl
              have c6 := RC9.at' 6 _ rfl
              clear hk9 hk99 RC9 RK9 CX HCV
              by_cases h3 : t < c.issued
              · go_wp2
                go_ret
                exact ⟨rfl, HK9.out⟩
              · have h4 : c.till ≤ t := HBD.out.resolve_left h3
                go_wp2
                go_ret
                exact ⟨rfl, HK9.out⟩
            · have h3 : ¬ t < c.issued := fun h => hlate (.inl h)
              have h4 : ¬ c.till ≤ t := fun h => hlate (.inr h)
              have CX := Lib.hid (HCV.out c 0 (by rw [HV2.out, if_neg hlate]))
              clear hlate
              go_wp2_with fail
              refine CX.out.mono ?_
              rintro e w9 ⟨⟨ta, tn, tc, rfl, ho9⟩, hk9⟩
              obtain ⟨W9, hW9⟩ : ∃ W9, w9.alloc (.cells (c.vs (.slice ta tn tc)).toArray 26) = W9 := ⟨_, rfl⟩
              have hk99 : Kept (fun _ => True) w9 W9 := by rw [← hW9]; exact (Kept.refl _ _).alloc _
              have RD9 : RowW w9.heap.size 26 (c.vs (.slice ta tn tc)) W9 := by rw [← hW9]; exact heap_alloc_new w9 _
              have HK9 := Lib.hid ((HK8.out.tr hk9).tr hk99)
              have CM := Lib.hid (sameClaims_any c c (.slice ta tn tc) sv W9 (ho9.sl.kept hk99) (HSL.out.kept HK9.out) HCK.out.scn HCK.out.scn)
              rw [sameCl_refl] at CM
              have RC9 := RC8.out.kept (hk9.tr hk99) trivial
              have RK9 := RK8.out.kept (hk9.tr hk99) trivial
              have q2 := RK9.at' 2 _ rfl
              have q3 := RK9.at' 3 _ rfl
              have c0 := RC9.at' 0 _ rfl
              have c1 := RC9.at' 1 _ rfl
              have c2 := RC9.at' 2 _ rfl
              have c3 := RC9.at' 3 _ rfl
              have c4 := RC9.at' 4 _ rfl
              have c5 := RC9.at' 5 _ rfl
              have c6 := RC9.at' 6 _ rfl
              have d0 := RD9.at' 0 _ rfl
              have d1 := RD9.at' 1 _ rfl
              have d2 := RD9.at' 2 _ rfl
              have d3 := RD9.at' 3 _ rfl
              have d4 := RD9.at' 4 _ rfl
              have d5 := RD9.at' 5 _ rfl
              have d6 := RD9.at' 6 _ rfl
              clear hk9 hk99 RC9 RK9 RD9 CX HCV ho9
              go_wp2_with fail
              refine CM.out.mono ?_
              rintro e wA ⟨rfl, hkA⟩
              have HKA := Lib.hid (HK9.out.tr hkA)
              clear hkA
              go_wp2
              go_ret
              exact ⟨rfl, HKA.out⟩
    · have HER := Lib.hid (sign_err (k := k) (is := is) (c := c) (by rw [HS.out.2]; exact hE0))
      obtain rfl : s = [] := HS.out.1.symm.trans HER.out.1
      have hE1 : E = 1 ∨ E = 235 := by have := HER.out.2; rw [HS.out.2] at this; exact this
      clear hE0
      rcases hE1 with rfl | rfl
      · go_wp2
        go_ret
        exact ⟨rfl, HK4.out⟩
      · go_wp2
        go_ret
        exact ⟨rfl, HK4.out⟩
end Go.Proofs.YtpcgfhleloonfaaGreatDoor
namespace Go.Proofs.YtpcgfhleloonfaaGreatDoor
open Go.RowKit Jo Ac
section
variable {P : Program} {ops : Array Oper} {Q : Exit → Act → World → Prop} {ds : List (Option Nat)} {base : Act} {W : World} {R : Nat → (Nat → Prop) → Value → World → Prop} {tgs : List Tgt} {L : Nat → Bool} {vs : Nat → Value} {a : Act} {w w' : World} {i : Nat} {o : Oper} {v : Value}
theorem flow_call3 (p : Pre ops ds base L vs a i o) (hg : o.guard = none) (h : WIs W R tgs L vs w) (hR : Lasts R) (hT : ∀ t ∈ tgs, t.al ≠ some i ∧ t.st ≠ i ∧ (L t.st = true → t.src ≠ i)) {f : FuncId} {x y z : Operand} {t u s : TypeId} {arg arg' arg'' : Value} {K : Ending → World → Prop} (ho : o.op = .call { callee := .value (.func f), args := #[x, y, z], argTypes := #[t, u, s] }) (hcf : ∀ w, (callFunc f #[arg, arg', arg'']).run P w = .ok (.enter f #[arg, arg', arg'']) w) (hx : a.eval x = arg) (hy : a.eval y = arg') (hz : a.eval z = arg'') (hc : Calls P f #[arg, arg', arg''] w K)
    (hv : ∀ e w', K e w' → ∃ v, e = .returned v ∧ Kept (fun _ => True) w w' ∧ ∀ ok : Nat → Prop, (∀ b, w.heap.size ≤ b → ok b) → R i ok v w') : FG P ops Q W R tgs L vs a i o w := by
  refine flow_call p hg h hR hT ?_ hc hv
  have hf : a.eval (.func f) = .func (.func f) #[] #[] := rfl
  simp [execOp, ho, resolve, invoke, hx, hy, hz, hf, Deferred.ofValue, hcf]
end
theorem last_cut {s a m : List UInt8} {j : Nat} (hs : s = a ++ 46 :: m) (hm : (46 : UInt8) ∉ m) (h : IsLast s j) : j = a.length + 1 := by
  subst hs
  obtain ⟨h1, h2, h3⟩ := h
  rw [List.length_append, List.length_cons] at h1
  by_cases hlt : j ≤ a.length
  · exact absurd (by simp) (h2 a.length hlt (by simp))
  · rcases h3 with h3 | h3
    · omega
    · by_cases he : j - 1 = a.length
      · omega
      · rw [List.getElem?_append_right (by omega), show j - 1 - a.length = (j - 2 - a.length) + 1 by omega, List.getElem?_cons_succ] at h3
        exact absurd (List.mem_of_getElem? h3) hm
theorem claim_ok {c : Cl} (h : claimP c = true) : ClOk c := by
  obtain ⟨p1, p2, p3, p4, p5, p6, p7, -⟩ := claim_parts h
  have n1 := name_len p1
  have n2 := name_len p2
  have i1 := in_le p4
  have i2 := in_le p5
  have i3 := time_le p6
  have i4 := time_le p7
  unfold scopeP at p3
  simp only [Bool.and_eq_true, decide_eq_true_eq] at p3
  exact ⟨by omega, by omega, by omega, fun s hs => by have := name_len (rises_names _ _ p3.1.1 s hs); omega, ⟨by omega, by omega⟩, ⟨by omega, by omega⟩, ⟨by omega, by omega⟩, ⟨by omega, by omega⟩⟩
def relG (b off N kc i : Nat) (k : Ky) (is : List UInt8) (c : Cl) (sv : Value) (T : List UInt8) (E : Int) : List Rel := [isV (.slice (some ⟨b, off, none⟩) N kc), isV (.int .i64 (i : Int)), isV (.pointer (some ⟨b, off + i * 4, none⟩)), isV k.v, isV (S is), isV (c.v sv), isV (.tuple #[S T, .int .i64 E]), isV (.tuple #[S T, .int .i64 E]), isV (S T), isV (.int .i64 E), isV (S T), isV (.int .i64 E)]
theorem relG_last (b off N kc i : Nat) (k : Ky) (is : List UInt8) (c : Cl) (sv : Value) (T : List UInt8) (E : Int) : Lasts (relOf (relG b off N kc i k is c sv T E)) := lasts_of _ (by
  intro r hr
  simp only [relG, List.mem_cons, List.not_mem_nil, or_false] at hr
  obtain rfl | rfl | rfl | rfl | rfl | rfl | rfl | rfl | rfl | rfl | rfl | rfl := hr <;> first | exact isV_last _ | exact isRow_last _ _ _)
set_option maxRecDepth 100000 in
set_option maxHeartbeats 8000000 in
theorem accStrict_law (keys : List Ky) (kv : Value) (is s : List UInt8) (now : Int) (part : List UInt8) (w : World) (hE : AE w) (hk : KL w kv keys) (hkn : keys.length ≤ 1048576) (hks : ∀ k ∈ keys, k.secret.length ≤ 1048576) (his : is.length ≤ 1048576) (hsl : s.length ≤ 1048576) (hpl : part.length ≤ 1048576) :
    Calls Tryz.prog 6 #[kv, S is, S s, .int .i64 now, S part] w fun e w' => e = .returned (.bool true) ∧ Kept (fun _ => True) w w' := by
  have HE := Lib.hid hE
  have HKL := Lib.hid hk
  have HKS := Lib.hid hks
  obtain ⟨ka, kc, rfl, hcell⟩ := hk
  have HCL := Lib.hid hcell
  obtain ⟨N, hN⟩ : ∃ N, keys.length = N := ⟨_, rfl⟩
  rw [hN] at HKL ⊢
  have HN := Lib.hid hN
  have hn1 : N ≤ 1048576 := by omega
  have KN := Lib.hid (known_any w hE)
  clear hE hcell hN hkn hks
  go_enter Tryz.func6, Tryz.ntmps6
  go_wp2_with fail
  refine KN.out.mono ?_
  rintro e w1 ⟨rfl, hk1⟩
  have HK1 := Lib.hid hk1
  obtain ⟨c, hc⟩ : ∃ c, (verP keys is s now).1 = c := ⟨_, rfl⟩
  obtain ⟨V, hV⟩ : ∃ V, (verP keys is s now).2 = V := ⟨_, rfl⟩
  have HV := Lib.hid (show verP keys is s now = (c, V) from Prod.ext hc hV)
  have CVG := Lib.hid (fun (x : List UInt8) (hx : x.length ≤ 4194304) w1 (hk1 : Kept (fun _ => True) w w1) (d : Cl) (n : Int) (h : verP keys is x now = (d, n)) => show Calls Tryz.prog 19 #[.slice ka N kc, S is, S x, .int .i64 now] w1 fun e w' => (∃ sa sn sc, e = .returned (.tuple #[.agg (d.vs (.slice sa sn sc)).toArray, .int .i64 n]) ∧ OwnS w1.heap.size (.slice sa sn sc) d.scope w') ∧ Kept (fun _ => True) w1 w' from by
    have := Verify_any keys (.slice ka N kc) is x now w1 (HE.out.kept hk1) (by omega) (by omega) (HKL.out.kept hk1) (by rw [HN.out]; exact hn1) (fun k hk => by have := HKS.out k hk; omega)
    unfold VerQ at this
    rw [h] at this
    exact this)
  have CV1 := Lib.hid (CVG.out s (by omega) w1 hk1 c V HV.out)
  clear hk1 KN hc hV
  go_wp2_with fail
  refine CV1.out.mono ?_
  rintro e w2 ⟨⟨sa, sn, sc, rfl, ho2⟩, hk2⟩
  obtain ⟨W2, hW2⟩ : ∃ W2, w2.alloc (.cells (c.vs (.slice sa sn sc)).toArray 26) = W2 := ⟨_, rfl⟩
  have hk22 : Kept (fun _ => True) w2 W2 := by rw [← hW2]; exact (Kept.refl _ _).alloc _
  have RC2 : Hid (RowW w2.heap.size 26 (c.vs (.slice sa sn sc)) W2) := Lib.hid (by rw [← hW2]; exact heap_alloc_new w2 _)
  have HK2 := Lib.hid ((HK1.out.tr hk2).tr hk22)
  have HSL2 := Lib.hid (ho2.sl.kept hk22)
  obtain ⟨B, hB⟩ : ∃ B, w2.heap.size = B := ⟨_, rfl⟩
  rw [hB] at RC2
  clear hk2 hk22 ho2 CV1 HK1
  by_cases hV0 : V = 0
  · subst hV0
    obtain ⟨n, si, i0, k, htok, hki, hkn, hfirst, hnb, hsi⟩ := ver_ok (keys := keys) (is := is) (s := s) (now := now) (by rw [HV.out])
    rw [HV.out] at htok hnb hsi
    simp only at htok hnb hsi
    subst hsi
    have HTK := Lib.hid htok
    have HKI := Lib.hid hki
    have HKN := Lib.hid hkn
    have HF := Lib.hid hfirst
    have HNB := Lib.hid hnb
    have hi0 : i0 < N := by rw [← HN.out]; exact (List.getElem?_eq_some_iff.1 hki).1
    obtain ⟨h1, h2, h3, hcl, -, -, hs⟩ := tok_iff.1 htok
    obtain ⟨a, ha⟩ : ∃ a, bodyP n is c = a := ⟨_, rfl⟩
    obtain ⟨m, hm⟩ : ∃ m, b64 (mac k.secret (bodyP n is c)) = m := ⟨_, rfl⟩
    have hmd : (46 : UInt8) ∉ m := by rw [← hm]; exact b64_nodot _
    rw [ha] at hs
    rw [ha] at hm
    rw [hm] at hs
    have HS := Lib.hid hs
    have HA := Lib.hid ha
    have HMD := Lib.hid hmd
    have HCOK : Hid (ClOk c) := Lib.hid (claim_ok hcl)
    have CR : Hid (Calls Tryz.prog 13 #[S is, S s] W2 fun e w' => (∃ sa sn sc, e = .returned (.tuple #[.agg (c.vs (.slice sa sn sc)).toArray, .int .i64 n, .int .i64 0]) ∧ OwnS W2.heap.size (.slice sa sn sc) c.scope w') ∧ Kept (fun _ => True) W2 w') := Lib.hid (by
      have := Read_any is s W2 (HE.out.kept HK2.out) (by omega) (by omega)
      unfold ReadQ readT at this
      rw [HTK.out] at this
      exact this)
    clear htok hki hkn hfirst hnb hs ha hm hmd hcl h1 h2 h3
    go_wp2_with fail
    clear hW2 hB
    refine CR.out.mono ?_
    rintro e w3 ⟨⟨ra, rn, rc, rfl, -⟩, hk3⟩
    obtain ⟨W3, hW3⟩ : ∃ W3, w3.alloc (.cells (c.vs (.slice ra rn rc)).toArray 26) = W3 := ⟨_, rfl⟩
    have hk33 : Kept (fun _ => True) w3 W3 := by rw [← hW3]; exact (Kept.refl _ _).alloc _
    have HK3 := Lib.hid ((HK2.out.tr hk3).tr hk33)
    have RC3 := Lib.hid (RC2.out.kept (hk3.tr hk33) trivial)
    have HSL3 := Lib.hid (HSL2.out.kept (hk3.tr hk33))
    clear hk3 hk33 CR RC2 HK2 HSL2
    go_wp2_with fail
    clear hW3
    have hi0i : (i0 : Int) < (N : Int) := by omega
    go_loopg [17] N (fun q iv wx => ∃ i : Nat, iv = .int .i64 (i : Int) ∧ i ≤ i0 ∧ q = N - i ∧ Hid (Kept (fun _ => True) W3 wx))
    case atStart => exact ⟨0, rfl, by omega, rfl, Lib.hid (Kept.refl _ _)⟩
    case round =>
      obtain ⟨i, rfl, hi, rfl, HKQ⟩ := hrel
      have HKR := Lib.hid (HK3.out.tr HKQ.out)
      have hiN : i < N := by omega
      have hi1 : (i : Int) < (N : Int) := by omega
      obtain ⟨x, hx⟩ : ∃ x, keys[i]? = some x := ⟨_, List.getElem?_eq_getElem (by rw [HN.out]; exact hiN)⟩
      obtain ⟨b, off, rfl, hb0, e0, e1, e2, e3⟩ := HCL.out i x hx
      have k0 := (HKR.out.cell hb0 trivial).trans e0
      have k1 := (HKR.out.cell hb0 trivial).trans e1
      have k2 := (HKR.out.cell hb0 trivial).trans e2
      have k3 := (HKR.out.cell hb0 trivial).trans e3
      by_cases hlt : i < i0
      · have hne : (x.num != n) = true := by
          have := List.all_eq_true.1 HF.out x (List.mem_of_getElem? (i := i) (by rw [List.getElem?_take_of_lt hlt]; exact hx))
          exact this
        clear hx e0 e1 e2 e3 hb0
        go_wp2
        go_roundg (N - (i + 1))
        case rel => exact ⟨i + 1, by go_num, by omega, rfl, HKQ⟩
        case measure => omega
      · obtain rfl : i = i0 := by omega
        obtain rfl : k = x := Option.some.inj (HKI.out.symm.trans hx)
        have hne : (k.num != n) = false := by simpa using HKN.out
        have HQ := Lib.hid (And.intro k0 (And.intro k1 (And.intro k2 k3)))
        have HBW : Hid (b < wr.heap.size) := Lib.hid (Nat.lt_of_lt_of_le hb0 HKR.out.size)
        have HIN : Hid ((i : Int) < (N : Int)) := Lib.hid hi1
        have RCR := Lib.hid (RC3.out.kept HKQ.out trivial)
        obtain ⟨T, hT⟩ : ∃ T, (sgP k is c).1 = T := ⟨_, rfl⟩
        obtain ⟨E, hE⟩ : ∃ E, (sgP k is c).2 = E := ⟨_, rfl⟩
        have HSG := Lib.hid (show E = 0 → T = s from fun h => by rw [← hT]; exact strict_sign HTK.out HKN.out (by rw [hE]; exact h))
        have CSG : Hid (∀ w1, Kept (fun _ => True) wr w1 → Calls Tryz.prog 10 #[k.v, S is, c.v (.slice sa sn sc)] w1 fun e w' => e = .returned (.tuple #[S T, .int .i64 E]) ∧ Kept (fun _ => True) w1 w') := Lib.hid fun w1 hk => by
          have := Sign_any k is c (.slice sa sn sc) w1 (HE.out.kept (HKR.out.tr hk)) HCOK.out (by omega) (by have := HKS.out k (List.mem_of_getElem? hx); omega) ((HSL3.out.kept HKQ.out).kept hk)
          rw [hT, hE] at this
          exact this
        clear hx e1 e2 e3 hb0 hT hE hlt
        go_wp2_with fail
        clear e0 k0 k1 k2 k3 hne
        refine wp_flow2 rfl [some 64, some 65, some 66, some 67, some 68, some 69, some 70, some 63, some 71, some 72, some 18, some 19] rfl (by decide) (by kernel_rfl) (by kernel_rfl) (WIs wr (relOf (relG b off N kc i k is c (.slice sa sn sc) T E)) []) ?_ ?_ ?_
        · intro vs
          exact WIs.start (fun k t h => by simp at h) (fun k l t u h => by simp at h)
        · intro jq o L vs x w1 p h
          have hi : jq < 12 := p.lt
          have hR := relG_last b off N kc i k is c (.slice sa sn sc) T E
          have hk := h.kept fun t ht => by cases ht
          obtain rfl | rfl | rfl | rfl | rfl | rfl | rfl | rfl | rfl | rfl | rfl | rfl : jq = 0 ∨ jq = 1 ∨ jq = 2 ∨ jq = 3 ∨ jq = 4 ∨ jq = 5 ∨ jq = 6 ∨ jq = 7 ∨ jq = 8 ∨ jq = 9 ∨ jq = 10 ∨ jq = 11 := by omega
          · obtain rfl : _ = o := Option.some.inj p.isAt
            exact flow_mv p rfl h hR (tok_of [] 0 rfl L) rfl rfl ((p.old 0 rfl).trans rfl)
          · obtain rfl : _ = o := Option.some.inj p.isAt
            exact flow_mv p rfl h hR (tok_of [] 1 rfl L) rfl rfl ((p.old 17 rfl).trans rfl)
          · obtain rfl : _ = o := Option.some.inj p.isAt
            have e64 := p.isv h 0 64 rfl rfl rfl
            have e65 := p.isv h 1 65 rfl rfl rfl
            simp only [Act.eval, Array.getD_eq_getD_getElem?] at e64 e65
            exact flow_is p rfl h hR (tok_of [] 2 rfl L) rfl (by simp [execOp, go_sem, e64, e65, HIN.out])
          · obtain rfl : _ = o := Option.some.inj p.isAt
            have c0 := (hk.cell HBW.out trivial).trans HQ.out.1
            have c1 := (hk.cell HBW.out trivial).trans HQ.out.2.1
            have c2 := (hk.cell HBW.out trivial).trans HQ.out.2.2.1
            have c3 := (hk.cell HBW.out trivial).trans HQ.out.2.2.2
            exact flow_load p rfl h hR (tok_of [] 3 rfl L) rfl rfl (p.isv h 2 66 rfl rfl rfl) (by simp [go_sem, c0, c1, c2, c3])
          · obtain rfl : _ = o := Option.some.inj p.isAt
            exact flow_mv p rfl h hR (tok_of [] 4 rfl L) rfl rfl ((p.old 1 rfl).trans rfl)
          · obtain rfl : _ = o := Option.some.inj p.isAt
            have c0 := (RCR.out.kept hk trivial).at' 0 _ rfl
            have c1 := (RCR.out.kept hk trivial).at' 1 _ rfl
            have c2 := (RCR.out.kept hk trivial).at' 2 _ rfl
            have c3 := (RCR.out.kept hk trivial).at' 3 _ rfl
            have c4 := (RCR.out.kept hk trivial).at' 4 _ rfl
            have c5 := (RCR.out.kept hk trivial).at' 5 _ rfl
            have c6 := (RCR.out.kept hk trivial).at' 6 _ rfl
            exact flow_load p rfl h hR (tok_of [] 5 rfl L) rfl rfl ((p.old 12 rfl).trans rfl) (by simp [go_sem, c0, c1, c2, c3, c4, c5, c6])
          · obtain rfl : _ = o := Option.some.inj p.isAt
            refine flow_call3 p rfl h hR (tok_of [] 6 rfl L) rfl (fun w => by kernel_rfl) (p.isv h 3 67 rfl rfl rfl) (p.isv h 4 68 rfl rfl rfl) (p.isv h 5 69 rfl rfl rfl) (CSG.out w1 hk) ?_
            rintro e w' ⟨rfl, hk'⟩
            exact ⟨_, rfl, hk', fun ok _ => rfl⟩
          · obtain rfl : _ = o := Option.some.inj p.isAt
            exact flow_mv p rfl h hR (tok_of [] 7 rfl L) rfl rfl (p.isv h 6 70 rfl rfl rfl)
          · obtain rfl : _ = o := Option.some.inj p.isAt
            have e63 := (p.isv h 7 63 rfl rfl rfl)
            simp only [Act.eval, Array.getD_eq_getD_getElem?] at e63
            exact flow_is p rfl h hR (tok_of [] 8 rfl L) rfl (by simp [execOp, go_sem, e63])
          · obtain rfl : _ = o := Option.some.inj p.isAt
            have e63 := (p.isv h 7 63 rfl rfl rfl)
            simp only [Act.eval, Array.getD_eq_getD_getElem?] at e63
            exact flow_is p rfl h hR (tok_of [] 9 rfl L) rfl (by simp [execOp, go_sem, e63])
          · obtain rfl : _ = o := Option.some.inj p.isAt
            exact flow_as p rfl h hR (tok_of [] 10 rfl L) rfl rfl (p.isv h 8 71 rfl rfl rfl)
          · obtain rfl : _ = o := Option.some.inj p.isAt
            exact flow_as p rfl h hR (tok_of [] 11 rfl L) rfl rfl (p.isv h 9 72 rfl rfl rfl)
        · intro vs w9 L hL h
          have hk9 := h.kept fun t ht => by cases ht
          obtain ⟨ok, G, -, -, -, h3, -⟩ := h
          have e10 : vs 10 = S T := h3 10 (hL 10 (by decide))
          have e11 : vs 11 = .int .i64 E := h3 11 (hL 11 (by decide))
          have HKX := Lib.hid (HKR.out.tr hk9)
          have RCX := Lib.hid (RCR.out.kept hk9 trivial)
          simp only [putAll, Act.put, List.setIfInBounds_toArray, List.set_cons_zero, List.set_cons_succ, Nat.zero_add, Nat.reduceAdd, e10, e11]
          clear h3 hL e10 e11 hk9
          generalize vs 0 = v0
          generalize vs 1 = v1
          generalize vs 2 = v2
          generalize vs 3 = v3
          generalize vs 4 = v4
          generalize vs 5 = v5
          generalize vs 6 = v6
          generalize vs 7 = v7
          generalize vs 8 = v8
          generalize vs 9 = v9
          have hEE : (E == 0) = true ∨ (E == 0) = false := by cases E == 0 <;> simp
          have HES := Lib.hid (show (E == 0) = true → T = s from fun h => HSG.out (by simpa using h))
          have LA := Lib.hid (fun w => accLast_any s w (by omega))
          have hsz : (⟨s.toArray⟩ : ByteArray).size = s.length := size_mk s
          have hps : (⟨part.toArray⟩ : ByteArray).size = part.length := size_mk part
          have hsl2 : s.length = a.length + 1 + m.length := by rw [HS.out]; simp; omega
          have HSL4 := Lib.hid hsl2
          have EXA : ∀ j, j = a.length + 1 → (⟨s.toArray⟩ : ByteArray).extract j s.length = ⟨m.toArray⟩ ∧ (⟨s.toArray⟩ : ByteArray).extract 0 j = ⟨(a ++ [46]).toArray⟩ := fun j hj => by
            rw [accExtract, accExtract, HS.out, hj]
            constructor
            · rw [show a ++ 46 :: m = (a ++ [46]) ++ m by simp, List.drop_left' (by simp), List.take_of_length_le (by simp; omega)]
            · rw [show a ++ 46 :: m = (a ++ [46]) ++ m by simp, List.drop_zero, Nat.sub_zero, List.take_left' (by simp)]
          have HEX := Lib.hid EXA
          clear hsl2 EXA
          rcases hEE with hE1 | hE1
          case' inl =>
            obtain rfl := (HES.out hE1).symm
            have hss : (!s == s) = false := by simp
            go_wp2_with fail
          case' inr =>
            go_wp2_with fail
          all_goals
            refine (LA.out _).mono ?_
            rintro e w5 ⟨⟨j, rfl, hj⟩, hk5⟩
            have hja := last_cut HS.out HMD.out hj
            have HK5 := Lib.hid (HKX.out.tr hk5)
            have hjs : j ≤ s.length := hj.1
            obtain ⟨ex1, ex2⟩ := HEX.out j hja
            clear hj hja hk5
            by_cases hp : part = m
            · obtain rfl := hp.symm
              go_wp2
              go_ret
              exact ⟨rfl, HK5.out⟩
            · have hpb : (part == m) = false := by simpa using hp
              have CT := run_cat (P := Tryz.prog) (a ++ [46]) part (a ++ 46 :: part) (by simp) (by have := HSL4.out; simp; omega)
              have HVX : Hid (verP keys is (a ++ 46 :: part) now = (zeroCl, if (match unb64 part with | some x => decide (x.length = 32) | none => false) = true then 232 else 230)) := Lib.hid (strict_part (m := m) HA.out.symm (by rw [← HS.out]; exact HTK.out) HMD.out hp HKI.out HKN.out HF.out HNB.out)
              have HAL : Hid ((a ++ 46 :: part).length ≤ 4194304) := Lib.hid (by have := HSL4.out; simp; omega)
              have HFB := Lib.hid (fun w => FromBase64_any part w (by omega))
              clear hp
              cases hu : unb64 part with
              | none =>
                have hv : verP keys is (a ++ 46 :: part) now = (zeroCl, 230) := by rw [HVX.out, hu]; rfl
                have CX := Lib.hid (CVG.out _ HAL.out w5 HK5.out zeroCl 230 hv)
                have FB := Lib.hid (fun w => show Calls Tryz.prog 21 #[S part] w fun e w' => e = .returned (.tuple #[S [], .int .i64 24]) ∧ Kept (fun _ => True) w w' from by
                  have := HFB.out w
                  unfold fbV at this
                  rw [hu] at this
                  exact this)
                clear hu hv HVX
                go_wp2_with fail
                refine CX.out.mono ?_
                rintro e w9 ⟨⟨ta, tn, tc, rfl, -⟩, hk9⟩
                obtain ⟨W9, hW9⟩ : ∃ W9, w9.alloc (.cells (zeroCl.vs (.slice ta tn tc)).toArray 26) = W9 := ⟨_, rfl⟩
                have hk99 : Kept (fun _ => True) w9 W9 := by rw [← hW9]; exact (Kept.refl _ _).alloc _
                have D0 : Hid (RowW w9.heap.size 26 (zeroCl.vs (.slice ta tn tc)) W9) := Lib.hid (by rw [← hW9]; exact heap_alloc_new w9 _)
                have HK9 := Lib.hid ((HK5.out.tr hk9).tr hk99)
                clear hk9 hk99 CX
                go_wp2_with fail
                clear hW9
                refine (FB.out _).mono ?_
                rintro e wA ⟨rfl, hkA⟩
                have HKA := Lib.hid (HK9.out.tr hkA)
                have d0 : wA.cell? ⟨w9.heap.size, 0, none⟩ = some (S []) := (D0.out.kept hkA trivial).at' 0 _ rfl
                clear hkA FB
                go_wp2
                go_ret
                exact ⟨rfl, HKA.out⟩
              | some x =>
                have FB := Lib.hid (fun w => show Calls Tryz.prog 21 #[S part] w fun e w' => e = .returned (.tuple #[S x, .int .i64 0]) ∧ Kept (fun _ => True) w w' from by
                  have := HFB.out w
                  unfold fbV at this
                  rw [hu] at this
                  exact this)
                have hxs : (⟨x.toArray⟩ : ByteArray).size = x.length := size_mk x
                obtain ⟨V, hVe⟩ : ∃ V : Int, (if x.length = 32 then 232 else 230) = V := ⟨_, rfl⟩
                have hv : verP keys is (a ++ 46 :: part) now = (zeroCl, V) := by
                  rw [HVX.out, hu, ← hVe]
                  simp only [decide_eq_true_eq]
                have CX := Lib.hid (CVG.out _ HAL.out w5 HK5.out zeroCl V hv)
                have HVE := Lib.hid hVe
                clear hu hv HVX hVe
                go_wp2_with fail
                refine CX.out.mono ?_
                rintro e w9 ⟨⟨ta, tn, tc, rfl, -⟩, hk9⟩
                obtain ⟨W9, hW9⟩ : ∃ W9, w9.alloc (.cells (zeroCl.vs (.slice ta tn tc)).toArray 26) = W9 := ⟨_, rfl⟩
                have hk99 : Kept (fun _ => True) w9 W9 := by rw [← hW9]; exact (Kept.refl _ _).alloc _
                have D0 : Hid (RowW w9.heap.size 26 (zeroCl.vs (.slice ta tn tc)) W9) := Lib.hid (by rw [← hW9]; exact heap_alloc_new w9 _)
                have HK9 := Lib.hid ((HK5.out.tr hk9).tr hk99)
                clear hk9 hk99 CX
                go_wp2_with fail
                clear hW9
                refine (FB.out _).mono ?_
                rintro e wA ⟨rfl, hkA⟩
                have HKA := Lib.hid (HK9.out.tr hkA)
                have d0 : wA.cell? ⟨w9.heap.size, 0, none⟩ = some (S []) := (D0.out.kept hkA trivial).at' 0 _ rfl
                clear hkA FB
                by_cases hl : x.length = 32
                · obtain rfl : 232 = V := by rw [← HVE.out, if_pos hl]
                  have hlb : ((x.length : Int) == 32) = true := by simp [hl]
                  clear hl
                  go_wp2
                  go_ret
                  exact ⟨rfl, HKA.out⟩
                · obtain rfl : 230 = V := by rw [← HVE.out, if_neg hl]
                  have hlb : ((x.length : Int) == 32) = false := by simp; omega
                  clear hl
                  go_wp2
                  go_ret
                  exact ⟨rfl, HKA.out⟩
  · have hVb : (V == 0) = false := by simpa using hV0
    have hVc : (V != 0) = true := by simpa using hV0
    have HKF := Lib.hid HK2.out
    go_wp2
    go_ret
    exact ⟨rfl, HKF.out⟩
end Go.Proofs.YtpcgfhleloonfaaGreatDoor
