/- Walks of the law's lend and marked (layer 4). -/
import Derived.Test.YtmajpambfblhnaaGreatDoorJoM2
import Derived.BigQuiet
namespace Go.Proofs.YtmajpambfblhnaaGreatDoor
open Go.RowKit Jo

/-- The row of items with a marked place behind it. -/
theorem ownJ_marked {B : Nat} {av : Option Nat} {iv : Value} {xs : List J} {us : List Value} {fss : List (List Nat)} {g c : Nat} {w w' : World} (h1 : us.length = xs.length) (h2 : fss.length = xs.length) (h3 : w.ownsRow B 25 5 iv xs.length (jotCells us))
    (h4 : ∀ (j : Nat) x, xs[j]? = some x → JOwn w x (us.getD j .nilIface) (fss.getD j [])) (h5 : fss.flatten.Nodup) (h6 : ∀ b ∈ fss.flatten, B ≤ b ∧ some b ≠ iv.ownBlock ∧ some b ≠ av)
    (h9 : w'.ownsRow B 25 5 (.slice (some ⟨g, 0, none⟩) (xs.length + 1) c) (xs.length + 1) (jotCells us ++ (jotV (-77) 0 [] (.slice none 0 0) (.slice none 0 0)).cells.toList))
    (hm : Moved iv (.slice (some ⟨g, 0, none⟩) (xs.length + 1) c) w w') : OwnJ B av (.slice (some ⟨g, 0, none⟩) xs.length c) xs w' ∧ MkI w' (.slice (some ⟨g, 0, none⟩) (xs.length + 1) c) := by
  have hlt := mem_flat_lt h2 h4
  have hk := hm.kept
  refine ⟨⟨us, fss, h1, h2, ownsRow_pre h9 h3.1, jown_kept h2 h4 hk.1 (fun b hb => hk.2 b (hlt b hb) (h6 b hb).2.1), h5, fun b hb => ⟨(h6 b hb).1, ?_, (h6 b hb).2.2⟩⟩, MkI.of h9 h3.1⟩
  rcases hm with ⟨e, _⟩ | ⟨e, _⟩
  · intro e2
    exact (h6 b hb).2.1 (by rw [← e]; exact e2)
  · intro e2
    have := e b e2.symm
    have := hlt b hb
    omega
theorem kt_ok {w w' : World} {U : TypeId} {ok : Nat → Prop} (hk : Kept ok w w') (h : ∀ (g : Nat) (c : Array Value), w.heap[g]? = some (.cells c U (0, 0)) → ok g) : KT w w' U := fun g c hg => hk.block g (Array.getElem?_eq_some_iff.1 hg).1 (h g c hg)

set_option maxHeartbeats 16000000 in
set_option maxRecDepth 100000 in
theorem lend_any : ∀ x : J, ∀ (va : Value) (gb B : Nat) (nr ir : List Value) (bn bi : Value) (w : World), JIn (· < B) w x va → Few 1000000 x → BookAt gb B bn bi nr ir w → nr.length + partsJ x ≤ 1000000000 → ir.length + partsJ x ≤ 1000000000 →
    Calls Tryz.prog 10 #[.pointer (some ⟨gb, 0, none⟩), va] w (LendQ w x gb B nr ir) := by
  refine J.ind fun k n t ns xs IH => ?_
  intro va gb B nr ir bn bi w hx hf hB hP1 hP2
  obtain ⟨na, nc, ia, ic, us, rfl, hr, hn, hi, h⟩ := hx.invM
  obtain ⟨hf1, hf2, hf3⟩ := hf.inv
  simp only [J.names, J.items] at hf1 hf2 hf3
  have HPP : Hid (partsJ (.mk k n t ns xs) = 1 + ns.length + partsAll xs) := Lib.hid rfl
  obtain ⟨px, hpx⟩ : ∃ px, partsJ (.mk k n t ns xs) = px := ⟨_, rfl⟩
  rw [hpx] at HPP hP1 hP2
  have HPX := Lib.hid hpx
  have hpx1 : 1 ≤ px := by have := HPP.out; omega
  have HN := Lib.hid hn
  have HI := Lib.hid hi
  have HH := Lib.hid h
  have HIH := Lib.hid IH
  have HF3 := Lib.hid hf3
  clear hx hf hr hn hi h IH hf3 hpx
  go_enter Tryz.func10, Tryz.ntmps10
  obtain ⟨W0, hW0⟩ : ∃ W0, ((w.alloc (.cells #[.int .i64 k, .int .i64 n, S t, .slice na ns.length nc, .slice ia xs.length ic] 25)).alloc (.cells #[.int .i64 0, .int .i64 0, S [], .slice none 0 0, .slice none 0 0] 25)).alloc (.cells #[.int .i64 k, .int .i64 n, S t, .slice none 0 0, .slice none 0 0] 25) = W0 := ⟨_, rfl⟩
  have hk0 : Kept (fun _ => True) w W0 := by rw [← hW0]; exact (((Kept.refl _ w).alloc _).alloc _).alloc _
  have hz0 : W0.heap.size = w.heap.size + 3 := by rw [← hW0]; simp
  have hbox : OutAt w.heap.size k n t (.slice na ns.length nc) (.slice ia xs.length ic) W0 := by
    rw [← hW0]; exact ((OutAt.new w k n t _ _).kept (ok := fun _ => True) ((Kept.refl _ _).alloc _) trivial).kept (ok := fun _ => True) ((Kept.refl _ _).alloc _) trivial
  have hres : OutAt (w.heap.size + 1) 0 0 [] (.slice none 0 0) (.slice none 0 0) W0 := by
    rw [← hW0]
    have := (OutAt.new (w.alloc (.cells #[.int .i64 k, .int .i64 n, S t, .slice na ns.length nc, .slice ia xs.length ic] 25)) 0 0 [] (.slice none 0 0) (.slice none 0 0)).kept (ok := fun _ => True) ((Kept.refl _ _).alloc (.cells #[.int .i64 k, .int .i64 n, S t, .slice none 0 0, .slice none 0 0] 25)) trivial
    simpa using this
  have hout : OutAt (w.heap.size + 2) k n t (.slice none 0 0) (.slice none 0 0) W0 := by
    rw [← hW0]
    have := OutAt.new ((w.alloc (.cells #[.int .i64 k, .int .i64 n, S t, .slice na ns.length nc, .slice ia xs.length ic] 25)).alloc (.cells #[.int .i64 0, .int .i64 0, S [], .slice none 0 0, .slice none 0 0] 25)) k n t (.slice none 0 0) (.slice none 0 0)
    simpa using this
  have HW0 := Lib.hid hW0
  have HB := Lib.hid hB
  have HIR : Hid (∀ u ∈ ir, ∀ g, u.ownBlock = some g → g < w.heap.size) := Lib.hid fun u hu g hg => by
    obtain ⟨c, hc⟩ := (hB.imk u hu).typ hg
    exact (Array.getElem?_eq_some_iff.1 hc).1
  have hN0 := ((HN.out.mono (ok2 := fun _ => True) (fun _ _ _ => trivial)).drewK hk0).rd
  clear hW0 hB
  go_wp2_with (at_builtin; rw [HW0.out]; refine wpList_pushAll 22 9 Tryz.underlying22 infoStr rfl (by decide) rfl _ _ rfl (w.heap.size + 3) (.slice none 0 0) 0 [] _ ns.length (ns.map S) (by simp) (ones_S ns) rfl rfl hN0 (World.ownsRow_nil _ _ _ _) (by omega) (by decide) (by omega) ?_)
  intro nv w1 k1 k2 k3
  obtain ⟨nb, nl, nvc, rfl⟩ := ownsRow_slice k1
  have hz1 : w.heap.size + 3 ≤ w1.heap.size := by have := k2.size; omega
  have hk01 : Kept (fun _ => True) W0 w1 := ⟨k2.os, k2.tape, k2.output, k2.size, fun i hi _ => k2.block i (by omega)⟩
  have hk1 : Kept (fun _ => True) w w1 := hk0.tr hk01
  have HOUT1 := Lib.hid (hout.kept hk01 trivial)
  have HRES1 := Lib.hid (hres.kept hk01 trivial)
  have HBOX1 := Lib.hid (hbox.kept hk01 trivial)
  have HK1 : Hid (w1.ownsRow (w.heap.size + 3) 9 1 (.slice nb nl nvc) ns.length (ns.map S)) := Lib.hid (by simpa using k1)
  clear hout hres hbox k1 k2 k3 HW0 hN0 hk0 hk01
  go_wp2_with (at_builtin; refine wpList_pushOne' 22 9 Tryz.underlying22 infoStr rfl (by decide) rfl _ _ rfl (w.heap.size + 3) (.slice nb nl nvc) ns.length (ns.map S) [S [126]] w1 _ rfl rfl rfl (by intro u hu; simp at hu; subst hu; rfl) 1 _ rfl rfl rfl HK1.out (by omega) (by decide) (by omega) ?_)
  intro nv2 w2 k1 k2 k3
  obtain ⟨gn, vc, rfl⟩ := ownsRow_some k1
  have hz2 : w.heap.size + 3 ≤ w2.heap.size := by have := k2.size; omega
  have hk12 : Kept (fun i => i < w.heap.size + 3) w1 w2 := ⟨k2.os, k2.tape, k2.output, k2.size, fun i _ h => k2.block i h⟩
  have hk2 : Kept (fun _ => True) w w2 := hk1.trans hk12 fun i hi _ => by omega
  have HOUT2 := Lib.hid (HOUT1.out.kept hk12 (by omega))
  have HRES2 := Lib.hid (HRES1.out.kept hk12 (by omega))
  have HBOX2 := Lib.hid (HBOX1.out.kept hk12 (by omega))
  have hmn : MkN w2 (.slice (some ⟨gn, 0, none⟩) (ns.length + 1) vc) := MkN.of k1 (by simp)
  have HB2 := Lib.hid (HB.out.keptT hk2)
  obtain ⟨b0, b1, b2, b3⟩ := HB2.out.facts
  obtain ⟨bna, bnl, bnc, rfl⟩ := ownsRow_slice HB2.out.nrow
  have hgn : w.heap.size + 3 ≤ gn := (k1.lt gn rfl).1
  have hvc : ns.length < vc := by obtain ⟨g', n', c', cs, e, h0, -⟩ := hmn; simp at e; omega
  have HK2 := Lib.hid k1
  have HMN := Lib.hid hmn
  have HKW2 := Lib.hid hk2
  clear k1 k2 k3 hk12 hk1 hmn hk2 HOUT1 HRES1 HBOX1 HK1 HB
  go_wp2_with (at_builtin; refine wpList_pushOne' 29 22 Tryz.underlying29 infoRowS rfl (by decide) rfl _ _ rfl B (.slice bna bnl bnc) nr.length nr [.slice (some ⟨gn, 0, none⟩) (ns.length + 1) vc] w2 _ rfl rfl rfl (by intro u hu; simp at hu; subst hu; rfl) 1 _ rfl rfl rfl HB2.out.nrow (by omega) (by decide) (by have := HB2.out.base; have := HB2.out.box; have := (Array.getElem?_eq_some_iff.1 this).1; omega) ?_)
  intro nv3 w3 k1 k2 k3
  obtain ⟨hB3, hkB3⟩ := HB2.out.addN k1 k2 k3 HMN.out
  obtain ⟨b3a, b3l, b3c, rfl⟩ := ownsRow_slice k1
  obtain ⟨W4, hW4⟩ : ∃ W4, w3.setCell ⟨gb, 0, none⟩ (.slice b3a b3l b3c) = W4 := ⟨_, rfl⟩
  rw [hW4] at hB3 hkB3
  have hfz3 : w3.frozen? ⟨gb, 0, none⟩ = false := by
    have : w3.heap[gb]? = some (.cells #[.slice bna bnl bnc, bi] 32 (0, 0)) := (kt_moved (U := 32) HB2.out.nrow k3 (by decide) _ _ HB2.out.box).trans HB2.out.box
    exact frozen_row this 0
  have hcell3 : ∃ q, w3.cell? ⟨gb, 0, none⟩ = some q := by
    have : w3.heap[gb]? = some (.cells #[.slice bna bnl bnc, bi] 32 (0, 0)) := (kt_moved (U := 32) HB2.out.nrow k3 (by decide) _ _ HB2.out.box).trans HB2.out.box
    exact ⟨_, by rw [cell_of_row w3 gb _ _ _ (0, 0) this]; rfl⟩
  obtain ⟨q3, hq3⟩ := hcell3
  have hout4 := HOUT2.out.keptFB hkB3
  have HOUT4 := Lib.hid hout4
  have HRES4 := Lib.hid (HRES2.out.keptFB hkB3)
  have HBOX4 := Lib.hid (HBOX2.out.keptFB hkB3)
  have HK4 := Lib.hid (rowS_keptFB HK2.out hkB3)
  have HB4 := Lib.hid hB3
  have hkw4 : Kept (FB B w) w W4 := KeptFB.trans (KeptFB.all HKW2.out) hkB3
  have hz4 : w.heap.size + 3 ≤ W4.heap.size := by have := hkB3.size; omega
  obtain ⟨o0, o1, o2, o3, o4, o5, o6⟩ := HOUT4.out.facts
  obtain ⟨c0, c1, c2, c3, c4, c5, c6⟩ := HBOX4.out.facts
  clear hout4 hB3 hkB3 k1 k2 k3 HOUT2 HRES2 HBOX2 HB2 HK2 HKW2 b0 b1 b2 b3 HMN
  go_wp2
  obtain ⟨W5, hW5⟩ : ∃ W5, W4.setCell ⟨w.heap.size + 1 + 1, 3, none⟩ (.slice (some ⟨gn, 0, none⟩) ns.length vc) = W5 := ⟨_, rfl⟩
  have hks5 : Kept (· ≠ w.heap.size + 2) W4 W5 := by rw [← hW5]; exact (Kept.refl _ _).setCell (.inr (by simp)) _
  have HOUT5 : Hid (OutAt (w.heap.size + 2) k n t (.slice (some ⟨gn, 0, none⟩) ns.length vc) (.slice none 0 0) W5) := Lib.hid (by rw [← hW5]; exact HOUT4.out.setNames _)
  have HRES5 := Lib.hid (HRES4.out.kept hks5 (by omega))
  have HBOX5 := Lib.hid (HBOX4.out.kept hks5 (by omega))
  have HK5 := Lib.hid (ownsRow_kept HK4.out hks5 (fun b hb => by have := (HK4.out.lt b hb).1; omega))
  have HKW5 : Hid (Kept (FB B w) w W5) := Lib.hid (hkw4.trans hks5 fun i hi _ => by omega)
  have HB5 := Lib.hid (HB4.out.step hks5.size (kt_ok hks5 fun g c hg e => by rw [e, HOUT4.out] at hg; simp at hg) (kt_ok hks5 fun g c hg e => by rw [e, HOUT4.out] at hg; simp at hg) (kt_ok hks5 fun g c hg e => by rw [e, HOUT4.out] at hg; simp at hg) (kt_ok hks5 fun g c hg e => by rw [e, HOUT4.out] at hg; simp at hg)
    (fun u hu g hg => hks5.block g (by have := HIR.out u hu g hg; have := hkw4.size; omega) (by have := HIR.out u hu g hg; omega)))
  have hz5 : w.heap.size + 3 ≤ W5.heap.size := by have := hks5.size; omega
  have HW5 := Lib.hid hW5
  clear hW5 hks5 HOUT4 HRES4 HBOX4 HK4 HB4 hkw4 o0 o1 o2 o3 o4 o5 o6 c0 c1 c2 c3 c4 c5 c6
  go_loopg [7, 8] xs.length (fun q iv i wr => ∃ (j : Nat) (mn mi : List Value), i = .int .i64 j ∧ q = xs.length - j ∧ j ≤ xs.length ∧ OutAt (w.heap.size + 2) k n t (.slice (some ⟨gn, 0, none⟩) ns.length vc) (.slice none 0 0) wr ∧ OutAt (w.heap.size + 1) 0 0 [] (.slice none 0 0) (.slice none 0 0) wr ∧ OutAt w.heap.size k n t (.slice na ns.length nc) (.slice ia xs.length ic) wr ∧
    OwnJ (w.heap.size + 3) (some gn) iv (xs.take j) wr ∧ wr.ownsRow (w.heap.size + 3) 9 1 (.slice (some ⟨gn, 0, none⟩) (ns.length + 1) vc) (ns.length + 1) (ns.map S ++ [S [126]]) ∧ Hid (some gn ≠ iv.ownBlock) ∧ Hid (∃ bn bi, BookAt gb B bn bi (nr ++ mn) (ir ++ mi) wr) ∧
    Hid (mn.length ≤ 1 + partsAll (xs.take j) ∧ mi.length ≤ partsAll (xs.take j) ∧ ∀ u ∈ mi, ∀ g, u.ownBlock = some g → w.heap.size + 3 ≤ g ∧ some g ≠ iv.ownBlock) ∧ w.heap.size + 3 ≤ wr.heap.size ∧ Kept (FB B w) w wr)
  case atStart =>
    rw [HW5.out]
    exact ⟨0, [_], [], rfl, by omega, Nat.zero_le _, HOUT5.out, HRES5.out, HBOX5.out, OwnJ.nil _ _ _, HK5.out, Lib.hid (by simp [Value.ownBlock]), Lib.hid ⟨_, _, by rw [List.append_nil]; exact HB5.out⟩, Lib.hid ⟨by simp, by simp, fun u hu => by cases hu⟩, hz5, HKW5.out⟩
  case round =>
    clear HOUT5 HRES5 HBOX5 HK5 HKW5 HB5 HW5 hz5 hz4
    obtain ⟨j, mn, mi, rfl, rfl, hjl, hout, hres, hbo, ho, hnv, hne, hbk, hln, hz, hk⟩ := hrel
    obtain ⟨ja, jl, jc, rfl⟩ := ho.slice
    have HBO := Lib.hid hbo
    obtain ⟨b0, b1, b2, b3, b4, b5, b6⟩ := hbo.facts
    clear hbo
    have HOUT := Lib.hid hout
    have HRES := Lib.hid hres
    have HO := Lib.hid ho
    have HNV := Lib.hid hnv
    clear hout hres ho hnv
    by_cases hlt : j < xs.length
    · obtain ⟨b, off, rfl, hb, hbB, -, kx, nx, tx, nax, nlx, ncx, iax, ilx, icx, e1, c0, c1, c2, c3, c4⟩ := HI.out.at hlt
      replace c0 := (hk.cell hb (.inl hbB)).trans c0
      replace c1 := (hk.cell hb (.inl hbB)).trans c1
      replace c2 := (hk.cell hb (.inl hbB)).trans c2
      replace c3 := (hk.cell hb (.inl hbB)).trans c3
      replace c4 := (hk.cell hb (.inl hbB)).trans c4
      obtain ⟨x, hx⟩ : ∃ x, xs[j]? = some x := ⟨xs[j]'hlt, List.getElem?_eq_getElem hlt⟩
      have ht : xs.take j ++ [x] = xs.take (j + 1) := by rw [List.take_add_one, hx]; rfl
      have hps : partsAll (xs.take j) + partsJ x ≤ partsAll xs := by
        have := partsAll_take xs (j + 1)
        rw [← ht, partsAll_snoc] at this
        exact this
      have HPS := Lib.hid hps
      obtain ⟨bn, bi, hbk'⟩ := hbk.out
      have hcall := HIH.out x (List.mem_of_getElem? hx) (us j) gb B (nr ++ mn) (ir ++ mi) bn bi wr ((HH.out j x hx).kept hk (fun _ _ h => .inl h)) (HF3.out j x hx) hbk' (by rw [List.length_append]; have := hln.out.1; have := HPP.out; omega) (by rw [List.length_append]; have := hln.out.2.1; have := HPP.out; omega)
      rw [e1] at hcall
      have HT := Lib.hid ht
      have HQ := Lib.hid HO.out
      have htl : (xs.take j).length = j := by rw [List.length_take]; omega
      have HTL := Lib.hid htl
      clear hx htl e1 ht hps hbk'
      go_wp2_with fail
      refine hcall.mono ?_
      rintro e w5 ⟨u, fp, mn2, mi2, rfl, hown, hnd, hfp, ⟨bn2, bi2, hB5⟩, hl1, hl2, hmi2, hk5⟩
      obtain ⟨xa, xl, xc, ya, yl, yc, rfl⟩ := hown.form2
      clear hcall c0 c1 c2 c3 c4
      obtain ⟨W6, hW6⟩ : ∃ W6, w5.alloc (.cells #[.int .i64 x.kind, .int .i64 x.num, S x.text, .slice xa xl xc, .slice ya yl yc] 25) = W6 := ⟨_, rfl⟩
      have hk56 : Kept (fun _ => True) w5 W6 := by rw [← hW6]; exact (Kept.refl _ _).alloc _
      have hk6 : Kept (FB B wr) wr W6 := KeptFB.trans hk5 (KeptFB.all hk56)
      have hbx : OutAt w5.heap.size x.kind x.num x.text (.slice xa xl xc) (.slice ya yl yc) W6 := by rw [← hW6]; exact OutAt.new _ _ _ _ _ _
      have hown6 : JOwn W6 x (jotV x.kind x.num x.text (.slice xa xl xc) (.slice ya yl yc)) fp := hown.kept hk56.size (fun b hb => hk56.block b (hown.lt b hb) trivial)
      have hz56 : W6.heap.size = w5.heap.size + 1 := by rw [← hW6]; simp
      have hz5 := hk5.size
      have HOUT6 := Lib.hid (HOUT.out.keptFB hk6)
      have HRES6 := Lib.hid (HRES.out.keptFB hk6)
      have HBO6 := Lib.hid (HBO.out.keptFB hk6)
      have HNV6 := Lib.hid (rowS_keptFB HNV.out hk6)
      have HB6 := Lib.hid (hB5.keptT hk56)
      have HK6 := Lib.hid hk6
      have HN5 := Lib.hid (And.intro hown6 (And.intro hnd hfp))
      have HM2 := Lib.hid (And.intro hl1 (And.intro hl2 hmi2))
      obtain ⟨us2, fss, q1, q2, q3, q4, q5, q6⟩ := HQ.out
      have HQ2 := Lib.hid (And.intro q1 (And.intro q2 (And.intro q3 (And.intro q4 (And.intro q5 (And.intro q6 (mem_flat_lt q2 q4)))))))
      obtain ⟨p0, p1, p2, p3, p4, p5, p6⟩ := hbx.facts
      clear hown hnd hfp q1 q2 q3 q4 q5 q6 HO HOUT HRES hk56 hk6 hown6 hbx hk5 hB5 hl1 hl2 hmi2 b0 b1 b2 b3 b4 b5 b6
      go_wp2_with (at_builtin; refine wpList_pushOne' 23 25 Tryz.underlying23 infoJot rfl (by decide) rfl (.tmp 52) (.tmp 54) rfl (w.heap.size + 3) (.slice ja jl jc) (xs.take j).length (jotCells us2) (jotV x.kind x.num x.text (.slice xa xl xc) (.slice ya yl yc)).cells.toList W6 _ rfl rfl rfl HN5.out.1.ones 1 _ hz56.symm rfl rfl (rowJ_keptFB HQ2.out.2.2.1 HK6.out) (by have := HTL.out; omega) (by decide) (by omega) ?_)
      intro v' w8 k1 k2 k3
      obtain ⟨vb, vc2, rfl⟩ := ownsRow_some k1
      have HOUT8 := Lib.hid (HOUT6.out.below k2 (by omega))
      have HRES8 := Lib.hid (HRES6.out.below k2 (by omega))
      have HBO8 := Lib.hid (HBO6.out.below k2 (by omega))
      clear p0 p1 p2 p3 p4 p5 p6
      have HK8 := Lib.hid (And.intro k1 (And.intro k2 k3))
      clear k1 k2 k3
      have hivlt : ∀ b, (Value.slice ja jl jc).ownBlock = some b → w.heap.size + 3 ≤ b ∧ b < wr.heap.size := fun b hb => HQ2.out.2.2.1.lt b hb
      have hO : OwnJ (w.heap.size + 3) (some gn) (.slice (some ⟨vb, 0, none⟩) (j + 1) vc2) (xs.take j ++ [x]) w8 := by
        obtain ⟨q1, q2, q3, q4, q5, q6, q7⟩ := HQ2.out
        obtain ⟨hown, hnd, hfp⟩ := HN5.out
        refine ownJ_push q1 q2 (fun j x hx => (q4 j x hx).keptFB HK6.out) q5 q6 hown hnd (fun b hb => ⟨?_, ?_, ?_, ?_⟩) (by rw [HTL.out]; exact HK8.out.1) HK8.out.2.2
        · have h := hfp b hb; omega
        · intro e
          have h := hfp b hb
          have := (q3.lt b e.symm).2
          omega
        · intro e
          have h := hfp b hb
          have := (HNV.out.lt b (by rw [e]; rfl)).2
          omega
        · intro hin
          have h := hfp b hb
          have := q7 b hin
          omega
      have hrow : w8.ownsRow (w.heap.size + 3) 9 1 (.slice (some ⟨gn, 0, none⟩) (ns.length + 1) vc) (ns.length + 1) (ns.map S ++ [S [126]]) := by
        refine ownsRow_keptL HNV6.out HK8.out.2.1.size fun b hb => ?_
        obtain rfl : gn = b := by simpa [Value.ownBlock] using hb
        exact HK8.out.2.2.kept.2 gn (HNV6.out.lt gn hb).2 hne.out
      have hne8 : some gn ≠ (Value.slice (some ⟨vb, 0, none⟩) (j + 1) vc2).ownBlock := by
        intro e
        have h2 := HK8.out.2.2
        rcases h2 with ⟨e2, _⟩ | ⟨e2, _⟩
        · exact hne.out (by rw [← e2]; exact e)
        · have := e2 gn e.symm
          have := (HNV6.out.lt gn rfl).2
          omega
      have hlow : ∀ u ∈ ir ++ mi ++ mi2, ∀ g, u.ownBlock = some g → g < W6.heap.size ∧ some g ≠ (Value.slice ja jl jc).ownBlock := by
        intro u hu g hg
        obtain ⟨c, hc⟩ := (HB6.out.imk u hu).typ hg
        refine ⟨(Array.getElem?_eq_some_iff.1 hc).1, fun e => ?_⟩
        have h9 := hivlt g e.symm
        rcases List.mem_append.1 hu with hu | hu
        · rcases List.mem_append.1 hu with hu | hu
          · have := HIR.out u hu g hg; omega
          · exact (hln.out.2.2 u hu g hg).2 e
        · have := HM2.out.2.2 u hu g hg; omega
      have hB8 : BookAt gb B bn2 bi2 (nr ++ mn ++ mn2) (ir ++ mi ++ mi2) w8 :=
        HB6.out.step HK8.out.2.1.size (kt_moved' (rowJ_keptFB HQ2.out.2.2.1 HK6.out) HK8.out.2.2 (by decide)) (kt_moved' (rowJ_keptFB HQ2.out.2.2.1 HK6.out) HK8.out.2.2 (by decide)) (kt_moved' (rowJ_keptFB HQ2.out.2.2.1 HK6.out) HK8.out.2.2 (by decide)) (kt_moved' (rowJ_keptFB HQ2.out.2.2.1 HK6.out) HK8.out.2.2 (by decide))
          fun u hu g hg => HK8.out.2.2.kept.2 g (hlow u hu g hg).1 (hlow u hu g hg).2
      have hmi8 : ∀ u ∈ mi ++ mi2, ∀ g, u.ownBlock = some g → w.heap.size + 3 ≤ g ∧ some g ≠ (Value.slice (some ⟨vb, 0, none⟩) (j + 1) vc2).ownBlock := by
        intro u hu g hg
        have h5 := hlow u (by rw [List.append_assoc]; exact List.mem_append_right _ hu) g hg
        refine ⟨?_, fun e => ?_⟩
        · rcases List.mem_append.1 hu with hu | hu
          · exact (hln.out.2.2 u hu g hg).1
          · have := HM2.out.2.2 u hu g hg; omega
        · have h2 := HK8.out.2.2
          rcases h2 with ⟨e2, _⟩ | ⟨e2, _⟩
          · exact h5.2 (by rw [← e2]; exact e)
          · have := e2 g e.symm
            omega
      have hk8 : Kept (FB B w) w w8 := (KeptFB.trans hk HK6.out).trans (ok2 := fun k => k < w.heap.size + 3) ⟨HK8.out.2.1.os, HK8.out.2.1.tape, HK8.out.2.1.output, HK8.out.2.1.size, fun k _ h => HK8.out.2.1.block k h⟩ fun i hi _ => by omega
      have ht := HT.out
      have hps2 : partsAll (xs.take (j + 1)) = partsAll (xs.take j) + partsJ x := by rw [← ht, partsAll_snoc]
      rw [ht] at hO
      have HO8 := Lib.hid hO
      have HR8 := Lib.hid hrow
      have HNE8 := Lib.hid hne8
      have HB8 : Hid (∃ bn bi, BookAt gb B bn bi (nr ++ (mn ++ mn2)) (ir ++ (mi ++ mi2)) w8) := Lib.hid ⟨_, _, by rw [← List.append_assoc, ← List.append_assoc]; exact hB8⟩
      have HL8 : Hid ((mn ++ mn2).length ≤ 1 + partsAll (xs.take (j + 1)) ∧ (mi ++ mi2).length ≤ partsAll (xs.take (j + 1)) ∧ ∀ u ∈ mi ++ mi2, ∀ g, u.ownBlock = some g → w.heap.size + 3 ≤ g ∧ some g ≠ (Value.slice (some ⟨vb, 0, none⟩) (j + 1) vc2).ownBlock) :=
        Lib.hid ⟨by rw [List.length_append, hps2]; have := hln.out.1; have := HM2.out.1; omega, by rw [List.length_append, hps2]; have := hln.out.2.1; have := HM2.out.2.1; omega, hmi8⟩
      have hz8 := HK8.out.2.1.size
      clear hO ht hrow hne8 hlow hB8 hmi8 hps2 hivlt
      go_wp2
      go_roundg (xs.length - (j + 1))
      case rel => exact ⟨j + 1, mn ++ mn2, mi ++ mi2, by go_num, rfl, by omega, HOUT8.out, HRES8.out, HBO8.out, HO8.out, HR8.out, HNE8, HB8, HL8, by omega, hk8⟩
      case measure => omega
    · obtain ⟨il, hil⟩ : ∃ il, il = xs.length := ⟨_, rfl⟩
      obtain rfl : il = j := by omega
      have HIL := Lib.hid hil
      have HO2 := Lib.hid (show OwnJ (w.heap.size + 3) (some gn) (.slice ja jl jc) xs wr by have := HO.out; rwa [List.take_of_length_le (by omega)] at this)
      obtain ⟨us2, fss, q1, q2, q3, q4, q5, q6⟩ := HO2.out
      have HQ := Lib.hid (And.intro q1 (And.intro q2 (And.intro q3 (And.intro q4 (And.intro q5 q6)))))
      have hlast : Hid (mn.length ≤ 1 + partsAll xs ∧ mi.length ≤ partsAll xs) := Lib.hid (by have h := hln.out; rw [List.take_of_length_le (by omega)] at h; exact ⟨h.1, h.2.1⟩)
      have hil6 : il ≤ 1000000 := by omega
      clear HO q1 q2 q3 q4 q5 q6 hil
      go_wp2_with (at_builtin; refine wpList_pushOne' 23 25 Tryz.underlying23 infoJot rfl (by decide) rfl (.tmp 56) (.tmp 58) rfl (w.heap.size + 3) (.slice ja jl jc) il (jotCells us2) (jotV (-77) 0 [] (.slice none 0 0) (.slice none 0 0)).cells.toList wr _ rfl rfl rfl (by intro u hu; simp [Value.cells] at hu; rcases hu with rfl | rfl | rfl | rfl | rfl <;> rfl) 1 _ rfl rfl rfl (by rw [HIL.out]; exact HQ.out.2.2.1) (by omega) (by decide) (by omega) ?_)
      intro v' w9 k1 k2 k3
      obtain ⟨gi, vc9, rfl⟩ := ownsRow_some k1
      obtain ⟨hO9, hmi9⟩ := ownJ_marked HQ.out.1 HQ.out.2.1 HQ.out.2.2.1 HQ.out.2.2.2.1 HQ.out.2.2.2.2.1 HQ.out.2.2.2.2.2 (by rw [← HIL.out]; exact k1) (by rw [← HIL.out]; exact k3)
      rw [← HIL.out] at hO9 hmi9
      obtain ⟨bn, bi, hbk'⟩ := hbk.out
      have hlow : ∀ u ∈ ir ++ mi, ∀ g, u.ownBlock = some g → g < wr.heap.size ∧ some g ≠ (Value.slice ja jl jc).ownBlock := by
        intro u hu g hg
        obtain ⟨c, hc⟩ := (hbk'.imk u hu).typ hg
        refine ⟨(Array.getElem?_eq_some_iff.1 hc).1, fun e => ?_⟩
        have h9 := HQ.out.2.2.1.lt g e.symm
        rcases List.mem_append.1 hu with hu | hu
        · have := HIR.out u hu g hg; omega
        · exact (hln.out.2.2 u hu g hg).2 e
      have hB9 : BookAt gb B bn bi (nr ++ mn) (ir ++ mi) w9 :=
        hbk'.step k2.size (kt_moved' HQ.out.2.2.1 k3 (by decide)) (kt_moved' HQ.out.2.2.1 k3 (by decide)) (kt_moved' HQ.out.2.2.1 k3 (by decide)) (kt_moved' HQ.out.2.2.1 k3 (by decide))
          fun u hu g hg => k3.kept.2 g (hlow u hu g hg).1 (hlow u hu g hg).2
      have hrow9 : w9.ownsRow (w.heap.size + 3) 9 1 (.slice (some ⟨gn, 0, none⟩) (ns.length + 1) vc) (ns.length + 1) (ns.map S ++ [S [126]]) := by
        refine ownsRow_keptL HNV.out k2.size fun b hb => ?_
        obtain rfl : gn = b := by simpa [Value.ownBlock] using hb
        exact k3.kept.2 gn (HNV.out.lt gn hb).2 hne.out
      have hne9 : gn ≠ gi := by
        intro e
        rcases k3 with ⟨e2, _⟩ | ⟨e2, _⟩
        · exact hne.out (by rw [← e2, e]; rfl)
        · have := e2 gn (by rw [e]; rfl)
          have := (HNV.out.lt gn rfl).2
          omega
      have hgi9 : w.heap.size + 3 ≤ gi := (k1.lt gi rfl).1
      have hvc9 : il < vc9 := by obtain ⟨g', n', c', cs, e, h0, -⟩ := hmi9; simp at e; omega
      have HOUT9 := Lib.hid (HOUT.out.below k2 (by omega))
      have HRES9 := Lib.hid (HRES.out.below k2 (by omega))
      have HBO9 := Lib.hid (HBO.out.below k2 (by omega))
      have hz9 : w.heap.size + 3 ≤ w9.heap.size := by have := k2.size; omega
      have hk9 : Kept (FB B w) w w9 := hk.trans (ok2 := fun k => k < w.heap.size + 3) ⟨k2.os, k2.tape, k2.output, k2.size, fun k _ h => k2.block k h⟩ fun i hi _ => by omega
      have HO9 := Lib.hid hO9
      have HMI9 := Lib.hid hmi9
      have HB9 := Lib.hid hB9
      have HR9 := Lib.hid hrow9
      obtain ⟨f0, f1, f2, f3⟩ := hB9.facts
      obtain ⟨bia, bil, bic, rfl⟩ := ownsRow_slice hB9.irow
      obtain ⟨bna', bnl', bnc', rfl⟩ := ownsRow_slice hB9.nrow
      have hirl : (ir ++ mi).length ≤ 1000000000 := by rw [List.length_append]; have := hlast.out.2; have := HPP.out; omega
      have hgbl : gb < w9.heap.size := (Array.getElem?_eq_some_iff.1 hB9.box).1
      have hBgb : B ≤ gb := hB9.base
      clear hO9 hmi9 hbk' hlow hB9 hrow9 k1 k2 k3 HOUT HRES HBO HO2 HQ HNV b0 b1 b2 b3 b4 b5 b6 hbk
      go_wp2_with (at_builtin; refine wpList_pushOne' 30 23 Tryz.underlying30 infoRowJ rfl (by decide) rfl _ _ rfl B (.slice bia bil bic) (ir ++ mi).length (ir ++ mi) [.slice (some ⟨gi, 0, none⟩) (il + 1) vc9] w9 _ rfl rfl rfl (by intro u hu; simp at hu; subst hu; rfl) 1 _ rfl rfl rfl HB9.out.irow (by omega) (by decide) (by omega) ?_)
      intro nv3 w10 k1 k2 k3
      obtain ⟨hB11, hkB11⟩ := HB9.out.addI (by rw [List.length_append, List.append_assoc]; exact k1) k2 k3 HMI9.out
      obtain ⟨b3a, b3l, b3c, rfl⟩ := ownsRow_slice k1
      have hbx10 : w10.heap[gb]? = some (.cells #[.slice bna' bnl' bnc', .slice bia bil bic] 32 (0, 0)) := (kt_moved' (U := 32) HB9.out.irow k3 (by decide) _ _ HB9.out.box).trans HB9.out.box
      have hfz10 : w10.frozen? ⟨gb, 1, none⟩ = false := frozen_row hbx10 1
      have hc10 : w10.cell? ⟨gb, 1, none⟩ = some (.slice bia bil bic) := by rw [cell_of_row w10 gb _ _ _ (0, 0) hbx10]; rfl
      obtain ⟨W11, hW11⟩ : ∃ W11, w10.setCell ⟨gb, 1, none⟩ (.slice b3a b3l b3c) = W11 := ⟨_, rfl⟩
      rw [hW11] at hB11 hkB11
      have HOUT11 := Lib.hid (HOUT9.out.keptFB hkB11)
      have HRES11 := Lib.hid (HRES9.out.keptFB hkB11)
      have HBO11 := Lib.hid (HBO9.out.keptFB hkB11)
      have HO11 := Lib.hid (HO9.out.keptFB hkB11)
      have HR11 := Lib.hid (rowS_keptFB HR9.out hkB11)
      have HB11 := Lib.hid hB11
      have hk11 : Kept (FB B w) w W11 := KeptFB.trans hk9 hkB11
      have hz11 : w.heap.size + 3 ≤ W11.heap.size := by have := hkB11.size; omega
      obtain ⟨o0, o1, o2, o3, o4, o5, o6⟩ := HOUT11.out.facts
      obtain ⟨c0, c1, c2, c3, c4, c5, c6⟩ := HBO11.out.facts
      obtain ⟨g0, g1, g2, g3, g4, g5, g6⟩ := HRES11.out.facts
      obtain ⟨h0, h1, h2, h3, h4⟩ := HRES11.out.free
      clear hB11 hkB11 k1 k2 k3 HOUT9 HRES9 HBO9 HB9 HO9 HR9 f0 f1 f2 f3 hbx10
      go_wp2
      refine bodyPost_ret (v := jotV k n t (.slice (some ⟨gn, 0, none⟩) ns.length vc) (.slice (some ⟨gi, 0, none⟩) xs.length vc9)) (by simp [results, Tryz.results10, go_sem, g0, g1, g2, g3, g4]) rfl ?_
      have hks : Kept (· ≠ w.heap.size + 2) W11 (W11.setCell ⟨w.heap.size + 2, 4, none⟩ (.slice (some ⟨gi, 0, none⟩) xs.length vc9)) := (Kept.refl _ _).setCell (.inr (by simp)) _
      have hkE := Kept.trans (ok := fun i => i ≠ w.heap.size + 1 ∧ i ≠ w.heap.size + 2) (hks.mono fun _ _ h => h.2) (kept_box (W11.setCell ⟨w.heap.size + 2, 4, none⟩ (.slice (some ⟨gi, 0, none⟩) xs.length vc9)) (w.heap.size + 1) (.int .i64 k) (.int .i64 n) (S t) (.slice (some ⟨gn, 0, none⟩) ns.length vc) (.slice (some ⟨gi, 0, none⟩) xs.length vc9)) fun _ _ h => h.1
      have hO11 := HO11.out
      rw [HIL.out] at hO11
      obtain ⟨fp, hown, hnd, hfp⟩ := hO11.value k n t (nv := .slice (some ⟨gn, 0, none⟩) ns.length vc) (ns := ns) (ownsRow_pre HR11.out (by simp)) (fun b hb e => by
        obtain rfl : gn = b := by simpa [Value.ownBlock] using hb
        exact hne9 (by simpa [Value.ownBlock] using e))
      have hmi' : ∀ u ∈ mi ++ [.slice (some ⟨gi, 0, none⟩) (il + 1) vc9], ∀ g, u.ownBlock = some g → w.heap.size + 3 ≤ g := by
        intro u hu g hg
        rcases List.mem_append.1 hu with hu | hu
        · exact (hln.out.2.2 u hu g hg).1
        · obtain rfl : u = .slice (some ⟨gi, 0, none⟩) (il + 1) vc9 := by simpa using hu
          obtain rfl : gi = g := by simpa [Value.ownBlock] using hg
          exact hgi9
      have hkt : ∀ U, U ≠ 25 → KT W11 _ U := fun U hU => kt_ok hkE fun g c hg => ⟨fun e => by rw [e, HRES11.out] at hg; exact hU (by simpa using congrArg (fun o => match o with | some (.cells _ T _) => T | _ => 0) hg.symm), fun e => by rw [e, HOUT11.out] at hg; exact hU (by simpa using congrArg (fun o => match o with | some (.cells _ T _) => T | _ => 0) hg.symm)⟩
      refine ⟨_, fp, mn, mi ++ [.slice (some ⟨gi, 0, none⟩) (il + 1) vc9], rfl, hown.kept hkE.size (fun b hb => hkE.block b (hown.lt b hb) ⟨by have := hfp b hb; omega, by have := hfp b hb; omega⟩), hnd, fun b hb => by have := hfp b hb; omega,
        ⟨.slice bna' bnl' bnc', .slice b3a b3l b3c, ?_⟩, ?_, ?_, fun u hu g hg => by have := hmi' u hu g hg; omega, hk11.trans hkE fun i hi _ => ⟨by omega, by omega⟩⟩
      · rw [← List.append_assoc]
        refine HB11.out.step hkE.size (hkt _ (by decide)) (hkt _ (by decide)) (hkt _ (by decide)) (hkt _ (by decide)) fun u hu g hg => ?_
        obtain ⟨c, hc⟩ := (HB11.out.imk u hu).typ hg
        refine hkE.block g (Array.getElem?_eq_some_iff.1 hc).1 ?_
        rw [List.append_assoc] at hu
        rcases List.mem_append.1 hu with hu | hu
        · have := HIR.out u hu g hg
          exact ⟨by omega, by omega⟩
        · have := hmi' u hu g hg
          exact ⟨by omega, by omega⟩
      · rw [HPX.out]; have := hlast.out.1; have := HPP.out; omega
      · rw [HPX.out, List.length_append]; have := hlast.out.2; have := HPP.out; simp only [List.length_cons, List.length_nil]; omega
end Go.Proofs.YtmajpambfblhnaaGreatDoor

namespace Go.Proofs.YtmajpambfblhnaaGreatDoor
open Go.RowKit Jo

theorem rowCell {T : TypeId} {B n c : Nat} {a : Option Addr} {l : Nat} {xs : List Value} {w : World} (h : w.ownsRow B T 1 (.slice a l c) n xs) {j : Nat} {u : Value} (hu : xs[j]? = some u) : l = n ∧ j < n ∧ ∃ b, a = some ⟨b, 0, none⟩ ∧ w.cell? ⟨b, j, none⟩ = some u := by
  have hj : j < n := by have := (List.getElem?_eq_some_iff.1 hu).1; have := h.1; omega
  rcases ownsRow_view h with ⟨e, h0⟩ | ⟨b, cap, e, h1, h2, h3, h4⟩
  · omega
  · obtain ⟨rfl, rfl, rfl⟩ : a = some ⟨b, 0, none⟩ ∧ l = n ∧ c = cap := by simpa using e
    exact ⟨rfl, hj, b, rfl, h4 j u hu⟩


set_option maxHeartbeats 8000000 in
set_option maxRecDepth 100000 in
theorem marked_any (gb B : Nat) (nr ir : List Value) (nv iv : Value) (w : World) (hB : BookAt gb B nv iv nr ir w) (h1 : nr.length ≤ 1000000000) (h2 : ir.length ≤ 1000000000) :
    Calls Tryz.prog 14 #[.pointer (some ⟨gb, 0, none⟩)] w fun e w' => e = .returned (.bool true) ∧ Kept (fun _ => True) w w' := by
  obtain ⟨b0, b1, b2, b3⟩ := hB.facts
  obtain ⟨na, nl, nc, rfl⟩ := ownsRow_slice hB.nrow
  obtain ⟨ia, il, ic, rfl⟩ := ownsRow_slice hB.irow
  have hnl : nl = nr.length := by rcases ownsRow_view hB.nrow with ⟨e, h0⟩ | ⟨b, cap, e, -⟩ <;> simp at e <;> omega
  have hil : il = ir.length := by rcases ownsRow_view hB.irow with ⟨e, h0⟩ | ⟨b, cap, e, -⟩ <;> simp at e <;> omega
  have HB := Lib.hid hB
  have HE := Lib.hid (And.intro hnl hil)
  have hnl1 : nl ≤ 1000000000 := by omega
  have hil1 : il ≤ 1000000000 := by omega
  clear hB hnl hil h1 h2
  go_enter Tryz.func14, Tryz.ntmps14
  go_wp2
  go_loopg [3] nl (fun q i wr => ∃ j : Nat, i = .int .i64 j ∧ q = nl - j ∧ j ≤ nl ∧ ∃ m, wr = w.drewN m)
  case atStart => exact ⟨0, rfl, by omega, Nat.zero_le _, 0, rfl⟩
  case round =>
    obtain ⟨j, rfl, rfl, hjl, m, rfl⟩ := hrel
    by_cases hlt : j < nl
    · obtain ⟨u, hu⟩ : ∃ u, nr[j]? = some u := ⟨nr[j]'(by have := HE.out.1; omega), List.getElem?_eq_getElem _⟩
      obtain ⟨g, n, c, cs, rfl, hnc, hg, hcs⟩ := HB.out.nmk u (List.mem_of_getElem? hu)
      obtain ⟨-, -, b, rfl, hcell⟩ := rowCell HB.out.nrow hu
      have hmark : w.cell? ⟨g, n, none⟩ = some (S [126]) := by rw [cell_of_row w g n cs _ (0, 0) hg]; exact hcs
      have hn9 : n + 1 ≤ 9223372036854775807 := by omega
      clear hg hcs hu
      go_wp2
      go_quiet (fail)
      go_wp2
      go_roundg (nl - (j + 1))
      case rel => exact ⟨j + 1, by go_num, rfl, by omega, _, rfl⟩
      case measure => omega
    · obtain rfl : j = nl := by omega
      go_wp2
      go_loopg [4] il (fun q i wr => ∃ j : Nat, i = .int .i64 j ∧ q = il - j ∧ j ≤ il ∧ ∃ m, wr = w.drewN m)
      case atStart => exact ⟨0, rfl, by omega, Nat.zero_le _, m, rfl⟩
      case round =>
        clear hlt
        obtain ⟨i, rfl, rfl, hjl, m, rfl⟩ := hrel
        by_cases hlt : i < il
        · obtain ⟨u, hu⟩ : ∃ u, ir[i]? = some u := ⟨ir[i]'(by have := HE.out.2; omega), List.getElem?_eq_getElem _⟩
          obtain ⟨g, n, c, cs, rfl, hnc, hg, hcs⟩ := HB.out.imk u (List.mem_of_getElem? hu)
          obtain ⟨-, -, b, rfl, hcell⟩ := rowCell HB.out.irow hu
          have hmark : w.cell? ⟨g, n * 5, none⟩ = some (.int .i64 (-77)) := by rw [cell_of_row w g (n * 5) cs _ (0, 0) hg]; exact hcs
          have hn9 : n + 1 ≤ 9223372036854775807 := by omega
          clear hg hcs hu
          go_wp2
          go_quiet (fail)
          go_wp2
          go_roundg (il - (i + 1))
          case rel => exact ⟨i + 1, by go_num, rfl, by omega, _, rfl⟩
          case measure => omega
        · obtain rfl : i = il := by omega
          go_wp2
          go_ret
          exact ⟨rfl, (Kept.refl _ w).drewN _⟩
end Go.Proofs.YtmajpambfblhnaaGreatDoor
