/- Walks of the reference's reader (layer 4): a member of an object that has some. -/
import Derived.Test.YtmajpambfblhnaaGreatDoorJoR8
import Derived.Deep.DeepCutAuto
namespace Go.Proofs.YtmajpambfblhnaaGreatDoor
open Go.RowKit Jo

/-- The ending of 'member' for an object that has some: what stands in the new rows. -/
theorem memQ_done {N0 M n A : Nat} {w6 wf : World} {ms : List (List UInt8 × J)} {ns : List (List UInt8)} {name : List UInt8} {x : J} {u : Value} {us NL IL : List Value} {na ia : Option Addr} {nl nc il ic B : Nat} (HNS : ms.map (·.1) = ns) (HA : aheadN ns name = A) (HLM : ms.length = n) (HU1 : us.length = n) (hAn : A ≤ n)
    (h5 : ∀ v ∈ us, v.cells.size = 5) (hN0 : N0 ≤ B) (hM : B + 2 ≤ M) (hM6 : M = w6.heap.size) (HNL : (ns.map S).take A ++ [S name] ++ (ns.map S).drop (A * 1) = NL) (HIL : (jotCells us).take (A * 5) ++ u.cells.toList ++ (jotCells us).drop (A * 5) = IL)
    (hT : Two M (.slice na nl nc) (.slice ia il ic) (n + 1) NL (n + 1) IL wf) (hz : w6.heap.size ≤ wf.heap.size) (hkf : ∀ b, b < w6.heap.size → b ≠ B → b ≠ B + 1 → wf.heap[b]? = w6.heap[b]?)
    (HOLD : ∀ (j : Nat) y, (ms.map (·.2))[j]? = some y → JIn (fun b => N0 ≤ b ∧ b ≠ B ∧ b ≠ B + 1 ∧ b < M) w6 y (us.getD j .nilIface)) (HX : JIn (fun b => N0 ≤ b ∧ b ≠ B ∧ b ≠ B + 1 ∧ b < M) w6 x u) :
    MemQ N0 ms (name, x) (.returned (.tuple #[jotV 6 0 [] (.slice na nl nc) (.slice ia il ic), .bool true])) wf := by
  have hat := insM_at (name, x) ms
  simp only at hat
  rw [HNS, HA] at hat
  have hnames : (insM (name, x) ms).map (·.1) = ns.take A ++ name :: ns.drop A := by rw [hat, List.map_append, List.map_cons, List.map_take, List.map_drop, HNS]
  have hitems : (insM (name, x) ms).map (·.2) = (ms.map (·.2)).take A ++ x :: (ms.map (·.2)).drop A := by rw [hat, List.map_append, List.map_cons, List.map_take, List.map_drop]
  have hlen : (insM (name, x) ms).length = n + 1 := by rw [(insM_perm _ _).length_eq, List.length_cons, HLM]
  have hcut := jotCells_cut us h5 A (by rw [HU1]; exact hAn)
  refine ⟨na, nl, nc, ia, il, ic, rfl, ?_, us.take A ++ u :: us.drop A, ?_, ?_, ?_⟩
  · have := ownsRow_base (B' := N0) hT.names (by omega)
    rw [List.length_map, hlen, hnames]
    rw [← HNL] at this
    simpa using this
  · rw [List.length_map, hlen, List.length_append, List.length_cons, List.length_take, List.length_drop, HU1]
    omega
  · have := ownsRow_base (B' := N0) hT.items (by omega)
    rw [List.length_map, hlen, jotCells_app]
    rw [← HIL, hcut.1, hcut.2] at this
    have e : ∀ (u : Value) (r : List Value), jotCells (u :: r) = u.cells.toList ++ jotCells r := fun u r => by simp [jotCells]
    rw [e, ← List.append_assoc]
    exact this
  · rw [hitems]
    refine jin_ins A (by rw [HU1, List.length_map, HLM]) (fun q y hy => ?_) ?_ (by rw [List.length_map, HLM]; exact hAn)
    · exact (HOLD q y hy).kept' hz (fun b hb h => hkf b hb h.2.1 h.2.2.1) fun b hb h => ⟨h.1, fun e => by
        have := (hT.items.lt b e.symm).1
        omega⟩
    · exact HX.kept' hz (fun b hb h => hkf b hb h.2.1 h.2.2.1) fun b hb h => ⟨h.1, fun e => by
        have := (hT.items.lt b e.symm).1
        omega⟩

set_option maxHeartbeats 8000000 in
set_option maxRecDepth 100000 in
theorem refmember_any (g : Nat) (s : List UInt8) (d k : Nat) (hv : RefV g s d k) (N0 i : Nat) (w : World) (ms : List (List UInt8 × J)) (b nc b2 ic n : Nat) (hn : ms.length = n) (hp : RA g s i 0 d w) (hi : i ≤ s.length) (hl : s.length ≤ 1000000) (hN : g < N0) (hN0 : N0 ≤ w.heap.size)
    (hasc : Asc ms) (hml : n ≤ 1000000) (hrn : w.ownsRow N0 9 1 (.slice (some ⟨b, 0, none⟩) n nc) n ((ms.map (·.1)).map S)) (hri : OwnR N0 (.slice (some ⟨b2, 0, none⟩) n ic) (ms.map (·.2)) w) :
    Calls Tryz.prog 102 #[.pointer (some ⟨g, 0, none⟩), jotV 6 0 [] (.slice (some ⟨b, 0, none⟩) n nc) (.slice (some ⟨b2, 0, none⟩) n ic)] w
      (RRd g s d w (memR s k ms i) (MemQ N0 ms) fun e => e = .returned (.tuple #[jotV 6 0 [] (.slice (some ⟨b, 0, none⟩) n nc) (.slice (some ⟨b2, 0, none⟩) n ic), .bool false])) := by
  have HV := Lib.hid hv
  clear hv
  obtain ⟨R, hR⟩ : ∃ R, memR s k ms i = R := ⟨_, rfl⟩
  have HR := Lib.hid hR
  rw [hR]
  clear hR
  obtain ⟨W0, hW0⟩ : ∃ W0, (w.alloc (.cells #[.int .i64 6, .int .i64 0, S [], .slice (some ⟨b, 0, none⟩) n nc, .slice (some ⟨b2, 0, none⟩) n ic] 25)).alloc (.cells #[.int .i64 0, .int .i64 0, S [], .slice none 0 0, .slice none 0 0] 25) = W0 := ⟨_, rfl⟩
  have hnc : n ≤ nc := by
    rcases ownsRow_view hrn with ⟨h, _⟩ | ⟨b', cap, h, h1, _⟩
    · cases h
    · cases h; exact h1
  have hic : n ≤ ic := by
    obtain ⟨us, _, u2, _⟩ := hri
    rcases ownsRow_view u2 with ⟨h, _⟩ | ⟨b', cap, h, h1, _⟩
    · cases h
    · rw [List.length_map, hn] at h h1; cases h; exact h1
  have hgl := hp.lt
  have hk0 : Kept (fun _ => True) w W0 := by rw [← hW0]; exact ((Kept.refl _ w).alloc _).alloc _
  have hz0 : W0.heap.size = w.heap.size + 2 := by rw [← hW0]; simp
  have hbox0 : OutAt w.heap.size 6 0 [] (.slice (some ⟨b, 0, none⟩) n nc) (.slice (some ⟨b2, 0, none⟩) n ic) W0 := by rw [← hW0]; exact (OutAt.new w 6 0 [] _ _).kept (ok := fun _ => True) ((Kept.refl _ _).alloc _) trivial
  have hout0 : OutAt (w.heap.size + 1) 0 0 [] (.slice none 0 0) (.slice none 0 0) W0 := by
    rw [← hW0]
    have := OutAt.new (w.alloc (.cells #[.int .i64 6, .int .i64 0, S [], .slice (some ⟨b, 0, none⟩) n nc, .slice (some ⟨b2, 0, none⟩) n ic] 25)) 0 0 [] (.slice none 0 0) (.slice none 0 0)
    simpa using this
  have hp0 : RA g s i 0 d W0 := hp.kept hk0 trivial
  have T := Lib.hid (reftext_any g s i d W0 hp0 hl hi)
  have HW0 := Lib.hid hW0
  have HZ0 := Lib.hid hz0
  have HV0 := Lib.hid hbox0
  have HB0 := Lib.hid hout0
  have HRN := Lib.hid (ownsRow_kept hrn hk0 fun _ _ => trivial)
  obtain ⟨us, u1, u2, u3⟩ := hri
  have HU1 : Hid (us.length = n) := Lib.hid (by rw [u1, List.length_map]; exact hn)
  have HU2 : Hid (w.ownsRow N0 25 5 (.slice (some ⟨b2, 0, none⟩) n ic) n (jotCells us)) := Lib.hid (by rw [List.length_map, hn] at u2; exact u2)
  have HU3 : Hid (∀ (j : Nat) x, (ms.map (·.2))[j]? = some x → JIn (fun b => N0 ≤ b ∧ b < w.heap.size) w x (us.getD j .nilIface)) := Lib.hid fun j x hx => (u3 j x hx).mono fun b hb h => ⟨h.1, hb⟩
  clear u1 u2 u3
  have HK0 := Lib.hid (hk0.mono (ok2 := (· ≠ g)) fun _ _ _ => trivial)
  have HLM : Hid (ms.length = n) := Lib.hid hn
  have HAS := Lib.hid hasc
  clear hp hp0 hW0 hz0 hbox0 hout0 hrn hk0 hn hasc
  go_enter Tryz.func102, Tryz.ntmps102
  go_wp2_with fail
  rw [show (({ data := #[] } : ByteArray)) = ⟨([] : List UInt8).toArray⟩ from rfl, HW0.out]
  refine T.out.mono ?_
  have hz0 := HZ0.out
  cases ht : textP s [] i with
  | bad x j =>
    have HN : Hid (R = .bad x j) := Lib.hid (by rw [← HR.out, memR, ht]; rfl)
    rintro e w1 ⟨rfl, ⟨d', hp1⟩, hj, hk1⟩
    have HV1 := Lib.hid (HV0.out.kept hk1 (by omega))
    have HB1 := Lib.hid (HB0.out.kept hk1 (by omega))
    have HK1 := Lib.hid (HK0.out.tr hk1)
    obtain ⟨o0, o1, o2, o3, o4, o5, o6⟩ := HV1.out.facts
    obtain ⟨g0, g1, g2, g3, g4, g5, g6⟩ := HB1.out.facts
    obtain ⟨f0, f1, f2, f3, f4⟩ := HB1.out.free
    clear ht HR T HV0 HB0 HRN HK0 hk1
    go_wp2
    refine bodyPost_ret (v := .tuple #[jotV 6 0 [] (.slice (some ⟨b, 0, none⟩) n nc) (.slice (some ⟨b2, 0, none⟩) n ic), .bool false]) (by simp [results, Tryz.results102, go_sem, g0, g1, g2, g3, g4]) rfl ?_
    rw [HN.out]
    have hkb := fun (W : World) => kept_box W (w.heap.size + 1) (.int .i64 6) (.int .i64 0) (S []) (.slice (some ⟨b, 0, none⟩) n nc) (.slice (some ⟨b2, 0, none⟩) n ic)
    exact ⟨rfl, ⟨d', hp1.kept (hkb _) (by omega)⟩, hj, HK1.out.trans (hkb _) fun b hb _ => by omega⟩
  | ok name j1 =>
    have HQ : Hid (R = (seenR (ms.map (·.1)) name j1).bind fun n j => (wantP s 58 (bl s j)).bind fun _ j => (valP s k j).bind fun x j => .ok (n, x) j) := Lib.hid (by rw [← HR.out, memR, ht]; rfl)
    have hj0 := (textP_le ht).1
    rintro e w1 ⟨rfl, hp1, hj1, hk1⟩
    have HV1 := Lib.hid (HV0.out.kept hk1 (by omega))
    have HB1 := Lib.hid (HB0.out.kept hk1 (by omega))
    have HK1 := Lib.hid (HK0.out.tr hk1)
    have HRN1 := Lib.hid (ownsRow_kept HRN.out hk1 fun c hc => by have := (HRN.out.lt c hc).1; omega)
    have HP1 := Lib.hid hp1
    obtain ⟨ns, hns⟩ : ∃ ns, ms.map (·.1) = ns := ⟨_, rfl⟩
    have HNS := Lib.hid hns
    rw [hns] at HQ HRN1
    have hnl : Hid (ns.length = n) := Lib.hid (by rw [← hns, List.length_map]; exact HLM.out)
    have hz1 := hk1.size
    clear ht HR T HV0 HB0 HRN HK0 hk1 hp1 hns
    obtain ⟨A, hA⟩ : ∃ A, aheadN ns name = A := ⟨_, rfl⟩
    have hAn : A ≤ n := by rw [← hA, ← hnl.out]; exact aheadN_le _ _
    have HA := Lib.hid hA
    clear hA
    obtain ⟨h0, h1, h2, h3, h4, h5, h6⟩ := HP1.out.facts
    obtain ⟨o0, o1, o2, o3, o4, o5, o6⟩ := HV1.out.facts
    have hcell : Hid (∀ (j : Nat) l, ns[j]? = some l → w1.cell? ⟨b, j, none⟩ = some (S l)) := Lib.hid fun j l hj => by
      have := HRN1.out.cells (g := b) rfl j (S l) (by rw [List.getElem?_map, hj]; rfl)
      rwa [show (⟨b, 0, none⟩ : Addr).add j = ⟨b, j, none⟩ from by unfold Addr.add; split <;> simp_all] at this
    go_upto_block 0 with fail
    go_cut [8] (fun a wx => a = .int .i64 A ∧ ∃ m : Nat, wx = w1.drewN m)
    case first =>
      go_wp2_with fail
      go_loopg [8] n (fun q a wr => ∃ j m : Nat, a = .int .i64 j ∧ q = n - j ∧ j ≤ n ∧ Hid (j ≤ aheadN ns name) ∧ wr = w1.drewN m)
      case atStart => exact ⟨0, 0, rfl, rfl, Nat.zero_le _, Lib.hid (Nat.zero_le _), rfl⟩
      case round =>
        obtain ⟨j, m, rfl, rfl, hj, hja, rfl⟩ := hrel
        have hcls : (j < n ∧ ∃ l, ns[j]? = some l ∧ Op.bytesLess l name = true) ∨ (j < n ∧ j = A ∧ ∃ l, ns[j]? = some l ∧ Op.bytesLess l name = false) ∨ (n ≤ j ∧ j = A) := by
          have hjA : j ≤ A := by have := hja.out; rw [HA.out] at this; exact this
          by_cases hlt : j < n
          · obtain ⟨l, hl⟩ : ∃ l, ns[j]? = some l := ⟨ns[j]'(by rw [hnl.out]; exact hlt), List.getElem?_eq_getElem _⟩
            by_cases hb : ltB l name = true
            · exact .inl ⟨hlt, l, hl, by rw [bytesLess_eq]; exact hb⟩
            · have hb' : ltB l name = false := by simpa using hb
              have hjeq : j = A := by
                rcases Nat.eq_or_lt_of_le hjA with e | h
                · exact e
                · exfalso
                  obtain ⟨l', h1, h2⟩ := aheadN_lt ns name j (by rw [HA.out]; exact h)
                  rw [hl] at h1
                  cases h1
                  rw [hb'] at h2; cases h2
              exact .inr (.inl ⟨hlt, hjeq, l, hl, by rw [bytesLess_eq]; exact hb'⟩)
          · exact .inr (.inr ⟨by omega, by omega⟩)
        rcases hcls with ⟨hlt, l, hl, hbl⟩ | ⟨hlt, hjA, l, hl, hbl⟩ | ⟨hge, hjA⟩
        · have c1 := hcell.out j l hl
          have hjn : j + 1 ≤ A := by
            have hjA : j ≤ A := by have := hja.out; rw [HA.out] at this; exact this
            rcases Nat.eq_or_lt_of_le hjA with e | h
            · exfalso
              have := aheadN_stop ns name l (by rw [HA.out, ← e]; exact hl)
              rw [bytesLess_eq, this] at hbl
              cases hbl
            · exact h
          have HJN : Hid (j + 1 ≤ aheadN ns name) := Lib.hid (by rw [HA.out]; exact hjn)
          clear hl hja hjn
          go_wp2
          go_roundg (n - (j + 1))
          case rel => exact ⟨j + 1, _, by go_num, rfl, by omega, HJN, rfl⟩
          case measure => omega
        · have c1 := hcell.out j l hl
          have HJA := Lib.hid hjA
          clear hl hja hjA
          go_wp2
          go_meet
          exact ⟨by rw [HJA.out], _, rfl⟩
        · have HJA := Lib.hid hjA
          clear hja hjA
          go_wp2
          go_meet
          exact ⟨by rw [HJA.out], _, rfl⟩
    case rest =>
      obtain ⟨rfl, m, rfl⟩ := hcut
      obtain ⟨F, hF⟩ : ∃ F, decide (ns[A]? = some name) = F := ⟨_, rfl⟩
      have HF := Lib.hid hF
      clear hF
      go_upto_region 7 with fail
      go_cut [50] (fun c wx => c = .bool F ∧ wx = w1.drewN m)
      case first =>
        by_cases hlt : A < n
        · obtain ⟨l, hl⟩ : ∃ l, ns[A]? = some l := ⟨ns[A]'(by rw [hnl.out]; exact hlt), List.getElem?_eq_getElem _⟩
          have c1 := hcell.out A l hl
          have HE : Hid ((l == name) = F) := Lib.hid (by
            rw [← HF.out, hl]
            simp only [Option.some.injEq]
            by_cases e : l = name
            · rw [decide_eq_true e]; simpa using e
            · rw [decide_eq_false e]; simpa using e)
          obtain ⟨E, hE⟩ : ∃ E, (l == name) = E := ⟨_, rfl⟩
          have HEF : Hid (E = F) := Lib.hid (by rw [← hE]; exact HE.out)
          clear hl
          go_wp2
          go_meet
          exact ⟨by rw [HEF.out], rfl⟩
        · have HFF : Hid (F = false) := Lib.hid (by rw [← HF.out, List.getElem?_eq_none_iff.2 (by rw [hnl.out]; omega)]; simp)
          go_wp2
          go_meet
          exact ⟨by rw [HFF.out], rfl⟩
      case rest =>
        obtain ⟨rfl, rfl⟩ := hcut
        by_cases hfd : ns[A]? = some name
        · have hpw : ns.Pairwise fun a b => ltB a b = true := by rw [← HNS.out, List.pairwise_map]; exact HAS.out
          have hmem : name ∈ ns := (aheadN_mem name ns hpw).2 (by rw [HA.out]; exact hfd)
          have HN : Hid (R = .bad 42 (j1 - 1)) := Lib.hid (by rw [HQ.out, seenR, if_pos hmem]; rfl)
          obtain rfl : F = true := by rw [← HF.out]; exact decide_eq_true hfd
          clear hfd hpw hmem HQ
          have HPm : Hid (∀ n, RA g s (j1 - 1) 0 d ((w1.drewN n).setCell ⟨g, 1, none⟩ (.int .i64 ((j1 : Int) - 1)))) := Lib.hid fun n => (HP1.out.drewN n).setAt (j1 - 1) _ (by congr 1; omega)
          have HKm : Hid (∀ n, Kept (· ≠ g) w1 ((w1.drewN n).setCell ⟨g, 1, none⟩ (.int .i64 ((j1 : Int) - 1)))) := Lib.hid fun n => ((Kept.refl _ w1).drewN n).setCell (.inr (by simp)) _
          go_wp2
          have HP2 := Lib.hid (HPm.out m)
          have HK2 := Lib.hid (HKm.out m)
          generalize ((w1.drewN m).setCell ⟨g, 1, none⟩ (.int .i64 ((j1 : Int) - 1))) = w2 at HP2 HK2 ⊢
          have hz2 := HK2.out.size
          have HV2 := Lib.hid (HV1.out.kept HK2.out (by omega))
          have HB2 := Lib.hid (HB1.out.kept HK2.out (by omega))
          clear HPm HKm h0 h1 h2 h3 h4 h5 h6 o0 o1 o2 o3 o4 o5 o6
          obtain ⟨p0, p1, p2, p3, p4, p5, p6⟩ := HV2.out.facts
          have CW := Lib.hid (refwrong_any g s (j1 - 1) d 0 42 w2.drew HP2.out)
          go_region_with
            (first
              | (go_at_call 82; (with_reducible refine CW.out.mono ?_); rintro e w3 ⟨rfl, hp3, hk3⟩; have HV3 := Lib.hid (OutAt.kept (w := w2.drew) HV2.out hk3 (by omega)); have HB3 := Lib.hid (OutAt.kept (w := w2.drew) HB2.out hk3 (by omega)); obtain ⟨y0, y1, y2, y3, y4, y5, y6⟩ := HV3.out.facts; obtain ⟨g0, g1, g2, g3, g4, g5, g6⟩ := HB3.out.facts; obtain ⟨f0, f1, f2, f3, f4⟩ := HB3.out.free))
          all_goals
            have hk23 : Kept (· ≠ g) w2 w3 := ((Kept.refl _ w2).drew).tr hk3
            go_wp2
            refine bodyPost_ret (v := .tuple #[jotV 6 0 [] (.slice (some ⟨b, 0, none⟩) n nc) (.slice (some ⟨b2, 0, none⟩) n ic), .bool false]) (by simp [results, Tryz.results102, go_sem, g0, g1, g2, g3, g4]) rfl ?_
            rw [HN.out]
            have hkb := fun (W : World) => kept_box W (w.heap.size + 1) (.int .i64 6) (.int .i64 0) (S []) (.slice (some ⟨b, 0, none⟩) n nc) (.slice (some ⟨b2, 0, none⟩) n ic)
            exact ⟨rfl, ⟨d, hp3.kept (hkb _) (by omega)⟩, by omega, ((HK1.out.tr HK2.out).tr hk23).trans (hkb _) fun b hb _ => by omega⟩
        · have hnm : name ∉ ns := fun hmem => by
            have hpw : ns.Pairwise fun a b => ltB a b = true := by rw [← HNS.out, List.pairwise_map]; exact HAS.out
            have hm := (aheadN_mem name ns hpw).1 hmem
            rw [HA.out] at hm
            exact hfd hm
          obtain rfl : F = false := by rw [← HF.out]; exact decide_eq_false hfd
          have HQ2 : Hid (R = (wantP s 58 (bl s j1)).bind fun _ j => (valP s k j).bind fun x j => .ok (name, x) j) := Lib.hid (by rw [HQ.out, seenR, if_neg hnm]; rfl)
          have HKd : Hid (∀ n, Kept (· ≠ g) w1 (w1.drewN n)) := Lib.hid fun n => (Kept.refl _ w1).drewN n
          have B1 := Lib.hid (fun n => refblanks_any g s j1 d (w1.drewN n) (HP1.out.drewN n) hl hj1)
          clear hnm HQ hfd
          have HBX := Lib.hid (And.intro HV1.out HB1.out)
          go_wp2_with fail
          refine (B1.out m).mono ?_
          rintro e w2 ⟨rfl, hp2, hb2, hk2⟩
          have hk12 : Kept (· ≠ g) w1 w2 := (HKd.out m).tr hk2
          have C2 := Lib.hid (reftakes_any g s (bl s j1) d 58 w2 hp2 hb2 hl)
          obtain ⟨j2, hj2⟩ : ∃ y, bl s j1 = y := ⟨_, rfl⟩
          rw [hj2] at HQ2 C2 hb2
          clear B1 HKd hk2 hp2 hj2 h0 h1 h2 h3 h4 h5 h6 o0 o1 o2 o3 o4 o5 o6
          go_wp2_with fail
          refine C2.out.mono ?_
          cases hq : wantP s 58 j2 with
          | bad x j' =>
            have HN : Hid (R = .bad x j') := Lib.hid (by rw [HQ2.out, hq]; rfl)
            rintro e w3 ⟨rfl, ⟨d', hp3⟩, hj', hk3⟩
            have hk13 : Kept (· ≠ g) w1 w3 := hk12.tr hk3
            have hz3 := hk13.size
            have HV3 := Lib.hid (HBX.out.1.kept hk13 (by omega))
            have HB3 := Lib.hid (HBX.out.2.kept hk13 (by omega))
            obtain ⟨p0, p1, p2, p3, p4, p5, p6⟩ := HV3.out.facts
            obtain ⟨g0, g1, g2, g3, g4, g5, g6⟩ := HB3.out.facts
            obtain ⟨f0, f1, f2, f3, f4⟩ := HB3.out.free
            clear hq HQ2 C2
            go_wp2
            refine bodyPost_ret (v := .tuple #[jotV 6 0 [] (.slice (some ⟨b, 0, none⟩) n nc) (.slice (some ⟨b2, 0, none⟩) n ic), .bool false]) (by simp [results, Tryz.results102, go_sem, g0, g1, g2, g3, g4]) rfl ?_
            rw [HN.out]
            have hkb := fun (W : World) => kept_box W (w.heap.size + 1) (.int .i64 6) (.int .i64 0) (S []) (.slice (some ⟨b, 0, none⟩) n nc) (.slice (some ⟨b2, 0, none⟩) n ic)
            exact ⟨rfl, ⟨d', hp3.kept (hkb _) (by omega)⟩, hj', (HK1.out.tr hk13).trans (hkb _) fun b hb _ => by omega⟩
          | ok u j3 =>
            have HQ3 : Hid (R = (valP s k j3).bind fun x j => .ok (name, x) j) := Lib.hid (by rw [HQ2.out, hq]; rfl)
            rintro e w3 ⟨rfl, hp3, hj3, hk3⟩
            have hk13 : Kept (· ≠ g) w1 w3 := hk12.tr hk3
            have B3 := Lib.hid (refblanks_any g s j3 d w3 hp3 hl hj3)
            clear hq HQ2 C2 hk3 hk12 hp3
            go_wp2_with fail
            refine B3.out.mono ?_
            rintro e w4 ⟨rfl, hp4, hb4, hk4⟩
            have hk14 : Kept (· ≠ g) w1 w4 := hk13.tr hk4
            have V := Lib.hid (HV.out (bl s j3) w4 hp4 hb4)
            rw [← valP_valA] at V
            clear B3 hk4 hk13 hp4
            go_wp2_with fail
            refine V.out.mono ?_
            cases hx : valP s k j3 with
            | bad x j' =>
              have HN : Hid (R = .bad x j') := Lib.hid (by rw [HQ3.out, hx]; rfl)
              rintro e w5 ⟨⟨xk, xn, xt, xna, xnl, xnc, xia, xil, xic, rfl⟩, ⟨d', hp5⟩, hj', hk5⟩
              obtain ⟨w6, hW6⟩ : ∃ w', w5.alloc (.cells #[.int .i64 xk, .int .i64 xn, S xt, .slice xna xnl xnc, .slice xia xil xic] 25) = w' := ⟨_, rfl⟩
              have hk16 : Kept (· ≠ g) w1 w6 := by rw [← hW6]; exact (hk14.tr hk5).alloc _
              have hp6 : RA g s j' x d' w6 := by rw [← hW6]; exact hp5.kept (ok := fun _ => True) ((Kept.refl _ _).alloc _) trivial
              have hz3 := hk16.size
              have HV3 := Lib.hid (HBX.out.1.kept hk16 (by omega))
              have HB3 := Lib.hid (HBX.out.2.kept hk16 (by omega))
              obtain ⟨p0, p1, p2, p3, p4, p5, p6⟩ := HV3.out.facts
              obtain ⟨g0, g1, g2, g3, g4, g5, g6⟩ := HB3.out.facts
              obtain ⟨f0, f1, f2, f3, f4⟩ := HB3.out.free
              clear hx HQ3 V hp5 hk5
              go_wp2
              refine bodyPost_ret (v := .tuple #[jotV 6 0 [] (.slice (some ⟨b, 0, none⟩) n nc) (.slice (some ⟨b2, 0, none⟩) n ic), .bool false]) (by simp [results, Tryz.results102, go_sem, g0, g1, g2, g3, g4]) rfl ?_
              rw [HN.out]
              have hkb := fun (W : World) => kept_box W (w.heap.size + 1) (.int .i64 6) (.int .i64 0) (S []) (.slice (some ⟨b, 0, none⟩) n nc) (.slice (some ⟨b2, 0, none⟩) n ic)
              exact ⟨rfl, ⟨d', hp6.kept (hkb _) (by omega)⟩, hj', (HK1.out.tr hk16).trans (hkb _) fun b hb _ => by omega⟩
            | ok x j5 =>
              have HN : Hid (R = .ok (name, x) j5) := Lib.hid (by rw [HQ3.out, hx]; rfl)
              rintro e w5 ⟨⟨u, rfl, hu⟩, hp5, hj5, hk5⟩
              obtain ⟨xna, xnl, xnc, xia, xil, xic, rfl⟩ := hu.form
              obtain ⟨w6, hW6⟩ : ∃ w', w5.alloc (.cells #[.int .i64 x.kind, .int .i64 x.num, S x.text, .slice xna xnl xnc, .slice xia xil xic] 25) = w' := ⟨_, rfl⟩
              have hk56 : Kept (fun _ => True) w5 w6 := by rw [← hW6]; exact (Kept.refl _ _).alloc _
              have hz56 : w6.heap.size = w5.heap.size + 1 := by rw [← hW6]; simp
              have hbx : OutAt w5.heap.size x.kind x.num x.text (.slice xna xnl xnc) (.slice xia xil xic) w6 := by rw [← hW6]; exact OutAt.new _ _ _ _ _ _
              have hk16 : Kept (· ≠ g) w1 w6 := (hk14.tr hk5).trans hk56 fun _ _ _ => trivial
              have hkw6 := HK1.out.tr hk16
              have hz4 := hk14.size
              have hz6 := hk16.size
              have hz65 : w5.heap.size < w6.heap.size := by omega
              have HP6 := Lib.hid (hp5.kept hk56 trivial)
              have HX6 : Hid (JIn (fun b => N0 ≤ b ∧ b ≠ w.heap.size ∧ b ≠ w.heap.size + 1 ∧ b < w6.heap.size) w6 x (jotV x.kind x.num x.text (.slice xna xnl xnc) (.slice xia xil xic))) := Lib.hid (hu.kept' hk56.size (fun b hb _ => hk56.block b hb trivial) fun b hb h => ⟨by omega, by omega, by omega, by omega⟩)
              have HOLD : Hid (∀ (j : Nat) x, (ms.map (·.2))[j]? = some x → JIn (fun b => N0 ≤ b ∧ b ≠ w.heap.size ∧ b ≠ w.heap.size + 1 ∧ b < w6.heap.size) w6 x (us.getD j .nilIface)) := Lib.hid fun j x hx => (HU3.out j x hx).kept' hkw6.size (fun b hb h => hkw6.block b hb (by omega)) fun b hb h => ⟨h.1, by omega, by omega, by omega⟩
              have HRN6 := Lib.hid (ownsRow_kept HRN1.out hk16 fun c hc => by have := (HRN1.out.lt c hc).1; omega)
              have HRI6 := Lib.hid (ownsRow_kept HU2.out hkw6 fun c hc => by have := (HU2.out.lt c hc).1; omega)
              have HIW : Hid (∀ c, (Value.slice (some ⟨b2, 0, none⟩) n ic).ownBlock = some c → c < w.heap.size) := Lib.hid fun c hc => (HU2.out.lt c hc).2
              have HV6 := Lib.hid (HBX.out.1.kept hk16 (by omega))
              have HB6 := Lib.hid (HBX.out.2.kept hk16 (by omega))
              have HX5 := Lib.hid hbx
              have HKW := Lib.hid hkw6
              have h5 : Hid (∀ u ∈ us, u.cells.size = 5) := Lib.hid fun u hu => by
                obtain ⟨q, hq, rfl⟩ := List.getElem_of_mem hu
                have hq2 : q < (ms.map (·.2)).length := by rw [List.length_map, HLM.out, ← HU1.out]; exact hq
                have := (HU3.out q _ (List.getElem?_eq_getElem hq2)).five
                rwa [List.getD_eq_getElem?_getD, List.getElem?_eq_getElem hq] at this
              have hl1 : Hid (((ns.map S).take (A * 1)).length = A * 1) := Lib.hid (by rw [List.length_take, List.length_map, hnl.out]; omega)
              have hl2 : Hid ((jotCells us).length = n * 5) := Lib.hid (by rw [jotCells_len us h5.out, HU1.out])
              have hl3 : Hid (((jotCells us).take (A * 5)).length = A * 5) := Lib.hid (by rw [List.length_take, hl2.out]; omega)
              have hl4 : Hid ((ns.map S).length = n * 1) := Lib.hid (by rw [List.length_map, hnl.out]; omega)
              have hl5 : Hid (((ns.map S).drop (A * 1)).length = (n - A) * 1) := Lib.hid (by rw [List.length_drop, hl4.out]; omega)
              have hl6 : Hid (((jotCells us).drop (A * 5)).length = (n - A) * 5) := Lib.hid (by rw [List.length_drop, hl2.out]; omega)
              have ho1 : Hid (∀ u ∈ ns.map S, u.oneCell' = true) := Lib.hid (fun u hu => by obtain ⟨l, _, rfl⟩ := List.mem_map.1 hu; rfl)
              have ho2 : Hid (∀ u ∈ jotCells us, u.oneCell' = true) := Lib.hid fun u hu => by
                unfold jotCells at hu
                obtain ⟨v, hv, hu⟩ := List.mem_flatMap.1 hu
                obtain ⟨q, hq, rfl⟩ := List.getElem_of_mem hv
                have hq2 : q < (ms.map (·.2)).length := by rw [List.length_map, HLM.out, ← HU1.out]; exact hq
                have := (HU3.out q _ (List.getElem?_eq_getElem hq2)).ones
                rw [List.getD_eq_getElem?_getD, List.getElem?_eq_getElem hq] at this
                exact this u hu
              have HZ56 := Lib.hid hz56
              clear hz56 hx HQ3 V hp5 hk5 hu hk56 hbx hk16 hkw6 hk14 HRN1 HU2 HU3 HBX HV1 HB1 HP1 hcell
              obtain ⟨o0, o1, o2, o3, o4, o5, o6⟩ := HV6.out.facts
              go_wp2_with (at_builtin; refine wpList_pushAll 22 9 Tryz.underlying22 infoStr rfl (by decide) rfl _ _ rfl w6.heap.size (.slice none 0 0) 0 [] _ A ((ns.map S).take (A * 1)) hl1.out (fun u hu => ho1.out u (List.mem_of_mem_take hu)) rfl rfl (rd_cut HRN6.out hl4.out A hAn _ (by decide)) (World.ownsRow_nil _ _ _ _) (by omega) (by decide) (Nat.le_refl _) ?_)
              intro n1 w7 k1 k2 k3
              have HT7 : Hid (Two w6.heap.size n1 (.slice none 0 0) A ((ns.map S).take A) 0 [] w7) := Lib.hid ((Two.nil w6.heap.size w6).pushN k3 (by simpa using k1))
              have HBE7 := Lib.hid k2
              have HV7 := Lib.hid (HV6.out.below k2 (by omega))
              have HX7 := Lib.hid (HX5.out.below k2 (by omega))
              have HRI7 := Lib.hid (ownsRow_below HRI6.out k2)
              have hz7 := k2.size
              clear k1 k2 k3 o0 o1 o2 o3 o4 o5 o6
              obtain ⟨o0, o1, o2, o3, o4, o5, o6⟩ := HV7.out.facts
              go_wp2_with (at_builtin; refine wpList_pushAll 23 25 Tryz.underlying23 infoJot rfl (by decide) rfl _ _ rfl w6.heap.size (.slice none 0 0) 0 [] _ A ((jotCells us).take (A * 5)) hl3.out (fun u hu => ho2.out u (List.mem_of_mem_take hu)) rfl rfl (rd_cut HRI7.out hl2.out A hAn _ (by decide)) (World.ownsRow_nil _ _ _ _) (by omega) (by decide) hz7 ?_)
              intro i1 w8 k1 k2 k3
              have HT8 : Hid (Two w6.heap.size n1 i1 A ((ns.map S).take A) A ((jotCells us).take (A * 5)) w8) := Lib.hid (HT7.out.pushI k3 (by simpa using k1))
              have HBE8 := Lib.hid (HBE7.out.trans k2)
              have HV8 := Lib.hid (HV7.out.below k2 (by omega))
              have HX8 := Lib.hid (HX7.out.below k2 (by omega))
              have hz8 := k2.size
              clear k1 k2 k3 o0 o1 o2 o3 o4 o5 o6 HT7 HBE7 HV7 HX7 HRI7
              obtain ⟨o0, o1, o2, o3, o4, o5, o6⟩ := HV8.out.facts
              obtain ⟨x0, x1, x2, x3, x4, x5, x6⟩ := HX8.out.facts
              obtain ⟨n1a, n1l, n1c, rfl⟩ := ownsRow_slice HT8.out.names
              obtain ⟨i1a, i1l, i1c, rfl⟩ := ownsRow_slice HT8.out.items
              go_wp2_with (at_builtin; refine wpList_pushOne' 22 9 Tryz.underlying22 infoStr rfl (by decide) rfl _ _ rfl w6.heap.size _ A ((ns.map S).take A) [S name] w8 _ rfl rfl rfl (by intro u hu; simp at hu; subst hu; rfl) 1 _ rfl rfl rfl HT8.out.names (by omega) (by decide) (by omega) ?_)
              intro n2 w9 k1 k2 k3
              have HT9 : Hid (Two w6.heap.size n2 (.slice i1a i1l i1c) (A + 1) ((ns.map S).take A ++ [S name]) A ((jotCells us).take (A * 5)) w9) := Lib.hid (HT8.out.pushN k3 (by simpa using k1))
              have HBE9 := Lib.hid (HBE8.out.trans k2)
              have HV9 := Lib.hid (HV8.out.below k2 (by omega))
              have HX9 := Lib.hid (HX8.out.below k2 (by omega))
              have hz9 := k2.size
              clear k1 k2 k3 o0 o1 o2 o3 o4 o5 o6 x0 x1 x2 x3 x4 x5 x6 HT8 HBE8 HV8 HX8
              obtain ⟨o0, o1, o2, o3, o4, o5, o6⟩ := HV9.out.facts
              obtain ⟨x0, x1, x2, x3, x4, x5, x6⟩ := HX9.out.facts
              obtain ⟨nb, ncap, rfl, hncap⟩ : ∃ nb ncap, n2 = .slice (some ⟨nb, 0, none⟩) (A + 1) ncap ∧ A + 1 ≤ ncap := by
                rcases ownsRow_view HT9.out.names with ⟨_, h⟩ | ⟨b', cap, h, h1, _⟩
                · cases h
                · exact ⟨b', cap, h, h1⟩
              go_wp2_with (at_builtin; refine wpList_pushOne' 23 25 Tryz.underlying23 infoJot rfl (by decide) rfl _ _ rfl w6.heap.size _ A ((jotCells us).take (A * 5)) (jotV x.kind x.num x.text (.slice xna xnl xnc) (.slice xia xil xic)).cells.toList w9 _ rfl rfl rfl HX6.out.ones 1 _ rfl rfl rfl HT9.out.items (by omega) (by decide) (by omega) ?_)
              intro i2 w10 k1 k2 k3
              have HT10 : Hid (Two w6.heap.size (.slice (some ⟨nb, 0, none⟩) (A + 1) ncap) i2 (A + 1) ((ns.map S).take A ++ [S name]) (A + 1) ((jotCells us).take (A * 5) ++ (jotV x.kind x.num x.text (.slice xna xnl xnc) (.slice xia xil xic)).cells.toList) w10) := Lib.hid (HT9.out.pushI k3 k1)
              have HBE10 := Lib.hid (HBE9.out.trans k2)
              have HV10 := Lib.hid (HV9.out.below k2 (by omega))
              have HRN10 := Lib.hid (ownsRow_below HRN6.out HBE10.out)
              have HRI10 := Lib.hid (ownsRow_below HRI6.out HBE10.out)
              have hz10 := k2.size
              clear k1 k2 k3 o0 o1 o2 o3 o4 o5 o6 x0 x1 x2 x3 x4 x5 x6 HT9 HBE9 HV9 HX9
              obtain ⟨ib, icap, rfl, hicap⟩ : ∃ nb ncap, i2 = .slice (some ⟨nb, 0, none⟩) (A + 1) ncap ∧ A + 1 ≤ ncap := by
                rcases ownsRow_view HT10.out.items with ⟨_, h⟩ | ⟨b', cap, h, h1, _⟩
                · cases h
                · exact ⟨b', cap, h, h1⟩
              have hn1 : A + 1 + (n - A) = n + 1 := by omega
              have HN1 := Lib.hid hn1
              clear hn1
              obtain ⟨NL, hNL⟩ : ∃ NL, (ns.map S).take A ++ [S name] ++ (ns.map S).drop (A * 1) = NL := ⟨_, rfl⟩
              have HNL := Lib.hid hNL
              obtain ⟨IL0, hIL0⟩ : ∃ IL, (jotCells us).take (A * 5) ++ (jotV x.kind x.num x.text (.slice xna xnl xnc) (.slice xia xil xic)).cells.toList = IL := ⟨_, rfl⟩
              have HIL0 := Lib.hid hIL0
              rw [hIL0] at HT10
              clear hNL hIL0
              go_upto_region 24 with fail
              go_cut [] (fun wx => ∃ n3a n3l n3c, Hid (Two w6.heap.size (.slice n3a n3l n3c) (.slice (some ⟨ib, 0, none⟩) (A + 1) icap) (n + 1) NL (A + 1) IL0 wx) ∧ Hid (OutAt w.heap.size 6 0 [] (.slice n3a n3l n3c) (.slice (some ⟨b2, 0, none⟩) n ic) wx) ∧ Hid (Kept (fun b => b ≠ w.heap.size ∧ b < w6.heap.size) w6 wx) ∧ w10.heap.size ≤ wx.heap.size ∧ Hid (wx.ownsRow N0 25 5 (.slice (some ⟨b2, 0, none⟩) n ic) n (jotCells us)))
              case first =>
                obtain ⟨o0, o1, o2, o3, o4, o5, o6⟩ := HV10.out.facts
                by_cases hcn : nc = A
                · have hnA : n = A := by omega
                  have HT11 : Hid (Two w6.heap.size (.slice (some ⟨nb, 0, none⟩) (A + 1) ncap) (.slice (some ⟨ib, 0, none⟩) (A + 1) icap) (n + 1) NL (A + 1) IL0 w10) := Lib.hid (by
                    have hd : (ns.map S).drop (A * 1) = [] := by rw [List.drop_eq_nil_iff]; have := hl4.out; omega
                    have h := HT10.out
                    rw [← HNL.out, hd, List.append_nil, hnA]
                    exact h)
                  have HKS : Hid (Kept (· ≠ w.heap.size) w10 (w10.setCell ⟨w.heap.size, 3, none⟩ (.slice (some ⟨nb, 0, none⟩) (A + 1) ncap))) := Lib.hid ((Kept.refl _ _).setCell (.inr (by simp)) _)
                  subst hcn
                  subst hnA
                  go_wp2
                  go_meet
                  exact ⟨_, _, _, Lib.hid (HT11.out.kept HKS.out fun b hb => by omega), Lib.hid (HV10.out.setNames _), Lib.hid (((Kept.of_below' HBE10.out).mono (ok2 := fun b => b ≠ w.heap.size ∧ b < w6.heap.size) fun b _ h => h.2).trans HKS.out fun b hb h => h.1), by have := HKS.out.size; omega, Lib.hid (ownsRow_kept (ownsRow_below HRI6.out HBE10.out) HKS.out fun c hc => by have := (HRI6.out.lt c hc).1; have := HIW.out c hc; omega)⟩
                · go_wp2_with (at_builtin; refine wpList_pushAll 22 9 Tryz.underlying22 infoStr rfl (by decide) rfl _ _ rfl w6.heap.size _ (A + 1) _ _ (n - A) ((ns.map S).drop (A * 1)) hl5.out (fun u hu => ho1.out u (List.mem_of_mem_drop hu)) rfl rfl (rd_rest HRN10.out hl4.out A hAn _ _ _ (by omega) (fun _ => by simp) (by decide)) HT10.out.names (by omega) (by decide) (by omega) ?_)
                  intro n3 w11 k1 k2 k3
                  have hNL := HNL.out
                  have HT11 : Hid (Two w6.heap.size n3 (.slice (some ⟨ib, 0, none⟩) (A + 1) icap) (n + 1) NL (A + 1) IL0 w11) := Lib.hid (HT10.out.pushN k3 (by
                    rw [← hNL, ← HN1.out]
                    first
                      | simpa using k1
                      | (have e : n - A = 0 := by omega
                         simpa [e] using k1)))
                  have HV11 := Lib.hid (HV10.out.below k2 (by omega))
                  have HBE11 := Lib.hid (HBE10.out.trans k2)
                  have hz11 := k2.size
                  clear k1 k2 k3 o0 o1 o2 o3 o4 o5 o6 hNL
                  obtain ⟨n3a, n3l, n3c, rfl⟩ := ownsRow_slice HT11.out.names
                  obtain ⟨o0, o1, o2, o3, o4, o5, o6⟩ := HV11.out.facts
                  have hks : Kept (· ≠ w.heap.size) w11 (w11.setCell ⟨w.heap.size, 3, none⟩ (.slice n3a n3l n3c)) := (Kept.refl _ _).setCell (.inr (by simp)) _
                  have HKS := Lib.hid hks
                  clear hks
                  go_wp2
                  go_meet
                  exact ⟨n3a, n3l, n3c, Lib.hid (HT11.out.kept HKS.out fun b hb => by omega), Lib.hid (HV11.out.setNames _), Lib.hid (((Kept.of_below' HBE11.out).mono (ok2 := fun b => b ≠ w.heap.size ∧ b < w6.heap.size) fun b _ h => h.2).trans HKS.out fun b hb h => h.1), by have := HKS.out.size; omega, Lib.hid (ownsRow_kept (ownsRow_below HRI6.out HBE11.out) HKS.out fun c hc => by have := (HRI6.out.lt c hc).1; have := HIW.out c hc; omega)⟩
              case rest =>
                obtain ⟨n3a, n3l, n3c, HT12, HV12, HK12, hz12, HRI12⟩ := hcut
                clear HT10 HV10 HBE10 HRN10 HRI10
                obtain ⟨IL, hIL⟩ : ∃ IL, IL0 ++ (jotCells us).drop (A * 5) = IL := ⟨_, rfl⟩
                have HIL := Lib.hid hIL
                clear hIL
                go_upto_region 25 with fail
                go_cut [] (fun wx => ∃ i3a i3l i3c, Hid (Two w6.heap.size (.slice n3a n3l n3c) (.slice i3a i3l i3c) (n + 1) NL (n + 1) IL wx) ∧ Hid (OutAt w.heap.size 6 0 [] (.slice n3a n3l n3c) (.slice i3a i3l i3c) wx) ∧ Hid (Kept (fun b => b ≠ w.heap.size ∧ b < w6.heap.size) w6 wx) ∧ w10.heap.size ≤ wx.heap.size)
                case first =>
                  obtain ⟨o0, o1, o2, o3, o4, o5, o6⟩ := HV12.out.facts
                  by_cases hcn : ic = A
                  · have hnA : n = A := by omega
                    have HT13 : Hid (Two w6.heap.size (.slice n3a n3l n3c) (.slice (some ⟨ib, 0, none⟩) (A + 1) icap) (n + 1) NL (n + 1) IL wc) := Lib.hid (by
                      have hd : (jotCells us).drop (A * 5) = [] := by rw [List.drop_eq_nil_iff]; have := hl2.out; omega
                      have h := HT12.out
                      rw [← HIL.out, hd, List.append_nil]
                      rw [hnA] at h ⊢
                      exact h)
                    have HKS : Hid (Kept (· ≠ w.heap.size) wc (wc.setCell ⟨w.heap.size, 4, none⟩ (.slice (some ⟨ib, 0, none⟩) (A + 1) icap))) := Lib.hid ((Kept.refl _ _).setCell (.inr (by simp)) _)
                    subst hcn
                    subst hnA
                    go_wp2
                    go_meet
                    exact ⟨_, _, _, Lib.hid (HT13.out.kept HKS.out fun b hb => by omega), Lib.hid (HV12.out.setItems _), Lib.hid (HK12.out.trans HKS.out fun b hb h => h.1), by have := HKS.out.size; omega⟩
                  · go_wp2_with (at_builtin; refine wpList_pushAll 23 25 Tryz.underlying23 infoJot rfl (by decide) rfl _ _ rfl w6.heap.size _ (A + 1) _ _ (n - A) ((jotCells us).drop (A * 5)) hl6.out (fun u hu => ho2.out u (List.mem_of_mem_drop hu)) rfl rfl (rd_rest HRI12.out hl2.out A hAn _ _ _ (by omega) (fun _ => by simp) (by decide)) HT12.out.items (by omega) (by decide) (by omega) ?_)
                    intro i3 w13 k1 k2 k3
                    have HT13 : Hid (Two w6.heap.size (.slice n3a n3l n3c) i3 (n + 1) NL (n + 1) IL w13) := Lib.hid (HT12.out.pushI k3 (by
                      rw [← HIL.out, ← HN1.out]
                      first
                        | simpa using k1
                        | (have e : n - A = 0 := by omega
                           simpa [e] using k1)))
                    have HV13 := Lib.hid (HV12.out.below k2 (by omega))
                    have HK13 : Hid (Kept (fun b => b ≠ w.heap.size ∧ b < w6.heap.size) w6 w13) := Lib.hid (HK12.out.trans (Kept.of_below' k2) fun b _ h => h.2)
                    have hz13 := k2.size
                    clear k1 k2 k3 o0 o1 o2 o3 o4 o5 o6
                    obtain ⟨i3a, i3l, i3c, rfl⟩ := ownsRow_slice HT13.out.items
                    obtain ⟨o0, o1, o2, o3, o4, o5, o6⟩ := HV13.out.facts
                    have hks : Kept (· ≠ w.heap.size) w13 (w13.setCell ⟨w.heap.size, 4, none⟩ (.slice i3a i3l i3c)) := (Kept.refl _ _).setCell (.inr (by simp)) _
                    have HKS := Lib.hid hks
                    clear hks
                    go_wp2
                    go_meet
                    exact ⟨i3a, i3l, i3c, Lib.hid (HT13.out.kept HKS.out fun b hb => by omega), Lib.hid (HV13.out.setItems _), Lib.hid (HK13.out.trans HKS.out fun b hb h => h.1), by have := HKS.out.size; omega⟩
                case rest =>
                  obtain ⟨i3a, i3l, i3c, HT14, HV14, HK14, hz14⟩ := hcut
                  clear HT12 HV12 HK12 HRI12
                  have HB14 := Lib.hid (HB6.out.kept HK14.out (by omega))
                  obtain ⟨o0, o1, o2, o3, o4, o5, o6⟩ := HV14.out.facts
                  obtain ⟨g0, g1, g2, g3, g4, g5, g6⟩ := HB14.out.facts
                  obtain ⟨f0, f1, f2, f3, f4⟩ := HB14.out.free
                  go_wp2
                  refine bodyPost_ret (v := .tuple #[jotV 6 0 [] (.slice n3a n3l n3c) (.slice i3a i3l i3c), .bool true]) (by simp [results, Tryz.results102, go_sem, g0, g1, g2, g3, g4]) rfl ?_
                  rw [HN.out]
                  have hkg := kept_box wc (w.heap.size + 1) (.int .i64 6) (.int .i64 0) (S []) (.slice n3a n3l n3c) (.slice i3a i3l i3c)
                  have hkf := (HK14.out.mono (ok2 := fun b => b ≠ w.heap.size ∧ b ≠ w.heap.size + 1 ∧ b < w6.heap.size) fun b _ h => ⟨h.1, h.2.2⟩).trans hkg fun b _ h => h.2.1
                  have hT := HT14.out.kept hkg fun b hb => by omega
                  refine ⟨memQ_done (M := w6.heap.size) (B := w.heap.size) HNS.out HA.out HLM.out HU1.out hAn h5.out hN0 (by omega) rfl HNL.out (by rw [HIL0.out]; exact HIL.out) hT hkf.size (fun b hb h1 h2 => hkf.block b hb ⟨h1, h2, hb⟩) HOLD.out HX6.out, HP6.out.kept hkf (by omega), hj5, HKW.out.trans hkf fun b hb h => by omega⟩
end Go.Proofs.YtmajpambfblhnaaGreatDoor
