/- Walk of jot.Same (layer 4). -/
import Derived.Test.YtmajpambfblhnaaGreatDoorJoOA
import Derived.Test.YtmajpambfblhnaaGreatDoorJKit
namespace Go.Proofs.YtmajpambfblhnaaGreatDoor
open Go.RowKit Jo

/-- What Same of two values is asked for. -/
def SameC (f : FuncId) (x : J) : Prop := ∀ (y : J) (va vb : Value) (ok : Nat → Prop) (w : World), JIn ok w x va → JIn ok w y vb → Calls Tryz.prog f #[va, vb] w fun e w' => (∃ q : Bool, e = .returned (.bool q) ∧ (q = true ↔ x = y)) ∧ Kept (fun _ => True) w w'
theorem no_same {P : Prop} (h : ¬ P) : false = true ↔ P := Iff.intro (fun e => Bool.noConfusion e) (fun e => absurd e h)

set_option maxHeartbeats 4000000 in
set_option maxRecDepth 100000 in
theorem same_any : ∀ x : J, SameC 23 x := by
  refine J.ind fun k n t ns xs IH => ?_
  intro y va vb ok w hx hy
  obtain ⟨na, nc, ia, ic, us, rfl, hr, hn, hi, h⟩ := hx.invM
  obtain ⟨k', n', t', ns', xs'⟩ := y
  obtain ⟨na', nc', ia', ic', us', rfl, hr', hn', hi', h'⟩ := hy.invM
  have HR := Lib.hid hr
  have HN := Lib.hid hn
  have HI := Lib.hid hi
  have HH := Lib.hid h
  have HR' := Lib.hid hr'
  have HN' := Lib.hid hn'
  have HI' := Lib.hid hi'
  have HH' := Lib.hid h'
  have HIH := Lib.hid IH
  obtain ⟨_, _, _, _, _, hnl, _, hxl⟩ := hr
  clear hx hy hn hi h hr' hn' hi' h' IH
  by_cases ek : k = k'
  case neg =>
    have q : (k != k') = true := by simpa using ek
    have HE : Hid (¬ J.mk k n t ns xs = .mk k' n' t' ns' xs') := Lib.hid (fun e => ek (by cases e; rfl))
    clear ek
    go_enter Tryz.func23, Tryz.ntmps23
    go_wp2
    go_ret
    exact ⟨⟨false, rfl, no_same HE.out⟩, ((Kept.refl _ w).alloc _).alloc _⟩
  subst ek
  by_cases en : n = n'
  case neg =>
    have q : (n != n') = true := by simpa using en
    have HE : Hid (¬ J.mk k n t ns xs = .mk k n' t' ns' xs') := Lib.hid (fun e => en (by cases e; rfl))
    clear en
    go_enter Tryz.func23, Tryz.ntmps23
    go_wp2
    go_ret
    exact ⟨⟨false, rfl, no_same HE.out⟩, ((Kept.refl _ w).alloc _).alloc _⟩
  subst en
  by_cases et : t = t'
  case neg =>
    have q : (t != t') = true := by simpa using et
    have HE : Hid (¬ J.mk k n t ns xs = .mk k n t' ns' xs') := Lib.hid (fun e => et (by cases e; rfl))
    go_enter Tryz.func23, Tryz.ntmps23
    go_wp2
    go_ret
    exact ⟨⟨false, rfl, no_same HE.out⟩, ((Kept.refl _ w).alloc _).alloc _⟩
  subst et
  by_cases en : ns.length = ns'.length
  case neg =>
    have q : ((ns.length : Int) != (ns'.length : Int)) = true := by simp; omega
    have q2 : ¬ (ns.length : Int) = (ns'.length : Int) := by omega
    have HE : Hid (¬ J.mk k n t ns xs = .mk k n t ns' xs') := Lib.hid (fun e => en (by cases e; rfl))
    clear en
    go_enter Tryz.func23, Tryz.ntmps23
    go_wp2
    go_ret
    exact ⟨⟨false, rfl, no_same HE.out⟩, ((Kept.refl _ w).alloc _).alloc _⟩
  by_cases ex : xs.length = xs'.length
  case neg =>
    have q : ((xs.length : Int) != (xs'.length : Int)) = true := by simp; omega
    have q2 : ¬ (xs.length : Int) = (xs'.length : Int) := by omega
    have HE : Hid (¬ J.mk k n t ns xs = .mk k n t ns' xs') := Lib.hid (fun e => ex (by cases e; rfl))
    rw [← en] at HN' ⊢
    clear en ex
    go_enter Tryz.func23, Tryz.ntmps23
    go_wp2
    go_ret
    exact ⟨⟨false, rfl, no_same HE.out⟩, ((Kept.refl _ w).alloc _).alloc _⟩
  have HEN := Lib.hid en
  have HEX := Lib.hid ex
  rw [← en] at HN' ⊢
  rw [← ex] at HI' ⊢
  clear en ex
  have hbox : ∀ wr, Kept (fun b => True) ((w.alloc (.cells #[.int .i64 k, .int .i64 n, S t, .slice na ns.length nc, .slice ia xs.length ic] 25)).alloc (.cells #[.int .i64 k, .int .i64 n, S t, .slice na' ns.length nc', .slice ia' xs.length ic'] 25)) wr →
      wr.cell? ⟨w.heap.size, 3, none⟩ = some (.slice na ns.length nc) ∧ wr.cell? ⟨w.heap.size, 4, none⟩ = some (.slice ia xs.length ic) ∧ wr.cell? ⟨w.heap.size + 1, 3, none⟩ = some (.slice na' ns.length nc') ∧ wr.cell? ⟨w.heap.size + 1, 4, none⟩ = some (.slice ia' xs.length ic') ∧ Kept (fun _ => True) w wr := by
    intro wr hk
    have h0 := ((OutAt.new w k n t (.slice na ns.length nc) (.slice ia xs.length ic)).kept (ok := fun _ => True) ((Kept.refl _ _).alloc (.cells #[.int .i64 k, .int .i64 n, S t, .slice na' ns.length nc', .slice ia' xs.length ic'] 25)) trivial).kept hk trivial
    have h1 : OutAt (w.heap.size + 1) k n t (.slice na' ns.length nc') (.slice ia' xs.length ic') wr := by
      have := (OutAt.new (w.alloc (.cells #[.int .i64 k, .int .i64 n, S t, .slice na ns.length nc, .slice ia xs.length ic] 25)) k n t (.slice na' ns.length nc') (.slice ia' xs.length ic')).kept hk trivial
      simpa using this
    exact ⟨h0.facts.2.2.2.1, h0.facts.2.2.2.2.1, h1.facts.2.2.2.1, h1.facts.2.2.2.2.1, (((Kept.refl _ w).alloc _).alloc _).tr hk⟩
  have HB := Lib.hid hbox
  clear hbox
  go_enter Tryz.func23, Tryz.ntmps23
  go_wp2
  go_loopg [47] ns.length (fun q i wr => ∃ j : Nat, i = .int .i64 j ∧ q = ns.length - j ∧ j ≤ ns.length ∧ Hid (∀ i, i < j → ns[i]? = ns'[i]?) ∧ Kept (fun _ => True) ((w.alloc (.cells #[.int .i64 k, .int .i64 n, S t, .slice na ns.length nc, .slice ia xs.length ic] 25)).alloc (.cells #[.int .i64 k, .int .i64 n, S t, .slice na' ns.length nc', .slice ia' xs.length ic'] 25)) wr)
  case atStart => exact ⟨0, rfl, by omega, Nat.zero_le _, Lib.hid (fun i hi => absurd hi (by omega)), Kept.refl _ _⟩
  case round =>
    obtain ⟨j, rfl, rfl, hj, hsm, hk⟩ := hrel
    obtain ⟨b3, b4, b3', b4', hkw⟩ := HB.out wr hk
    have HKW := Lib.hid hkw
    by_cases hlt : j < ns.length
    · obtain ⟨b, off, rfl, hb, -, -, l, hl, hc⟩ := HN.out.at hlt
      obtain ⟨b', off', rfl, hb', -, -, l', hl', hc'⟩ := HN'.out.at (j := j) (by rw [← HEN.out]; exact hlt)
      have c1 := (hkw.cell hb trivial).trans hc
      have c2 := (hkw.cell hb' trivial).trans hc'
      have HL := Lib.hid hl
      have HL' := Lib.hid hl'
      clear hc hc' hl hl' hkw
      by_cases hll : l = l'
      · subst hll
        go_wp2
        go_quiet (fail)
        go_wp2
        go_roundg (ns.length - (j + 1))
        case rel => exact ⟨j + 1, by go_num, rfl, by omega, Lib.hid (fun i hi => by
          by_cases hij : i = j
          · rw [hij, HL.out, HL'.out]
          · exact hsm.out i (by omega)), hk.drewN _⟩
        case measure => omega
      · have q : (l == l') = false := by simpa using hll
        have HE : Hid (¬ J.mk k n t ns xs = .mk k n t ns' xs') := Lib.hid (fun e => hll (by
          cases e
          have h1 := HL.out
          rw [HL'.out] at h1
          exact (Option.some.inj h1).symm))
        go_wp2
        go_quiet (fail)
        go_wp2
        go_ret
        exact ⟨⟨false, rfl, no_same HE.out⟩, HKW.out.drewN _⟩
    · obtain rfl : j = ns.length := by omega
      have HNS : Hid (ns = ns') := Lib.hid (List.ext_getElem? fun i => by
        by_cases hi : i < ns.length
        · exact hsm.out i hi
        · rw [List.getElem?_eq_none (by omega), List.getElem?_eq_none (by have := HEN.out; omega)])
      clear hlt hsm
      go_wp2
      go_loopg [65] xs.length (fun q i wr => ∃ j : Nat, i = .int .i64 j ∧ q = xs.length - j ∧ j ≤ xs.length ∧ Hid (∀ i, i < j → xs[i]? = xs'[i]?) ∧ Kept (fun _ => True) ((w.alloc (.cells #[.int .i64 k, .int .i64 n, S t, .slice na ns.length nc, .slice ia xs.length ic] 25)).alloc (.cells #[.int .i64 k, .int .i64 n, S t, .slice na' ns.length nc', .slice ia' xs.length ic'] 25)) wr)
      case atStart => exact ⟨0, rfl, by omega, Nat.zero_le _, Lib.hid (fun i hi => absurd hi (by omega)), hk⟩
      case round =>
        clear b3 b4 b3' b4' hk HKW hkw hj
        obtain ⟨j, rfl, rfl, hj, hsm, hk⟩ := hrel
        obtain ⟨b3, b4, b3', b4', hkw⟩ := HB.out _ hk
        have HKW := Lib.hid hkw
        by_cases hlt : j < xs.length
        · obtain ⟨b, off, rfl, hb, -, -, k1, n1, t1, na1, nl1, nc1, ia1, il1, ic1, e1, c0, c1, c2, c3, c4⟩ := HI.out.at hlt
          obtain ⟨b', off', rfl, hb', -, -, k2, n2, t2, na2, nl2, nc2, ia2, il2, ic2, e2, d0, d1, d2, d3, d4⟩ := HI'.out.at (j := j) hlt
          replace c0 := (hkw.cell hb trivial).trans c0
          replace c1 := (hkw.cell hb trivial).trans c1
          replace c2 := (hkw.cell hb trivial).trans c2
          replace c3 := (hkw.cell hb trivial).trans c3
          replace c4 := (hkw.cell hb trivial).trans c4
          replace d0 := (hkw.cell hb' trivial).trans d0
          replace d1 := (hkw.cell hb' trivial).trans d1
          replace d2 := (hkw.cell hb' trivial).trans d2
          replace d3 := (hkw.cell hb' trivial).trans d3
          replace d4 := (hkw.cell hb' trivial).trans d4
          obtain ⟨x, hx⟩ : ∃ x, xs[j]? = some x := ⟨xs[j]'hlt, List.getElem?_eq_getElem hlt⟩
          obtain ⟨y, hy⟩ : ∃ y, xs'[j]? = some y := ⟨xs'[j]'(by have := HEX.out; omega), List.getElem?_eq_getElem _⟩
          have hC := fun wx (hkx : Kept (fun _ => True) w wx) => HIH.out x (List.mem_of_getElem? hx) y (us j) (us' j) ok wx ((HH.out j x hx).kept hkx (fun _ _ _ => trivial)) ((HH'.out j y hy).kept hkx (fun _ _ _ => trivial))
          rw [e1, e2] at hC
          have HC := Lib.hid hC
          have HX := Lib.hid hx
          have HY := Lib.hid hy
          clear e1 e2 hx hy hC hkw
          go_wp2
          go_region_held3 (fun wz => wz.cell? ⟨w.heap.size, 4, none⟩ = some (.slice (some ⟨b, off, none⟩) xs.length ic) ∧ wz.cell? ⟨w.heap.size + 1, 4, none⟩ = some (.slice (some ⟨b', off', none⟩) xs.length ic') ∧
              wz.cell? ⟨b, off + j * 5, none⟩ = some (.int .i64 k1) ∧ wz.cell? ⟨b, off + j * 5 + 1, none⟩ = some (.int .i64 n1) ∧ wz.cell? ⟨b, off + j * 5 + 2, none⟩ = some (S t1) ∧ wz.cell? ⟨b, off + j * 5 + 3, none⟩ = some (.slice na1 nl1 nc1) ∧ wz.cell? ⟨b, off + j * 5 + 4, none⟩ = some (.slice ia1 il1 ic1) ∧
              wz.cell? ⟨b', off' + j * 5, none⟩ = some (.int .i64 k2) ∧ wz.cell? ⟨b', off' + j * 5 + 1, none⟩ = some (.int .i64 n2) ∧ wz.cell? ⟨b', off' + j * 5 + 2, none⟩ = some (S t2) ∧ wz.cell? ⟨b', off' + j * 5 + 3, none⟩ = some (.slice na2 nl2 nc2) ∧ wz.cell? ⟨b', off' + j * 5 + 4, none⟩ = some (.slice ia2 il2 ic2)) (go_keep)
            (first
              | (go_at_call 23; (with_reducible refine (HC.out _ (HKW.out.drew)).mono ?_); rintro e w2 ⟨⟨q, rfl, hq⟩, hk2⟩; have HQ := Lib.hid hq; clear hq
                 have y0 := hk2.drewCell b4
                 have y1 := hk2.drewCell b4'
                 have y2 := hk2.drewCell c0
                 have y3 := hk2.drewCell c1
                 have y4 := hk2.drewCell c2
                 have y5 := hk2.drewCell c3
                 have y6 := hk2.drewCell c4
                 have y7 := hk2.drewCell d0
                 have y8 := hk2.drewCell d1
                 have y9 := hk2.drewCell d2
                 have ya := hk2.drewCell d3
                 have yb := hk2.drewCell d4))
          have HK2 : Hid (Kept (fun _ => True) wr w2) := Lib.hid (((Kept.refl _ wr).drew).tr hk2)
          clear y0 y1 y2 y3 y4 y5 y6 y7 y8 y9 ya yb c0 c1 c2 c3 c4 d0 d1 d2 d3 d4 b3 b4 b3' b4' hk2
          cases q
          case true =>
            go_wp2
            go_roundg (xs.length - (j + 1))
            case rel => exact ⟨j + 1, by go_num, rfl, by omega, Lib.hid (fun i hi => by
              by_cases hij : i = j
              · rw [hij, HX.out, HY.out, HQ.out.1 (by trivial)]
              · exact hsm.out i (by omega)), hk.tr HK2.out⟩
            case measure => omega
          case false =>
            have HE : Hid (¬ J.mk k n t ns xs = .mk k n t ns' xs') := Lib.hid (fun e => by
              cases e
              have h1 := HX.out
              rw [HY.out] at h1
              have h2 := HQ.out.2 (Option.some.inj h1).symm
              simp at h2)
            go_wp2
            go_ret
            exact ⟨⟨false, rfl, no_same HE.out⟩, HKW.out.tr HK2.out⟩
        · obtain rfl : j = xs.length := by omega
          have HXS : Hid (xs = xs') := Lib.hid (List.ext_getElem? fun i => by
            by_cases hi : i < xs.length
            · exact hsm.out i hi
            · rw [List.getElem?_eq_none (by omega), List.getElem?_eq_none (by have := HEX.out; omega)])
          clear hlt hsm
          go_wp2
          go_ret
          exact ⟨⟨true, rfl, Iff.intro (fun _ => by rw [HNS.out, HXS.out]) (fun _ => rfl)⟩, HKW.out⟩
end Go.Proofs.YtmajpambfblhnaaGreatDoor
