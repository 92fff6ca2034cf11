/- Walk of the law's known (layer 4): the document's examples are answered as it says. -/
import Derived.Test.YtmajpambfblhnaaGreatDoorJoQ7
import Derived.Test.YtmajpambfblhnaaGreatDoorJoGet
import Derived.Test.YtmajpambfblhnaaGreatDoorJoSame
import Derived.Test.YtmajpambfblhnaaGreatDoorJoParse
import Derived.Test.YtmajpambfblhnaaGreatDoorJoPlainB
namespace Go.Proofs.YtmajpambfblhnaaGreatDoor
open Go.RowKit Jo Go.Shelf

/-- A value such as may be, printed in not too many bytes, fits machine integers and has no long lists. -/
theorem fine_of {x : J} (hx : May x) : (layP x).length ≤ 1000000 → Fine x ∧ Few 1000000 x := by
  induction hx with
  | null => intro _; exact ⟨.mk _ _ _ _ _ (by simp [Rng]) (by simp), .mk _ _ _ _ _ (by simp) (by simp) (by simp)⟩
  | fls => intro _; exact ⟨.mk _ _ _ _ _ (by simp [Rng]) (by simp), .mk _ _ _ _ _ (by simp) (by simp) (by simp)⟩
  | tru => intro _; exact ⟨.mk _ _ _ _ _ (by simp [Rng]) (by simp), .mk _ _ _ _ _ (by simp) (by simp) (by simp)⟩
  | nr n h1 h2 => intro _; exact ⟨.mk _ _ _ _ _ (by simp [Rng]; omega) (by simp), .mk _ _ _ _ _ (by simp) (by simp) (by simp)⟩
  | tx t _ =>
    intro h
    rw [layP_tx] at h
    have := quote_len t
    unfold quoteP at h
    simp only [List.length_cons, List.length_append] at h
    exact ⟨.mk _ _ _ _ _ (by simp [Rng]; omega) (by simp), .mk _ _ _ _ _ (by simp) (by simp) (by simp)⟩
  | list xs hm ih =>
    intro h
    rw [layP_list] at h
    simp only [List.length_cons, List.length_append, List.length_nil] at h
    have hc := joinC_count layP xs fun x hx => layP_pos (hm x hx)
    have hj : ∀ (j : Nat) x, xs[j]? = some x → Fine x ∧ Few 1000000 x := fun j x hx => ih x (List.mem_of_getElem? hx) (by
      have := joinC_mem (xs.map layP) (layP x) (List.mem_map_of_mem (List.mem_of_getElem? hx))
      omega)
    exact ⟨.mk _ _ _ _ _ (by simp [Rng]; omega) fun j x hx => (hj j x hx).1, .mk _ _ _ _ _ (by simp) (by omega) fun j x hx => (hj j x hx).2⟩
  | obj ms hv _ hm ih =>
    intro h
    rw [layP_obj] at h
    simp only [List.length_cons, List.length_append, List.length_nil] at h
    have hc := joinC_count memP ms fun x hx => by simp [memP]; omega
    have hj1 : ∀ m ∈ ms, m.1.length ≤ 1000000 ∧ (layP m.2).length ≤ 1000000 := fun m hm => by
      have h1 := joinC_mem (ms.map memP) (memP m) (List.mem_map_of_mem hm)
      have h2 := quote_len m.1
      have h3 : (memP m).length = (quoteP m.1).length + 1 + (layP m.2).length := by unfold memP; rw [List.length_append, List.length_cons]; omega
      have h4 : (quoteP m.1).length = (m.1.flatMap quoteC).length + 2 := by unfold quoteP; simp
      omega
    have hj : ∀ (j : Nat) x, (ms.map (·.2))[j]? = some x → Fine x ∧ Few 1000000 x := fun j x hx => by
      obtain ⟨m, hm, rfl⟩ := List.mem_map.1 (List.mem_of_getElem? hx)
      exact ih m hm (hj1 m hm).2
    exact ⟨.mk _ _ _ _ _ (by
      refine ⟨by omega, by omega, by omega, by omega, by simp, by simp; omega, fun l hl => ?_, by simp; omega⟩
      obtain ⟨m, hm, rfl⟩ := List.mem_map.1 hl
      have := (hj1 m hm).1
      omega) fun j x hx => (hj j x hx).1, .mk _ _ _ _ _ (by simp; omega) (by simp; omega) fun j x hx => (hj j x hx).2⟩
theorem JOwn.null_form {w : World} {v : Value} {fp : List Nat} (h : JOwn w J.null v fp) : ∃ na nl nc ia il ic, v = jotV 0 0 [] (.slice na nl nc) (.slice ia il ic) := h.form2
theorem fine_ex : Fine exX ∧ Few 1000000 exX := fine_of (may_of _ may_ex) (by rw [lay_ex]; decide)

set_option maxHeartbeats 16000000 in
set_option maxRecDepth 100000 in
theorem known_any (w : World) (hE : JE w.heap.size w) : Calls Tryz.prog 8 #[] w fun e w' => e = .returned (.bool true) ∧ Kept (fun _ => True) w w' := by
  have HE := Lib.hid hE
  have P1 := Lib.hid (Parse_any ex1 w (by decide))
  rw [parse_ex1] at P1
  clear hE
  go_enter Tryz.func8, Tryz.ntmps8
  go_wp2_with fail
  refine P1.out.mono ?_
  rintro e w1 ⟨⟨v, fp, rfl, hown, hnd, hfp⟩, hk1⟩
  have hj : JIn (fun _ => True) w1 (.mk 6 0 [] [[97], [98]] [.mk 3 0 [] [] [], .mk 5 0 [] [] []]) v := hown.toIn fine_ex.1 _ (fun _ _ => trivial)
  obtain ⟨na, nc, ia, ic, us, hv, hr, hn, hi, h⟩ := hj.invM
  simp only [List.length_cons, List.length_nil, Nat.zero_add, Nat.reduceAdd] at hv hn hi
  subst hv
  obtain ⟨bn, on, rfl, hbn, -, -, l0, hl0, hc0⟩ := hn.at (j := 0) (by decide)
  obtain rfl : [97] = l0 := by simpa [exX] using hl0
  obtain ⟨bi, oi, rfl, hbi, -, -, k0, n0, t0, na0, nl0, nc0, ia0, il0, ic0, e0, c0, c1, c2, c3, c4⟩ := hi.at (j := 0) (by decide)
  obtain ⟨bi', oi', e', -, -, -, k1, n1, t1, na1, nl1, nc1, ia1, il1, ic1, e1, d0, d1, d2, d3, d4⟩ := hi.at (j := 1) (by decide)
  obtain ⟨rfl, rfl⟩ : bi = bi' ∧ oi = oi' := by simpa using e'
  have h0 := h 0 (.mk 3 0 [] [] []) rfl
  have h1 := h 1 (.mk 5 0 [] [] []) rfl
  obtain ⟨na0', nc0', ia0', ic0', us0, f0, -⟩ := h0.invM
  obtain ⟨na1', nc1', ia1', ic1', us1, f1, -⟩ := h1.invM
  rw [e0] at f0
  rw [e1] at f1
  have HJ0 := Lib.hid (show JIn (fun _ => True) w1 (.mk 3 0 [] [] []) (us 0) from h0)
  have E0 := Lib.hid e0
  simp only [List.length_nil] at f0 f1
  obtain ⟨rfl, rfl, rfl, ⟨rfl, rfl, rfl⟩, rfl, rfl, rfl⟩ : k0 = 3 ∧ n0 = 0 ∧ t0 = [] ∧ (na0 = na0' ∧ nl0 = 0 ∧ nc0 = nc0') ∧ ia0 = ia0' ∧ il0 = 0 ∧ ic0 = ic0' := by simpa [jotV] using f0
  obtain ⟨rfl, rfl, rfl, ⟨rfl, rfl, rfl⟩, rfl, rfl, rfl⟩ : k1 = 5 ∧ n1 = 0 ∧ t1 = [] ∧ (na1 = na1' ∧ nl1 = 0 ∧ nc1 = nc1') ∧ ia1 = ia1' ∧ il1 = 0 ∧ ic1 = ic1' := by simpa [jotV] using f1
  obtain ⟨W1, hW1⟩ : ∃ W1, w1.alloc (.cells #[.int .i64 6, .int .i64 0, S [], .slice (some ⟨bn, on, none⟩) 2 nc, .slice (some ⟨bi, oi, none⟩) 2 ic] 25) = W1 := ⟨_, rfl⟩
  have hkW : Kept (fun _ => True) w1 W1 := by rw [← hW1]; exact (Kept.refl _ _).alloc _
  have hk01 := hk1.tr hkW
  have HP := Lib.hid (Print_any exX _ W1 (hj.kept hkW fun _ _ _ => trivial) ((HE.out.kept hk01 fun _ _ => trivial).le hk01.size) fine_ex.2 (by rw [depth_ex]; decide) (fun _ => by rw [lay_ex]; decide))
  rw [print_ex] at HP
  unfold exS at HP
  have HJ := Lib.hid hj
  have HW1 := Lib.hid hW1
  have hne1 : bn ≠ w1.heap.size := by omega
  have hne2 : bi ≠ w1.heap.size := by omega
  simp only [Nat.zero_mul, Nat.add_zero, Nat.one_mul] at hc0 c0 c1 c2 c3 c4 d0 d1 d2 d3 d4
  clear hn hi h h0 h1 hl0 e' e0 e1 f0 f1 hown hnd hfp hj hW1 hr P1
  go_wp2_with fail
  rw [HW1.out]
  refine HP.out.mono ?_
  rintro e w2 ⟨rfl, hk2⟩
  have hk02 := hk01.tr hk2
  have hbox1 : OutAt w1.heap.size 6 0 [] (.slice (some ⟨bn, on, none⟩) 2 nc) (.slice (some ⟨bi, oi, none⟩) 2 ic) W1 := by rw [← HW1.out]; exact OutAt.new w1 6 0 [] _ _
  have HB1 := Lib.hid hbox1
  have HB2 := Lib.hid (hbox1.kept hk2 trivial)
  obtain ⟨o0, o1, o2, o3, o4, o5, o6⟩ := HB2.out.facts
  have HG := Lib.hid (Get_any exX _ [97] (fun _ => True) w2 (HJ.out.kept (hkW.tr hk2) fun _ _ _ => trivial) fine_ex.2)
  rw [show getP exX [97] = some (.mk 3 0 [] [] []) from rfl] at HG
  clear hbox1
  go_wp2_with fail
  refine HG.out.mono ?_
  rintro e w3 ⟨⟨v6, fp6, rfl, hown6, hnd6, hfp6⟩, hk3⟩
  have hj6 : JIn (fun _ => True) w3 (.mk 3 0 [] [] []) v6 := hown6.toIn (.mk _ _ _ _ _ (by simp [Rng]) (by simp)) _ (fun _ _ => trivial)
  obtain ⟨na6, nc6, ia6, ic6, us6, hv6, -⟩ := hj6.invM
  simp only [List.length_nil] at hv6
  subst hv6
  obtain ⟨W3, hW3⟩ : ∃ W3, w3.alloc (.cells #[.int .i64 3, .int .i64 0, S [], .slice na6 0 nc6, .slice ia6 0 ic6] 25) = W3 := ⟨_, rfl⟩
  have hkW3 : Kept (fun _ => True) w3 W3 := by rw [← hW3]; exact (Kept.refl _ _).alloc _
  have hbox6 : OutAt w3.heap.size 3 0 [] (.slice na6 0 nc6) (.slice ia6 0 ic6) W3 := by rw [← hW3]; exact OutAt.new w3 3 0 [] _ _
  have hk03 := (hk02.tr hk3).tr hkW3
  have HP2 := Lib.hid (Parse_any ex2 W3 (by decide))
  rw [parse_ex2] at HP2
  have HJ6 := Lib.hid (hj6.kept hkW3 fun _ _ _ => trivial)
  have HB6 := Lib.hid hbox6
  have HW3 := Lib.hid hW3
  clear hj6 hown6 hnd6 hfp6 hW3 hbox6 HG o0 o1 o2 o3 o4 o5 o6
  go_wp2_with fail
  rw [HW3.out]
  refine HP2.out.mono ?_
  rintro e w4 ⟨⟨v8, fp8, rfl, hown8, -, -⟩, hk4⟩
  obtain ⟨na8, nl8, nc8, ia8, il8, ic8, rfl⟩ := hown8.null_form
  have hk14 : Kept (fun _ => True) w1 w4 := ((((hkW.tr hk2).tr hk3).tr hkW3).tr hk4)
  have hk04 := hk03.tr hk4
  obtain ⟨W4, hW4⟩ : ∃ W4, w4.alloc (.cells #[.int .i64 0, .int .i64 0, S [], .slice na8 nl8 nc8, .slice ia8 il8 ic8] 25) = W4 := ⟨_, rfl⟩
  have hkW4 : Kept (fun _ => True) w4 W4 := by rw [← hW4]; exact (Kept.refl _ _).alloc _
  have hk1W := hk14.tr hkW4
  obtain ⟨o0, o1, o2, o3, o4, o5, o6⟩ := (HB2.out.kept (((hk3.tr hkW3).tr hk4).tr hkW4) trivial).facts
  obtain ⟨p0, p1, p2, p3, p4, p5, p6⟩ := (HB6.out.kept (hk4.tr hkW4) trivial).facts
  replace c0 := (hk1W.cell hbi trivial).trans c0
  replace c1 := (hk1W.cell hbi trivial).trans c1
  replace c2 := (hk1W.cell hbi trivial).trans c2
  replace c3 := (hk1W.cell hbi trivial).trans c3
  replace c4 := (hk1W.cell hbi trivial).trans c4
  have E0' := E0.out
  have HJ0W := HJ0.out.kept hk1W (fun _ _ _ => trivial)
  rw [E0'] at HJ0W
  have S1 := Lib.hid (fun wx (hkx : Kept (fun _ => True) W4 wx) => same_any (.mk 3 0 [] [] []) (.mk 3 0 [] [] []) _ _ (fun _ => True) wx ((HJ6.out.kept (hk4.tr hkW4) fun _ _ _ => trivial).kept hkx fun _ _ _ => trivial) (HJ0W.kept hkx fun _ _ _ => trivial))
  have S2 := Lib.hid (fun wx (hkx : Kept (fun _ => True) W4 wx) => same_any (.mk 3 0 [] [] []) exX _ _ (fun _ => True) wx ((HJ6.out.kept (hk4.tr hkW4) fun _ _ _ => trivial).kept hkx fun _ _ _ => trivial) ((HJ.out.kept hk1W fun _ _ _ => trivial).kept hkx fun _ _ _ => trivial))
  have HW4 := Lib.hid hW4
  clear hW4 hc0 d0 d1 d2 d3 d4 HP2 HJ0W E0' hown8 HP
  go_wp2_with fail
  rw [HW4.out]
  go_region_held3 (fun wz => wz.cell? ⟨w1.heap.size, 0, none⟩ = some (.int .i64 6) ∧ wz.cell? ⟨w1.heap.size, 1, none⟩ = some (.int .i64 0) ∧ wz.cell? ⟨w1.heap.size, 2, none⟩ = some (S []) ∧ wz.cell? ⟨w1.heap.size, 3, none⟩ = some (.slice (some ⟨bn, on, none⟩) 2 nc) ∧ wz.cell? ⟨w1.heap.size, 4, none⟩ = some (.slice (some ⟨bi, oi, none⟩) 2 ic) ∧
      wz.cell? ⟨w3.heap.size, 0, none⟩ = some (.int .i64 3) ∧ wz.cell? ⟨w3.heap.size, 1, none⟩ = some (.int .i64 0) ∧ wz.cell? ⟨w3.heap.size, 2, none⟩ = some (S []) ∧ wz.cell? ⟨w3.heap.size, 3, none⟩ = some (.slice na6 0 nc6) ∧ wz.cell? ⟨w3.heap.size, 4, none⟩ = some (.slice ia6 0 ic6) ∧
      wz.cell? ⟨bi, oi, none⟩ = some (.int .i64 3) ∧ wz.cell? ⟨bi, oi + 1, none⟩ = some (.int .i64 0) ∧ wz.cell? ⟨bi, oi + 2, none⟩ = some (S []) ∧ wz.cell? ⟨bi, oi + 3, none⟩ = some (.slice na0 0 nc0) ∧ wz.cell? ⟨bi, oi + 4, none⟩ = some (.slice ia0 0 ic0)) (go_keep)
    (first
      | (go_at_call 23; (with_reducible refine (S1.out _ ((Kept.refl _ _).drew)).mono ?_); rintro e w5 ⟨⟨q, rfl, hq⟩, hk5⟩; obtain rfl : q = true := by simpa using hq
         clear hq
         have y0 := hk5.drewCell o0
         have y1 := hk5.drewCell o1
         have y2 := hk5.drewCell o2
         have y3 := hk5.drewCell o3
         have y4 := hk5.drewCell o4
         have y5 := hk5.drewCell p0
         have y6 := hk5.drewCell p1
         have y7 := hk5.drewCell p2
         have y8 := hk5.drewCell p3
         have y9 := hk5.drewCell p4
         have ya := hk5.drewCell c0
         have yb := hk5.drewCell c1
         have yc := hk5.drewCell c2
         have yd := hk5.drewCell c3
         have ye := hk5.drewCell c4)
      | (go_at_call 23; (with_reducible refine (S2.out _ (((Kept.refl _ _).drew).tr hk5)).mono ?_); rintro e w6 ⟨⟨q, rfl, hq⟩, hk6⟩; obtain rfl : q = false := by simpa [exX] using hq
         clear hq
         have z0 := (hk6.cell (cell_isLt y0) trivial).trans y0
         have z1 := (hk6.cell (cell_isLt y1) trivial).trans y1
         have z2 := (hk6.cell (cell_isLt y2) trivial).trans y2
         have z3 := (hk6.cell (cell_isLt y3) trivial).trans y3
         have z4 := (hk6.cell (cell_isLt y4) trivial).trans y4
         have z5 := (hk6.cell (cell_isLt y5) trivial).trans y5
         have z6 := (hk6.cell (cell_isLt y6) trivial).trans y6
         have z7 := (hk6.cell (cell_isLt y7) trivial).trans y7
         have z8 := (hk6.cell (cell_isLt y8) trivial).trans y8
         have z9 := (hk6.cell (cell_isLt y9) trivial).trans y9
         have za := (hk6.cell (cell_isLt ya) trivial).trans ya
         have zb := (hk6.cell (cell_isLt yb) trivial).trans yb
         have zc := (hk6.cell (cell_isLt yc) trivial).trans yc
         have zd := (hk6.cell (cell_isLt yd) trivial).trans yd
         have ze := (hk6.cell (cell_isLt ye) trivial).trans ye))
  go_wp2
  refine bodyPost_ret (v := .bool true) (by simp [results, Tryz.results8, go_sem]) rfl ?_
  exact ⟨rfl, ((hk04.tr hkW4).tr (((Kept.refl _ W4).drew).tr hk5)).tr hk6⟩
end Go.Proofs.YtmajpambfblhnaaGreatDoor
