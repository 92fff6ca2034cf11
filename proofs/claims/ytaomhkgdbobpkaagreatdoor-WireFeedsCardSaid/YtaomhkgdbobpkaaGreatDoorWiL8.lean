/- Walks of the law of layer 5, eighth part: messages and answers compared; lists of messages compared. -/
import Derived.Test.YtaomhkgdbobpkaaGreatDoorWiL7
namespace Go.Proofs.YtaomhkgdbobpkaaGreatDoor
open Go.RowKit Wi

theorem fields_call (fs gs : List Fl) (va vb : Value) (w w0 : World) (hk : Kept (fun _ => True) w w0) (h1 : RowF (fun _ => True) w va fs) (h2 : RowF (fun _ => True) w vb gs) (hl : fs.length ≤ 1099511627776) (hl2 : gs.length ≤ 1099511627776) :
    Calls Tryz.prog 41 #[va, vb] w0 fun e w' => (∃ q, e = .returned (.bool q) ∧ (q = true ↔ fs = gs)) ∧ Kept (fun _ => True) w0 w' :=
  fields_any fs gs va vb w0 (h1.kept hk fun _ _ _ => trivial) (h2.kept hk fun _ _ _ => trivial) hl hl2
theorem three_tests {a b c : Bool} : a = false ∨ (a = true ∧ b = false) ∨ (a = true ∧ b = true ∧ c = false) ∨ (a = true ∧ b = true ∧ c = true) := by cases a <;> cases b <;> cases c <;> simp
set_option maxHeartbeats 4000000 in
theorem sameMessage_any (x y : Msg) (va vb : Value) (w : World) (h1 : RowF (fun _ => True) w va x.hs) (h2 : RowF (fun _ => True) w vb y.hs) (hl : x.hs.length ≤ 1099511627776) (hl2 : y.hs.length ≤ 1099511627776) :
    Calls Tryz.prog 38 #[.agg #[S x.m, S x.p, va, S x.body], .agg #[S y.m, S y.p, vb, S y.body]] w fun e w' => (∃ q, e = .returned (.bool q) ∧ (q = true ↔ x = y)) ∧ Kept (fun _ => True) w w' := by
  obtain ⟨m, p, fs, b⟩ := x
  obtain ⟨m', p', gs, b'⟩ := y
  simp only at h1 h2 hl hl2
  obtain ⟨a, c, rfl⟩ := h1.slice
  obtain ⟨a', c', rfl⟩ := h2.slice
  obtain ⟨W9, hW9⟩ : ∃ W9, w.alloc (.cells #[S m, S p, .slice a fs.length c, S b] 50) = W9 := ⟨_, rfl⟩
  obtain ⟨W0, hW0⟩ : ∃ W0, W9.alloc (.cells #[S m', S p', .slice a' gs.length c', S b'] 50) = W0 := ⟨_, rfl⟩
  have hk9 : Kept (fun _ => True) w W9 := by rw [← hW9]; exact (Kept.refl _ w).alloc _
  have hk90 : Kept (fun _ => True) W9 W0 := by rw [← hW0]; exact (Kept.refl _ W9).alloc _
  have hbox : four w.heap.size m p (.slice a fs.length c) b W0 := four.kept (by rw [← hW9]; exact heap_alloc_new w _) hk90 trivial
  have hbox2 : four W9.heap.size m' p' (.slice a' gs.length c') b' W0 := by rw [← hW0]; exact heap_alloc_new W9 _
  have FI := Lib.hid (fields_call fs gs _ _ w W0 (hk9.tr hk90) h1 h2 hl hl2)
  obtain ⟨c0, c1, c2, c3⟩ := hbox.facts
  obtain ⟨d0, d1, d2, d3⟩ := hbox2.facts
  have HB := Lib.hid hbox
  have HB2 := Lib.hid hbox2
  have HK0 := Lib.hid (hk9.tr hk90)
  clear hbox hbox2 hk9 hk90 h1 h2 hl hl2
  go_enter Tryz.func38, Tryz.ntmps38
  go_wp2_with fail
  refine FI.out.mono ?_
  rintro e w1 ⟨⟨q, rfl, hq⟩, hk1⟩
  have HQ := Lib.hid hq
  have HK1 := Lib.hid (HK0.out.tr hk1)
  clear c0 c1 c2 c3 d0 d1 d2 d3
  obtain ⟨c0, c1, c2, c3⟩ := (HB.out.kept hk1 trivial).facts
  obtain ⟨d0, d1, d2, d3⟩ := (HB2.out.kept hk1 trivial).facts
  clear hq hk1 hW9 hW0
  cases q with
  | false =>
    go_wp2
    go_ret
    refine ⟨⟨false, rfl, ?_⟩, HK1.out⟩
    have h := HQ.out
    simp only [Bool.false_eq_true, false_iff] at h ⊢
    intro e
    injection e with _ _ e _
    exact h e
  | true =>
    have HF : Hid (fs = gs) := Lib.hid (HQ.out.1 rfl)
    rcases three_tests (a := m == m') (b := p == p') (c := b == b') with q1 | ⟨q1, q2⟩ | ⟨q1, q2, q3⟩ | ⟨q1, q2, q3⟩
    · go_wp2
      go_ret
      refine ⟨⟨false, rfl, ?_⟩, HK1.out⟩
      simp only [Bool.false_eq_true, false_iff]
      intro e
      injection e with e _ _ _
      exact beq_eq_false_iff_ne.1 q1 e
    · go_wp2
      go_ret
      refine ⟨⟨false, rfl, ?_⟩, HK1.out⟩
      simp only [Bool.false_eq_true, false_iff]
      intro e
      injection e with _ e _ _
      exact beq_eq_false_iff_ne.1 q2 e
    · go_wp2
      go_ret
      refine ⟨⟨false, rfl, ?_⟩, HK1.out⟩
      simp only [Bool.false_eq_true, false_iff]
      intro e
      injection e with _ _ _ e
      exact beq_eq_false_iff_ne.1 q3 e
    · go_wp2
      go_ret
      refine ⟨⟨true, rfl, ?_⟩, HK1.out⟩
      have e1 := beq_iff_eq.1 q1
      have e2 := beq_iff_eq.1 q2
      have e3 := beq_iff_eq.1 q3
      have e4 := HF.out
      subst e1 e2 e3 e4
      simp
theorem two_tests {a b : Bool} : a = false ∨ (a = true ∧ b = false) ∨ (a = true ∧ b = true) := by cases a <;> cases b <;> simp
set_option maxHeartbeats 4000000 in
theorem sameAnswer_any (x y : Ans) (va vb : Value) (w : World) (h1 : RowF (fun _ => True) w va x.hs) (h2 : RowF (fun _ => True) w vb y.hs) (hl : x.hs.length ≤ 1099511627776) (hl2 : y.hs.length ≤ 1099511627776) :
    Calls Tryz.prog 34 #[.agg #[.int .i64 x.st, va, S x.body], .agg #[.int .i64 y.st, vb, S y.body]] w fun e w' => (∃ q, e = .returned (.bool q) ∧ (q = true ↔ x = y)) ∧ Kept (fun _ => True) w w' := by
  obtain ⟨s, fs, b⟩ := x
  obtain ⟨s', gs, b'⟩ := y
  simp only at h1 h2 hl hl2
  obtain ⟨a, c, rfl⟩ := h1.slice
  obtain ⟨a', c', rfl⟩ := h2.slice
  obtain ⟨W9, hW9⟩ : ∃ W9, w.alloc (.cells #[.int .i64 s, .slice a fs.length c, S b] 56) = W9 := ⟨_, rfl⟩
  obtain ⟨W0, hW0⟩ : ∃ W0, W9.alloc (.cells #[.int .i64 s', .slice a' gs.length c', S b'] 56) = W0 := ⟨_, rfl⟩
  have hk9 : Kept (fun _ => True) w W9 := by rw [← hW9]; exact (Kept.refl _ w).alloc _
  have hk90 : Kept (fun _ => True) W9 W0 := by rw [← hW0]; exact (Kept.refl _ W9).alloc _
  have hbox : three w.heap.size s (.slice a fs.length c) b W0 := three.kept (by rw [← hW9]; exact heap_alloc_new w _) hk90 trivial
  have hbox2 : three W9.heap.size s' (.slice a' gs.length c') b' W0 := by rw [← hW0]; exact heap_alloc_new W9 _
  have FI := Lib.hid (fields_call fs gs _ _ w W0 (hk9.tr hk90) h1 h2 hl hl2)
  obtain ⟨c0, c1, c2⟩ := hbox.facts
  obtain ⟨d0, d1, d2⟩ := hbox2.facts
  have HB := Lib.hid hbox
  have HB2 := Lib.hid hbox2
  have HK0 := Lib.hid (hk9.tr hk90)
  clear hbox hbox2 hk9 hk90 h1 h2 hl hl2
  go_enter Tryz.func34, Tryz.ntmps34
  go_wp2_with fail
  refine FI.out.mono ?_
  rintro e w1 ⟨⟨q, rfl, hq⟩, hk1⟩
  have HQ := Lib.hid hq
  have HK1 := Lib.hid (HK0.out.tr hk1)
  clear c0 c1 c2 d0 d1 d2
  obtain ⟨c0, c1, c2⟩ := (HB.out.kept hk1 trivial).facts
  obtain ⟨d0, d1, d2⟩ := (HB2.out.kept hk1 trivial).facts
  clear hq hk1 hW9 hW0
  cases q with
  | false =>
    go_wp2
    go_ret
    refine ⟨⟨false, rfl, ?_⟩, HK1.out⟩
    have h := HQ.out
    simp only [Bool.false_eq_true, false_iff] at h ⊢
    intro e
    injection e with _ e _
    exact h e
  | true =>
    have HF : Hid (fs = gs) := Lib.hid (HQ.out.1 rfl)
    rcases two_tests (a := s == s') (b := b == b') with q1 | ⟨q1, q2⟩ | ⟨q1, q2⟩
    · go_wp2
      go_ret
      refine ⟨⟨false, rfl, ?_⟩, HK1.out⟩
      simp only [Bool.false_eq_true, false_iff]
      intro e
      injection e with e _ _
      exact beq_eq_false_iff_ne.1 q1 e
    · go_wp2
      go_ret
      refine ⟨⟨false, rfl, ?_⟩, HK1.out⟩
      simp only [Bool.false_eq_true, false_iff]
      intro e
      injection e with _ _ e
      exact beq_eq_false_iff_ne.1 q2 e
    · go_wp2
      go_ret
      refine ⟨⟨true, rfl, ?_⟩, HK1.out⟩
      have e1 := beq_iff_eq.1 q1
      have e2 := beq_iff_eq.1 q2
      have e4 := HF.out
      subst e1 e2 e4
      simp
/-- The slice value v holds the messages ms. -/
def RowM (w : World) (v : Value) (ms : List Msg) : Prop :=
  (∃ a c, v = .slice a 0 c ∧ ms = []) ∨ ∃ b off cap, v = .slice (some ⟨b, off, none⟩) ms.length cap ∧ ms.length ≤ cap ∧ b < w.heap.size ∧ ∀ (j : Nat) x, ms[j]? = some x → w.cell? ⟨b, off + j * 4, none⟩ = some (S x.m) ∧ w.cell? ⟨b, off + j * 4 + 1, none⟩ = some (S x.p) ∧ w.cell? ⟨b, off + j * 4 + 3, none⟩ = some (S x.body) ∧ ∃ hv, w.cell? ⟨b, off + j * 4 + 2, none⟩ = some hv ∧ RowF (fun _ => True) w hv x.hs
theorem RowM.kept {w w' : World} {v : Value} {ms : List Msg} (h : RowM w v ms) (hk : Kept (fun _ => True) w w') : RowM w' v ms := by
  rcases h with h | ⟨b, off, cap, rfl, h1, h3, h4⟩
  · exact .inl h
  · refine .inr ⟨b, off, cap, rfl, h1, by have := hk.size; omega, fun j x hj => ?_⟩
    obtain ⟨e0, e1, e2, hv, e3, hr⟩ := h4 j x hj
    exact ⟨(hk.cell h3 trivial).trans e0, (hk.cell h3 trivial).trans e1, (hk.cell h3 trivial).trans e2, hv, (hk.cell h3 trivial).trans e3, hr.kept hk fun _ _ _ => trivial⟩
theorem RowM.slice {w : World} {v : Value} {ms : List Msg} (h : RowM w v ms) : ∃ a c, v = .slice a ms.length c := by
  rcases h with ⟨a, c, rfl, rfl⟩ | ⟨b, off, cap, rfl, _⟩
  · exact ⟨_, _, rfl⟩
  · exact ⟨_, _, rfl⟩
theorem RowM.at {w : World} {a : Option Addr} {m c : Nat} {ms : List Msg} (h : RowM w (.slice a m c) ms) {j : Nat} (hj : j < ms.length) : ∃ b off, a = some ⟨b, off, none⟩ ∧ b < w.heap.size ∧ ∃ x, ms[j]? = some x ∧ w.cell? ⟨b, off + j * 4, none⟩ = some (S x.m) ∧ w.cell? ⟨b, off + j * 4 + 1, none⟩ = some (S x.p) ∧ w.cell? ⟨b, off + j * 4 + 3, none⟩ = some (S x.body) ∧ ∃ hv, w.cell? ⟨b, off + j * 4 + 2, none⟩ = some hv ∧ RowF (fun _ => True) w hv x.hs := by
  rcases h with ⟨a', c', e, rfl⟩ | ⟨b, off, cap, e, h1, h3, h4⟩
  · simp at hj
  · obtain ⟨rfl, rfl, rfl⟩ : a = some ⟨b, off, none⟩ ∧ m = ms.length ∧ c = cap := by simpa using e
    exact ⟨b, off, rfl, h3, ms[j]'hj, List.getElem?_eq_getElem hj, h4 j _ (List.getElem?_eq_getElem hj)⟩
abbrev SMM (b o b' o' : Nat) (x y : Msg) (hv hv' : Value) (w : World) : Prop := w.cell? ⟨b, o, none⟩ = some (S x.m) ∧ w.cell? ⟨b, o + 1, none⟩ = some (S x.p) ∧ w.cell? ⟨b, o + 2, none⟩ = some hv ∧ w.cell? ⟨b, o + 3, none⟩ = some (S x.body) ∧
  w.cell? ⟨b', o', none⟩ = some (S y.m) ∧ w.cell? ⟨b', o' + 1, none⟩ = some (S y.p) ∧ w.cell? ⟨b', o' + 2, none⟩ = some hv' ∧ w.cell? ⟨b', o' + 3, none⟩ = some (S y.body)
theorem SMM.kept {b o b' o' : Nat} {x y : Msg} {hv hv' : Value} {w w' : World} (h : SMM b o b' o' x y hv hv' w) (hb : b < w.heap.size) (hb' : b' < w.heap.size) (hk : Kept (fun _ => True) w w') : SMM b o b' o' x y hv hv' w' :=
  ⟨(hk.cell hb trivial).trans h.1, (hk.cell hb trivial).trans h.2.1, (hk.cell hb trivial).trans h.2.2.1, (hk.cell hb trivial).trans h.2.2.2.1, (hk.cell hb' trivial).trans h.2.2.2.2.1, (hk.cell hb' trivial).trans h.2.2.2.2.2.1, (hk.cell hb' trivial).trans h.2.2.2.2.2.2.1, (hk.cell hb' trivial).trans h.2.2.2.2.2.2.2⟩
theorem sameMessage_call (x y : Msg) (va vb : Value) (w w0 : World) (hk : Kept (fun _ => True) w w0) (h1 : RowF (fun _ => True) w va x.hs) (h2 : RowF (fun _ => True) w vb y.hs) (hl : x.hs.length ≤ 1099511627776) (hl2 : y.hs.length ≤ 1099511627776) :
    Calls Tryz.prog 38 #[.agg #[S x.m, S x.p, va, S x.body], .agg #[S y.m, S y.p, vb, S y.body]] w0 fun e w' => (∃ q, e = .returned (.bool q) ∧ (q = true ↔ x = y)) ∧ Kept (fun _ => True) w0 w' :=
  sameMessage_any x y va vb w0 (h1.kept hk fun _ _ _ => trivial) (h2.kept hk fun _ _ _ => trivial) hl hl2
set_option maxHeartbeats 4000000 in
theorem messages_any (ms ns : List Msg) (va vb : Value) (w : World) (h1 : RowM w va ms) (h2 : RowM w vb ns) (hl : ms.length ≤ 1099511627776 ∧ ∀ x ∈ ms, x.hs.length ≤ 1099511627776) (hl2 : ns.length ≤ 1099511627776 ∧ ∀ x ∈ ns, x.hs.length ≤ 1099511627776) :
    Calls Tryz.prog 15 #[va, vb] w fun e w' => (∃ q, e = .returned (.bool q) ∧ (q = true ↔ ms = ns)) ∧ Kept (fun _ => True) w w' := by
  obtain ⟨a, c, rfl⟩ := h1.slice
  obtain ⟨a2, c2, rfl⟩ := h2.slice
  obtain ⟨hl, hm⟩ := hl
  obtain ⟨hl2, hm2⟩ := hl2
  by_cases hn : ms.length = ns.length
  case neg =>
    have q1 : ((ms.length : Int) != (ns.length : Int)) = true := by rw [bne_iff_ne]; omega
    have q2 : ¬ (ms.length : Int) = (ns.length : Int) := by omega
    have HE : Hid (¬ ms = ns) := Lib.hid fun e => hn (by rw [e])
    clear hn h1 h2 hm hm2
    go_enter Tryz.func15, Tryz.ntmps15
    go_wp2
    go_ret
    exact ⟨⟨false, rfl, by simp [HE.out]⟩, Kept.refl _ _⟩
  have HN := Lib.hid hn
  have H1 := Lib.hid h1
  have H2 := Lib.hid h2
  have HM := Lib.hid hm
  have HM2 := Lib.hid hm2
  rw [← hn] at H2 ⊢
  clear hn h1 h2 hm hm2
  go_enter Tryz.func15, Tryz.ntmps15
  go_wp2_with fail
  go_loopg [5] ms.length (fun q n wr => ∃ j : Nat, n = .int .i64 j ∧ q = ms.length - j ∧ j ≤ ms.length ∧ Hid (ms.take j = ns.take j) ∧ Hid (Kept (fun _ => True) w wr))
  case atStart => exact ⟨0, rfl, rfl, Nat.zero_le _, Lib.hid (by simp), Lib.hid (Kept.refl _ _)⟩
  case round =>
    obtain ⟨j, rfl, rfl, hj, HT, HK⟩ := hrel
    by_cases hlt : j < ms.length
    · obtain ⟨b, off, rfl, hb, x, hx, x0, x1, x3, hv, x2, hr⟩ := H1.out.at hlt
      obtain ⟨b', off', rfl, hb', y, hy, y0, y1, y3, hv', y2, hr'⟩ := H2.out.at (j := j) (by rw [← HN.out]; exact hlt)
      have HS0 : Hid (SMM b (off + j * 4) b' (off' + j * 4) x y hv hv' w) := Lib.hid ⟨x0, x1, x2, x3, y0, y1, y2, y3⟩
      have HSW : Hid (∀ W, Kept (fun _ => True) wr W → SMM b (off + j * 4) b' (off' + j * 4) x y hv hv' W) := Lib.hid fun W hk => HS0.out.kept hb hb' (HK.out.tr hk)
      have SM := Lib.hid (fun W (hk : Kept (fun _ => True) wr W) => sameMessage_call x y hv hv' w W (HK.out.tr hk) hr hr' (HM.out x (List.mem_of_getElem? hx)) (HM2.out y (List.mem_of_getElem? hy)))
      have HX := Lib.hid hx
      have HY := Lib.hid hy
      have HKD : Hid (Kept (fun _ => True) wr wr.drew) := Lib.hid (Kept.refl _ _).drew
      have hss := HSW.out _ HKD.out
      clear hx hy hr hr' x0 x1 x2 x3 y0 y1 y2 y3
      go_wp2
      go_region_held3 (fun wz => SMM b (off + j * 4) b' (off' + j * 4) x y hv hv' wz) (first | exact hss | go_keep)
        (first | (go_at_call 38; refine (SM.out _ HKD.out).mono ?_; rintro e w1 ⟨⟨q, rfl, hq⟩, hk1⟩; have HQ := Lib.hid hq; have HK1 := Lib.hid (HK.out.tr (HKD.out.tr hk1)); have hss := HSW.out _ (HKD.out.tr hk1); clear hq hk1))
      cases q with
      | true =>
        have HT2 : Hid (ms.take (j + 1) = ns.take (j + 1)) := Lib.hid (by rw [List.take_add_one, List.take_add_one, HT.out, HX.out, HY.out, HQ.out.1 rfl])
        clear HT
        go_wp2
        go_roundg (ms.length - (j + 1))
        case rel => exact ⟨j + 1, by go_num, rfl, by omega, HT2, HK1⟩
        case measure => omega
      | false =>
        have HE : Hid (¬ ms = ns) := Lib.hid fun e => by
          have h := HX.out
          rw [e, HY.out] at h
          have := HQ.out.2 (Option.some.inj h).symm
          cases this
        clear HT
        go_wp2
        go_ret
        exact ⟨⟨false, rfl, by simp [HE.out]⟩, HK1.out⟩
    · obtain rfl : j = ms.length := by omega
      have HE : Hid (ms = ns) := Lib.hid (by
        have h := HT.out
        rw [List.take_length, HN.out, List.take_length] at h
        exact h)
      clear HT hlt
      go_wp2
      go_ret
      exact ⟨⟨true, rfl, by simp [HE.out]⟩, HK.out⟩
end Go.Proofs.YtaomhkgdbobpkaaGreatDoor
