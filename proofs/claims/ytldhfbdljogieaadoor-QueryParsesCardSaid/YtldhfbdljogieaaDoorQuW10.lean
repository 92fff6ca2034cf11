/- Walk of the reference's One and of query's Print (layer 3). -/
import Derived.Test.YtldhfbdljogieaaDoorQuW9
namespace Go.Proofs.YtldhfbdljogieaaDoor
open Go.RowKit
open Qu

set_option maxHeartbeats 4000000 in
set_option maxRecDepth 100000 in
theorem refOne_any (v : Value) (l : List Fld) (name : List UInt8) (w : World) (hv : FldIn w v l) (hl : l.length ≤ 68719476736) :
    Calls Tryd.prog 22 #[v, S name] w fun e w' => e = .returned (.tuple #[S (oneP l name).1, .int .i64 (oneP l name).2]) ∧ w = w' := by
  have HOne : Hid (oneP l name = if (oneGo l name).2 = 0 then ([], 33) else if (oneGo l name).2 = 1 then ((oneGo l name).1, 0) else ([], 34)) := Lib.hid rfl
  obtain ⟨R, hR⟩ : ∃ R, oneP l name = R := ⟨_, rfl⟩
  rw [hR] at HOne ⊢
  clear hR
  rcases hv with ⟨a, rfl, rfl⟩ | ⟨b, o, cap, rfl, h1, h2, h3⟩
  · have hN : Hid (R = ([], 33)) := Lib.hid (by rw [HOne.out]; rfl)
    go_enter Tryd.func22, Tryd.ntmps22
    go_wp2
    go_loop [6, 7, 8] (fun y x i => x = S [] ∧ y = .int .i64 0 ∧ i = .int .i64 0) (fun _ _ _ => 0)
    case atStart => exact ⟨rfl, rfl, rfl⟩
    case round =>
      obtain ⟨rfl, rfl, rfl⟩ := hrel
      go_wp2
      go_ret2
      exact ⟨ret_one hN.out, rfl⟩
  · have H3 := Lib.hid h3
    clear h3
    go_enter Tryd.func22, Tryd.ntmps22
    go_wp2
    go_loop [6, 7, 8] (fun y x i => ∃ k : Nat, k ≤ l.length ∧ x = S (oneGo (l.take k) name).1 ∧ y = .int .i64 (oneGo (l.take k) name).2 ∧ i = .int .i64 k) (fun _ _ i => l.length - (intOf i).toNat)
    case atStart => exact ⟨0, Nat.zero_le _, rfl, rfl, rfl⟩
    case round =>
      obtain ⟨k, hk, rfl, rfl, rfl⟩ := hrel
      have hle := oneGo_le (l.take k) name
      have hle2 : (l.take k).length ≤ k := List.length_take_le _ _
      by_cases hlt : k < l.length
      · obtain ⟨f, hf⟩ : ∃ f, l[k]? = some f := ⟨l[k]'hlt, List.getElem?_eq_getElem hlt⟩
        have HS : Hid (oneGo (l.take (k + 1)) name = oneStep name (oneGo (l.take k) name) f) := Lib.hid (by
          rw [List.take_succ_eq_append_getElem hlt, oneGo_snoc]
          rw [List.getElem?_eq_getElem hlt] at hf
          rw [Option.some.inj hf])
        obtain ⟨d0, d1⟩ := H3.out k f hf
        clear hf
        obtain ⟨st, hst⟩ : ∃ st, oneGo (l.take k) name = st := ⟨_, rfl⟩
        rw [hst] at HS hle ⊢
        clear hst
        by_cases hfn : f.1 = name
        · have HS2 : Hid (oneGo (l.take (k + 1)) name = (f.2, st.2 + 1)) := Lib.hid (by rw [HS.out, oneStep, if_pos hfn])
          go_wp2
          go_round
          case rel => exact ⟨k + 1, by omega, by rw [HS2.out], by rw [HS2.out]; go_num, by go_num⟩
          case measure => simp [intOf]; omega
        · have HS2 : Hid (oneGo (l.take (k + 1)) name = st) := Lib.hid (by rw [HS.out, oneStep, if_neg hfn])
          have qn : (f.1 == name) = false := by simpa using hfn
          go_wp2
          go_round
          case rel => exact ⟨k + 1, by omega, by rw [HS2.out], by rw [HS2.out], by go_num⟩
          case measure => simp [intOf]; omega
      · rw [List.take_of_length_le (by omega)] at *
        obtain ⟨st, hst⟩ : ∃ st, oneGo l name = st := ⟨_, rfl⟩
        rw [hst] at HOne hle ⊢
        clear hst
        by_cases h0 : st.2 = 0
        · have hN : Hid (R = ([], 33)) := Lib.hid (by rw [HOne.out, if_pos h0])
          have q0 : ((st.2 : Int) == 0) = true := by rw [h0]; rfl
          clear h0
          go_wp2
          go_ret2
          exact ⟨ret_one hN.out, rfl⟩
        · have q0 : ((st.2 : Int) == 0) = false := by simp; omega
          by_cases h1 : st.2 = 1
          · have hN : Hid (R = (st.1, 0)) := Lib.hid (by rw [HOne.out, if_neg h0, if_pos h1])
            have q1 : ((st.2 : Int) == 1) = true := by rw [h1]; rfl
            clear h0 h1
            go_wp2
            go_ret2
            exact ⟨ret_one hN.out, rfl⟩
          · have hN : Hid (R = ([], 34)) := Lib.hid (by rw [HOne.out, if_neg h0, if_neg h1])
            have q1 : ((st.2 : Int) == 1) = false := by simp; omega
            clear h0 h1
            go_wp2
            go_ret2
            exact ⟨ret_one hN.out, rfl⟩

theorem Escape_S (l : List UInt8) (w : World) (hE : Env w) (hl : l.length ≤ 68719476736) : Calls Tryd.prog 12 #[S l] w fun e w' => e = .returned (S (esc l)) ∧ Below w.heap.size w w' :=
  Escape_any ⟨l.toArray⟩ w hE (by rw [size_mk]; exact hl)
theorem refEscape_S (l : List UInt8) (w : World) (hl : l.length ≤ 68719476736) : Calls Tryd.prog 13 #[S l] w fun e w' => e = .returned (S (esc l)) ∧ Below w.heap.size w w' :=
  refEscape_any ⟨l.toArray⟩ w (by rw [size_mk]; exact hl)
theorem wt_take_le (l : List Fld) (k : Nat) : wt (l.take k) ≤ wt l := by
  have h : l = l.take k ++ l.drop k := (List.take_append_drop k l).symm
  have e : wt l = wt (l.take k) + wt (l.drop k) := by
    conv => lhs; rw [h]
    simp only [wt, List.map_append, List.sum_append, List.length_append]
    omega
  omega
theorem wt_get {l : List Fld} {k : Nat} {f : Fld} (h : l[k]? = some f) : wt (l.take k) + f.1.length + f.2.length + 1 ≤ wt l := by
  have hlt : k < l.length := (List.getElem?_eq_some_iff.1 h).1
  have e := wt_take_le l (k + 1)
  rw [List.take_succ_eq_append_getElem hlt, wt_snoc] at e
  rw [List.getElem?_eq_getElem hlt] at h
  rw [Option.some.inj h] at e
  exact e
theorem wt_len (l : List Fld) : l.length ≤ wt l := by unfold wt; omega

theorem join_own (B : Nat) (v : Value) (xs : List (List UInt8)) (n : Nat) (hn : n = xs.length) (w : World) (hown : w.ownsRow B 9 1 v n (xs.map S)) (hN : xs.length ≤ 140737488355328) (hlen : (Lib.join xs [38]).length ≤ 140737488355328) :
    Calls Tryd.prog 35 #[v, .string ⟨#[38]⟩] w fun e w' => e = .returned (S (Lib.join xs [38])) ∧ Below w.heap.size w w' := by
  subst hn
  have hc := fun g => World.ownsRow.cells (g := g) hown
  rcases hown.2 with ⟨rfl, h0⟩ | ⟨g, cap, cur, rfl, hB, hgg, hcap, -, -, -⟩
  · obtain rfl : xs = [] := List.eq_nil_of_length_eq_zero h0
    refine (Tryd.strings_Join_none none 0 ⟨#[38]⟩ w).mono ?_
    rintro e w' ⟨rfl, rfl⟩
    exact ⟨rfl, Below.refl _ _⟩
  · have hmm : (xs.map fun l => (⟨l.toArray⟩ : ByteArray)).map (·.data.toList) = xs := by rw [List.map_map]; exact List.map_id _
    have C := Tryd.strings_Join g 0 cap (xs.map fun l => (⟨l.toArray⟩ : ByteArray)) ⟨#[38]⟩ w ?_ (Array.getElem?_eq_some_iff.1 hgg).1 (by simpa using hN) (by simpa using hcap) ?_
    · rw [hmm] at C
      simp only [List.length_map] at C
      exact C
    · intro j x hx
      have h2 := hc g rfl j (Value.string x) (by
        rw [List.getElem?_map] at hx ⊢
        cases hj : xs[j]? with
        | none => rw [hj] at hx; cases hx
        | some y => rw [hj] at hx; simp at hx ⊢; exact hx)
      have hadd : (⟨g, 0, none⟩ : Addr).add j = ⟨g, 0 + j, none⟩ := by unfold Addr.add; split <;> simp_all
      rwa [hadd] at h2
    · rw [hmm]; exact hlen

set_option maxHeartbeats 4000000 in
set_option maxRecDepth 100000 in
theorem Print_any (v : Value) (l : List Fld) (w : World) (hE : Env w) (hv : FldIn w v l) (hl : wt l ≤ 68719476736) :
    Calls Tryd.prog 20 #[v] w fun e w' => e = .returned (S (printP l)) ∧ Below w.heap.size w w' := by
  have hlen := wt_len l
  rcases hv with ⟨a, rfl, rfl⟩ | ⟨b, o, cap, rfl, h1, h2, h3⟩
  · go_enter Tryd.func20, Tryd.ntmps20
    go_wp2_with (at_make; refine wpList_makeRow 29 9 Tryd.underlying29 infoStr (by decide) rfl _ _ rfl w.heap.size .i64 .i64 _ 0 rfl rfl rfl (by omega) (Nat.le_refl _) ?_)
    intro w0 hown0 hbw0 hkr0 hsz0
    clear hsz0
    go_wp2
    go_loopw [3, 11] (fun x i wr => i = .int .i64 0 ∧ wr.ownsRow w.heap.size 9 1 x 0 [] ∧ Below w.heap.size w wr) (fun _ _ _ => 0)
    case atStart => exact ⟨rfl, hown0, hbw0⟩
    case round =>
      obtain ⟨rfl, hown, hbw⟩ := hrel
      have CJ := join_own w.heap.size _ [] 0 rfl wr hown (by simp) (by simp [Lib.join_nil])
      have HCJ := Lib.hid CJ
      clear CJ
      go_wp2_with fail
      refine HCJ.out.mono ?_
      rintro e w2 ⟨rfl, hb2⟩
      go_wp2
      go_ret
      exact ⟨rfl, hbw.trans (hb2.mono hbw.size)⟩
  · have H3 := Lib.hid h3
    have HE := Lib.hid hE
    clear h3 hE
    go_enter Tryd.func20, Tryd.ntmps20
    go_wp2_with (at_make; refine wpList_makeRow 29 9 Tryd.underlying29 infoStr (by decide) rfl _ _ rfl w.heap.size .i64 .i64 _ l.length rfl rfl rfl (by omega) (Nat.le_refl _) ?_)
    intro w0 hown0 hbw0 hkr0 hsz0
    have HZ := Lib.hid hsz0
    clear hsz0
    go_wp2
    go_loopw [3, 11] (fun x i wr => ∃ k : Nat, k ≤ l.length ∧ i = .int .i64 k ∧ wr.ownsRow w.heap.size 9 1 x k ((l.take k).map fun f => S (fldP f)) ∧ Below w.heap.size w wr) (fun _ i _ => l.length - (intOf i).toNat)
    case atStart => exact ⟨0, Nat.zero_le _, rfl, hown0, hbw0⟩
    case round =>
      obtain ⟨k, hk, rfl, hown, hbw⟩ := hrel
      have hz : w.heap.size ≤ wr.heap.size := hbw.size
      by_cases hlt : k < l.length
      · obtain ⟨f, hf⟩ : ∃ f, l[k]? = some f := ⟨l[k]'hlt, List.getElem?_eq_getElem hlt⟩
        have hwt := wt_get hf
        obtain ⟨c0, c1⟩ := H3.out k f hf
        have d0 : wr.cell? ⟨b, o + k * 2, none⟩ = some (S f.1) := ((bcell hbw).1 _ _ h2).trans c0
        have d1 : wr.cell? ⟨b, o + k * 2 + 1, none⟩ = some (S f.2) := ((bcell hbw).1 _ _ h2).trans c1
        have HF : Hid (l[k]'hlt = f) := Lib.hid (by rw [List.getElem?_eq_getElem hlt] at hf; exact Option.some.inj hf)
        clear c0 c1 hf
        have E1 := Lib.hid (HE.out.on HE.out.size hbw)
        have hl1 : f.1.length ≤ 68719476736 := by omega
        have hl2 : f.2.length ≤ 68719476736 := by omega
        have ce1 := fun w hE => Escape_S f.1 w hE hl1
        have ce2 := fun w hE => Escape_S f.2 w hE hl2
        have hx1 := esc_le f.1
        have hx2 := esc_le f.2
        have hf0 : fldP f = esc f.1 ++ [61] ++ esc f.2 := rfl
        obtain ⟨e1, he1⟩ : ∃ e1, esc f.1 = e1 := ⟨_, rfl⟩
        obtain ⟨e2, he2⟩ : ∃ e2, esc f.2 = e2 := ⟨_, rfl⟩
        rw [he1] at ce1 hx1 hf0
        rw [he2] at ce2 hx2 hf0
        obtain ⟨m, hm⟩ : ∃ m, e1 ++ [61] = m := ⟨_, rfl⟩
        have hml : m.length = e1.length + 1 := by rw [← hm]; simp
        obtain ⟨r, hr⟩ : ∃ r, fldP f = r := ⟨_, rfl⟩
        rw [hr, hm] at hf0
        have cat1 := run_cat (P := Tryd.prog) e1 [61] m hm (by simp; omega)
        have cat2 := run_cat (P := Tryd.prog) m e2 r hf0.symm (by omega)
        have HC1 := Lib.hid ce1
        have HC2 := Lib.hid ce2
        have HR := Lib.hid hr
        clear ce1 ce2 he1 he2 hm hr hf0 hml hx1 hx2
        go_wp2
        obtain ⟨X, hX⟩ : ∃ X, wr.alloc (.cells #[S f.1, S f.2] 44) = X := ⟨_, rfl⟩
        have x0 : X.cell? ⟨wr.heap.size, 0, none⟩ = some (S f.1) := by rw [← hX, cell_of_row _ _ 0 _ _ (0, 0) (heap_alloc_new wr _)]; rfl
        have x1 : X.cell? ⟨wr.heap.size, 1, none⟩ = some (S f.2) := by rw [← hX, cell_of_row _ _ 1 _ _ (0, 0) (heap_alloc_new wr _)]; rfl
        have hXb : Below wr.heap.size wr X := by rw [← hX]; exact (Below.refl _ _).alloc (Nat.le_refl _) _
        have hXz : X.heap.size = wr.heap.size + 1 := by rw [← hX]; simp
        have HXz := Lib.hid hXz
        rw [hX]
        clear hX hXz
        go_region_held3 (fun w' => w'.cell? ⟨wr.heap.size, 0, none⟩ = some (S f.1) ∧ w'.cell? ⟨wr.heap.size, 1, none⟩ = some (S f.2)) (go_keep)
          (first
            | (go_at_call 12; (with_reducible refine (HC1.out _ (E1.out.on E1.out.size hXb.drew)).mono ?_); rintro e W1 ⟨rfl, hb1⟩; have y0 := ((bcell hb1).1 wr.heap.size 0 (by have := HXz.out; simp only [World.size_drew]; omega)).trans x0; have y1 := ((bcell hb1).1 wr.heap.size 1 (by have := HXz.out; simp only [World.size_drew]; omega)).trans x1)
            | (go_at_call 12; (with_reducible refine (HC2.out _ ((E1.out.on E1.out.size hXb.drew).on (E1.out.on E1.out.size hXb.drew).size hb1)).mono ?_); rintro e W2 ⟨rfl, hb2⟩; have z0 := ((bcell hb2).1 wr.heap.size 0 (by have := hb1.size; have := HXz.out; simp only [World.size_drew] at *; omega)).trans y0; have z1 := ((bcell hb2).1 wr.heap.size 1 (by have := hb1.size; have := HXz.out; simp only [World.size_drew] at *; omega)).trans y1)
            | (refine step_pushRow 29 9 Tryd.underlying29 infoStr (by decide) (by decide) rfl (.tmp 15) (.tmp 24) rfl w.heap.size _ k _ [S r] 1 W2 _ rfl rfl rfl (by intro u hu; simp at hu; subst hu; rfl) 1 _ rfl rfl rfl (ownsRow_below (ownsRow_below (ownsRow_below hown hXb.drew) hb1) hb2) (by omega) (by decide) (by have := hb1.size; have := hb2.size; have := HXz.out; simp only [World.size_drew] at *; omega) ?_; intro v' w' g1 g2 g3; have u0 := (g3.cell (b := wr.heap.size) (o := 0) (by have := hb1.size; have := hb2.size; have := HXz.out; simp only [World.size_drew] at *; omega) (ownsRow_ne hown (Nat.le_refl _))).trans z0; have u1 := (g3.cell (b := wr.heap.size) (o := 1) (by have := hb1.size; have := hb2.size; have := HXz.out; simp only [World.size_drew] at *; omega) (ownsRow_ne hown (Nat.le_refl _))).trans z1))
        go_wp2
        go_roundw
        case rel =>
          refine ⟨k + 1, by omega, by go_num, ?_, ((hbw.trans (((hXb.drew).trans (hb1.mono (by have := HXz.out; simp only [World.size_drew]; omega))).mono hz)).trans (hb2.mono (by have := hb1.size; have := HXz.out; simp only [World.size_drew] at *; omega))).trans g2⟩
          rw [List.take_succ_eq_append_getElem hlt, List.map_append]
          have e1 : [l[k]'hlt].map (fun f => S (fldP f)) = [S r] := by simp only [List.map_cons, List.map_nil, HF.out, HR.out]
          rw [e1]
          exact g1
        case measure => simp [intOf]; omega
      · have hkl : k = l.length := by omega
        rw [List.take_of_length_le (by omega)] at hown
        have hpl := printP_le l
        have CJ := join_own w.heap.size _ (l.map fldP) k (by simpa using hkl) wr (by rw [List.map_map]; exact hown) (by rw [List.length_map]; omega) (by unfold printP at hpl; omega)
        have HCJ := Lib.hid CJ
        clear CJ hkl
        go_wp2_with fail
        refine HCJ.out.mono ?_
        rintro e w2 ⟨rfl, hb2⟩
        go_wp2
        go_ret
        exact ⟨rfl, hbw.trans (hb2.mono hz)⟩
end Go.Proofs.YtldhfbdljogieaaDoor
