/- Walks of the law of layer 5, its book: lists that came out are looked at, written full, grown, and looked at again. -/
import Derived.Test.YtaomhkgdbobpkaaGreatDoorWiTA
import Derived.Test.YtaomhkgdbobpkaaGreatDoorWiL7
import Derived.Test.YtaomhkgdbobpkaaGreatDoorWiLX
import Derived.Deep.RegionWith
namespace Go.Proofs.YtaomhkgdbobpkaaGreatDoor
open Go.RowKit Wi

theorem KR.ofFBk {T : TypeId} {row : Option Nat} {B : Nat} {w w' : World} (hk : Kept (FBk B w) w w') (h1 : T ≠ 48) (h2 : T ≠ 3) (h3 : T ≠ 39) (h4 : T ≠ 38) : KR T row w w' :=
  ⟨hk.size, fun g _ hg _ => hk.block g (Array.getElem?_eq_some_iff.1 hg).1 (.of hg h1 h2 h3 h4)⟩
theorem Bk.movedT {gb B C n size : Nat} {vs : Nat → Value} {xs : Nat → List Value} {ys : List Value} {T : TypeId} {v v' : Value} {w w' : World} (h : Bk gb B vs xs w) (ho : w.ownsRow C T size v n ys) (hm : Moved v v' w w') (h1 : 48 ≠ T) (h2 : 3 ≠ T) (h3 : 39 ≠ T) (h4 : 38 ≠ T) : Bk gb B vs xs w' :=
  h.keptB hm.kept.1 fun g c U hg hU => by
    rcases hU with rfl | rfl | rfl | rfl
    · exact (KR.moved_other (row := none) ho hm h1).2 g c hg (by simp)
    · exact (KR.moved_other (row := none) ho hm h2).2 g c hg (by simp)
    · exact (KR.moved_other (row := none) ho hm h3).2 g c hg (by simp)
    · exact (KR.moved_other (row := none) ho hm h4).2 g c hg (by simp)
theorem Kept.drewCell {w w' : World} {b o : Nat} {v : Value} (hk : Kept (fun _ => True) w.drew w') (h : w.cell? ⟨b, o, none⟩ = some v) : w'.cell? ⟨b, o, none⟩ = some v := (hk.cell (cell_isLt h) trivial).trans h
theorem Kept.drewTyp {w w' : World} {b : Nat} {U : TypeId} (hk : Kept (fun _ => True) w.drew w') (h : ∃ c, w.heap[b]? = some (.cells c U (0, 0))) : (∃ c, w'.heap[b]? = some (.cells c U (0, 0))) ∧ ∀ o, w'.frozen? ⟨b, o, none⟩ = false := by
  obtain ⟨c, hc⟩ := h
  have h2 : w'.heap[b]? = some (.cells c U (0, 0)) := (hk.block b (Array.getElem?_eq_some_iff.1 hc).1 trivial).trans hc
  exact ⟨⟨c, h2⟩, fun o => frozen_row h2 o⟩
theorem infoInt : (Tryz.prog.info? 3).map (fun i => (i.zero, i.size, i.bytes)) = some (some (.int .i64 0), 1, 8) := by kernel_rfl
theorem Moved.keptK {v v' : Value} {w w' : World} {C : Nat} (h : Moved v v' w w') (hb : Below C w w') : Kept (fun b => v.ownBlock ≠ some b) w w' := ⟨hb.os, hb.tape, hb.output, h.kept.1, fun k hk ho => h.kept.2 k hk fun e => ho e.symm⟩
theorem reads_rec {lab : Nat → Nat} {a : Option Addr} {l c n : Nat} {w : World} (h : RecK 61 2 (fun n => [S [], S (markS n)]) lab none 0 w (.slice a l c) n) :
    Calls Tryz.prog 43 #[.slice a l c, .agg #[S [], S (markS n)]] w fun e w' => e = .returned (.bool true) ∧ Kept (fun _ => True) w w' := by
  obtain ⟨a', l', c', e, hl, hat⟩ := h.form
  obtain ⟨rfl, rfl, rfl⟩ : a = a' ∧ l = l' ∧ c = c' := by simpa using e
  refine reads_any a l c (markS n) w hl fun j hj => ?_
  obtain ⟨b, e1, e2, e3⟩ := hat j hj
  refine ⟨b, e1, e2, ?_, ?_⟩
  · have := e3 0 (by decide)
    rw [Nat.add_zero] at this
    exact this.trans rfl
  · exact (e3 1 (by decide)).trans rfl
/-- What was grown, and whose it is. -/
def gsOf (rs : List (Value × Nat)) : List Value := rs.map (·.1)
def ksOf (rs : List (Value × Nat)) : List Value := rs.map fun r => .int .i64 (r.2 : Nat)
theorem gsOf_len (rs : List (Value × Nat)) : (gsOf rs).length = rs.length := List.length_map _
theorem ksOf_len (rs : List (Value × Nat)) : (ksOf rs).length = rs.length := List.length_map _
theorem gsOf_snoc (rs : List (Value × Nat)) (r : Value × Nat) : gsOf (rs ++ [r]) = gsOf rs ++ [r.1] := by simp [gsOf]
theorem ksOf_snoc (rs : List (Value × Nat)) (r : Value × Nat) : ksOf (rs ++ [r]) = ksOf rs ++ [.int .i64 (r.2 : Nat)] := by simp [ksOf]
/-- What is told of the lists in the walk: those that were grown, and the first i of the old ones, are among those recorded. -/
def Tel (us : List Value) (n l : Nat) (rs zs : List (Value × Nat)) : Prop := rs.length = l ∧ (∀ r ∈ rs, r ∈ zs) ∧ ∀ (j : Nat) u, j < n → us[j]? = some u → (u, j) ∈ zs
def mkF (n : Nat) : List Value := [S [], S (markS n)]
theorem mkF_len (n : Nat) : (mkF n).length = 2 := rfl
/-- The book, as far zs still looks at it. -/
def StB (gb B : Nat) (us ws gs ks : List Value) (w : World) : Prop := ∃ vs xs, Bk gb B vs xs w ∧ xs 0 = us ∧ xs 1 = ws ∧ xs 3 = gs ∧ xs 4 = ks
section
variable {gb B : Nat} {us ws gs ks : List Value} {w w' : World}
theorem StB.keptT (h : StB gb B us ws gs ks w) (hk : Kept (fun _ => True) w w') : StB gb B us ws gs ks w' := by
  obtain ⟨vs, xs, hb, e⟩ := h
  exact ⟨vs, xs, hb.keptT hk, e⟩
theorem StB.size (h : StB gb B us ws gs ks w) : B ≤ w.heap.size := by
  obtain ⟨vs, xs, hb, e⟩ := h
  exact hb.size
theorem StB.row0 (h : StB gb B us ws gs ks w) : ∃ a c, w.cell? ⟨gb, 0, none⟩ = some (.slice a us.length c) ∧ w.ownsRow B 48 1 (.slice a us.length c) us.length us := by
  obtain ⟨vs, xs, hb, rfl, e1, e3, e4⟩ := h
  obtain ⟨a, c, hf⟩ := hb.form (i := 0) (by decide)
  exact ⟨a, c, hf ▸ hb.cell 0 (by decide), hf ▸ hb.row 0 (by decide)⟩
theorem StB.row1 (h : StB gb B us ws gs ks w) : ∃ a c, w.cell? ⟨gb, 1, none⟩ = some (.slice a ws.length c) ∧ w.ownsRow B 48 1 (.slice a ws.length c) ws.length ws := by
  obtain ⟨vs, xs, hb, e0, rfl, e3, e4⟩ := h
  obtain ⟨a, c, hf⟩ := hb.form (i := 1) (by decide)
  exact ⟨a, c, hf ▸ hb.cell 1 (by decide), hf ▸ hb.row 1 (by decide)⟩
theorem StB.row3 (h : StB gb B us ws gs ks w) : ∃ a c, w.cell? ⟨gb, 3, none⟩ = some (.slice a gs.length c) ∧ w.ownsRow B 48 1 (.slice a gs.length c) gs.length gs := by
  obtain ⟨vs, xs, hb, e0, e1, rfl, e4⟩ := h
  obtain ⟨a, c, hf⟩ := hb.form (i := 3) (by decide)
  exact ⟨a, c, hf ▸ hb.cell 3 (by decide), hf ▸ hb.row 3 (by decide)⟩
theorem StB.row4 (h : StB gb B us ws gs ks w) : ∃ a c, w.cell? ⟨gb, 4, none⟩ = some (.slice a ks.length c) ∧ w.ownsRow B 3 1 (.slice a ks.length c) ks.length ks := by
  obtain ⟨vs, xs, hb, e0, e1, e3, rfl⟩ := h
  obtain ⟨a, c, hf⟩ := hb.form (i := 4) (by decide)
  exact ⟨a, c, hf ▸ hb.cell 4 (by decide), hf ▸ hb.row 4 (by decide)⟩
theorem StB.movedT {C n size : Nat} {ys : List Value} {T : TypeId} {v v' : Value} (h : StB gb B us ws gs ks w) (ho : w.ownsRow C T size v n ys) (hm : Moved v v' w w') (h1 : 48 ≠ T) (h2 : 3 ≠ T) (h3 : 39 ≠ T) (h4 : 38 ≠ T) : StB gb B us ws gs ks w' := by
  obtain ⟨vs, xs, hb, e⟩ := h
  exact ⟨vs, xs, hb.movedT ho hm h1 h2 h3 h4, e⟩
theorem StB.push3 (h : StB gb B us ws gs ks w) : ∃ a c, w.cell? ⟨gb, 3, none⟩ = some (.slice a gs.length c) ∧ w.ownsRow B 48 1 (.slice a gs.length c) gs.length gs ∧ ∀ v' w' u, w'.ownsRow B 48 1 v' (gs.length + 1) (gs ++ [u]) → Below B w w' → Moved (.slice a gs.length c) v' w w' →
    StB gb B us ws (gs ++ [u]) ks (w'.setCell ⟨gb, 3, none⟩ v') ∧ Kept (FBk B w) w (w'.setCell ⟨gb, 3, none⟩ v') ∧ w'.cell? ⟨gb, 3, none⟩ = some (.slice a gs.length c) ∧ w'.frozen? ⟨gb, 3, none⟩ = false := by
  obtain ⟨vs, xs, hb, e0, e1, rfl, e4⟩ := h
  obtain ⟨a, c, hf⟩ := hb.form (i := 3) (by decide)
  refine ⟨a, c, hf ▸ hb.cell 3 (by decide), hf ▸ hb.row 3 (by decide), fun v' w' u k1 k2 k3 => ?_⟩
  obtain ⟨hB1, hkB1, hnb1, hgb1⟩ := hb.push (i := 3) (by decide) k1 k2 (by rw [hf]; exact k3)
  obtain ⟨x0, x9⟩ := hb.at2 hgb1 3 (by decide)
  exact ⟨⟨_, _, hB1, (up_other _ _ (by decide)).trans e0, (up_other _ _ (by decide)).trans e1, up_same _ _ _, (up_other _ _ (by decide)).trans e4⟩, hkB1, hf ▸ x0, x9⟩
theorem StB.push4 (h : StB gb B us ws gs ks w) : ∃ a c, w.cell? ⟨gb, 4, none⟩ = some (.slice a ks.length c) ∧ w.ownsRow B 3 1 (.slice a ks.length c) ks.length ks ∧ ∀ v' w' u, w'.ownsRow B 3 1 v' (ks.length + 1) (ks ++ [u]) → Below B w w' → Moved (.slice a ks.length c) v' w w' →
    StB gb B us ws gs (ks ++ [u]) (w'.setCell ⟨gb, 4, none⟩ v') ∧ Kept (FBk B w) w (w'.setCell ⟨gb, 4, none⟩ v') ∧ w'.cell? ⟨gb, 4, none⟩ = some (.slice a ks.length c) ∧ w'.frozen? ⟨gb, 4, none⟩ = false := by
  obtain ⟨vs, xs, hb, e0, e1, e3, rfl⟩ := h
  obtain ⟨a, c, hf⟩ := hb.form (i := 4) (by decide)
  refine ⟨a, c, hf ▸ hb.cell 4 (by decide), hf ▸ hb.row 4 (by decide), fun v' w' u k1 k2 k3 => ?_⟩
  obtain ⟨hB1, hkB1, hnb1, hgb1⟩ := hb.push (i := 4) (by decide) k1 k2 (by rw [hf]; exact k3)
  obtain ⟨x0, x9⟩ := hb.at2 hgb1 4 (by decide)
  exact ⟨⟨_, _, hB1, (up_other _ _ (by decide)).trans e0, (up_other _ _ (by decide)).trans e1, (up_other _ _ (by decide)).trans e3, up_same _ _ _⟩, hkB1, hf ▸ x0, x9⟩
/-- A store into a field of a list. -/
theorem StB.set2 (h : StB gb B us ws gs ks w) {b : Nat} (hb : ∃ c, w.heap[b]? = some (.cells c 61 (0, 0))) (o0 o1 : Nat) (x0 x1 : Value) : StB gb B us ws gs ks ((w.setCell ⟨b, o0, none⟩ x0).setCell ⟨b, o1, none⟩ x1) := by
  obtain ⟨vs, xs, hbk, e⟩ := h
  refine ⟨vs, xs, hbk.keptB (by simp [World.setCell]) fun g c T hg hT => ?_, e⟩
  have hne : g ≠ b := fun e2 => by
    subst e2
    obtain ⟨c', hc'⟩ := hb
    have := typ_eq hg hc'
    subst this
    rcases hT with h | h | h | h <;> exact absurd h (by decide)
  exact (Below.heap_setCell _ _ _ _ hne).trans (Below.heap_setCell _ _ _ _ hne)
end
/-- What the lists of messages' walk leaves: all fields' rows, and what is older. -/
def FKeep (B : Nat) (w : World) (b : Nat) : Prop := b < B ∨ ∃ c, w.heap[b]? = some (.cells c 61 (0, 0))
theorem FKeep.own {B C n : Nat} {v : Value} {xs : List Value} {w w' : World} (hk : Kept (FKeep B w) w w') (h : w.ownsRow C 61 2 v n xs) : w'.ownsRow C 61 2 v n xs := ownsRow_kept h hk fun _b hb => .inr (own_typ h hb)
def OuterQ (gb B : Nat) (xs : Nat → List Value) (w : World) (e : Ending) (w' : World) : Prop := e = .returned (.bool true) ∧ (∃ vs' xs', Bk gb B vs' xs' w' ∧ ∀ i, i < 5 → xs' i = xs i) ∧ Kept (FKeep B w) w w'
set_option maxHeartbeats 16000000 in
set_option maxRecDepth 100000 in
theorem still_any (gb B : Nat) (vs : Nat → Value) (xs : Nat → List Value) (us ws : List Value) (fs : Nat → List Fl) (w : World) (_h : Bk gb B vs xs w) (e0 : xs 0 = us) (e1 : xs 1 = ws) (e3 : xs 3 = []) (e4 : xs 4 = []) (hl : us.length = ws.length) (hn : us.length ≤ 10000000000)
    (hu : ∀ (j : Nat) u, us[j]? = some u → OwnF u (fs j) w ∧ (fs j).length ≤ 32) (hv : ∀ (j : Nat) u, ws[j]? = some u → OwnF u (fs j) w) (ha : Apart us) (hb : ∀ u ∈ us, ∀ b, u.ownBlock = some b → B ≤ b)
    (HO : Calls Tryz.prog 40 #[.pointer (some ⟨gb, 0, none⟩)] w (OuterQ gb B xs w)) :
    Calls Tryz.prog 19 #[.pointer (some ⟨gb, 0, none⟩)] w fun e w' => e = .returned (.bool true) ∧ Kept (· < B) w w' := by
  have HOO := Lib.hid HO
  have HA := Lib.hid ha
  have HU0 := Lib.hid hu
  have HV0 := Lib.hid hv
  have HLO := Lib.hid hb
  have HL := Lib.hid hl
  have HX := Lib.hid (show ∀ xs' : Nat → List Value, (∀ i, i < 5 → xs' i = xs i) → xs' 0 = us ∧ xs' 1 = ws ∧ xs' 3 = [] ∧ xs' 4 = [] from fun xs' h => ⟨(h 0 (by decide)).trans e0, (h 1 (by decide)).trans e1, (h 3 (by decide)).trans e3, (h 4 (by decide)).trans e4⟩)
  clear HO ha hu hv hb hl e0 e1 e3 e4
  go_enter Tryz.func19, Tryz.ntmps19
  go_wp2_with fail
  refine HOO.out.mono ?_
  rintro e w1 ⟨rfl, ⟨vs1, xs1, hb1, hx1⟩, hk1⟩
  obtain ⟨e0, e1, e3, e4⟩ := HX.out xs1 hx1
  have HB : Hid (StB gb B us ws [] [] w1) := Lib.hid ⟨vs1, xs1, hb1, e0, e1, e3, e4⟩
  have HU : Hid (∀ (j : Nat) u, us[j]? = some u → OwnF u (fs j) w1 ∧ (fs j).length ≤ 32) := Lib.hid fun j u hu => ⟨FKeep.own hk1 (HU0.out j u hu).1, (HU0.out j u hu).2⟩
  have HV : Hid (∀ (j : Nat) u, ws[j]? = some u → OwnF u (fs j) w1) := Lib.hid fun j u hu => FKeep.own hk1 (HV0.out j u hu)
  have HK : Hid (Kept (· < B) w w1) := Lib.hid (hk1.mono fun _ _ h => .inl h)
  clear hb1 hx1 e0 e1 e3 e4 hk1 HU0 HV0 HX HOO
  go_upto_block 0 with fail
  go_cut [] (fun wx => Hid (StB gb B us ws [] [] wx) ∧ Hid (∀ (j : Nat) u, us[j]? = some u → OwnF u (fs j) wx ∧ (fs j).length ≤ 32) ∧ Hid (Kept (· < B) w wx))
  case first =>
    go_wp2_with fail
    go_loopg [4] us.length (fun q x wr => ∃ n : Nat, x = .int .i64 n ∧ q = us.length - n ∧ n ≤ us.length ∧ Hid (Kept (fun _ => True) w1 wr))
    case atStart => exact ⟨0, rfl, rfl, Nat.zero_le _, Lib.hid (Kept.refl _ _)⟩
    case round =>
      obtain ⟨n, rfl, rfl, hn2, HKR⟩ := hrel
      obtain ⟨fa, fc, b0, hr0⟩ := (HB.out.keptT HKR.out).row0
      by_cases hlt : n < us.length
      · obtain ⟨ga, gc, b1, hr1⟩ := (HB.out.keptT HKR.out).row1
        obtain ⟨u, hu⟩ : ∃ u, us[n]? = some u := ⟨_, List.getElem?_eq_getElem hlt⟩
        obtain ⟨v, hv⟩ : ∃ v, ws[n]? = some v := ⟨_, List.getElem?_eq_getElem (by rw [← HL.out]; exact hlt)⟩
        obtain ⟨-, -, gf, rfl, c0⟩ := rowCell hr0 hu
        obtain ⟨-, -, gw, rfl, c1⟩ := rowCell hr1 hv
        obtain ⟨hou, h32⟩ := HU.out n u hu
        have hov := HV.out n v hv
        have hws : n < ws.length := by rw [← HL.out]; exact hlt
        have FC := Lib.hid (fun W (hk : Kept (fun _ => True) wr W) => fields_any (fs n) (fs n) u v W (rowf_of (ownsRow_kept hou (HKR.out.tr hk) fun _ _ => trivial)) (rowf_of (ownsRow_kept hov (HKR.out.tr hk) fun _ _ => trivial)) (by omega) (by omega))
        have HKD : Hid (Kept (fun _ => True) wr wr.drew) := Lib.hid (Kept.refl _ _).drew
        obtain ⟨ua, uc, rfl⟩ := row_form hou
        obtain ⟨va, vc, rfl⟩ := row_form hov
        clear hr0 hr1 hu hv hou hov
        go_wp2
        go_region_held3 (fun wz => wz.cell? ⟨gb, 0, none⟩ = some (.slice (some ⟨gf, 0, none⟩) us.length fc) ∧ wz.cell? ⟨gf, n, none⟩ = some (.slice ua (fs n).length uc) ∧ wz.cell? ⟨gb, 1, none⟩ = some (.slice (some ⟨gw, 0, none⟩) ws.length gc) ∧ wz.cell? ⟨gw, n, none⟩ = some (.slice va (fs n).length vc)) (go_keep)
          (first
            | (go_at_call 41; (with_reducible refine (FC.out _ HKD.out).mono ?_); rintro e W1 ⟨⟨q, rfl, hq⟩, hk1⟩; have y0 := hk1.drewCell b0; have y1 := hk1.drewCell c0; have y2 := hk1.drewCell b1; have y3 := hk1.drewCell c1; have HK1 := Lib.hid (HKR.out.tr (HKD.out.tr hk1)); obtain rfl : q = true := hq.2 (by first | rfl | trivial); clear hq hk1))
        go_wp2
        go_roundg (us.length - (n + 1))
        case rel => exact ⟨n + 1, by go_num, rfl, by omega, HK1⟩
        case measure => omega
      · obtain rfl : n = us.length := by omega
        clear hr0
        go_wp2
        go_meet
        exact ⟨Lib.hid (HB.out.keptT HKR.out), Lib.hid fun j u hu => ⟨ownsRow_kept (HU.out j u hu).1 HKR.out fun _ _ => trivial, (HU.out j u hu).2⟩, Lib.hid (HK.out.trans HKR.out fun _ _ _ => trivial)⟩
  case rest =>
  clear HB HU HV HK
  obtain ⟨HB, HU, HK⟩ := hcut
  have HFZ : Hid (Ful 61 2 mkF us (fun j => (fs j).length) (fulled (fun j => (fs j).length) 0) wc) := Lib.hid (Ful.full0 (Ful.start fun j u hu => ⟨_, (HU.out j u hu).1⟩))
  have HLS : Hid (∀ j, j < us.length → (fs j).length ≤ 32) := Lib.hid fun j hj => (HU.out j _ (List.getElem?_eq_getElem hj)).2
  clear HU
  rename World => w2
  go_upto_block 2 with fail
  go_cut [] (fun wx => Hid (StB gb B us ws [] [] wx) ∧ Hid (Ful 61 2 mkF us (fun j => (fs j).length) (fun j => (fs j).length) wx) ∧ Hid (Kept (· < B) w wx))
  case first =>
    go_wp2_with fail
    go_loopg [6] us.length (fun q x wr => ∃ n : Nat, x = .int .i64 n ∧ q = us.length - n ∧ n ≤ us.length ∧ Hid (StB gb B us ws [] [] wr) ∧ Hid (Ful 61 2 mkF us (fun j => (fs j).length) (fulled (fun j => (fs j).length) n) wr) ∧ Hid (Kept (· < B) w wr))
    case atStart => exact ⟨0, rfl, rfl, Nat.zero_le _, HB, HFZ, HK⟩
    case round =>
      clear HB HFZ HK
      obtain ⟨n, rfl, rfl, hn2, HB, HU, HK⟩ := hrel
      obtain ⟨fa, fc, b0, hr0⟩ := HB.out.row0
      by_cases hlt : n < us.length
      · obtain ⟨u, hu⟩ : ∃ u, us[n]? = some u := ⟨_, List.getElem?_eq_getElem hlt⟩
        obtain ⟨-, -, gn, rfl, c0⟩ := rowCell hr0 hu
        obtain ⟨ua, uc, rfl⟩ := HU.out.form hu
        have hl := HLS.out n hlt
        obtain ⟨m, hm⟩ : ∃ m, (fs n).length = m := ⟨_, rfl⟩
        have HM := Lib.hid hm
        have HUu := Lib.hid hu
        try simp only at c0
        rw [hm] at c0 hl
        have hn0 : (0 : Int) ≤ (n : Int) := by omega
        have hn1 : (n : Int) < (us.length : Int) := by omega
        clear hm hu hr0
        go_wp2_with fail
        go_loopg [7] m (fun q x wi => ∃ i : Nat, x = .int .i64 i ∧ q = m - i ∧ i ≤ m ∧ Hid (StB gb B us ws [] [] wi) ∧ Hid (Ful 61 2 mkF us (fun j => (fs j).length) (upd (fulled (fun j => (fs j).length) n) n i) wi) ∧ Hid (Kept (· < B) w wi))
        case atStart => exact ⟨0, rfl, rfl, Nat.zero_le _, HB, Lib.hid HU.out.enter, HK⟩
        case round =>
          clear HB HU HK b0 c0
          obtain ⟨i, rfl, rfl, hi, HB, HU, HK⟩ := hrel
          obtain ⟨fa, fc, b0, hr0⟩ := HB.out.row0
          obtain ⟨-, -, gn, rfl, c0⟩ := rowCell hr0 HUu.out
          try simp only at c0
          rw [HM.out] at c0
          clear hr0
          by_cases hli : i < m
          · obtain ⟨b, cap, hub, hbl, hbt, hbf, hbc⟩ := HU.out.place HUu.out (by show i < (fs n).length; rw [HM.out]; exact hli)
            obtain ⟨rfl, -, rfl⟩ : ua = some ⟨b, 0, none⟩ ∧ (fs n).length = (fs n).length ∧ uc = cap := by simpa using hub
            have HBT := Lib.hid hbt
            have hi0 : (0 : Int) ≤ (i : Int) := by omega
            have hi1 : (i : Int) < (m : Int) := by omega
            obtain ⟨y0, hy0⟩ := hbc 0 (by decide)
            obtain ⟨y1, hy1⟩ := hbc 1 (by decide)
            simp only [Nat.add_zero] at hy0
            have f0 := hbf (i * 2)
            have f1 := hbf (i * 2 + 1)
            have CM := Lib.hid (fun W => mark_any n (by omega) W)
            clear hub hbt hbf hbc
            go_wp2_with fail
            go_region_with
              (first
                | (go_at_call 42; (with_reducible refine (CM.out _).mono ?_); rintro e W1 ⟨rfl, hk1⟩; have z0 := hk1.drewCell b0; have z1 := hk1.drewCell c0; have z2 := hk1.drewCell hy0; have z3 := hk1.drewCell hy1; obtain ⟨hbt1, hbf1⟩ := hk1.drewTyp HBT.out; have z4 := hbf1 (i * 2); have z5 := hbf1 (i * 2 + 1); have HBT1 := Lib.hid hbt1; have HK1 := Lib.hid hk1; clear hbt1 hbf1 hk1))
            all_goals
              have hkW : Kept (fun _ => True) wr W1 := ((Kept.refl _ wr).drew).tr HK1.out
              have HKS : Hid (Kept (· < B) w ((W1.setCell ⟨b, i * 2, none⟩ (S [])).setCell ⟨b, i * 2 + 1, none⟩ (S (markS n)))) := Lib.hid ((HK.out.trans hkW fun _ _ _ => trivial).trans (((Kept.refl (· ≠ b) W1).setCell (.inr (by simp)) _).setCell (.inr (by simp)) _) fun q _ ho e => by
                have := HLO.out _ (List.mem_of_getElem? HUu.out) b rfl
                omega)
              have HBS : Hid (StB gb B us ws [] [] ((W1.setCell ⟨b, i * 2, none⟩ (S [])).setCell ⟨b, i * 2 + 1, none⟩ (S (markS n)))) := Lib.hid ((HB.out.keptT hkW).set2 HBT1.out _ _ _ _)
              have HUS := Lib.hid ((HU.out.kr (KR.of hkW)).next2 HA.out mkF_len HUu.out (by show i < (fs n).length; rw [HM.out]; exact hli) (n := n) rfl)
              clear hkW
              go_wp2
              go_roundg (m - (i + 1))
              case rel => exact ⟨i + 1, by go_num, rfl, by omega, HBS, HUS, HKS⟩
              case measure => omega
          · obtain rfl : i = m := by omega
            have HUS := Lib.hid (show Ful 61 2 mkF us (fun j => (fs j).length) (fulled (fun j => (fs j).length) (n + 1)) wr from (HU.out.congr (ks' := upd (fulled (fun j => (fs j).length) n) n (fs n).length) fun _ _ => by rw [HM.out]).leave)
            go_wp2
            go_roundg (us.length - (n + 1))
            case rel => exact ⟨n + 1, by go_num, rfl, by omega, HB, HUS, HK⟩
            case measure => omega
      · obtain rfl : n = us.length := by omega
        clear hr0
        go_wp2
        go_meet
        exact ⟨HB, Lib.hid HU.out.all, HK⟩
  case rest =>
  clear HB HFZ HK
  obtain ⟨HB, HU, HK⟩ := hcut
  rename World => w3
  obtain ⟨lab0, hd0⟩ := OHd.start (mk := mkF) mkF_len HA.out HU.out
  have HD0 := Lib.hid hd0
  clear hd0 HU
  go_upto_block 6 with fail
  go_cut [] (fun wx => Hid (∃ rs zs lab, StB gb B us ws (gsOf rs) (ksOf rs) wx ∧ RdR 61 2 mkF zs lab wx ∧ Tel us us.length (8 * us.length) rs zs ∧ ∀ r ∈ zs, r.2 < us.length) ∧ Hid (Kept (· < B) w wx))
  case first =>
    go_wp2_with fail
    go_loopg [8, 9, 10] us.length (fun q x _ _ wr => ∃ (n : Nat) (rs zs : List (Value × Nat)) (lab : Nat → Nat), x = .int .i64 n ∧ q = us.length - n ∧ n ≤ us.length ∧ Hid (StB gb B us ws (gsOf rs) (ksOf rs) wr) ∧ Hid (OHd 61 2 mkF us (fun j => (fs j).length) n zs lab wr) ∧ Hid (Tel us n (8 * n) rs zs) ∧ Hid (Kept (· < B) w wr))
    case atStart => exact ⟨0, [], [], lab0, rfl, rfl, Nat.zero_le _, HB, HD0, Lib.hid ⟨rfl, fun r hr => (by cases hr), fun j u hj => absurd hj (Nat.not_lt_zero _)⟩, HK⟩
    case round =>
      clear HB HK HD0
      obtain ⟨n, rs, zs, lab, rfl, rfl, hn2, HB, HD, HC, HK⟩ := hrel
      obtain ⟨fa, fc, b0, hr0⟩ := HB.out.row0
      by_cases hlt : n < us.length
      · obtain ⟨u, hu⟩ : ∃ u, us[n]? = some u := ⟨_, List.getElem?_eq_getElem hlt⟩
        obtain ⟨-, -, gn, rfl, c0⟩ := rowCell hr0 hu
        have hl := HLS.out n hlt
        have hg0 := (HD.out.enter hu).record mkF_len
        obtain ⟨m, hm⟩ : ∃ m, (fs n).length = m := ⟨_, rfl⟩
        try simp only at hg0
        rw [hm] at hg0 hl
        have HG := Lib.hid hg0
        have HXB : Hid (∀ b, u.ownBlock = some b → B ≤ b) := Lib.hid fun b hb => HLO.out u (List.mem_of_getElem? hu) b hb
        have HC0 : Hid (Tel us (n + 1) (8 * n + 0) rs (zs ++ [(u, n)])) := Lib.hid ⟨HC.out.1, fun r hr => List.mem_append_left _ (HC.out.2.1 r hr), fun j v hj hv => by
          by_cases e : j = n
          · subst e
            rw [hu] at hv
            obtain rfl := Option.some.inj hv
            simp
          · exact List.mem_append_left _ (HC.out.2.2 j v (by omega) hv)⟩
        obtain ⟨ua, uc, rfl⟩ := row_form hg0.row
        clear hm hu hg0 HD HC hr0
        go_wp2_with fail
        go_loopg [9, 10] 8 (fun q x y wi => ∃ (i : Nat) (rs zs : List (Value × Nat)) (lab : Nat → Nat), y = .int .i64 i ∧ q = 8 - i ∧ i ≤ 8 ∧ Hid (StB gb B us ws (gsOf rs) (ksOf rs) wi) ∧ Hid (OGr 61 2 mkF us (fun j => (fs j).length) n x (m + i) zs lab wi) ∧ Hid (∀ b, x.ownBlock = some b → B ≤ b) ∧ Hid (Tel us (n + 1) (8 * n + i) rs zs) ∧ Hid (Kept (· < B) w wi))
        case atStart => exact ⟨0, rs, _, lab, rfl, rfl, by omega, HB, HG, HXB, HC0, HK⟩
        case round =>
          clear HB HG HXB HC0 HK b0 c0
          rename_i v9 v10
          obtain ⟨i, rs, zs, lab, rfl, rfl, hi, HB, HG, HXB, HC, HK⟩ := hrel
          obtain ⟨xa, xc, rfl⟩ := row_form HG.out.row
          have hrs : rs.length ≤ 80000000080 := by have := HC.out.1; omega
          have hBz := HB.out.size
          by_cases hli : i < 8
          · have hiI : (i : Int) < 8 := by omega
            go_wp2_with fail
            refine (mark_any n (by omega) _).mono ?_
            rintro e w4 ⟨rfl, hk4⟩
            have HB4 := Lib.hid (HB.out.keptT hk4)
            have HG4 := Lib.hid (HG.out.kr (KR.of hk4))
            have HK4 : Hid (Kept (· < B) w w4) := Lib.hid (HK.out.trans hk4 fun _ _ _ => trivial)
            have hz4 := hk4.size
            clear hk4 HB HG HK
            go_wp2_with (at_builtin; refine wpList_pushOne' 48 61 Tryz.underlying48 infoField rfl (by decide) rfl _ _ rfl 0 (.slice xa (m + i) xc) (m + i) (reps mkF n (m + i)) [S [], S (markS n)] w4 _ rfl rfl rfl (by intro u hu; simp at hu; rcases hu with rfl | rfl <;> rfl) 1 _ rfl rfl rfl HG4.out.row (by omega) (by decide) (by omega) ?_)
            intro x5 w5 k1 k2 k3
            obtain ⟨lab5, hg5⟩ := HG4.out.push mkF_len k3 (by rw [← reps_snoc]; exact k1)
            have HG5 := Lib.hid (hg5.record mkF_len)
            have HB5 := Lib.hid (HB4.out.movedT HG4.out.row k3 (by decide) (by decide) (by decide) (by decide))
            have HK5 : Hid (Kept (· < B) w w5) := Lib.hid (HK4.out.trans (k3.keptK k2) fun q _ ho e => by
              have := HXB.out q e
              omega)
            have HXB5 : Hid (∀ b, x5.ownBlock = some b → B ≤ b) := Lib.hid fun b hb => by
              rcases k3 with ⟨e, _⟩ | ⟨e, _⟩
              · exact HXB.out b (e ▸ hb)
              · have := e b hb; omega
            obtain ⟨xa5, xc5, rfl⟩ := row_form k1
            have hz5 := k2.size
            clear k1 k2 k3 hg5 HG4 HB4 HK4 HXB
            obtain ⟨ga, gc, b3, hr3, hp3⟩ := HB5.out.push3
            rw [gsOf_len] at b3
            have HR3 : Hid (w5.ownsRow B 48 1 (.slice ga rs.length gc) rs.length (gsOf rs)) := Lib.hid (by rw [gsOf_len] at hr3; exact hr3)
            have HP3 := Lib.hid hp3
            clear hr3 hp3
            go_wp2_with (at_builtin; refine wpList_pushOne' 34 48 Tryz.underlying34 infoRowF rfl (by decide) rfl _ _ rfl B (.slice ga rs.length gc) rs.length (gsOf rs) [.slice xa5 (m + i + 1) xc5] w5 _ rfl rfl rfl (by intro u hu; simp at hu; subst hu; rfl) 1 _ rfl rfl rfl HR3.out (by omega) (by decide) (by omega) ?_)
            intro g6 w6 k1 k2 k3
            obtain ⟨hB6, hkB6, c6, f6⟩ := HP3.out g6 w6 _ (by rw [gsOf_len]; exact k1) k2 (by rw [gsOf_len]; exact k3)
            obtain ⟨ga6, gc6, rfl⟩ := row_form k1
            rw [gsOf_len] at c6
            obtain ⟨W6, hW6⟩ : ∃ W6, w6.setCell ⟨gb, 3, none⟩ (.slice ga6 (rs.length + 1) gc6) = W6 := ⟨_, rfl⟩
            rw [hW6] at hB6 hkB6
            have HG6 := Lib.hid (HG5.out.kr (KR.ofFBk hkB6 (by decide) (by decide) (by decide) (by decide)))
            have HK6 : Hid (Kept (· < B) w W6) := Lib.hid (HK5.out.trans hkB6 fun q _ h => .inl h)
            have hz6 := hkB6.size
            clear k1 k2 k3 HP3 HR3 HB5 HG5 HK5 hkB6
            obtain ⟨ha, hc, b4, hr4, hp4⟩ := hB6.push4
            rw [ksOf_len] at b4
            have HR4 : Hid (W6.ownsRow B 3 1 (.slice ha rs.length hc) rs.length (ksOf rs)) := Lib.hid (by rw [ksOf_len] at hr4; exact hr4)
            have HP4 := Lib.hid hp4
            clear hr4 hp4 hB6 b3
            go_wp2_with (at_builtin; refine wpList_pushOne' 35 3 Tryz.underlying35 infoInt rfl (by decide) rfl _ _ rfl B (.slice ha rs.length hc) rs.length (ksOf rs) [.int .i64 (n : Nat)] W6 _ rfl rfl rfl (by intro u hu; simp at hu; subst hu; rfl) 1 _ rfl rfl rfl HR4.out (by omega) (by decide) (by omega) ?_)
            intro h7 w7 k1 k2 k3
            obtain ⟨hB7, hkB7, c7, f7⟩ := HP4.out h7 w7 _ (by rw [ksOf_len]; exact k1) k2 (by rw [ksOf_len]; exact k3)
            obtain ⟨ha7, hc7, rfl⟩ := row_form k1
            rw [ksOf_len] at c7
            clear hW6 c6 f6 b4
            obtain ⟨W7, hW7⟩ : ∃ W7, w7.setCell ⟨gb, 4, none⟩ (.slice ha7 (rs.length + 1) hc7) = W7 := ⟨_, rfl⟩
            rw [hW7] at hB7 hkB7
            have HG7 := Lib.hid (HG6.out.kr (KR.ofFBk hkB7 (by decide) (by decide) (by decide) (by decide)))
            have HK7 : Hid (Kept (· < B) w W7) := Lib.hid (HK6.out.trans hkB7 fun q _ h => .inl h)
            have HB7 : Hid (StB gb B us ws (gsOf (rs ++ [(Value.slice xa5 (m + i + 1) xc5, n)])) (ksOf (rs ++ [(Value.slice xa5 (m + i + 1) xc5, n)])) W7) := Lib.hid (by rw [gsOf_snoc, ksOf_snoc]; exact hB7)
            have HC7 : Hid (Tel us (n + 1) (8 * n + (i + 1)) (rs ++ [(Value.slice xa5 (m + i + 1) xc5, n)]) (zs ++ [(Value.slice xa5 (m + i + 1) xc5, n)])) := Lib.hid ⟨by rw [List.length_append, HC.out.1]; simp only [List.length_cons, List.length_nil]; omega, fun r hr => by
              rcases List.mem_append.1 hr with hr | hr
              · exact List.mem_append_left _ (HC.out.2.1 r hr)
              · exact List.mem_append_right _ hr, fun j v hj hv => List.mem_append_left _ (HC.out.2.2 j v hj hv)⟩
            clear k1 k2 k3 HP4 HR4 hB7 hkB7 HG6 HK6 HC
            go_wp2
            go_roundg (8 - (i + 1))
            case rel => exact ⟨i + 1, _, _, lab5, by go_num, rfl, by omega, HB7, HG7, HXB5, HC7, HK7⟩
            case measure => omega
          · obtain rfl : i = 8 := by omega
            have HC2 : Hid (Tel us (n + 1) (8 * (n + 1)) rs zs) := HC
            go_wp2
            go_roundg (us.length - (n + 1))
            case rel => exact ⟨n + 1, rs, zs, lab, by go_num, rfl, by omega, HB, Lib.hid HG.out.leave, HC2, HK⟩
            case measure => omega
      · obtain rfl : n = us.length := by omega
        clear hr0
        go_wp2
        go_meet
        exact ⟨Lib.hid ⟨rs, zs, lab, HB.out, fun r hr => (HD.out.recs r hr).2, HC.out, fun r hr => (HD.out.recs r hr).1⟩, HK⟩
  case rest =>
  clear HB HK HD0
  obtain ⟨HR, HK⟩ := hcut
  rename World => w4
  obtain ⟨rs, zs, lab, hB, hR, hC, hN⟩ := HR.out
  have HN := Lib.hid hN
  have HB := Lib.hid hB
  have HRR := Lib.hid hR
  have HC := Lib.hid hC
  clear HR hB hR hC hN
  go_upto_block 10 with fail
  go_cut [] (fun wx => Hid (Kept (fun _ => True) w4 wx))
  case first =>
    go_wp2_with fail
    go_loopg [11] us.length (fun q x wr => ∃ n : Nat, x = .int .i64 n ∧ q = us.length - n ∧ n ≤ us.length ∧ Hid (Kept (fun _ => True) w4 wr))
    case atStart => exact ⟨0, rfl, rfl, Nat.zero_le _, Lib.hid (Kept.refl _ _)⟩
    case round =>
      obtain ⟨n, rfl, rfl, hn2, HKR⟩ := hrel
      obtain ⟨fa, fc, b0, hr0⟩ := (HB.out.keptT HKR.out).row0
      by_cases hlt : n < us.length
      · obtain ⟨u, hu⟩ : ∃ u, us[n]? = some u := ⟨_, List.getElem?_eq_getElem hlt⟩
        obtain ⟨-, -, gf, rfl, c0⟩ := rowCell hr0 hu
        have HRW := Lib.hid (fun W (hk : Kept (fun _ => True) wr W) => (HRR.out.kr (KR.of (HKR.out.tr hk))) (u, n) (HC.out.2.2 n u hlt hu))
        obtain ⟨ua, ul, uc, hux, hl, -⟩ := (HRW.out wr (Kept.refl _ _)).form
        simp only at hux
        subst hux
        have CM := Lib.hid (fun W => mark_any n (by omega) W)
        clear hr0 hu
        have RC := Lib.hid (fun W (hk : Kept (fun _ => True) wr W) => reads_rec (HRW.out W hk))
        have HKD : Hid (Kept (fun _ => True) wr wr.drew) := Lib.hid (Kept.refl _ _).drew
        clear HRW
        go_wp2
        go_region_held3 (fun wz => wz.cell? ⟨gb, 0, none⟩ = some (.slice (some ⟨gf, 0, none⟩) us.length fc) ∧ wz.cell? ⟨gf, n, none⟩ = some (.slice ua ul uc)) (go_keep)
          (first
            | (go_at_call 42; (with_reducible refine (CM.out _).mono ?_); rintro e W1 ⟨rfl, hk1⟩; have y0 := hk1.drewCell b0; have y1 := hk1.drewCell c0; have HK1 := Lib.hid (HKD.out.tr hk1); clear hk1)
            | (go_at_call 43; (with_reducible refine (RC.out _ HK1.out).mono ?_); rintro e W2 ⟨rfl, hk2⟩; have y2 := (hk2.cell (cell_isLt y0) trivial).trans y0; have y3 := (hk2.cell (cell_isLt y1) trivial).trans y1; have HK2 := Lib.hid (HKR.out.tr (HK1.out.tr hk2)); clear hk2))
        go_wp2
        go_roundg (us.length - (n + 1))
        case rel => exact ⟨n + 1, by go_num, rfl, by omega, HK2⟩
        case measure => omega
      · obtain rfl : n = us.length := by omega
        clear hr0
        go_wp2
        go_meet
        exact HKR
  case rest =>
  have HKR := hcut
  have HB5 := Lib.hid (HB.out.keptT HKR.out)
  have HRR5 := Lib.hid (HRR.out.kr (KR.of HKR.out))
  have HK5 : Hid (Kept (· < B) w wc) := Lib.hid (HK.out.trans HKR.out fun _ _ _ => trivial)
  rename World => w5
  have hrsl : rs.length ≤ 80000000080 := by have := HC.out.1; omega
  clear HKR HB HRR HK
  go_wp2_with fail
  go_loopg [13] rs.length (fun q x wr => ∃ n : Nat, x = .int .i64 n ∧ q = rs.length - n ∧ n ≤ rs.length ∧ Hid (Kept (fun _ => True) w5 wr))
  case atStart => exact ⟨0, rfl, rfl, Nat.zero_le _, Lib.hid (Kept.refl _ _)⟩
  case round =>
    obtain ⟨n, rfl, rfl, hn2, HKR⟩ := hrel
    obtain ⟨fa, fc, b0, hr0⟩ := (HB5.out.keptT HKR.out).row3
    rw [gsOf_len] at b0 hr0
    by_cases hlt : n < rs.length
    · obtain ⟨ga, gc, b1, hr1⟩ := (HB5.out.keptT HKR.out).row4
      rw [ksOf_len] at b1 hr1
      obtain ⟨⟨u, k⟩, hr⟩ : ∃ r, rs[n]? = some r := ⟨_, List.getElem?_eq_getElem hlt⟩
      have hu : (gsOf rs)[n]? = some u := by unfold gsOf; rw [List.getElem?_map, hr]; rfl
      have hk : (ksOf rs)[n]? = some (.int .i64 (k : Nat)) := by unfold ksOf; rw [List.getElem?_map, hr]; rfl
      obtain ⟨-, -, gf, rfl, c0⟩ := rowCell hr0 hu
      obtain ⟨-, -, gw, rfl, c1⟩ := rowCell hr1 hk
      have HRW := Lib.hid (fun W (hk : Kept (fun _ => True) wr W) => (HRR5.out.kr (KR.of (HKR.out.tr hk))) (u, k) (HC.out.2.1 _ (List.mem_of_getElem? hr)))
      obtain ⟨ua, ul, uc, hux, hl, -⟩ := (HRW.out wr (Kept.refl _ _)).form
      simp only at hux
      subst hux
      have hk9 : k < 4611686018427387904 := by have := HN.out _ (HC.out.2.1 _ (List.mem_of_getElem? hr)); simp only at this; omega
      have CM := Lib.hid (fun W => mark_any k hk9 W)
      have RC := Lib.hid (fun W (hk : Kept (fun _ => True) wr W) => reads_rec (HRW.out W hk))
      have HKD : Hid (Kept (fun _ => True) wr wr.drew) := Lib.hid (Kept.refl _ _).drew
      clear hr0 hr1 hr hu hk HRW
      go_wp2
      go_region_held3 (fun wz => wz.cell? ⟨gb, 3, none⟩ = some (.slice (some ⟨gf, 0, none⟩) rs.length fc) ∧ wz.cell? ⟨gf, n, none⟩ = some (.slice ua ul uc) ∧ wz.cell? ⟨gb, 4, none⟩ = some (.slice (some ⟨gw, 0, none⟩) rs.length gc) ∧ wz.cell? ⟨gw, n, none⟩ = some (.int .i64 (k : Nat))) (go_keep)
        (first
          | (go_at_call 42; (with_reducible refine (CM.out _).mono ?_); rintro e W1 ⟨rfl, hk1⟩; have y0 := hk1.drewCell b0; have y1 := hk1.drewCell c0; have y2 := hk1.drewCell b1; have y3 := hk1.drewCell c1; have HK1 := Lib.hid (HKD.out.tr hk1); clear hk1)
          | (go_at_call 43; (with_reducible refine (RC.out _ HK1.out).mono ?_); rintro e W2 ⟨rfl, hk2⟩; have x0 := (hk2.cell (cell_isLt y0) trivial).trans y0; have x1 := (hk2.cell (cell_isLt y1) trivial).trans y1; have x2 := (hk2.cell (cell_isLt y2) trivial).trans y2; have x3 := (hk2.cell (cell_isLt y3) trivial).trans y3; have HK2 := Lib.hid (HKR.out.tr (HK1.out.tr hk2)); clear hk2))
      go_wp2
      go_roundg (rs.length - (n + 1))
      case rel => exact ⟨n + 1, by go_num, rfl, by omega, HK2⟩
      case measure => omega
    · obtain rfl : n = rs.length := by omega
      clear hr0
      go_wp2
      go_ret
      exact ⟨rfl, HK5.out.trans HKR.out fun _ _ _ => trivial⟩
end Go.Proofs.YtaomhkgdbobpkaaGreatDoor
