/- Walks of the law of layer 5, its book: lists of messages that came out are looked at, written full, grown, and looked at again. -/
import Derived.Test.YtaomhkgdbobpkaaGreatDoorWiT6
namespace Go.Proofs.YtaomhkgdbobpkaaGreatDoor
open Go.RowKit Wi

theorem infoRowM : (Tryz.prog.info? 39).map (fun i => (i.zero, i.size, i.bytes)) = some (some (.slice none 0 0), 1, 24) := by kernel_rfl
def mkM (n : Nat) : List Value := [S [], S [], .slice none 0 0, S (markS n)]
theorem mkM_len (n : Nat) : (mkM n).length = 4 := rfl
/-- The messages of a list that came out. -/
abbrev msO (l : List (R × Value)) : List Msg := (l.map (·.1)).map msgOf
/-- Lists of messages that came out, and what they must be. -/
structure ColM (B : Nat) (ms ns : List Value) (L N : List (List (R × Value))) (w : World) : Prop where
  lm : ms.length = L.length
  ln : ns.length = N.length
  ll : L.length = N.length
  om : ∀ (j : Nat) u l, ms[j]? = some u → L[j]? = some l → w.ownsRow 0 50 4 u l.length (outCells l)
  on : ∀ (j : Nat) u l, ns[j]? = some u → N[j]? = some l → w.ownsRow 0 50 4 u l.length (outCells l)
  same : ∀ (j : Nat) l k, L[j]? = some l → N[j]? = some k → msO l = msO k
  hm : ∀ l ∈ L, ∀ x ∈ l, OwnF x.2 x.1.hs w ∧ x.1.hs.length ≤ 32
  hn : ∀ l ∈ N, ∀ x ∈ l, OwnF x.2 x.1.hs w ∧ x.1.hs.length ≤ 32
  nd : (blks ms).Nodup
  lo : ∀ b ∈ blks ms, B ≤ b
/-- A row of messages is one that can be read. -/
theorem rowm_of {B : Nat} {v : Value} {l : List (R × Value)} {w : World} (h : w.ownsRow B 50 4 v l.length (outCells l)) (hs : ∀ x ∈ l, OwnF x.2 x.1.hs w) : RowM w v (msO l) := by
  rcases h.2 with ⟨rfl, h0⟩ | ⟨g, cap, cur, rfl, hB, hg, hnc, hcap, hat⟩
  · exact .inl ⟨none, 0, by simp, by rw [List.eq_nil_of_length_eq_zero h0]; rfl⟩
  · refine .inr ⟨g, 0, cap, by simp, by simpa using hnc, (Array.getElem?_eq_some_iff.1 hg).1, fun j m hj => ?_⟩
    unfold msO at hj
    rw [List.map_map, List.getElem?_map] at hj
    obtain ⟨x, hx, rfl⟩ := Option.map_eq_some_iff.1 hj
    have hl : j < l.length := (List.getElem?_eq_some_iff.1 hx).1
    obtain ⟨e0, e1, e2, e3⟩ := outCells_at hx
    rw [Nat.zero_add]
    exact ⟨(World.ownsRow.cellAt h (j * 4) (by omega)).trans e0, (World.ownsRow.cellAt h (j * 4 + 1) (by omega)).trans e1, (World.ownsRow.cellAt h (j * 4 + 3) (by omega)).trans e3, x.2, (World.ownsRow.cellAt h (j * 4 + 2) (by omega)).trans e2, rowf_of (hs x (List.mem_of_getElem? hx))⟩
/-- The book, as far as outer looks at it. -/
def StM (gb B : Nat) (xs : Nat → List Value) (qs : List Value) (w : World) : Prop := ∃ vs, Bk gb B vs (up xs 7 qs) w
section
variable {gb B : Nat} {xs : Nat → List Value} {qs : List Value} {w w' : World}
theorem StM.keptT (h : StM gb B xs qs w) (hk : Kept (fun _ => True) w w') : StM gb B xs qs w' := by
  obtain ⟨vs, hb⟩ := h
  exact ⟨vs, hb.keptT hk⟩
theorem StM.size (h : StM gb B xs qs w) : B ≤ w.heap.size := by
  obtain ⟨vs, hb⟩ := h
  exact hb.size
theorem StM.row5 {ms : List Value} (h : StM gb B xs qs w) (e : xs 5 = ms) : ∃ a c, w.cell? ⟨gb, 5, none⟩ = some (.slice a ms.length c) ∧ w.ownsRow B 39 1 (.slice a ms.length c) ms.length ms := by
  subst e
  obtain ⟨vs, hb⟩ := h
  obtain ⟨a, c, hf⟩ := hb.form (i := 5) (by decide)
  exact ⟨a, c, hf ▸ hb.cell 5 (by decide), hf ▸ hb.row 5 (by decide)⟩
theorem StM.row6 {ns : List Value} (h : StM gb B xs qs w) (e : xs 6 = ns) : ∃ a c, w.cell? ⟨gb, 6, none⟩ = some (.slice a ns.length c) ∧ w.ownsRow B 39 1 (.slice a ns.length c) ns.length ns := by
  subst e
  obtain ⟨vs, hb⟩ := h
  obtain ⟨a, c, hf⟩ := hb.form (i := 6) (by decide)
  exact ⟨a, c, hf ▸ hb.cell 6 (by decide), hf ▸ hb.row 6 (by decide)⟩
theorem StM.row7 (h : StM gb B xs qs w) : ∃ a c, w.cell? ⟨gb, 7, none⟩ = some (.slice a qs.length c) ∧ w.ownsRow B 39 1 (.slice a qs.length c) qs.length qs := by
  obtain ⟨vs, hb⟩ := h
  obtain ⟨a, c, hf⟩ := hb.form (i := 7) (by decide)
  rw [up_same] at hf
  have h1 := hb.cell 7 (by decide)
  have h2 := hb.row 7 (by decide)
  rw [up_same] at h2
  exact ⟨a, c, hf ▸ h1, hf ▸ h2⟩
theorem StM.movedT {C n size : Nat} {ys : List Value} {T : TypeId} {v v' : Value} (h : StM gb B xs qs w) (ho : w.ownsRow C T size v n ys) (hm : Moved v v' w w') (h1 : 48 ≠ T) (h2 : 3 ≠ T) (h3 : 39 ≠ T) (h4 : 38 ≠ T) : StM gb B xs qs w' := by
  obtain ⟨vs, hb⟩ := h
  exact ⟨vs, hb.movedT ho hm h1 h2 h3 h4⟩
theorem up_up {α : Type} (f : Nat → α) (n : Nat) (x y : α) : up (up f n x) n y = up f n y := by
  funext j
  unfold up
  by_cases h : j = n
  · rw [if_pos h, if_pos h]
  · rw [if_neg h, if_neg h, if_neg h]
theorem up_self {α : Type} {f : Nat → α} {n : Nat} {x : α} (h : f n = x) : up f n x = f := by
  funext j
  unfold up
  by_cases hj : j = n
  · rw [if_pos hj, hj, h]
  · rw [if_neg hj]
theorem StM.push7 (h : StM gb B xs qs w) : ∃ a c, w.cell? ⟨gb, 7, none⟩ = some (.slice a qs.length c) ∧ w.ownsRow B 39 1 (.slice a qs.length c) qs.length qs ∧ ∀ v' w' u, w'.ownsRow B 39 1 v' (qs.length + 1) (qs ++ [u]) → Below B w w' → Moved (.slice a qs.length c) v' w w' →
    StM gb B xs (qs ++ [u]) (w'.setCell ⟨gb, 7, none⟩ v') ∧ Kept (FBk B w) w (w'.setCell ⟨gb, 7, none⟩ v') ∧ w'.cell? ⟨gb, 7, none⟩ = some (.slice a qs.length c) ∧ w'.frozen? ⟨gb, 7, none⟩ = false := by
  obtain ⟨vs, hb⟩ := h
  obtain ⟨a, c, hf⟩ := hb.form (i := 7) (by decide)
  have h1 := hb.cell 7 (by decide)
  have h2 := hb.row 7 (by decide)
  rw [up_same] at hf h2
  refine ⟨a, c, hf ▸ h1, hf ▸ h2, fun v' w' u k1 k2 k3 => ?_⟩
  obtain ⟨hB1, hkB1, hnb1, hgb1⟩ := hb.push (i := 7) (u := u) (by decide) (by rw [up_same]; exact k1) k2 (by rw [hf]; exact k3)
  obtain ⟨x0, x9⟩ := hb.at2 hgb1 7 (by decide)
  rw [up_same, up_up] at hB1
  exact ⟨⟨_, hB1⟩, hkB1, hf ▸ x0, x9⟩
theorem StM.set4 (h : StM gb B xs qs w) {b : Nat} (hb : ∃ c, w.heap[b]? = some (.cells c 50 (0, 0))) (o0 o1 o2 o3 : Nat) (x0 x1 x2 x3 : Value) : StM gb B xs qs ((((w.setCell ⟨b, o0, none⟩ x0).setCell ⟨b, o1, none⟩ x1).setCell ⟨b, o2, none⟩ x2).setCell ⟨b, o3, none⟩ x3) := by
  obtain ⟨vs, hbk⟩ := h
  refine ⟨vs, hbk.keptB (by simp [World.setCell]) fun g c T hg hT => ?_⟩
  have hne : g ≠ b := fun e2 => by
    subst e2
    obtain ⟨c', hc'⟩ := hb
    have := typ_eq hg hc'
    subst this
    rcases hT with h | h | h | h <;> exact absurd h (by decide)
  exact (Below.heap_setCell _ _ _ _ hne).trans ((Below.heap_setCell _ _ _ _ hne).trans ((Below.heap_setCell _ _ _ _ hne).trans (Below.heap_setCell _ _ _ _ hne)))
end
theorem kept_four (w : World) (g o0 o1 o2 o3 : Nat) (a b c d : Value) : Kept (· ≠ g) w ((((w.setCell ⟨g, o0, none⟩ a).setCell ⟨g, o1, none⟩ b).setCell ⟨g, o2, none⟩ c).setCell ⟨g, o3, none⟩ d) :=
  ((((Kept.refl _ w).setCell (.inr (by simp)) _).setCell (.inr (by simp)) _).setCell (.inr (by simp)) _).setCell (.inr (by simp)) _
theorem FKeep.trans {B : Nat} {a b c : World} (h : Kept (FKeep B a) a b) (k : Kept (FKeep B b) b c) : Kept (FKeep B a) a c :=
  h.trans k fun i hi hF => by
    rcases hF with hF | ⟨c, hc⟩
    · exact .inl hF
    · exact .inr ⟨c, (h.block i hi (.inr ⟨c, hc⟩)).trans hc⟩
theorem FKeep.all {B : Nat} {a b : World} (h : Kept (fun _ => True) a b) : Kept (FKeep B a) a b := h.mono fun _ _ _ => trivial
theorem FKeep.book {B : Nat} {a b : World} (h : Kept (FBk B a) a b) : Kept (FKeep B a) a b := h.mono fun i _ hF => by
  rcases hF with hF | ⟨c, hc⟩
  · exact .inl hF
  · exact .of hc (by decide) (by decide) (by decide) (by decide)
theorem cnt8 {rs : List (Value × Nat)} {n i : Nat} {x : Value} (h : rs.length = 8 * n + i ∧ ∀ (k : Nat) r, rs[k]? = some r → r.2 = k / 8) (hi : i < 8) :
    (rs ++ [(x, n)]).length = 8 * n + (i + 1) ∧ ∀ (k : Nat) r, (rs ++ [(x, n)])[k]? = some r → r.2 = k / 8 := by
  obtain ⟨h1, h2⟩ := h
  refine ⟨by rw [List.length_append, h1]; simp; omega, fun k r hr => ?_⟩
  rcases get_snoc hr with hr | ⟨rfl, rfl⟩
  · exact h2 k r hr
  · show n = rs.length / 8
    omega
theorem mark_eighth (n : Nat) (hn : n < 4611686018427387904) (W : World) : Calls Tryz.prog 42 #[.int .i64 ((n : Int) / 8)] W fun e w' => e = .returned (.agg #[S [], S (markS (n / 8))]) ∧ Kept (fun _ => True) W w' := by
  rw [show (n : Int) / 8 = ((n / 8 : Nat) : Int) by omega]
  exact mark_any (n / 8) (by omega) W
theorem field_val (a b : List UInt8) : ∀ W : World, (Instr.field 61 (.agg #[S a, S b]) 1).run Tryz.prog W = .ok (S b) W := fun _ => by kernel_rfl
set_option maxHeartbeats 16000000 in
set_option maxRecDepth 100000 in
theorem outer_any (gb B : Nat) (vs : Nat → Value) (xs : Nat → List Value) (ms ns : List Value) (L N : List (List (R × Value))) (w : World) (h : Bk gb B vs xs w) (e5 : xs 5 = ms) (e6 : xs 6 = ns) (e7 : xs 7 = []) (hc : ColM B ms ns L N w) (hn : ms.length ≤ 10000000000) (hl : ∀ l ∈ L, l.length ≤ 10000000000) :
    Calls Tryz.prog 40 #[.pointer (some ⟨gb, 0, none⟩)] w (OuterQ gb B xs w) := by
  have HA := Lib.hid (apart_of ms hc.nd)
  have HLO := Lib.hid hc.lo
  have HX5 := Lib.hid e5
  have HX6 := Lib.hid e6
  have HC := Lib.hid hc
  have HLL := Lib.hid hl
  have HB : Hid (StM gb B xs [] w) := Lib.hid ⟨vs, by rw [up_self e7]; exact h⟩
  have hnl : ns.length = ms.length := by rw [hc.ln, hc.lm, hc.ll]
  clear h e5 e6 e7 hc hl
  go_enter Tryz.func40, Tryz.ntmps40
  go_upto_block 0 with fail
  go_cut [] (fun wx => Hid (Kept (fun _ => True) w wx))
  case first =>
    go_wp2_with fail
    go_loopg [3] ms.length (fun q x wr => ∃ n : Nat, x = .int .i64 n ∧ q = ms.length - n ∧ n ≤ ms.length ∧ Hid (Kept (fun _ => True) w wr))
    case atStart => exact ⟨0, rfl, rfl, Nat.zero_le _, Lib.hid (Kept.refl _ _)⟩
    case round =>
      obtain ⟨n, rfl, rfl, hn2, HKR⟩ := hrel
      obtain ⟨fa, fc, b0, hr0⟩ := (HB.out.keptT HKR.out).row5 HX5.out
      by_cases hlt : n < ms.length
      · obtain ⟨ga, gc, b1, hr1⟩ := (HB.out.keptT HKR.out).row6 HX6.out
        rw [hnl] at b1 hr1
        obtain ⟨u, hu⟩ : ∃ u, ms[n]? = some u := ⟨_, List.getElem?_eq_getElem hlt⟩
        obtain ⟨v, hv⟩ : ∃ v, ns[n]? = some v := ⟨_, List.getElem?_eq_getElem (by omega)⟩
        obtain ⟨l, hll⟩ := get_len hu HC.out.lm
        obtain ⟨k, hkk⟩ := get_len hv HC.out.ln
        obtain ⟨-, -, gf, rfl, c0⟩ := rowCell hr0 hu
        obtain ⟨-, -, gw, rfl, c1⟩ := rowCell hr1 hv
        have hou := HC.out.om n u l hu hll
        have hov := HC.out.on n v k hv hkk
        have hsm := HC.out.same n l k hll hkk
        have hhl := HC.out.hm l (List.mem_of_getElem? hll)
        have hhk := HC.out.hn k (List.mem_of_getElem? hkk)
        have hlb := HLL.out l (List.mem_of_getElem? hll)
        have hlk : k.length = l.length := by have := congrArg List.length hsm; simp only [List.length_map] at this; omega
        have FC := Lib.hid (fun W (hk : Kept (fun _ => True) wr W) => messages_any (msO l) (msO k) u v W (rowm_of (ownsRow_kept hou (HKR.out.tr hk) fun _ _ => trivial) fun x hx => ownsRow_kept (hhl x hx).1 (HKR.out.tr hk) fun _ _ => trivial) (rowm_of (ownsRow_kept hov (HKR.out.tr hk) fun _ _ => trivial) fun x hx => ownsRow_kept (hhk x hx).1 (HKR.out.tr hk) fun _ _ => trivial)
          ⟨by simp only [List.length_map]; omega, fun x hx => by
            unfold msO at hx
            rw [List.map_map] at hx
            obtain ⟨y, hy, rfl⟩ := List.mem_map.1 hx
            have := (hhl y hy).2
            show y.1.hs.length ≤ _
            omega⟩ ⟨by simp only [List.length_map]; omega, fun x hx => by
            unfold msO at hx
            rw [List.map_map] at hx
            obtain ⟨y, hy, rfl⟩ := List.mem_map.1 hx
            have := (hhk y hy).2
            show y.1.hs.length ≤ _
            omega⟩)
        have HSM := Lib.hid hsm
        have HKD : Hid (Kept (fun _ => True) wr wr.drew) := Lib.hid (Kept.refl _ _).drew
        obtain ⟨ua, uc, rfl⟩ := row_form hou
        obtain ⟨va, vc, rfl⟩ := row_form hov
        clear hr0 hr1 hu hv hou hov hsm hhl hhk hll hkk hlk hlb
        go_wp2
        go_region_held3 (fun wz => wz.cell? ⟨gb, 5, none⟩ = some (.slice (some ⟨gf, 0, none⟩) ms.length fc) ∧ wz.cell? ⟨gf, n, none⟩ = some (.slice ua l.length uc) ∧ wz.cell? ⟨gb, 6, none⟩ = some (.slice (some ⟨gw, 0, none⟩) ms.length gc) ∧ wz.cell? ⟨gw, n, none⟩ = some (.slice va k.length vc)) (go_keep)
          (first
            | (go_at_call 15; (with_reducible refine (FC.out _ HKD.out).mono ?_); rintro e W1 ⟨⟨q, rfl, hq⟩, hk1⟩; have y0 := hk1.drewCell b0; have y1 := hk1.drewCell c0; have y2 := hk1.drewCell b1; have y3 := hk1.drewCell c1; have HK1 := Lib.hid (HKR.out.tr (HKD.out.tr hk1)); obtain rfl : q = true := hq.2 HSM.out; clear hq hk1))
        go_wp2
        go_roundg (ms.length - (n + 1))
        case rel => exact ⟨n + 1, by go_num, rfl, by omega, HK1⟩
        case measure => omega
      · obtain rfl : n = ms.length := by omega
        clear hr0
        go_wp2
        go_meet
        exact HKR
  case rest =>
  have HK0 := hcut
  have HB1 := Lib.hid (HB.out.keptT HK0.out)
  have HK1 : Hid (Kept (FKeep B w) w wc) := Lib.hid (FKeep.all HK0.out)
  obtain ⟨ls, hls⟩ : ∃ ls : Nat → Nat, ∀ (j : Nat) l, L[j]? = some l → ls j = l.length := ⟨fun j => (L.getD j []).length, fun j l hl => by simp only [List.getD_eq_getElem?_getD, hl, Option.getD_some]⟩
  have HU0 : Hid (∀ (j : Nat) u, ms[j]? = some u → ∃ ys, wc.ownsRow 0 50 4 u (ls j) ys) := Lib.hid fun j u hu => by
    obtain ⟨l, hl⟩ := get_len hu HC.out.lm
    rw [hls j l hl]
    exact ⟨_, ownsRow_kept (HC.out.om j u l hu hl) HK0.out fun _ _ => trivial⟩
  have HLS : Hid (∀ j, j < ms.length → ls j ≤ 10000000000) := Lib.hid fun j hj => by
    obtain ⟨l, hl⟩ := get_len (List.getElem?_eq_getElem hj) HC.out.lm
    rw [hls j l hl]
    exact HLL.out l (List.mem_of_getElem? hl)
  have HFZ : Hid (Ful 50 4 mkM ms ls (fulled ls 0) wc) := Lib.hid (Ful.full0 (Ful.start HU0.out))
  clear HB HC HLL HU0 HK0 hls hcut
  rename World => w2
  go_upto_block 2 with fail
  go_cut [] (fun wx => Hid (StM gb B xs [] wx) ∧ Hid (Ful 50 4 mkM ms ls ls wx) ∧ Hid (Kept (FKeep B w) w wx))
  case first =>
    go_wp2_with fail
    go_loopg [5] ms.length (fun q x wr => ∃ n : Nat, x = .int .i64 n ∧ q = ms.length - n ∧ n ≤ ms.length ∧ Hid (StM gb B xs [] wr) ∧ Hid (Ful 50 4 mkM ms ls (fulled ls n) wr) ∧ Hid (Kept (FKeep B w) w wr))
    case atStart => exact ⟨0, rfl, rfl, Nat.zero_le _, HB1, HFZ, HK1⟩
    case round =>
      clear HB1 HFZ HK1
      obtain ⟨n, rfl, rfl, hn2, HB, HU, HK⟩ := hrel
      obtain ⟨fa, fc, b0, hr0⟩ := HB.out.row5 HX5.out
      by_cases hlt : n < ms.length
      · obtain ⟨u, hu⟩ : ∃ u, ms[n]? = some u := ⟨_, List.getElem?_eq_getElem hlt⟩
        obtain ⟨-, -, gn, rfl, c0⟩ := rowCell hr0 hu
        obtain ⟨ua, uc, rfl⟩ := HU.out.form hu
        have hl := HLS.out n hlt
        obtain ⟨m, hm⟩ : ∃ m, ls n = m := ⟨_, rfl⟩
        have HM := Lib.hid hm
        have HUu := Lib.hid hu
        rw [hm] at c0 hl
        have hn0 : (0 : Int) ≤ (n : Int) := by omega
        have hn1 : (n : Int) < (ms.length : Int) := by omega
        clear hm hu hr0
        go_wp2_with fail
        go_loopg [6] m (fun q x wi => ∃ i : Nat, x = .int .i64 i ∧ q = m - i ∧ i ≤ m ∧ Hid (StM gb B xs [] wi) ∧ Hid (Ful 50 4 mkM ms ls (upd (fulled ls n) n i) wi) ∧ Hid (Kept (FKeep B w) w wi))
        case atStart => exact ⟨0, rfl, rfl, Nat.zero_le _, HB, Lib.hid HU.out.enter, HK⟩
        case round =>
          clear HB HU HK b0 c0
          obtain ⟨i, rfl, rfl, hi, HB, HU, HK⟩ := hrel
          obtain ⟨fa, fc, b0, hr0⟩ := HB.out.row5 HX5.out
          obtain ⟨-, -, gn, rfl, c0⟩ := rowCell hr0 HUu.out
          rw [HM.out] at c0
          clear hr0
          by_cases hli : i < m
          · obtain ⟨b, cap, hub, hbl, hbt, hbf, hbc⟩ := HU.out.place HUu.out (by rw [HM.out]; exact hli)
            obtain ⟨rfl, -, rfl⟩ : ua = some ⟨b, 0, none⟩ ∧ ls n = ls n ∧ uc = cap := by simpa using hub
            have HBT := Lib.hid hbt
            have hi0 : (0 : Int) ≤ (i : Int) := by omega
            have hi1 : (i : Int) < (m : Int) := by omega
            obtain ⟨y0, hy0⟩ := hbc 0 (by decide)
            obtain ⟨y1, hy1⟩ := hbc 1 (by decide)
            obtain ⟨y2, hy2⟩ := hbc 2 (by decide)
            obtain ⟨y3, hy3⟩ := hbc 3 (by decide)
            simp only [Nat.add_zero] at hy0
            have CM := Lib.hid (fun W => mark_any n (by omega) W)
            have FV := field_val [] (markS n)
            clear hub hbt hbf hbc
            go_wp2_with fail
            go_region_with
              (first
                | (go_at_call 42; (with_reducible refine (CM.out _).mono ?_); rintro e W1 ⟨rfl, hk1⟩; have z0 := hk1.drewCell b0; have z1 := hk1.drewCell c0; have z2 := hk1.drewCell hy0; have z3 := hk1.drewCell hy1; have z4 := hk1.drewCell hy2; have z5 := hk1.drewCell hy3; obtain ⟨hbt1, hbf1⟩ := hk1.drewTyp HBT.out; have f0 := hbf1 (i * 4); have f1 := hbf1 (i * 4 + 1); have f2 := hbf1 (i * 4 + 2); have f3 := hbf1 (i * 4 + 3); have HBT1 := Lib.hid hbt1; have HK1 := Lib.hid hk1; clear hbt1 hbf1 hk1))
            all_goals
              have hkW : Kept (fun _ => True) wr W1 := ((Kept.refl _ wr).drew).tr HK1.out
              have HKS : Hid (Kept (FKeep B w) w ((((W1.setCell ⟨b, i * 4, none⟩ (S [])).setCell ⟨b, i * 4 + 1, none⟩ (S [])).setCell ⟨b, i * 4 + 2, none⟩ (.slice none 0 0)).setCell ⟨b, i * 4 + 3, none⟩ (S (markS n)))) := Lib.hid (FKeep.trans HK.out (FKeep.trans (FKeep.all hkW) ((kept_four W1 b _ _ _ _ _ _ _ _).mono fun q _ ho e => by
                subst e
                rcases ho with ho | ⟨c, hc⟩
                · have h1 : B ≤ q := HLO.out q (mem_blks HUu.out rfl)
                  omega
                · obtain ⟨c', hc'⟩ := HBT1.out
                  exact absurd (typ_eq hc hc') (by decide))))
              have HBS : Hid (StM gb B xs [] ((((W1.setCell ⟨b, i * 4, none⟩ (S [])).setCell ⟨b, i * 4 + 1, none⟩ (S [])).setCell ⟨b, i * 4 + 2, none⟩ (.slice none 0 0)).setCell ⟨b, i * 4 + 3, none⟩ (S (markS n)))) := Lib.hid ((HB.out.keptT hkW).set4 HBT1.out _ _ _ _ _ _ _ _)
              have HUS := Lib.hid ((HU.out.kr (KR.of hkW)).next4 HA.out mkM_len HUu.out (by rw [HM.out]; exact hli) (n := n) rfl)
              clear hkW
              go_wp2
              go_roundg (m - (i + 1))
              case rel => exact ⟨i + 1, by go_num, rfl, by omega, HBS, HUS, HKS⟩
              case measure => omega
          · obtain rfl : i = m := by omega
            have HUS := Lib.hid (show Ful 50 4 mkM ms ls (fulled ls (n + 1)) wr from (HU.out.congr (ks' := upd (fulled ls n) n (ls n)) fun _ _ => by rw [HM.out]).leave)
            go_wp2
            go_roundg (ms.length - (n + 1))
            case rel => exact ⟨n + 1, by go_num, rfl, by omega, HB, HUS, HK⟩
            case measure => omega
      · obtain rfl : n = ms.length := by omega
        clear hr0
        go_wp2
        go_meet
        exact ⟨HB, Lib.hid HU.out.all, HK⟩
  case rest =>
  clear HB1 HFZ HK1
  obtain ⟨HB, HU, HK⟩ := hcut
  rename World => w3
  obtain ⟨lab0, hd0⟩ := OHd.start (mk := mkM) mkM_len HA.out HU.out
  have HD0 := Lib.hid hd0
  clear hd0 HU
  go_upto_block 6 with fail
  go_cut [] (fun wx => Hid (∃ rs lab, StM gb B xs (gsOf rs) wx ∧ RdR 50 4 mkM rs lab wx ∧ rs.length = 8 * ms.length ∧ ∀ (k : Nat) r, rs[k]? = some r → r.2 = k / 8) ∧ Hid (Kept (FKeep B w) w wx))
  case first =>
    go_wp2_with fail
    go_loopg [7, 8, 9] ms.length (fun q x _ _ wr => ∃ (n : Nat) (rs : List (Value × Nat)) (lab : Nat → Nat), x = .int .i64 n ∧ q = ms.length - n ∧ n ≤ ms.length ∧ Hid (StM gb B xs (gsOf rs) wr) ∧ Hid (OHd 50 4 mkM ms ls n rs lab wr) ∧ Hid (rs.length = 8 * n ∧ ∀ (k : Nat) r, rs[k]? = some r → r.2 = k / 8) ∧ Hid (Kept (FKeep B w) w wr))
    case atStart => exact ⟨0, [], lab0, rfl, rfl, Nat.zero_le _, HB, HD0, Lib.hid ⟨rfl, fun k r h => by simp at h⟩, HK⟩
    case round =>
      clear HB HK HD0
      obtain ⟨n, rs, lab, rfl, rfl, hn2, HB, HD, HC, HK⟩ := hrel
      obtain ⟨fa, fc, b0, hr0⟩ := HB.out.row5 HX5.out
      by_cases hlt : n < ms.length
      · obtain ⟨u, hu⟩ : ∃ u, ms[n]? = some u := ⟨_, List.getElem?_eq_getElem hlt⟩
        obtain ⟨-, -, gn, rfl, c0⟩ := rowCell hr0 hu
        have hl := HLS.out n hlt
        have hg0 := HD.out.enter hu
        obtain ⟨m, hm⟩ : ∃ m, ls n = m := ⟨_, rfl⟩
        rw [hm] at hg0 hl
        have HG := Lib.hid hg0
        have HXB : Hid (∀ b, u.ownBlock = some b → B ≤ b) := Lib.hid fun b hb => HLO.out b (mem_blks hu hb)
        have HC0 : Hid (rs.length = 8 * n + 0 ∧ ∀ (k : Nat) r, rs[k]? = some r → r.2 = k / 8) := HC
        obtain ⟨ua, uc, rfl⟩ := row_form hg0.row
        clear hm hu hg0 HD HC hr0
        go_wp2_with fail
        go_loopg [8, 9] 8 (fun q x y wi => ∃ (i : Nat) (rs : List (Value × Nat)) (lab : Nat → Nat), y = .int .i64 i ∧ q = 8 - i ∧ i ≤ 8 ∧ Hid (StM gb B xs (gsOf rs) wi) ∧ Hid (OGr 50 4 mkM ms ls n x (m + i) rs lab wi) ∧ Hid (∀ b, x.ownBlock = some b → B ≤ b) ∧ Hid (rs.length = 8 * n + i ∧ ∀ (k : Nat) r, rs[k]? = some r → r.2 = k / 8) ∧ Hid (Kept (FKeep B w) w wi))
        case atStart => exact ⟨0, rs, lab, rfl, rfl, by omega, HB, HG, HXB, HC0, HK⟩
        case round =>
          clear HB HG HXB HC0 HK b0 c0
          rename_i v8 v9
          obtain ⟨i, rs, lab, rfl, rfl, hi, HB, HG, HXB, HC, HK⟩ := hrel
          obtain ⟨xa, xc, rfl⟩ := row_form HG.out.row
          have hrs : rs.length ≤ 80000000080 := by have := HC.out.1; omega
          have hBz := HB.out.size
          by_cases hli : i < 8
          · have hiI : (i : Int) < 8 := by omega
            obtain ⟨ga, gc, b3, hr3, hp3⟩ := HB.out.push7
            rw [gsOf_len] at b3
            have HR3 : Hid (wr.ownsRow B 39 1 (.slice ga rs.length gc) rs.length (gsOf rs)) := Lib.hid (by rw [gsOf_len] at hr3; exact hr3)
            have HP3 := Lib.hid hp3
            clear hr3 hp3
            go_wp2_with (at_builtin; refine wpList_pushOne' 36 39 Tryz.underlying36 infoRowM rfl (by decide) rfl _ _ rfl B (.slice ga rs.length gc) rs.length (gsOf rs) [.slice xa (m + i) xc] wr _ rfl rfl rfl (by intro u hu; simp at hu; subst hu; rfl) 1 _ rfl rfl rfl HR3.out (by omega) (by decide) (by omega) ?_)
            intro g6 w6 k1 k2 k3
            obtain ⟨hB6, hkB6, c6, f6⟩ := HP3.out g6 w6 _ (by rw [gsOf_len]; exact k1) k2 (by rw [gsOf_len]; exact k3)
            obtain ⟨ga6, gc6, rfl⟩ := row_form k1
            rw [gsOf_len] at c6
            obtain ⟨W6, hW6⟩ : ∃ W6, w6.setCell ⟨gb, 7, none⟩ (.slice ga6 (rs.length + 1) gc6) = W6 := ⟨_, rfl⟩
            rw [hW6] at hB6 hkB6
            have HG6 := Lib.hid ((HG.out.kr (KR.ofFBk hkB6 (by decide) (by decide) (by decide) (by decide))).record mkM_len)
            have HK6 : Hid (Kept (FKeep B w) w W6) := Lib.hid (FKeep.trans HK.out (FKeep.book hkB6))
            have HB6 : Hid (StM gb B xs (gsOf (rs ++ [(Value.slice xa (m + i) xc, n)])) W6) := Lib.hid (by rw [gsOf_snoc]; exact hB6)
            have HC6 := Lib.hid (cnt8 (x := Value.slice xa (m + i) xc) HC.out hli)
            have hz6 := hkB6.size
            have hn9 : n < 4611686018427387904 := by omega
            clear k1 k2 k3 HP3 HR3 HB HG HK hkB6 hB6 HC
            go_wp2_with fail
            refine (mark_any n hn9 _).mono ?_
            rintro e w4 ⟨rfl, hk4⟩
            have HB4 := Lib.hid (HB6.out.keptT hk4)
            have HG4 := Lib.hid (HG6.out.kr (KR.of hk4))
            have HK4 : Hid (Kept (FKeep B w) w w4) := Lib.hid (FKeep.trans HK6.out (FKeep.all hk4))
            have hz4 := hk4.size
            have FV := field_val [] (markS n)
            clear hk4 HB6 HG6 HK6 hW6 c6 f6 b3
            go_wp2_with (at_builtin; refine wpList_pushOne' 39 50 Tryz.underlying39 infoMsg rfl (by decide) rfl _ _ rfl 0 (.slice xa (m + i) xc) (m + i) (reps mkM n (m + i)) [S [], S [], .slice none 0 0, S (markS n)] w4 _ rfl rfl rfl (by intro u hu; simp at hu; rcases hu with rfl | rfl | rfl <;> rfl) 1 _ rfl rfl rfl HG4.out.row (by omega) (by decide) (by omega) ?_)
            intro x5 w5 k1 k2 k3
            obtain ⟨lab5, hg5⟩ := HG4.out.push mkM_len k3 (by rw [← reps_snoc]; exact k1)
            have HG5 := Lib.hid hg5
            have HB5 := Lib.hid (HB4.out.movedT HG4.out.row k3 (by decide) (by decide) (by decide) (by decide))
            have HK5 : Hid (Kept (FKeep B w) w w5) := Lib.hid (FKeep.trans HK4.out ((k3.keptK k2).mono fun q _ ho e => by
              rcases ho with ho | ⟨c, hc⟩
              · have := HXB.out q e
                omega
              · obtain ⟨c', hc'⟩ := own_typ HG4.out.row e
                exact absurd (typ_eq hc hc') (by decide)))
            have HXB5 : Hid (∀ b, x5.ownBlock = some b → B ≤ b) := Lib.hid fun b hb => by
              rcases k3 with ⟨e, _⟩ | ⟨e, _⟩
              · exact HXB.out b (e ▸ hb)
              · have := e b hb; omega
            obtain ⟨xa5, xc5, rfl⟩ := row_form k1
            clear k1 k2 k3 hg5 HG4 HB4 HK4 HXB FV
            go_wp2
            go_roundg (8 - (i + 1))
            case rel => exact ⟨i + 1, _, lab5, by go_num, rfl, by omega, HB5, HG5, HXB5, HC6, HK5⟩
            case measure => omega
          · obtain rfl : i = 8 := by omega
            have HC2 : Hid (rs.length = 8 * (n + 1) ∧ ∀ (k : Nat) r, rs[k]? = some r → r.2 = k / 8) := HC
            go_wp2
            go_roundg (ms.length - (n + 1))
            case rel => exact ⟨n + 1, rs, lab, by go_num, rfl, by omega, HB, Lib.hid HG.out.leave, HC2, HK⟩
            case measure => omega
      · obtain rfl : n = ms.length := by omega
        clear hr0
        go_wp2
        go_meet
        exact ⟨Lib.hid ⟨rs, lab, HB.out, fun r hr => (HD.out.recs r hr).2, HC.out⟩, HK⟩
  case rest =>
  clear HB HK HD0
  obtain ⟨HR, HK⟩ := hcut
  rename World => w4
  obtain ⟨rs, lab, hB, hR, hC1, hC2⟩ := HR.out
  have HB := Lib.hid hB
  have HRR := Lib.hid hR
  have HC := Lib.hid hC2
  have hrs : rs.length ≤ 80000000080 := by omega
  have HZ : Hid (∀ W, Kept (fun _ => True) w4 W → OuterQ gb B xs w (.returned (.bool true)) W) := Lib.hid fun W hk => by
    obtain ⟨vs, hb⟩ := hB.keptT hk
    exact ⟨rfl, ⟨vs, _, hb, fun i hi => up_other _ _ (by omega)⟩, FKeep.trans HK.out (FKeep.all hk)⟩
  clear HR hB hR hC1 hC2 HK
  go_wp2_with fail
  go_loopg [10] rs.length (fun q x wr => ∃ n : Nat, x = .int .i64 n ∧ q = rs.length - n ∧ n ≤ rs.length ∧ Hid (Kept (fun _ => True) w4 wr))
  case atStart => exact ⟨0, rfl, rfl, Nat.zero_le _, Lib.hid (Kept.refl _ _)⟩
  case round =>
    obtain ⟨n, rfl, rfl, hn2, HKR⟩ := hrel
    obtain ⟨fa, fc, b0, hr0⟩ := (HB.out.keptT HKR.out).row7
    rw [gsOf_len] at b0 hr0
    by_cases hlt : n < rs.length
    · obtain ⟨⟨u, k⟩, hr⟩ : ∃ r, rs[n]? = some r := ⟨_, List.getElem?_eq_getElem hlt⟩
      have hk8 : k = n / 8 := HC.out n _ hr
      have hu : (gsOf rs)[n]? = some u := by unfold gsOf; rw [List.getElem?_map, hr]; rfl
      have HUm := Lib.hid hu
      obtain ⟨-, -, gf, rfl, c0⟩ := rowCell hr0 hu
      have HRW := Lib.hid (HRR.out (u, k) (List.mem_of_getElem? hr))
      obtain ⟨ua, ul, uc, hux, hl, -⟩ := HRW.out.form
      simp only at hux
      subst hux
      have HK8 := Lib.hid hk8
      have hn0 : (0 : Int) ≤ (n : Int) := by omega
      have hn1 : (n : Int) < (rs.length : Int) := by omega
      clear hr0 hr hu hk8
      go_wp2_with fail
      go_loopg [11] ul (fun q x wi => ∃ i : Nat, x = .int .i64 i ∧ q = ul - i ∧ i ≤ ul ∧ Hid (Kept (fun _ => True) w4 wi))
      case atStart => exact ⟨0, rfl, rfl, Nat.zero_le _, HKR⟩
      case round =>
        clear HKR b0 c0
        obtain ⟨i, rfl, rfl, hi, HKR⟩ := hrel
        obtain ⟨fa, fc, b0, hr0⟩ := (HB.out.keptT HKR.out).row7
        rw [gsOf_len] at b0 hr0
        obtain ⟨-, -, gf, rfl, c0⟩ := rowCell hr0 HUm.out
        clear hr0
        by_cases hli : i < ul
        · obtain ⟨xa', l', xc', hux', -, hat⟩ := HRW.out.form
          obtain ⟨rfl, rfl, rfl⟩ : ua = xa' ∧ ul = l' ∧ uc = xc' := by simpa using hux'
          obtain ⟨b, rfl, hbl, hbc⟩ := hat i hli
          have hi0 : (0 : Int) ≤ (i : Int) := by omega
          have hi1 : (i : Int) < (ul : Int) := by omega
          have y3 := hbc 3 (by decide)
          have c3 : wr.cell? ⟨b, i * 4 + 3, none⟩ = some (S (markS (n / 8))) := (HKR.out.cell hbl trivial).trans (y3.trans (by rw [HK8.out]; rfl))
          have CM := Lib.hid (fun W => mark_eighth n (by omega) W)
          have FV := field_val [] (markS (n / 8))
          have hw8 : IntKind.i64.wrap ((n : Int) / 8) = (n : Int) / 8 := IntWalk.i64_in _ (by omega)
          have HKD : Hid (Kept (fun _ => True) wr wr.drew) := Lib.hid (Kept.refl _ _).drew
          clear hux' hat hbc y3
          go_wp2
          go_region_held3 (fun wz => wz.cell? ⟨gb, 7, none⟩ = some (.slice (some ⟨gf, 0, none⟩) rs.length fc) ∧ wz.cell? ⟨gf, n, none⟩ = some (.slice (some ⟨b, 0, none⟩) ul uc) ∧ wz.cell? ⟨b, i * 4 + 3, none⟩ = some (S (markS (n / 8)))) (go_keep)
            (first
              | (go_at_call 42; (with_reducible refine (CM.out _).mono ?_); rintro e W1 ⟨rfl, hk1⟩; have z0 := hk1.drewCell b0; have z1 := hk1.drewCell c0; have z2 := hk1.drewCell c3; have HK1 := Lib.hid (HKR.out.tr (HKD.out.tr hk1)); clear hk1))
          go_wp2
          go_roundg (ul - (i + 1))
          case rel => exact ⟨i + 1, by go_num, rfl, by omega, HK1⟩
          case measure => omega
        · obtain rfl : i = ul := by omega
          go_wp2
          go_roundg (rs.length - (n + 1))
          case rel => exact ⟨n + 1, by go_num, rfl, by omega, HKR⟩
          case measure => omega
    · obtain rfl : n = rs.length := by omega
      clear hr0
      go_wp2
      go_ret
      exact HZ.out _ HKR.out
end Go.Proofs.YtaomhkgdbobpkaaGreatDoor
