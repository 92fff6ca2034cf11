/- Walks of the law of layer 5, its book: lists of messages that come out are noted. -/
import Derived.Test.YtaomhkgdbobpkaaGreatDoorWiT9
namespace Go.Proofs.YtaomhkgdbobpkaaGreatDoor
open Go.RowKit Wi

/-- The book with what came out, lists of messages too. -/
def ColR (gb B : Nat) (us ws : List Value) (fs : List (List Fl)) (ms ns : List Value) (w : World) : Prop := (∃ vs xs, Bk gb B vs xs w ∧ xs 0 = us ∧ xs 1 = ws ∧ xs 3 = [] ∧ xs 4 = [] ∧ xs 5 = ms ∧ xs 6 = ns ∧ xs 7 = []) ∧ ColF B us ws fs w
section
variable {gb B : Nat} {us ws : List Value} {fs : List (List Fl)} {ms ns : List Value} {w w' : World}
theorem ColR.keptT (h : ColR gb B us ws fs ms ns w) (hk : Kept (fun _ => True) w w') : ColR gb B us ws fs ms ns w' := by
  obtain ⟨⟨vs, xs, hb, e⟩, hc⟩ := h
  exact ⟨⟨vs, xs, hb.keptT hk, e⟩, hc.keptT hk⟩
theorem ColR.size (h : ColR gb B us ws fs ms ns w) : B ≤ w.heap.size := by
  obtain ⟨⟨vs, xs, hb, e⟩, hc⟩ := h
  exact hb.size
theorem ColR.fields {u v : Value} {f : List Fl} (h : ColR gb B us ws fs ms ns w) (hn : us.length ≤ 1000000000000) (hu : OwnF u f w) (hl : f.length ≤ 32) (hv : OwnF v f w) (hb : ∀ b, u.ownBlock = some b → B ≤ b ∧ b ∉ blks us) :
    Calls Tryz.prog 39 #[.pointer (some ⟨gb, 0, none⟩), u, v] w fun e w' => e = .returned (.tuple #[]) ∧ ColR gb B (us ++ [u]) (ws ++ [v]) (fs ++ [f]) ms ns w' ∧ Kept (FBk B w) w w' := by
  obtain ⟨⟨vs, xs, hbk, rfl, rfl, e3, e4, e5, e6, e7⟩, hc⟩ := h
  obtain ⟨ua, uc, rfl⟩ := row_form hu
  obtain ⟨va, vc, rfl⟩ := row_form hv
  refine (bookFields_any gb B vs xs (.slice ua f.length uc) (.slice va f.length vc) w hbk (by omega) (by have := hc.lu; have := hc.lw; omega) ⟨_, _, _, rfl⟩ ⟨_, _, _, rfl⟩).mono ?_
  rintro e w' ⟨rfl, ⟨vs', hb'⟩, hk⟩
  exact ⟨rfl, ⟨⟨vs', _, hb', rfl, rfl, e3, e4, e5, e6, e7⟩, (hc.add hu hl hv hb).keptB hk⟩, hk⟩
theorem ColR.push5 (h : ColR gb B us ws fs ms ns w) : ∃ a c, w.cell? ⟨gb, 5, none⟩ = some (.slice a ms.length c) ∧ w.ownsRow B 39 1 (.slice a ms.length c) ms.length ms ∧ ∀ v' w' u, w'.ownsRow B 39 1 v' (ms.length + 1) (ms ++ [u]) → Below B w w' → Moved (.slice a ms.length c) v' w w' →
    ColR gb B us ws fs (ms ++ [u]) ns (w'.setCell ⟨gb, 5, none⟩ v') ∧ Kept (FBk B w) w (w'.setCell ⟨gb, 5, none⟩ v') ∧ w'.cell? ⟨gb, 5, none⟩ = some (.slice a ms.length c) ∧ w'.frozen? ⟨gb, 5, none⟩ = false := by
  obtain ⟨⟨vs, xs, hb, e0, e1, e3, e4, rfl, e6, e7⟩, hc⟩ := h
  obtain ⟨a, c, hf⟩ := hb.form (i := 5) (by decide)
  refine ⟨a, c, hf ▸ hb.cell 5 (by decide), hf ▸ hb.row 5 (by decide), fun v' w' u k1 k2 k3 => ?_⟩
  obtain ⟨hB1, hkB1, hnb1, hgb1⟩ := hb.push (i := 5) (by decide) k1 k2 (by rw [hf]; exact k3)
  obtain ⟨x0, x9⟩ := hb.at2 hgb1 5 (by decide)
  exact ⟨⟨⟨_, _, hB1, e0, e1, e3, e4, rfl, e6, e7⟩, hc.keptB hkB1⟩, hkB1, hf ▸ x0, x9⟩
theorem ColR.push6 (h : ColR gb B us ws fs ms ns w) : ∃ a c, w.cell? ⟨gb, 6, none⟩ = some (.slice a ns.length c) ∧ w.ownsRow B 39 1 (.slice a ns.length c) ns.length ns ∧ ∀ v' w' u, w'.ownsRow B 39 1 v' (ns.length + 1) (ns ++ [u]) → Below B w w' → Moved (.slice a ns.length c) v' w w' →
    ColR gb B us ws fs ms (ns ++ [u]) (w'.setCell ⟨gb, 6, none⟩ v') ∧ Kept (FBk B w) w (w'.setCell ⟨gb, 6, none⟩ v') ∧ w'.cell? ⟨gb, 6, none⟩ = some (.slice a ns.length c) ∧ w'.frozen? ⟨gb, 6, none⟩ = false := by
  obtain ⟨⟨vs, xs, hb, e0, e1, e3, e4, e5, rfl, e7⟩, hc⟩ := h
  obtain ⟨a, c, hf⟩ := hb.form (i := 6) (by decide)
  refine ⟨a, c, hf ▸ hb.cell 6 (by decide), hf ▸ hb.row 6 (by decide), fun v' w' u k1 k2 k3 => ?_⟩
  obtain ⟨hB1, hkB1, hnb1, hgb1⟩ := hb.push (i := 6) (by decide) k1 k2 (by rw [hf]; exact k3)
  obtain ⟨x0, x9⟩ := hb.at2 hgb1 6 (by decide)
  exact ⟨⟨⟨_, _, hB1, e0, e1, e3, e4, e5, rfl, e7⟩, hc.keptB hkB1⟩, hkB1, hf ▸ x0, x9⟩
end
/-- The lists of headers of messages. -/
def hvs (l : List (R × Value)) : List Value := l.map (·.2)
def hfs (l : List (R × Value)) : List (List Fl) := l.map fun x => x.1.hs
theorem hfs_eq {l k : List (R × Value)} (h : msO l = msO k) : hfs l = hfs k := by
  have := congrArg (List.map fun m : Msg => m.hs) h
  simp only [List.map_map] at this
  exact this
theorem fbk_own {B C n : Nat} {v : Value} {xs : List Value} {w w' : World} (hk : Kept (FBk B w) w w') (h : w.ownsRow C 61 2 v n xs) : w'.ownsRow C 61 2 v n xs := ownsRow_kept h hk fun b hb => by
  obtain ⟨c, hc⟩ := own_typ h hb
  exact .of hc (by decide) (by decide) (by decide) (by decide)
theorem fbk_ownM {B C n : Nat} {v : Value} {xs : List Value} {w w' : World} (hk : Kept (FBk B w) w w') (h : w.ownsRow C 50 4 v n xs) : w'.ownsRow C 50 4 v n xs := ownsRow_kept h hk fun b hb => by
  obtain ⟨c, hc⟩ := own_typ h hb
  exact .of hc (by decide) (by decide) (by decide) (by decide)
/-- A message's cells in its row. -/
theorem out_cell {C : Nat} {v : Value} {l : List (R × Value)} {w : World} (h : w.ownsRow C 50 4 v l.length (outCells l)) {j : Nat} {x : R × Value} (hx : l[j]? = some x) : ∃ b c, v = .slice (some ⟨b, 0, none⟩) l.length c ∧ w.cell? ⟨b, j * 4 + 2, none⟩ = some x.2 := by
  have hl : j < l.length := (List.getElem?_eq_some_iff.1 hx).1
  rcases h.2 with ⟨rfl, h0⟩ | ⟨g, cap, cur, rfl, hB, hg, hnc, hcap, hat⟩
  · omega
  · exact ⟨g, cap, rfl, (World.ownsRow.cellAt h (j * 4 + 2) (by omega)).trans (outCells_at hx).2.2.1⟩
theorem blks_hvs (l : List (R × Value)) : blks (hvs l) = l.filterMap fun x => x.2.ownBlock := by unfold blks hvs; rw [List.filterMap_map]; rfl
theorem nd_take {l : List (R × Value)} (h : (l.filterMap fun x => x.2.ownBlock).Nodup) {i b : Nat} {x : R × Value} (hx : l[i]? = some x) (hb : x.2.ownBlock = some b) : b ∉ blks (hvs (l.take i)) := by
  have hl := (List.getElem?_eq_some_iff.1 hx)
  obtain ⟨hi, hxe⟩ := hl
  have hsp : l = l.take i ++ x :: l.drop (i + 1) := by rw [← hxe, ← List.drop_eq_getElem_cons hi, List.take_append_drop]
  rw [hsp, List.filterMap_append] at h
  rw [blks_hvs]
  intro hm
  refine (List.nodup_append.1 h).2.2 b hm b ?_ rfl
  rw [List.filterMap_cons, hb]
  simp
set_option maxHeartbeats 8000000 in
set_option maxRecDepth 100000 in
theorem takes_book (gb B : Nat) (us ws : List Value) (fs : List (List Fl)) (ms ns : List Value) (va vb : Value) (l k : List (R × Value)) (w : World) (h : ColR gb B us ws fs ms ns w) (hn : us.length + l.length ≤ 1000000000000) (hn2 : ms.length + 1 ≤ 1000000000000 ∧ ns.length + 1 ≤ 1000000000000)
    (h1 : w.ownsRow 0 50 4 va l.length (outCells l)) (h2 : w.ownsRow 0 50 4 vb k.length (outCells k)) (hl : ∀ x ∈ l, OwnF x.2 x.1.hs w ∧ x.1.hs.length ≤ 32) (hk : ∀ x ∈ k, OwnF x.2 x.1.hs w) (hm : msO l = msO k)
    (hd : (l.filterMap fun x => x.2.ownBlock).Nodup) (hb : ∀ x ∈ l, ∀ b, x.2.ownBlock = some b → B ≤ b ∧ b ∉ blks us) :
    Calls Tryz.prog 16 #[.pointer (some ⟨gb, 0, none⟩), va, vb] w fun e w' => e = .returned (.tuple #[]) ∧ ColR gb B (us ++ hvs l) (ws ++ hvs k) (fs ++ hfs l) (ms ++ [va]) (ns ++ [vb]) w' ∧ Kept (FBk B w) w w' := by
  have hlk : k.length = l.length := by have := congrArg List.length hm; simp only [List.length_map] at this; omega
  obtain ⟨aa, ac, rfl⟩ := row_form h1
  obtain ⟨ba, bc, rfl⟩ := row_form h2
  rw [hlk] at h2 ⊢
  have HH := Lib.hid h
  have H1 := Lib.hid h1
  have H2 := Lib.hid h2
  have HL := Lib.hid hl
  have HK := Lib.hid hk
  have HF := Lib.hid (hfs_eq hm)
  have HD := Lib.hid hd
  have HBB := Lib.hid hb
  have HLK := Lib.hid hlk
  clear h h1 h2 hl hk hm hd hb hlk
  go_enter Tryz.func16, Tryz.ntmps16
  go_wp2_with fail
  go_loopg [6] l.length (fun q n wr => ∃ i : Nat, n = .int .i64 i ∧ q = l.length - i ∧ i ≤ l.length ∧ Hid (ColR gb B (us ++ hvs (l.take i)) (ws ++ hvs (k.take i)) (fs ++ hfs (l.take i)) ms ns wr) ∧ Hid (Kept (FBk B w) w wr))
  case atStart => exact ⟨0, rfl, rfl, Nat.zero_le _, Lib.hid (by simpa [hvs, hfs] using HH.out), Lib.hid (Kept.refl _ _)⟩
  case round =>
    obtain ⟨i, rfl, rfl, hi, HC, HKW⟩ := hrel
    by_cases hlt : i < l.length
    · obtain ⟨x, hx⟩ : ∃ x, l[i]? = some x := ⟨_, List.getElem?_eq_getElem hlt⟩
      obtain ⟨y, hy⟩ : ∃ y, k[i]? = some y := ⟨_, List.getElem?_eq_getElem (by rw [HLK.out]; exact hlt)⟩
      obtain ⟨ga, gc, e1, c1⟩ := out_cell (fbk_ownM HKW.out H1.out) hx
      have h2w := fbk_ownM HKW.out H2.out
      rw [← HLK.out] at h2w
      obtain ⟨ka, kc, e2, c2⟩ := out_cell h2w hy
      obtain ⟨rfl, -, rfl⟩ : aa = some ⟨ga, 0, none⟩ ∧ l.length = l.length ∧ ac = gc := by simpa using e1
      obtain ⟨rfl, -, rfl⟩ : ba = some ⟨ka, 0, none⟩ ∧ True ∧ bc = kc := by simpa [HLK.out] using e2
      have hxy : x.1.hs = y.1.hs := by
        have h3 : (hfs l)[i]? = some x.1.hs := by unfold hfs; rw [List.getElem?_map, hx]; rfl
        have h4 : (hfs k)[i]? = some y.1.hs := by unfold hfs; rw [List.getElem?_map, hy]; rfl
        rw [HF.out, h4] at h3
        exact (Option.some.inj h3).symm
      have hox := HL.out x (List.mem_of_getElem? hx)
      have hoy := HK.out y (List.mem_of_getElem? hy)
      have hbx : ∀ b, x.2.ownBlock = some b → B ≤ b ∧ b ∉ blks (us ++ hvs (l.take i)) := fun b hb => by
        obtain ⟨q1, q2⟩ := HBB.out x (List.mem_of_getElem? hx) b hb
        refine ⟨q1, fun hm => ?_⟩
        rw [blks_app] at hm
        rcases List.mem_append.1 hm with hm | hm
        · exact q2 hm
        · exact nd_take HD.out hx hb hm
      rw [← hxy] at hoy
      have FA := Lib.hid (fun W (hk : Kept (fun _ => True) wr W) => (HC.out.keptT hk).fields (u := x.2) (v := y.2) (f := x.1.hs) (by simp only [List.length_append, hvs, List.length_map, List.length_take]; omega) (ownsRow_kept (fbk_own HKW.out hox.1) hk fun _ _ => trivial) hox.2 (ownsRow_kept (fbk_own HKW.out hoy) hk fun _ _ => trivial) hbx)
      obtain ⟨xa, xc, hx2⟩ := row_form hox.1
      obtain ⟨ya, yc, hy2⟩ := row_form hoy
      rw [hx2] at c1
      rw [hy2] at c2
      rw [hx2, hy2] at FA
      have HNX : Hid (us ++ hvs (l.take i) ++ [Value.slice xa x.1.hs.length xc] = us ++ hvs (l.take (i + 1)) ∧ ws ++ hvs (k.take i) ++ [Value.slice ya x.1.hs.length yc] = ws ++ hvs (k.take (i + 1)) ∧ fs ++ hfs (l.take i) ++ [x.1.hs] = fs ++ hfs (l.take (i + 1))) := Lib.hid (by
        rw [List.take_add_one, hx, List.take_add_one, hy, ← hx2, ← hy2]
        simp [hvs, hfs])
      have HKD : Hid (Kept (fun _ => True) wr wr.drew) := Lib.hid (Kept.refl _ _).drew
      obtain ⟨m, hm⟩ : ∃ m, x.1.hs.length = m := ⟨_, rfl⟩
      rw [hm] at c1 c2 FA HNX
      obtain ⟨gcs, hgt⟩ := own_typ (fbk_ownM HKW.out H1.out) (g := ga) rfl
      obtain ⟨kcs, hkt⟩ := own_typ h2w (g := ka) rfl
      have HGT : Hid (FBk B wr.drew ga ∧ ga < wr.heap.size) := Lib.hid ⟨.of (w := wr.drew) hgt (by decide) (by decide) (by decide) (by decide), (Array.getElem?_eq_some_iff.1 hgt).1⟩
      have HKT : Hid (FBk B wr.drew ka ∧ ka < wr.heap.size) := Lib.hid ⟨.of (w := wr.drew) hkt (by decide) (by decide) (by decide) (by decide), (Array.getElem?_eq_some_iff.1 hkt).1⟩
      clear hx hy hxy hox hoy hbx hx2 hy2 hm e1 e2 h2w hgt hkt
      go_wp2
      go_region_held3 (fun wz => wz.cell? ⟨ga, i * 4 + 2, none⟩ = some (.slice xa m xc) ∧ wz.cell? ⟨ka, i * 4 + 2, none⟩ = some (.slice ya m yc)) (go_keep)
        (first
          | (go_at_call 39; (with_reducible refine (FA.out _ HKD.out).mono ?_); rintro e W1 ⟨rfl, hc1, hk1⟩; have y0 := (hk1.cell (b := ga) (o := i * 4 + 2) HGT.out.2 HGT.out.1).trans c1; have y1 := (hk1.cell (b := ka) (o := i * 4 + 2) HKT.out.2 HKT.out.1).trans c2; have HC1 := Lib.hid hc1; have HK1 := Lib.hid (KeptFBk.trans HKW.out (KeptFBk.trans (KeptFBk.all HKD.out) hk1)); clear hc1 hk1))
      have HC2 : Hid (ColR gb B (us ++ hvs (l.take (i + 1))) (ws ++ hvs (k.take (i + 1))) (fs ++ hfs (l.take (i + 1))) ms ns W1) := Lib.hid (by
        have h := HC1.out
        rw [HNX.out.1, HNX.out.2.1, HNX.out.2.2] at h
        exact h)
      clear HC1 HC HNX FA
      go_wp2
      go_roundg (l.length - (i + 1))
      case rel => exact ⟨i + 1, by go_num, rfl, by omega, HC2, HK1⟩
      case measure => omega
    · obtain rfl : i = l.length := by omega
      have HCE : Hid (ColR gb B (us ++ hvs l) (ws ++ hvs k) (fs ++ hfs l) ms ns wr) := Lib.hid (by
        have h := HC.out
        rw [List.take_length, List.take_of_length_le (by rw [HLK.out]; exact Nat.le_refl _)] at h
        exact h)
      obtain ⟨g5, c5, b5, hr5, hp5⟩ := HCE.out.push5
      have HR5 := Lib.hid hr5
      have HP5 := Lib.hid hp5
      have hBz := HCE.out.size
      clear hr5 hp5 HC
      go_wp2_with (at_builtin; refine wpList_pushOne' 36 39 Tryz.underlying36 infoRowM rfl (by decide) rfl _ _ rfl B (.slice g5 ms.length c5) ms.length ms [.slice aa l.length ac] wr _ rfl rfl rfl (by intro u hu; simp at hu; subst hu; rfl) 1 _ rfl rfl rfl HR5.out (by omega) (by decide) (by omega) ?_)
      intro v6 w6 k1 k2 k3
      obtain ⟨hB6, hkB6, c6, f6⟩ := HP5.out v6 w6 _ k1 k2 k3
      obtain ⟨ga6, gc6, rfl⟩ := row_form k1
      obtain ⟨W6, hW6⟩ : ∃ W6, w6.setCell ⟨gb, 5, none⟩ (.slice ga6 (ms.length + 1) gc6) = W6 := ⟨_, rfl⟩
      rw [hW6] at hB6 hkB6
      have HK6 := Lib.hid (KeptFBk.trans HKW.out hkB6)
      obtain ⟨g7, c7, b7, hr7, hp7⟩ := hB6.push6
      have HR7 := Lib.hid hr7
      have HP7 := Lib.hid hp7
      have hBz6 := hB6.size
      clear k1 k2 k3 HP5 HR5 HCE hkB6 hB6 hr7 hp7 HKW b5
      go_wp2_with (at_builtin; refine wpList_pushOne' 36 39 Tryz.underlying36 infoRowM rfl (by decide) rfl _ _ rfl B (.slice g7 ns.length c7) ns.length ns [.slice ba l.length bc] W6 _ rfl rfl rfl (by intro u hu; simp at hu; subst hu; rfl) 1 _ rfl rfl rfl HR7.out (by omega) (by decide) (by omega) ?_)
      intro v8 w8 k1 k2 k3
      obtain ⟨hB8, hkB8, c8, f8⟩ := HP7.out v8 w8 _ k1 k2 k3
      obtain ⟨ga8, gc8, rfl⟩ := row_form k1
      have HB8 := Lib.hid hB8
      have HK8 := Lib.hid (KeptFBk.trans HK6.out hkB8)
      clear k1 k2 k3 HP7 HR7 hB8 hkB8 hW6 c6 f6 b7
      go_wp2
      go_end0
      exact ⟨rfl, HB8.out, HK8.out⟩
end Go.Proofs.YtaomhkgdbobpkaaGreatDoor
