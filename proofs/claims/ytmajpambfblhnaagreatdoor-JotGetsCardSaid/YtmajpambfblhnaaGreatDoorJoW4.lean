/- The law's owned (layer 4): lists that are somebody's own are written full and grown; each reads as its owner wrote it. Printed by gen_owned.py. -/
import Derived.Test.YtmajpambfblhnaaGreatDoorJoW2
import Derived.Deep.RegionHeld3
import Derived.Deep.RegionWith
import Derived.Deep.DeepCutAuto
import Derived.Deep.CutBlock
namespace Go.Proofs.YtmajpambfblhnaaGreatDoor
open Go.RowKit Jo

theorem Kept.drewTyp {w w' : World} {b : Nat} {U : TypeId} (hk : Kept (fun _ => True) w.drew w') (h : ∃ c, w.heap[b]? = some (.cells c U (0, 0))) : (∃ c, w'.heap[b]? = some (.cells c U (0, 0))) ∧ ∀ o, w'.frozen? ⟨b, o, none⟩ = false := by
  obtain ⟨c, hc⟩ := h
  have h2 : w'.heap[b]? = some (.cells c U (0, 0)) := (hk.block b (Array.getElem?_eq_some_iff.1 hc).1 trivial).trans hc
  exact ⟨⟨c, h2⟩, fun o => frozen_row h2 o⟩
theorem mark_int (n : Nat) (hn : n < 1000000000) (W : World) : Calls Tryz.prog 40 #[.int .i64 ((n : Int) / 20)] W fun e w' => e = .returned (S (markS (n / 20))) ∧ Kept (fun _ => True) W w' := by
  rw [show (n : Int) / 20 = ((n / 20 : Nat) : Int) by omega]
  exact mark_any (n / 20) (by omega) W

set_option maxHeartbeats 32000000 in
set_option maxRecDepth 100000 in
theorem owned_any (gb B : Nat) (nv iv : Value) (us vs : List Value) (w : World) (lu lv : Nat → Nat) (hB : BookG gb B nv iv us vs w) (h1 : us.length ≤ 1000000) (h2 : vs.length ≤ 1000000)
    (hu : ∀ (j : Nat) u, us[j]? = some u → ∃ xs, w.ownsRow 0 9 1 u (lu j) xs) (hv : ∀ (j : Nat) u, vs[j]? = some u → ∃ xs, w.ownsRow 0 25 5 u (lv j) xs) (hlu : ∀ j, j < us.length → lu j ≤ 1000000) (hlv : ∀ j, j < vs.length → lv j ≤ 1000000) (hau : Apart us) (hav : Apart vs) :
    Calls Tryz.prog 20 #[.pointer (some ⟨gb, 0, none⟩)] w fun e w' => e = .returned (.bool true) ∧ Kept (fun b => b ∉ blks us ∧ b ∉ blks vs) w w' := by
  obtain ⟨nb, nc, rfl⟩ := row_form hB.nrow
  obtain ⟨ib, ic, rfl⟩ := row_form hB.irow
  have HU := Lib.hid (Fl.full0 (Fl.start (mk := mkN) hu))
  have HV := Lib.hid (Fl.full0 (Fl.start (mk := mkI) hv))
  have HK : Hid (Kept (fun b => b ∉ blks us ∧ b ∉ blks vs) w w) := Lib.hid (Kept.refl _ _)
  have HLU := Lib.hid hlu
  have HLV := Lib.hid hlv
  have HAU := Lib.hid hau
  have HAV := Lib.hid hav
  have hgl : gb < w.heap.size := (Array.getElem?_eq_some_iff.1 hB.box).1
  have HB := Lib.hid hB
  have HBF : Hid (∀ w', Kept (fun b => b ∉ blks us ∧ b ∉ blks vs) w w' → BookG gb B (.slice nb us.length nc) (.slice ib vs.length ic) us vs w') := Lib.hid fun w' hk => hB.far hu hv hk
  clear hB hu hv hlu hlv hau hav
  go_enter Tryz.func20, Tryz.ntmps20
  go_upto_block 0 with fail
  go_cut [] (fun wx => Hid (BookG gb B (.slice nb us.length nc) (.slice ib vs.length ic) us vs wx) ∧ Hid (Fl 9 1 mkN us lu lu wx) ∧ Hid (Fl 25 5 mkI vs lv (fulled lv 0) wx) ∧ Hid (Kept (fun b => b ∉ blks us ∧ b ∉ blks vs) w wx) ∧ w.heap.size ≤ wx.heap.size)
  case first =>
    go_wp2_with fail
    go_loopg [3] us.length (fun q x wr => ∃ n : Nat, x = .int .i64 n ∧ q = us.length - n ∧ n ≤ us.length ∧ Hid (BookG gb B (.slice nb us.length nc) (.slice ib vs.length ic) us vs wr) ∧ Hid (Fl 9 1 mkN us lu (fulled lu n) wr) ∧ Hid (Fl 25 5 mkI vs lv (fulled lv 0) wr) ∧ Hid (Kept (fun b => b ∉ blks us ∧ b ∉ blks vs) w wr) ∧ w.heap.size ≤ wr.heap.size)
    case atStart => exact ⟨0, rfl, rfl, Nat.zero_le _, HB, HU, HV, HK, by omega⟩
    case round =>
      clear HB HU HV HK
      obtain ⟨n, rfl, rfl, hn, HB, HU, HV, HK, hz⟩ := hrel
      obtain ⟨b0, b1, b2, b3⟩ := HB.out.facts
      by_cases hlt : n < us.length
      · obtain ⟨u, hu⟩ : ∃ u, us[n]? = some u := ⟨_, List.getElem?_eq_getElem hlt⟩
        obtain ⟨-, -, gn, rfl, c0⟩ := rowCell HB.out.nrow hu
        obtain ⟨ua, uc, rfl⟩ := HU.out.form hu
        have hl := HLU.out n hlt
        obtain ⟨m, hm⟩ : ∃ m, lu n = m := ⟨_, rfl⟩
        have HM := Lib.hid hm
        have HUu := Lib.hid hu
        rw [hm] at c0 hl
        have hn0 : (0 : Int) ≤ (n : Int) := by omega
        have hn1 : (n : Int) < (us.length : Int) := by omega
        clear hm hu
        go_wp2_with fail
        go_loopg [4] m (fun q x wi => ∃ i : Nat, x = .int .i64 i ∧ q = m - i ∧ i ≤ m ∧ Hid (BookG gb B (.slice (some ⟨gn, 0, none⟩) us.length nc) (.slice ib vs.length ic) us vs wi) ∧ Hid (Fl 9 1 mkN us lu (upd (fulled lu n) n i) wi) ∧ Hid (Fl 25 5 mkI vs lv (fulled lv 0) wi) ∧ Hid (Kept (fun b => b ∉ blks us ∧ b ∉ blks vs) w wi) ∧ w.heap.size ≤ wi.heap.size)
        case atStart => exact ⟨0, rfl, rfl, Nat.zero_le _, HB, Lib.hid HU.out.enter, HV, HK, hz⟩
        case round =>
          clear HB HU HV HK hz b0 b1 b2 b3 c0
          obtain ⟨i, rfl, rfl, hi, HB, HU, HV, HK, hz⟩ := hrel
          obtain ⟨b0, b1, b2, b3⟩ := HB.out.facts
          obtain ⟨-, -, gn', hgn, c0⟩ := rowCell HB.out.nrow HUu.out
          obtain rfl : gn = gn' := by simpa using hgn
          rw [HM.out] at c0
          clear hgn
          by_cases hli : i < m
          · obtain ⟨b, cap, hub, hbl, hbt, hbf, hbc⟩ := HU.out.place HUu.out (by rw [HM.out]; exact hli)
            obtain ⟨rfl, -, rfl⟩ : ua = some ⟨b, 0, none⟩ ∧ lu n = lu n ∧ uc = cap := by simpa using hub
            have HBT := Lib.hid hbt
            have hi0 : (0 : Int) ≤ (i : Int) := by omega
            have hi1 : (i : Int) < (m : Int) := by omega
            obtain ⟨y, hy⟩ := hbc 0 (by decide)
            simp only [Nat.mul_one, Nat.add_zero] at hy
            have f0 := hbf i
            have CM := Lib.hid (fun W => mark_any n (by omega) W)
            clear hub hbt hbf hbc
            go_wp2_with fail
            go_region_with
              (first
                | (go_at_call 40; (with_reducible refine (CM.out _).mono ?_); rintro e W1 ⟨rfl, hk1⟩; have y0 := hk1.drewCell b0; have y1 := hk1.drewCell c0; have y2 := hk1.drewCell hy; obtain ⟨hbt1, hbf1⟩ := hk1.drewTyp HBT.out; have y3 := hbf1 i; have HBT1 := Lib.hid hbt1; have HK1 := Lib.hid hk1; clear hbt1 hbf1 hk1))
            all_goals
              have hkW : Kept (fun _ => True) wr W1 := ((Kept.refl _ wr).drew).tr HK1.out
              have HKS : Hid (Kept (fun b => b ∉ blks us ∧ b ∉ blks vs) w (W1.setCell ⟨b, i, none⟩ (S (markS n)))) := Lib.hid ((HK.out.trans hkW fun _ _ _ => trivial).trans ((Kept.refl (· ≠ b) W1).setCell (.inr (by simp)) _) fun q _ ho e => ho.1 (e ▸ mem_blks HUu.out rfl))
              have HBS := Lib.hid ((HB.out.keptT hkW).kr (KR.setC HBT1.out (by decide) i (S (markS n))) (KR.setC HBT1.out (by decide) i (S (markS n))) (KR.setC HBT1.out (by decide) i (S (markS n))))
              have HUS := Lib.hid ((HU.out.kr (KR.of hkW)).next1 HAU.out mkN_len HUu.out (by rw [HM.out]; exact hli) rfl)
              have HVS := Lib.hid ((HV.out.kr (KR.of hkW)).kr (KR.setC HBT1.out (by decide) i (S (markS n))))
              clear hkW
              go_wp2
              go_roundg (m - (i + 1))
              case rel => exact ⟨i + 1, by go_num, rfl, by omega, HBS, HUS, HVS, HKS, HKS.out.size⟩
              case measure => omega
          · obtain rfl : i = m := by omega
            have HUS := Lib.hid (show Fl 9 1 mkN us lu (fulled lu (n + 1)) wr from (HU.out.congr (ks' := upd (fulled lu n) n (lu n)) fun _ _ => by rw [HM.out]).leave)
            go_wp2
            go_roundg (us.length - (n + 1))
            case rel => exact ⟨n + 1, by go_num, rfl, by omega, HB, HUS, HV, HK, hz⟩
            case measure => omega
      · obtain rfl : n = us.length := by omega
        go_wp2
        go_meet
        exact ⟨HB, Lib.hid HU.out.all, HV, HK, hz⟩
  case rest =>
  clear HB HU HV HK
  obtain ⟨HB, HU, HV, HK, hzc⟩ := hcut
  go_upto_block 4 with fail
  go_cut [] (fun wx => Hid (BookG gb B (.slice nb us.length nc) (.slice ib vs.length ic) us vs wx) ∧ Hid (Fl 9 1 mkN us lu lu wx) ∧ Hid (Fl 25 5 mkI vs lv lv wx) ∧ Hid (Kept (fun b => b ∉ blks us ∧ b ∉ blks vs) w wx) ∧ w.heap.size ≤ wx.heap.size)
  case first =>
    go_wp2_with fail
    go_loopg [5] vs.length (fun q x wr => ∃ n : Nat, x = .int .i64 n ∧ q = vs.length - n ∧ n ≤ vs.length ∧ Hid (BookG gb B (.slice nb us.length nc) (.slice ib vs.length ic) us vs wr) ∧ Hid (Fl 9 1 mkN us lu lu wr) ∧ Hid (Fl 25 5 mkI vs lv (fulled lv n) wr) ∧ Hid (Kept (fun b => b ∉ blks us ∧ b ∉ blks vs) w wr) ∧ w.heap.size ≤ wr.heap.size)
    case atStart => exact ⟨0, rfl, rfl, Nat.zero_le _, HB, HU, HV, HK, by omega⟩
    case round =>
      clear HB HU HV HK
      obtain ⟨n, rfl, rfl, hn, HB, HU, HV, HK, hz⟩ := hrel
      obtain ⟨b0, b1, b2, b3⟩ := HB.out.facts
      by_cases hlt : n < vs.length
      · obtain ⟨u, hu⟩ : ∃ u, vs[n]? = some u := ⟨_, List.getElem?_eq_getElem hlt⟩
        obtain ⟨-, -, gn, rfl, c0⟩ := rowCell HB.out.irow hu
        obtain ⟨ua, uc, rfl⟩ := HV.out.form hu
        have hl := HLV.out n hlt
        obtain ⟨m, hm⟩ : ∃ m, lv n = m := ⟨_, rfl⟩
        have HM := Lib.hid hm
        have HUu := Lib.hid hu
        rw [hm] at c0 hl
        have hn0 : (0 : Int) ≤ (n : Int) := by omega
        have hn1 : (n : Int) < (vs.length : Int) := by omega
        clear hm hu
        go_wp2_with fail
        go_loopg [6] m (fun q x wi => ∃ i : Nat, x = .int .i64 i ∧ q = m - i ∧ i ≤ m ∧ Hid (BookG gb B (.slice nb us.length nc) (.slice (some ⟨gn, 0, none⟩) vs.length ic) us vs wi) ∧ Hid (Fl 9 1 mkN us lu lu wi) ∧ Hid (Fl 25 5 mkI vs lv (upd (fulled lv n) n i) wi) ∧ Hid (Kept (fun b => b ∉ blks us ∧ b ∉ blks vs) w wi) ∧ w.heap.size ≤ wi.heap.size)
        case atStart => exact ⟨0, rfl, rfl, Nat.zero_le _, HB, HU, Lib.hid HV.out.enter, HK, hz⟩
        case round =>
          clear HB HU HV HK hz b0 b1 b2 b3 c0
          obtain ⟨i, rfl, rfl, hi, HB, HU, HV, HK, hz⟩ := hrel
          obtain ⟨b0, b1, b2, b3⟩ := HB.out.facts
          obtain ⟨-, -, gn', hgn, c0⟩ := rowCell HB.out.irow HUu.out
          obtain rfl : gn = gn' := by simpa using hgn
          rw [HM.out] at c0
          clear hgn
          by_cases hli : i < m
          · obtain ⟨b, cap, hub, hbl, hbt, hbf, hbc⟩ := HV.out.place HUu.out (by rw [HM.out]; exact hli)
            obtain ⟨rfl, -, rfl⟩ : ua = some ⟨b, 0, none⟩ ∧ lv n = lv n ∧ uc = cap := by simpa using hub
            have HBT := Lib.hid hbt
            have hi0 : (0 : Int) ≤ (i : Int) := by omega
            have hi1 : (i : Int) < (m : Int) := by omega
            obtain ⟨y0, hy0⟩ := hbc 0 (by decide)
            obtain ⟨y1, hy1⟩ := hbc 1 (by decide)
            obtain ⟨y2, hy2⟩ := hbc 2 (by decide)
            obtain ⟨y3, hy3⟩ := hbc 3 (by decide)
            obtain ⟨y4, hy4⟩ := hbc 4 (by decide)
            simp only [Nat.add_zero] at hy0
            have f0 := hbf (i * 5)
            have f1 := hbf (i * 5 + 1)
            have f2 := hbf (i * 5 + 2)
            have f3 := hbf (i * 5 + 3)
            have f4 := hbf (i * 5 + 4)
            have HKS := Lib.hid (HK.out.trans (kept_5 wr b (i * 5) (i * 5 + 1) (i * 5 + 2) (i * 5 + 3) (i * 5 + 4) (.int .i64 (-5 - (n : Int))) (.int .i64 0) (S []) (.slice none 0 0) (.slice none 0 0)) fun q _ ho e => ho.2 (e ▸ mem_blks HUu.out rfl))
            have HBS := Lib.hid (HB.out.kr (KR.set5 HBT.out (by decide) (i * 5) (i * 5 + 1) (i * 5 + 2) (i * 5 + 3) (i * 5 + 4) (.int .i64 (-5 - (n : Int))) (.int .i64 0) (S []) (.slice none 0 0) (.slice none 0 0)) (KR.set5 HBT.out (by decide) (i * 5) (i * 5 + 1) (i * 5 + 2) (i * 5 + 3) (i * 5 + 4) (.int .i64 (-5 - (n : Int))) (.int .i64 0) (S []) (.slice none 0 0) (.slice none 0 0)) (KR.set5 HBT.out (by decide) (i * 5) (i * 5 + 1) (i * 5 + 2) (i * 5 + 3) (i * 5 + 4) (.int .i64 (-5 - (n : Int))) (.int .i64 0) (S []) (.slice none 0 0) (.slice none 0 0)))
            have HVS := Lib.hid (HV.out.next5 HAV.out mkI_len HUu.out (by rw [HM.out]; exact hli) (n := n) rfl)
            have HUS := Lib.hid (HU.out.kr (KR.set5 HBT.out (by decide) (i * 5) (i * 5 + 1) (i * 5 + 2) (i * 5 + 3) (i * 5 + 4) (.int .i64 (-5 - (n : Int))) (.int .i64 0) (S []) (.slice none 0 0) (.slice none 0 0)))
            clear hub hbt hbf hbc
            go_wp2
            go_roundg (m - (i + 1))
            case rel => exact ⟨i + 1, by go_num, rfl, by omega, HBS, HUS, HVS, HKS, HKS.out.size⟩
            case measure => omega
          · obtain rfl : i = m := by omega
            have HUS := Lib.hid (show Fl 25 5 mkI vs lv (fulled lv (n + 1)) wr from (HV.out.congr (ks' := upd (fulled lv n) n (lv n)) fun _ _ => by rw [HM.out]).leave)
            go_wp2
            go_roundg (vs.length - (n + 1))
            case rel => exact ⟨n + 1, by go_num, rfl, by omega, HB, HU, HUS, HK, hz⟩
            case measure => omega
      · obtain rfl : n = vs.length := by omega
        go_wp2
        go_meet
        exact ⟨HB, HU, Lib.hid HV.out.all, HK, hz⟩
  case rest =>
  clear HB HU HV HK
  obtain ⟨HB, HU, HV, HK, hzc⟩ := hcut
  obtain ⟨lab0, hd0⟩ := Hd.start (mk := mkN) mkN_len HAU.out HU.out
  have HD0 := Lib.hid hd0
  clear hd0
  go_upto_block 8 with fail
  go_cut [7] (fun a wx => ∃ (rs : List (Value × Nat)) (lab : Nat → Nat), Hid (wx.ownsRow w.heap.size 22 1 a rs.length (rs.map (·.1))) ∧ Hid (RdR 9 1 mkN rs lab wx) ∧ Hid (rs.length = 20 * us.length ∧ ∀ (k : Nat) r, rs[k]? = some r → r.2 = k / 20) ∧ Hid (Fl 25 5 mkI vs lv lv wx) ∧ Hid (Kept (fun b => b ∉ blks us ∧ b ∉ blks vs) w wx) ∧ w.heap.size ≤ wx.heap.size)
  case first =>
    go_wp2_with fail
    go_loopg [7, 8] us.length (fun q a x wr => ∃ (n : Nat) (rs : List (Value × Nat)) (lab : Nat → Nat), x = .int .i64 n ∧ q = us.length - n ∧ n ≤ us.length ∧ Hid (wr.ownsRow w.heap.size 22 1 a rs.length (rs.map (·.1))) ∧ Hid (Hd 9 1 mkN us lu n rs lab wr) ∧ Hid (rs.length = 20 * n ∧ ∀ (k : Nat) r, rs[k]? = some r → r.2 = k / 20) ∧ Hid (Fl 25 5 mkI vs lv lv wr) ∧ Hid (Kept (fun b => b ∉ blks us ∧ b ∉ blks vs) w wr) ∧ w.heap.size ≤ wr.heap.size)
    case atStart => exact ⟨0, [], lab0, rfl, rfl, Nat.zero_le _, Lib.hid (World.ownsRow_nil _ _ _ _), HD0, Lib.hid ⟨rfl, fun k r h => by simp at h⟩, HV, HK, hzc⟩
    case round =>
      clear HV HK HD0 hzc HU
      obtain ⟨n, rs, lab, rfl, rfl, hn, HA, HD, HC, HV, HK, hz⟩ := hrel
      have HB := Lib.hid (HBF.out _ HK.out)
      obtain ⟨b0, b1, b2, b3⟩ := HB.out.facts
      by_cases hlt : n < us.length
      · obtain ⟨u, hu⟩ : ∃ u, us[n]? = some u := ⟨_, List.getElem?_eq_getElem hlt⟩
        obtain ⟨-, -, gn, rfl, c0⟩ := rowCell HB.out.nrow hu
        have hl := HLU.out n hlt
        have hg0 := HD.out.enter hu
        obtain ⟨m, hm⟩ : ∃ m, lu n = m := ⟨_, rfl⟩
        rw [hm] at hg0 hl
        have HG := Lib.hid hg0
        have HXB : Hid (∀ b, u.ownBlock = some b → w.heap.size ≤ b ∨ b ∈ blks us) := Lib.hid fun b hb => .inr (mem_blks hu hb)
        have HC0 : Hid (rs.length = 20 * n + 0 ∧ ∀ (k : Nat) r, rs[k]? = some r → r.2 = k / 20) := HC
        have hn0 : (0 : Int) ≤ (n : Int) := by omega
        have hn1 : (n : Int) < (us.length : Int) := by omega
        obtain ⟨ua, uc, rfl⟩ := row_form hg0.row
        clear hm hu hg0 HD HC
        go_wp2_with fail
        go_loopg [7, 9, 10] 20 (fun q a x y wi => ∃ (i : Nat) (rs : List (Value × Nat)) (lab : Nat → Nat), y = .int .i64 i ∧ q = 20 - i ∧ i ≤ 20 ∧ Hid (wi.ownsRow w.heap.size 22 1 a rs.length (rs.map (·.1))) ∧ Hid (Gr 9 1 mkN us lu n x (m + i) rs lab wi) ∧ Hid (∀ b, x.ownBlock = some b → w.heap.size ≤ b ∨ b ∈ blks us) ∧ Hid (rs.length = 20 * n + i ∧ ∀ (k : Nat) r, rs[k]? = some r → r.2 = k / 20) ∧ Hid (Fl 25 5 mkI vs lv lv wi) ∧ Hid (Kept (fun b => b ∉ blks us ∧ b ∉ blks vs) w wi) ∧ w.heap.size ≤ wi.heap.size)
        case atStart => exact ⟨0, rs, lab, rfl, rfl, by omega, HA, HG, HXB, HC0, HV, HK, hz⟩
        case round =>
          clear HA HG HXB HC0 HV HK hz b0 b1 b2 b3 c0 HB
          rename_i v7 v9 v10
          obtain ⟨i, rs, lab, rfl, rfl, hi, HA, HG, HXB, HC, HV, HK, hz⟩ := hrel
          obtain ⟨aa, ac, rfl⟩ := row_form HA.out
          obtain ⟨xa, xc, rfl⟩ := row_form HG.out.row
          have hrs : rs.length ≤ 20000020 := by have := HC.out.1; omega
          by_cases hli : i < 20
          · have hiI : (i : Int) < 20 := by omega
            go_wp2_with (at_builtin; refine wpList_pushOne' 29 22 Tryz.underlying29 infoRowS rfl (by decide) rfl _ _ rfl w.heap.size (.slice aa rs.length ac) rs.length (rs.map (·.1)) [.slice xa (m + i) xc] wr _ rfl rfl rfl (by intro u hu; simp at hu; subst hu; rfl) 1 _ rfl rfl rfl HA.out (by omega) (by decide) (by omega) ?_)
            intro a1 w1 k1 k2 k3
            have hkT : KR 9 none wr w1 := KR.moved_other HA.out k3 (by decide)
            have HG1 := Lib.hid ((HG.out.kr hkT).record mkN_len)
            have HA1 : Hid (w1.ownsRow w.heap.size 22 1 a1 (rs ++ [(Value.slice xa (m + i) xc, n)]).length ((rs ++ [(Value.slice xa (m + i) xc, n)]).map (·.1))) := Lib.hid (by simpa using k1)
            have HK1 : Hid (Kept (fun b => b ∉ blks us ∧ b ∉ blks vs) w w1) := Lib.hid (HK.out.trans (Kept.of_below' k2) fun q hq _ => hq)
            have HC1 : Hid ((rs ++ [(Value.slice xa (m + i) xc, n)]).length = 20 * n + (i + 1) ∧ ∀ (k : Nat) r, (rs ++ [(Value.slice xa (m + i) xc, n)])[k]? = some r → r.2 = k / 20) := Lib.hid (cnt_snoc HC.out hli)
            have hz1 := k2.size
            obtain ⟨a1a, a1c, rfl⟩ := row_form k1
            have HV1 := Lib.hid (HV.out.kr (KR.moved_other (row := none) HA.out k3 (by decide)))
            clear k1 k2 k3 hkT HA HG HK HC HV
            go_wp2_with fail
            refine (mark_any n (by omega) _).mono ?_
            rintro e w2 ⟨rfl, hk2⟩
            have hz2 := hk2.size
            have HG2 := Lib.hid (HG1.out.kr (KR.of hk2))
            have HA2 := Lib.hid (own_kr HA1.out (KR.of (row := none) hk2) fun _ _ e => (by cases e))
            have HK2 : Hid (Kept (fun b => b ∉ blks us ∧ b ∉ blks vs) w w2) := Lib.hid (HK1.out.trans hk2 fun _ _ _ => trivial)
            have HV2 := Lib.hid (HV1.out.kr (KR.of hk2))
            clear hk2 HG1 HA1 HK1 HV1
            go_wp2_with (at_builtin; refine wpList_pushOne' 22 9 Tryz.underlying22 infoStr rfl (by decide) rfl _ _ rfl 0 (.slice xa (m + i) xc) (m + i) (reps mkN n (m + i)) [S (markS n)] w2 _ rfl rfl rfl (by intro u hu; simp at hu; subst hu; rfl) 1 _ rfl rfl rfl HG2.out.row (by omega) (by decide) (by omega) ?_)
            intro x3 w3 k1 k2 k3
            obtain ⟨lab3, hg3⟩ := HG2.out.push mkN_len k3 (by rw [← reps_snoc]; exact k1)
            have HG3 := Lib.hid hg3
            have HA3 := Lib.hid (own_kr HA2.out (KR.moved_other (row := none) HG2.out.row k3 (by decide)) fun _ _ e => (by cases e))
            have HK3 : Hid (Kept (fun b => b ∉ blks us ∧ b ∉ blks vs) w w3) := Lib.hid (HK2.out.trans (k3.keptK k2) fun q hq ho e => by
              rcases HXB.out q e.symm with h | h
              · omega
              · exact ho.1 h)
            have HXB3 : Hid (∀ b, x3.ownBlock = some b → w.heap.size ≤ b ∨ b ∈ blks us) := Lib.hid fun b hb => by
              rcases k3 with ⟨e, _⟩ | ⟨e, _⟩
              · exact HXB.out b (e ▸ hb)
              · have := e b hb; exact .inl (by omega)
            have hz3 := k2.size
            have HV3 := Lib.hid (HV2.out.kr (KR.moved_other (row := none) HG2.out.row k3 (by decide)))
            clear k1 k2 k3 hg3 HG2 HA2 HK2 HV2 HXB
            go_wp2
            go_roundg (20 - (i + 1))
            case rel => exact ⟨i + 1, _, lab3, by go_num, rfl, by omega, HA3, HG3, HXB3, HC1, HV3, HK3, by omega⟩
            case measure => omega
          · obtain rfl : i = 20 := by omega
            have HC2 : Hid (rs.length = 20 * (n + 1) ∧ ∀ (k : Nat) r, rs[k]? = some r → r.2 = k / 20) := Lib.hid ⟨by have := HC.out.1; omega, HC.out.2⟩
            go_wp2
            go_roundg (us.length - (n + 1))
            case rel => exact ⟨n + 1, rs, lab, by go_num, rfl, by omega, HA, Lib.hid HG.out.leave, HC2, HV, HK, hz⟩
            case measure => omega
      · obtain rfl : n = us.length := by omega
        go_wp2
        go_meet
        exact ⟨rs, lab, HA, Lib.hid (fun r hr => (HD.out.recs r hr).2), HC, HV, HK, hz⟩
  case rest =>
  clear HV HK HD0 hzc HU
  obtain ⟨rs1, lab1, HAN, HRN, HCN, HV, HK, hzc⟩ := hcut
  obtain ⟨lab0, hd0⟩ := Hd.start (mk := mkI) mkI_len HAV.out HV.out
  have HD0 := Lib.hid hd0
  clear hd0
  go_upto_block 12 with fail
  go_cut [11] (fun a wx => ∃ (rs : List (Value × Nat)) (lab : Nat → Nat), Hid (wx.ownsRow w.heap.size 23 1 a rs.length (rs.map (·.1))) ∧ Hid (RdR 25 5 mkI rs lab wx) ∧ Hid (rs.length = 20 * vs.length ∧ ∀ (k : Nat) r, rs[k]? = some r → r.2 = k / 20) ∧ Hid (wx.ownsRow w.heap.size 22 1 u7 rs1.length (rs1.map (·.1))) ∧ Hid (RdR 9 1 mkN rs1 lab1 wx) ∧ Hid (Kept (fun b => b ∉ blks us ∧ b ∉ blks vs) w wx) ∧ w.heap.size ≤ wx.heap.size)
  case first =>
    go_wp2_with fail
    go_loopg [11, 12] vs.length (fun q a x wr => ∃ (n : Nat) (rs : List (Value × Nat)) (lab : Nat → Nat), x = .int .i64 n ∧ q = vs.length - n ∧ n ≤ vs.length ∧ Hid (wr.ownsRow w.heap.size 23 1 a rs.length (rs.map (·.1))) ∧ Hid (Hd 25 5 mkI vs lv n rs lab wr) ∧ Hid (rs.length = 20 * n ∧ ∀ (k : Nat) r, rs[k]? = some r → r.2 = k / 20) ∧ Hid (wr.ownsRow w.heap.size 22 1 u7 rs1.length (rs1.map (·.1))) ∧ Hid (RdR 9 1 mkN rs1 lab1 wr) ∧ Hid (Kept (fun b => b ∉ blks us ∧ b ∉ blks vs) w wr) ∧ w.heap.size ≤ wr.heap.size)
    case atStart => exact ⟨0, [], lab0, rfl, rfl, Nat.zero_le _, Lib.hid (World.ownsRow_nil _ _ _ _), HD0, Lib.hid ⟨rfl, fun k r h => by simp at h⟩, HAN, HRN, HK, hzc⟩
    case round =>
      clear HAN HRN HK HD0 hzc HV
      obtain ⟨n, rs, lab, rfl, rfl, hn, HA, HD, HC, HAN, HRN, HK, hz⟩ := hrel
      have HB := Lib.hid (HBF.out _ HK.out)
      obtain ⟨b0, b1, b2, b3⟩ := HB.out.facts
      by_cases hlt : n < vs.length
      · obtain ⟨u, hu⟩ : ∃ u, vs[n]? = some u := ⟨_, List.getElem?_eq_getElem hlt⟩
        obtain ⟨-, -, gn, rfl, c0⟩ := rowCell HB.out.irow hu
        have hl := HLV.out n hlt
        have hg0 := HD.out.enter hu
        obtain ⟨m, hm⟩ : ∃ m, lv n = m := ⟨_, rfl⟩
        rw [hm] at hg0 hl
        have HG := Lib.hid hg0
        have HXB : Hid (∀ b, u.ownBlock = some b → w.heap.size ≤ b ∨ b ∈ blks vs) := Lib.hid fun b hb => .inr (mem_blks hu hb)
        have HC0 : Hid (rs.length = 20 * n + 0 ∧ ∀ (k : Nat) r, rs[k]? = some r → r.2 = k / 20) := HC
        have hn0 : (0 : Int) ≤ (n : Int) := by omega
        have hn1 : (n : Int) < (vs.length : Int) := by omega
        obtain ⟨ua, uc, rfl⟩ := row_form hg0.row
        clear hm hu hg0 HD HC
        go_wp2_with fail
        go_loopg [11, 13, 14] 20 (fun q a x y wi => ∃ (i : Nat) (rs : List (Value × Nat)) (lab : Nat → Nat), y = .int .i64 i ∧ q = 20 - i ∧ i ≤ 20 ∧ Hid (wi.ownsRow w.heap.size 23 1 a rs.length (rs.map (·.1))) ∧ Hid (Gr 25 5 mkI vs lv n x (m + i) rs lab wi) ∧ Hid (∀ b, x.ownBlock = some b → w.heap.size ≤ b ∨ b ∈ blks vs) ∧ Hid (rs.length = 20 * n + i ∧ ∀ (k : Nat) r, rs[k]? = some r → r.2 = k / 20) ∧ Hid (wi.ownsRow w.heap.size 22 1 u7 rs1.length (rs1.map (·.1))) ∧ Hid (RdR 9 1 mkN rs1 lab1 wi) ∧ Hid (Kept (fun b => b ∉ blks us ∧ b ∉ blks vs) w wi) ∧ w.heap.size ≤ wi.heap.size)
        case atStart => exact ⟨0, rs, lab, rfl, rfl, by omega, HA, HG, HXB, HC0, HAN, HRN, HK, hz⟩
        case round =>
          clear HA HG HXB HC0 HAN HRN HK hz b0 b1 b2 b3 c0 HB
          rename_i v11 v13 v14
          obtain ⟨i, rs, lab, rfl, rfl, hi, HA, HG, HXB, HC, HAN, HRN, HK, hz⟩ := hrel
          obtain ⟨aa, ac, rfl⟩ := row_form HA.out
          obtain ⟨xa, xc, rfl⟩ := row_form HG.out.row
          have hrs : rs.length ≤ 20000020 := by have := HC.out.1; omega
          by_cases hli : i < 20
          · have hiI : (i : Int) < 20 := by omega
            go_wp2_with (at_builtin; refine wpList_pushOne' 30 23 Tryz.underlying30 infoRowJ rfl (by decide) rfl _ _ rfl w.heap.size (.slice aa rs.length ac) rs.length (rs.map (·.1)) [.slice xa (m + i) xc] wr _ rfl rfl rfl (by intro u hu; simp at hu; subst hu; rfl) 1 _ rfl rfl rfl HA.out (by omega) (by decide) (by omega) ?_)
            intro a1 w1 k1 k2 k3
            have hkT : KR 25 none wr w1 := KR.moved_other HA.out k3 (by decide)
            have HG1 := Lib.hid ((HG.out.kr hkT).record mkI_len)
            have HA1 : Hid (w1.ownsRow w.heap.size 23 1 a1 (rs ++ [(Value.slice xa (m + i) xc, n)]).length ((rs ++ [(Value.slice xa (m + i) xc, n)]).map (·.1))) := Lib.hid (by simpa using k1)
            have HK1 : Hid (Kept (fun b => b ∉ blks us ∧ b ∉ blks vs) w w1) := Lib.hid (HK.out.trans (Kept.of_below' k2) fun q hq _ => hq)
            have HC1 : Hid ((rs ++ [(Value.slice xa (m + i) xc, n)]).length = 20 * n + (i + 1) ∧ ∀ (k : Nat) r, (rs ++ [(Value.slice xa (m + i) xc, n)])[k]? = some r → r.2 = k / 20) := Lib.hid (cnt_snoc HC.out hli)
            have hz1 := k2.size
            obtain ⟨a1a, a1c, rfl⟩ := row_form k1
            have HAN1 := Lib.hid (own_kr HAN.out (KR.moved_other (row := none) HA.out k3 (by decide)) fun _ _ e => (by cases e))
            have HRN1 := Lib.hid (HRN.out.kr (KR.moved_other (row := none) HA.out k3 (by decide)))
            clear k1 k2 k3 hkT HA HG HK HC HAN HRN
            have hz2 := hz1
            go_wp2_with (at_builtin; refine wpList_pushOne' 23 25 Tryz.underlying23 infoJot rfl (by decide) rfl _ _ rfl 0 (.slice xa (m + i) xc) (m + i) (reps mkI n (m + i)) (mkI n) w1 _ rfl rfl rfl (by intro u hu; simp [mkI] at hu; rcases hu with rfl | rfl | rfl | rfl | rfl <;> rfl) 1 _ rfl rfl rfl HG1.out.row (by omega) (by decide) (by omega) ?_)
            intro x3 w3 k1 k2 k3
            obtain ⟨lab3, hg3⟩ := HG1.out.push mkI_len k3 (by rw [← reps_snoc]; exact k1)
            have HG3 := Lib.hid hg3
            have HA3 := Lib.hid (own_kr HA1.out (KR.moved_other (row := none) HG1.out.row k3 (by decide)) fun _ _ e => (by cases e))
            have HK3 : Hid (Kept (fun b => b ∉ blks us ∧ b ∉ blks vs) w w3) := Lib.hid (HK1.out.trans (k3.keptK k2) fun q hq ho e => by
              rcases HXB.out q e.symm with h | h
              · omega
              · exact ho.2 h)
            have HXB3 : Hid (∀ b, x3.ownBlock = some b → w.heap.size ≤ b ∨ b ∈ blks vs) := Lib.hid fun b hb => by
              rcases k3 with ⟨e, _⟩ | ⟨e, _⟩
              · exact HXB.out b (e ▸ hb)
              · have := e b hb; exact .inl (by omega)
            have hz3 := k2.size
            have HAN3 := Lib.hid (own_kr HAN1.out (KR.moved_other (row := none) HG1.out.row k3 (by decide)) fun _ _ e => (by cases e))
            have HRN3 := Lib.hid (HRN1.out.kr (KR.moved_other (row := none) HG1.out.row k3 (by decide)))
            clear k1 k2 k3 hg3 HG1 HA1 HK1 HAN1 HRN1 HXB
            go_wp2
            go_roundg (20 - (i + 1))
            case rel => exact ⟨i + 1, _, lab3, by go_num, rfl, by omega, HA3, HG3, HXB3, HC1, HAN3, HRN3, HK3, by omega⟩
            case measure => omega
          · obtain rfl : i = 20 := by omega
            have HC2 : Hid (rs.length = 20 * (n + 1) ∧ ∀ (k : Nat) r, rs[k]? = some r → r.2 = k / 20) := Lib.hid ⟨by have := HC.out.1; omega, HC.out.2⟩
            go_wp2
            go_roundg (vs.length - (n + 1))
            case rel => exact ⟨n + 1, rs, lab, by go_num, rfl, by omega, HA, Lib.hid HG.out.leave, HC2, HAN, HRN, HK, hz⟩
            case measure => omega
      · obtain rfl : n = vs.length := by omega
        go_wp2
        go_meet
        exact ⟨rs, lab, HA, Lib.hid (fun r hr => (HD.out.recs r hr).2), HC, HAN, HRN, HK, hz⟩
  case rest =>
  clear HAN HRN HK HD0 hzc HV
  obtain ⟨rs2, lab2, HAI, HRI, HCI, HAN, HRN, HK, hzc⟩ := hcut
  go_upto_block 16 with fail
  go_cut [] (fun wx => Hid (wx.ownsRow w.heap.size 23 1 u11 rs2.length (rs2.map (·.1))) ∧ Hid (RdR 25 5 mkI rs2 lab2 wx) ∧ Hid (Kept (fun b => b ∉ blks us ∧ b ∉ blks vs) w wx))
  case first =>
    obtain ⟨ga, ca, rfl⟩ := row_form HAN.out
    have hrs : rs1.length ≤ 20000000 := by have := HCN.out.1; omega
    go_wp2_with fail
    go_loopg [15] rs1.length (fun q x wr => ∃ n : Nat, x = .int .i64 n ∧ q = rs1.length - n ∧ n ≤ rs1.length ∧ Hid (wr.ownsRow w.heap.size 22 1 (.slice ga rs1.length ca) rs1.length (rs1.map (·.1))) ∧ Hid (RdR 9 1 mkN rs1 lab1 wr) ∧ Hid (wr.ownsRow w.heap.size 23 1 u11 rs2.length (rs2.map (·.1))) ∧ Hid (RdR 25 5 mkI rs2 lab2 wr) ∧ Hid (Kept (fun b => b ∉ blks us ∧ b ∉ blks vs) w wr))
    case atStart => exact ⟨0, rfl, rfl, Nat.zero_le _, HAN, HRN, HAI, HRI, HK⟩
    case round =>
      clear HAN HRN  HAI HRI HK
      obtain ⟨n, rfl, rfl, hn, HAN, HRN, HAI, HRI, HK⟩ := hrel
      by_cases hlt : n < rs1.length
      · obtain ⟨⟨u, k⟩, hr⟩ : ∃ r, rs1[n]? = some r := ⟨_, List.getElem?_eq_getElem hlt⟩
        have hk := HCN.out.2 n _ hr
        simp only at hk
        obtain ⟨xa, l, xc, hux, hl, hat⟩ := (HRN.out _ (List.mem_of_getElem? hr)).form
        simp only at hux
        subst hux
        have HRr := Lib.hid hr
        have HUm : Hid ((rs1.map (·.1))[n]? = some (.slice xa l xc)) := Lib.hid (by rw [List.getElem?_map, hr]; rfl)
        obtain ⟨-, -, gn, rfl, c0⟩ := rowCell HAN.out HUm.out
        have hn0 : (0 : Int) ≤ (n : Int) := by omega
        have hn1 : (n : Int) < (rs1.length : Int) := by omega
        have HKk := Lib.hid hk
        clear hr hk hat
        go_wp2_with fail
        go_loopg [16] l (fun q x wi => ∃ i : Nat, x = .int .i64 i ∧ q = l - i ∧ i ≤ l ∧ Hid (wi.ownsRow w.heap.size 22 1 (.slice (some ⟨gn, 0, none⟩) rs1.length ca) rs1.length (rs1.map (·.1))) ∧ Hid (RdR 9 1 mkN rs1 lab1 wi) ∧ Hid (wi.ownsRow w.heap.size 23 1 u11 rs2.length (rs2.map (·.1))) ∧ Hid (RdR 25 5 mkI rs2 lab2 wi) ∧ Hid (Kept (fun b => b ∉ blks us ∧ b ∉ blks vs) w wi))
        case atStart => exact ⟨0, rfl, rfl, Nat.zero_le _, HAN, HRN, HAI, HRI, HK⟩
        case round =>
          clear HAN HRN  HAI HRI HK c0
          obtain ⟨i, rfl, rfl, hi, HAN, HRN, HAI, HRI, HK⟩ := hrel
          obtain ⟨-, -, gn', hgn, c0⟩ := rowCell HAN.out HUm.out
          obtain rfl : gn = gn' := by simpa using hgn
          clear hgn
          by_cases hli : i < l
          · obtain ⟨xa', l', xc', hux', -, hat⟩ := (HRN.out _ (List.mem_of_getElem? HRr.out)).form
            obtain ⟨rfl, rfl, rfl⟩ : xa = xa' ∧ l = l' ∧ xc = xc' := by simpa using hux'
            obtain ⟨b, rfl, hbl, hbc⟩ := hat i hli
            have hi0 : (0 : Int) ≤ (i : Int) := by omega
            have hi1 : (i : Int) < (l : Int) := by omega
            have y1 := hbc 0 (by decide)
            simp only [HKk.out] at y1
            clear hux' hat hbc
            have c1 : wr.cell? ⟨b, i, none⟩ = some (S (markS (n / 20))) := by simpa [mkN] using y1
            have CM := Lib.hid (fun W => mark_int n (by omega) W)
            have hw20 : IntKind.i64.wrap ((n : Int) / 20) = (n : Int) / 20 := IntWalk.i64_in _ (by omega)
            clear y1
            go_wp2
            go_region_held3 (fun w' => w'.cell? ⟨gn, n, none⟩ = some (.slice (some ⟨b, 0, none⟩) l xc) ∧ w'.cell? ⟨b, i, none⟩ = some (S (markS (n / 20)))) (go_keep)
              (first
                | (go_at_call 40; (with_reducible refine (CM.out _).mono ?_); rintro e W1 ⟨rfl, hk1⟩; have y0 := hk1.drewCell c0; have y1 := hk1.drewCell c1; have HK1 := Lib.hid hk1; clear hk1))
            have hkW : Kept (fun _ => True) wr W1 := ((Kept.refl _ wr).drew).tr HK1.out
            have HANS := Lib.hid (own_kr HAN.out (KR.of (row := none) hkW) fun _ _ e => (by cases e))
            have HRNS := Lib.hid (HRN.out.kr (KR.of hkW))
            have HAIS := Lib.hid (own_kr HAI.out (KR.of (row := none) hkW) fun _ _ e => (by cases e))
            have HRIS := Lib.hid (HRI.out.kr (KR.of hkW))
            have HKS : Hid (Kept (fun b => b ∉ blks us ∧ b ∉ blks vs) w W1) := Lib.hid (HK.out.trans hkW fun _ _ _ => trivial)
            clear hkW
            go_wp2
            go_roundg (l - (i + 1))
            case rel => exact ⟨i + 1, by go_num, rfl, by omega, HANS, HRNS, HAIS, HRIS, HKS⟩
            case measure => omega
          · obtain rfl : i = l := by omega
            go_wp2
            go_roundg (rs1.length - (n + 1))
            case rel => exact ⟨n + 1, by go_num, rfl, by omega, HAN, HRN, HAI, HRI, HK⟩
            case measure => omega
      · obtain rfl : n = rs1.length := by omega
        go_wp2
        go_meet
        exact ⟨HAI, HRI, HK⟩
  case rest =>
  clear HAN HRN HAI HRI HK
  obtain ⟨HAI, HRI, HK⟩ := hcut
  obtain ⟨ga, ca, rfl⟩ := row_form HAI.out
  have hrs : rs2.length ≤ 20000000 := by have := HCI.out.1; omega
  go_wp2_with fail
  go_loopg [17] rs2.length (fun q x wr => ∃ n : Nat, x = .int .i64 n ∧ q = rs2.length - n ∧ n ≤ rs2.length ∧ Hid (wr.ownsRow w.heap.size 23 1 (.slice ga rs2.length ca) rs2.length (rs2.map (·.1))) ∧ Hid (RdR 25 5 mkI rs2 lab2 wr) ∧ Hid (Kept (fun b => b ∉ blks us ∧ b ∉ blks vs) w wr))
  case atStart => exact ⟨0, rfl, rfl, Nat.zero_le _, HAI, HRI, HK⟩
  case round =>
    clear HAI HRI  HK
    obtain ⟨n, rfl, rfl, hn, HAI, HRI, HK⟩ := hrel
    by_cases hlt : n < rs2.length
    · obtain ⟨⟨u, k⟩, hr⟩ : ∃ r, rs2[n]? = some r := ⟨_, List.getElem?_eq_getElem hlt⟩
      have hk := HCI.out.2 n _ hr
      simp only at hk
      obtain ⟨xa, l, xc, hux, hl, hat⟩ := (HRI.out _ (List.mem_of_getElem? hr)).form
      simp only at hux
      subst hux
      have HRr := Lib.hid hr
      have HUm : Hid ((rs2.map (·.1))[n]? = some (.slice xa l xc)) := Lib.hid (by rw [List.getElem?_map, hr]; rfl)
      obtain ⟨-, -, gn, rfl, c0⟩ := rowCell HAI.out HUm.out
      have hn0 : (0 : Int) ≤ (n : Int) := by omega
      have hn1 : (n : Int) < (rs2.length : Int) := by omega
      have HKk := Lib.hid hk
      clear hr hk hat
      go_wp2_with fail
      go_loopg [18] l (fun q x wi => ∃ i : Nat, x = .int .i64 i ∧ q = l - i ∧ i ≤ l ∧ Hid (wi.ownsRow w.heap.size 23 1 (.slice (some ⟨gn, 0, none⟩) rs2.length ca) rs2.length (rs2.map (·.1))) ∧ Hid (RdR 25 5 mkI rs2 lab2 wi) ∧ Hid (Kept (fun b => b ∉ blks us ∧ b ∉ blks vs) w wi))
      case atStart => exact ⟨0, rfl, rfl, Nat.zero_le _, HAI, HRI, HK⟩
      case round =>
        clear HAI HRI  HK c0
        obtain ⟨i, rfl, rfl, hi, HAI, HRI, HK⟩ := hrel
        obtain ⟨-, -, gn', hgn, c0⟩ := rowCell HAI.out HUm.out
        obtain rfl : gn = gn' := by simpa using hgn
        clear hgn
        by_cases hli : i < l
        · obtain ⟨xa', l', xc', hux', -, hat⟩ := (HRI.out _ (List.mem_of_getElem? HRr.out)).form
          obtain ⟨rfl, rfl, rfl⟩ : xa = xa' ∧ l = l' ∧ xc = xc' := by simpa using hux'
          obtain ⟨b, rfl, hbl, hbc⟩ := hat i hli
          have hi0 : (0 : Int) ≤ (i : Int) := by omega
          have hi1 : (i : Int) < (l : Int) := by omega
          have y1 := hbc 0 (by decide)
          simp only [HKk.out] at y1
          clear hux' hat hbc
          have c1 : wr.cell? ⟨b, i * 5, none⟩ = some (.int .i64 (-5 - (n : Int) / 20)) := by simpa [mkI] using y1
          clear y1
          go_wp2
          go_roundg (l - (i + 1))
          case rel => exact ⟨i + 1, by go_num, rfl, by omega, HAI, HRI, HK⟩
          case measure => omega
        · obtain rfl : i = l := by omega
          go_wp2
          go_roundg (rs2.length - (n + 1))
          case rel => exact ⟨n + 1, by go_num, rfl, by omega, HAI, HRI, HK⟩
          case measure => omega
    · obtain rfl : n = rs2.length := by omega
      go_wp2
      go_ret
      exact ⟨rfl, HK.out⟩
end Go.Proofs.YtmajpambfblhnaaGreatDoor
