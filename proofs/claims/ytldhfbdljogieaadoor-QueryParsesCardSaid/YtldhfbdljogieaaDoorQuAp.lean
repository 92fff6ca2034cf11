/- Walk of the law's own 'apart' (layer 3): of rows in blocks of their own it says true. -/
import Derived.Test.YtldhfbdljogieaaDoorQuAL
import Derived.Deep.RegionWith
namespace Go.Proofs.YtldhfbdljogieaaDoor
open Go.RowKit Qu

theorem infoInt : (Tryd.prog.info? 3).map (fun i => (i.zero, i.size, i.bytes)) = some (some (.int .i64 0), 1, 8) := by kernel_rfl
theorem infoRow : (Tryd.prog.info? 31).map (fun i => (i.zero, i.size, i.bytes)) = some (some (.slice none 0 0), 1, 24) := by kernel_rfl

theorem OwnF.cellsAt {N n cap j : Nat} {a : Option Addr} {fl : List Fld} {w : World} (h : OwnF N (.slice a n cap) fl w) (hn : fl.length = n) (hj : j < n) :
    ∃ (b : Nat) (f : Fld), a = some ⟨b, 0, none⟩ ∧ N ≤ b ∧ n ≤ cap ∧ b < w.heap.size ∧ (∀ o, w.frozen? ⟨b, o, none⟩ = false) ∧ w.cell? ⟨b, j * 2, none⟩ = some (S f.1) ∧ w.cell? ⟨b, j * 2 + 1, none⟩ = some (S f.2) := by
  subst hn
  have hlt := h.lt
  have hc := fun {g : Nat} (hg : (Value.slice a fl.length cap).ownBlock = some g) => h.cells hg
  rcases h.2 with ⟨h1, h2⟩ | ⟨b, cap', cur, hv, hB, hg, h1, h2, h3, h4⟩
  · omega
  · cases hv
    obtain ⟨f, hf⟩ : ∃ f, fl[j]? = some f := ⟨_, List.getElem?_eq_getElem hj⟩
    have hadd : ∀ k, (⟨b, 0, none⟩ : Addr).add k = ⟨b, k, none⟩ := fun k => by unfold Addr.add; split <;> simp_all
    obtain ⟨g1, g2⟩ := cells_fields fl j f hf
    have e1 := hc (g := b) rfl _ _ g1
    have e2 := hc (g := b) rfl _ _ g2
    rw [hadd] at e1 e2
    exact ⟨b, f, rfl, hB, h1, (hlt b rfl).2, fun o => frozen_row hg o, e1, e2⟩

theorem marks_set {ls : List (List Fld)} {fl : List Fld} {i j n : Nat} (h : ls[i]? = some fl ∧ fl.length = n ∧ ∀ q, q < j → fl[q]? = some (markF i)) (hj : j < n) :
    (ls.set i (fl.set j (markF i)))[i]? = some (fl.set j (markF i)) ∧ (fl.set j (markF i)).length = n ∧ ∀ q, q < j + 1 → (fl.set j (markF i))[q]? = some (markF i) := by
  obtain ⟨h1, h2, h3⟩ := h
  refine ⟨List.getElem?_set_self (List.getElem?_eq_some_iff.1 h1).1, by rw [List.length_set]; exact h2, fun q hq => ?_⟩
  by_cases e : j = q
  · subst e
    exact List.getElem?_set_self (by omega)
  · rw [List.getElem?_set_ne e]
    exact h3 q (by omega)
theorem rows_set {ls : List (List Fld)} {fl : List Fld} {m : Nat} (h : ∀ (k : Nat) fl, ls[k]? = some fl → fl.length ≤ 68719476736 ∧ (k < m → fl = marks fl.length k)) {i : Nat} (hf : ls[i]? = some fl) (_ j : Nat) (f : Fld) (hm : m ≤ i) :
    ∀ (k : Nat) fl', (ls.set i (fl.set j f))[k]? = some fl' → fl'.length ≤ 68719476736 ∧ (k < m → fl' = marks fl'.length k) := by
  intro k fl' hk
  by_cases e : i = k
  · subst e
    rw [List.getElem?_set_self (List.getElem?_eq_some_iff.1 hf).1] at hk
    cases hk
    exact ⟨by rw [List.length_set]; exact (h i fl hf).1, fun hlt => by omega⟩
  · rw [List.getElem?_set_ne e] at hk
    exact h k fl' hk
theorem rows_done {ls : List (List Fld)} {fl : List Fld} {i n : Nat} (h : ∀ (k : Nat) fl, ls[k]? = some fl → fl.length ≤ 68719476736 ∧ (k < i → fl = marks fl.length k)) (hf : ls[i]? = some fl ∧ fl.length = n ∧ ∀ q, q < n → fl[q]? = some (markF i)) :
    ∀ (k : Nat) fl, ls[k]? = some fl → fl.length ≤ 68719476736 ∧ (k < i + 1 → fl = marks fl.length k) := by
  intro k fl' hk
  refine ⟨(h k fl' hk).1, fun hlt => ?_⟩
  by_cases e : k = i
  · subst e
    rw [hf.1] at hk
    cases hk
    apply List.ext_getElem?
    intro q
    by_cases hq : q < fl.length
    · rw [hf.2.2 q (by have := hf.2.1; omega), marks_get hq]
    · rw [List.getElem?_eq_none (by omega), List.getElem?_eq_none (by rw [marks_len]; omega)]
  · exact (h k fl' hk).2 (by omega)

set_option maxHeartbeats 4000000 in
set_option maxRecDepth 100000 in
theorem apart_any (N : Nat) (lab : Nat → Nat) (g cap : Nat) (vs : List Value) (ls : List (List Fld)) (w : World) (h : Rws N lab g vs ls 0 w) (hvl : vs.length ≤ 200) (hv0 : 0 < vs.length) (hll : ∀ fl ∈ ls, fl.length ≤ 68719476736) (hN : N ≤ w.heap.size) :
    Calls Tryd.prog 17 #[.slice (some ⟨g, 0, none⟩) vs.length cap] w fun e w' => e = .returned (.bool true) ∧ Below N w w' := by
  have HLL := Lib.hid hll
  have HR := Lib.hid h
  clear h hll
  go_enter Tryd.func17, Tryd.ntmps17
  go_wp2
  go_loopw [3] (fun x wr => ∃ (i : Nat) (ls' : List (List Fld)), x = .int .i64 i ∧ i ≤ vs.length ∧ Hid (Rws N lab g vs ls' 0 wr) ∧ Hid (∀ (k : Nat) fl, ls'[k]? = some fl → fl.length ≤ 68719476736 ∧ (k < i → fl = marks fl.length k)) ∧ Below N w wr) (fun x _ => vs.length - (intOf x).toNat)
  case atStart => exact ⟨0, ls, rfl, Nat.zero_le _, HR, Lib.hid (fun k fl hf => ⟨HLL.out fl (List.mem_of_getElem? hf), fun hk => by omega⟩), Below.refl _ _⟩
  case round =>
    obtain ⟨i, ls', rfl, hi, HRw, HM, hbw⟩ := hrel
    by_cases hlt : i < vs.length
    · have hi0 : (0 : Int) ≤ (i : Int) := by omega
      have hi1 : (i : Int) < (vs.length : Int) := by omega
      obtain ⟨u, hu⟩ : ∃ u, vs[i]? = some u := ⟨_, List.getElem?_eq_getElem hlt⟩
      obtain ⟨fl, hf⟩ : ∃ fl, ls'[i]? = some fl := ⟨_, List.getElem?_eq_getElem (by have := HRw.out.len; omega)⟩
      obtain ⟨ua, ucap, hue⟩ := fldIn_len (HRw.out.own i u fl (Nat.zero_le _) hu hf).1.fldIn
      obtain ⟨n, hn⟩ : ∃ n, fl.length = n := ⟨_, rfl⟩
      have hn64 := (HM.out i fl hf).1
      rw [hn] at hue hn64
      subst hue
      have HU := Lib.hid hu
      have HF := Lib.hid hf
      have HN := Lib.hid hn
      clear hu hf hn
      go_wp2
      go_loopw [4] (fun x wi => ∃ (j : Nat) (ls2 : List (List Fld)) (fl2 : List Fld), x = .int .i64 j ∧ j ≤ n ∧ Hid (Rws N lab g vs ls2 0 wi) ∧ Hid (ls2[i]? = some fl2 ∧ fl2.length = n ∧ ∀ q, q < j → fl2[q]? = some (markF i)) ∧
          Hid (∀ (k : Nat) fl, ls2[k]? = some fl → fl.length ≤ 68719476736 ∧ (k < i → fl = marks fl.length k)) ∧ Below N w wi) (fun x _ => n - (intOf x).toNat)
      case atStart => exact ⟨0, ls', fl, rfl, Nat.zero_le _, HRw, Lib.hid ⟨HF.out, HN.out, fun q hq => by omega⟩, HM, hbw⟩
      case round =>
        obtain ⟨j, ls2, fl2, rfl, hj, HRw2, HF2, HM2, hbw2⟩ := hrel
        have c0 := HRw2.out.cell i _ HU.out
        by_cases hjn : j < n
        · obtain ⟨b, f, rfl, hNb, hncap, hbl, hfz, d0, d1⟩ := (HRw2.out.own i _ fl2 (Nat.zero_le _) HU.out HF2.out.1).1.cellsAt HF2.out.2.1 hjn
          have f0 := hfz (j * 2)
          have f1 := hfz (j * 2 + 1)
          have hj0 : (0 : Int) ≤ (j : Int) := by omega
          have hj1 : (j : Int) < (n : Int) := by omega
          have CM := Lib.hid (fun w => mark_any i (by omega) w)
          have hgl := HRw2.out.lt
          clear hfz
          go_wp2
          go_region_with
            (first
              | (go_at_call 34; (with_reducible refine (CM.out _).mono ?_); rintro e W1 ⟨rfl, hb1⟩; have y0 := ((bcell hb1).1 g i (by simp only [World.size_drew]; exact hgl)).trans c0; have y1 := ((bcell hb1).1 b (j * 2) (by simp only [World.size_drew]; exact hbl)).trans d0; have y2 := ((bcell hb1).1 b (j * 2 + 1) (by simp only [World.size_drew]; exact hbl)).trans d1; have y3 := ((bcell hb1).2 b (j * 2) (by simp only [World.size_drew]; exact hbl)).trans f0; have y4 := ((bcell hb1).2 b (j * 2 + 1) (by simp only [World.size_drew]; exact hbl)).trans f1))
          all_goals
            have hbW : Below wr.heap.size wr W1 := ((Below.refl _ wr).drew).trans (hb1.mono (by simp))
            go_wp2
            go_roundw
            case rel =>
              refine ⟨j + 1, ls2.set i (fl2.set j (markF i)), fl2.set j (markF i), by go_num, by omega, Lib.hid ((HRw2.out.below hbW).store (Nat.zero_le _) HU.out HF2.out.1 HF2.out.2.1 (markF i)), Lib.hid (marks_set HF2.out hjn), Lib.hid (rows_set HM2.out HF2.out.1 0 j (markF i) (Nat.le_refl _)), ?_⟩
              exact ((hbw2.trans (hbW.mono (by have := hbw2.size; omega))).setCell (by exact hNb) _).setCell (by exact hNb) _
            case measure => simp [intOf]; omega
        · obtain rfl : j = n := by omega
          have hjI : ¬ (j : Int) < (j : Int) := by omega
          go_wp2
          go_roundw
          case rel => exact ⟨i + 1, ls2, by go_num, by omega, HRw2, Lib.hid (rows_done HM2.out HF2.out), hbw2⟩
          case measure => simp [intOf]; omega
    · obtain rfl : i = vs.length := by omega
      have hsI : ¬ (vs.length : Int) < (vs.length : Int) := by omega
      have HL : Hid (∀ (k : Nat) fl, k < vs.length → ls'[k]? = some fl → fl.length ≤ 68719476736 ∧ fl = marks fl.length k) := Lib.hid fun k fl hk hf => ⟨(HM.out k fl hf).1, (HM.out k fl hf).2 hk⟩
      clear HM
      go_wp2
      go_loopw [5, 6, 7] (fun a h x wi => ∃ (i : Nat) (rs : List (Value × Nat)) (lab' : Nat → Nat), x = .int .i64 i ∧ i ≤ vs.length ∧ rs.length = 40 * i ∧ Hid (Hd N g vs ls' i a h rs lab' wi) ∧ Below N w wi) (fun _ _ x _ => vs.length - (intOf x).toNat)
      case atStart => exact ⟨0, [], lab, rfl, Nat.zero_le _, rfl, Lib.hid (Hd.start HRw.out), hbw⟩
      case round =>
        obtain ⟨i, rs, lab', rfl, hi, hrl, HH, hbi⟩ := hrel
        by_cases hlt : i < vs.length
        · have hi0 : (0 : Int) ≤ (i : Int) := by omega
          have hi1 : (i : Int) < (vs.length : Int) := by omega
          obtain ⟨u, hu⟩ : ∃ u, vs[i]? = some u := ⟨_, List.getElem?_eq_getElem hlt⟩
          obtain ⟨fl, hf⟩ : ∃ fl, ls'[i]? = some fl := ⟨_, List.getElem?_eq_getElem (by have := HRw.out.len; omega)⟩
          obtain ⟨hfl, hfm⟩ := HL.out i fl hlt hf
          obtain ⟨n, hn⟩ : ∃ n, fl.length = n := ⟨_, rfl⟩
          rw [hn] at hfl hfm
          have c0 := HH.out.rws.cell i u hu
          have HA0 := Lib.hid (HH.out.enter hu (by rw [hf, hfm]))
          clear hf hfm hn hu
          go_wp2
          go_loopw [5, 6, 8, 9] (fun a h cu x wj => ∃ (j : Nat) (rs : List (Value × Nat)) (lab' : Nat → Nat), x = .int .i64 j ∧ j ≤ 40 ∧ rs.length = 40 * i + j ∧ Hid (App N g vs ls' i (n + j) a h cu rs rs lab' wj) ∧ Below N w wj) (fun _ _ _ x _ => 40 - (intOf x).toNat)
          case atStart => exact ⟨0, rs, lab', rfl, Nat.zero_le _, hrl, HA0, hbi⟩
          case round =>
            obtain ⟨j, rs, lab', rfl, hj, hrl, HA, hbj⟩ := hrel
            have hNj : N ≤ wr.heap.size := by have := hbj.size; omega
            by_cases hj40 : j < 40
            · have hj0 : (j : Int) < 40 := by omega
              obtain ⟨ca, ccap, hcu⟩ := fldIn_len HA.out.row.fldIn
              rw [marks_len] at hcu
              subst hcu
              have hrs : rs.length ≤ 8100 := by omega
              have HRL := Lib.hid hrl
              clear hrl
              have CM := Lib.hid (fun w => mark_any i (by omega) w)
              go_wp2_with (at_builtin; refine wpList_pushOne 30 31 Tryd.underlying30 infoRow rfl (by decide) rfl _ _ rfl N _ rs.length (rs.map fun r => r.1) [.slice ca (n + j) ccap] wr _ rfl rfl rfl (by intro u hu; simp at hu; subst hu; rfl) 1 _ rfl rfl rfl HA.out.all (by omega) (by decide) hNj ?_)
              intro a' w1 g1 g2 g3
              obtain ⟨lab1, A1⟩ := HA.out.pushAll g3 (by simpa using g1)
              have HA1 := Lib.hid A1
              have hz1 := g3.kept.1
              clear g1 A1
              have hwho := HA1.out.who
              have hNw1 : N ≤ w1.heap.size := by omega
              have honeI : ∀ u ∈ [Value.int .i64 (i : Int)], u.oneCell' = true := by intro u hu; simp at hu; subst hu; rfl
              go_wp2_with (at_builtin; refine wpList_pushOne 58 3 Tryd.underlying58 infoInt rfl (by decide) rfl _ _ rfl N _ rs.length _ [Value.int .i64 (i : Int)] w1 _ rfl rfl rfl honeI 1 _ rfl rfl rfl hwho (by omega) (by decide) hNw1 ?_)
              intro h' w2 k1 k2 k3
              obtain ⟨lab2, A2⟩ := HA1.out.pushWho k3 (.slice ca (n + j) ccap) (by simpa using k1)
              have HA2 := Lib.hid A2
              have hz2 := k3.kept.1
              clear k1 A2
              go_wp2_with fail
              refine (CM.out _).mono ?_
              rintro e w3 ⟨rfl, hb3⟩
              have hz3 := hb3.size
              have HA3 := Lib.hid (HA2.out.below hb3)
              have hrow3 := HA3.out.row
              unfold OwnF at hrow3
              rw [marks_len] at hrow3
              have HR3 := Lib.hid hrow3
              clear hrow3
              go_wp2_with (at_builtin; refine wpList_pushOne 31 44 Tryd.underlying31 infoField rfl (by decide) rfl _ _ rfl N _ (n + j) (fieldCells (marks (n + j) i)) [S (markF i).1, S (markF i).2] w3 _ rfl rfl rfl (by intro u hu; simp at hu; rcases hu with rfl | rfl <;> rfl) 1 _ (by simp) rfl rfl HR3.out (by omega) (by decide) (by omega) ?_)
              intro c' w4 m1 m2 m3
              obtain ⟨lab4, A4⟩ := HA3.out.pushRow m3 (by unfold OwnF; rw [marks_len, ← marks_snoc, fieldCells_snoc]; exact m1)
              have HA4 := Lib.hid A4
              clear m1 A4
              go_wp2
              go_roundw
              case rel => exact ⟨j + 1, rs ++ [(.slice ca (n + j) ccap, i)], lab4, by go_num, by omega, by have := HRL.out; rw [List.length_append]; simp; omega, HA4, ((hbj.trans g2).trans k2).trans ((hb3.mono (by omega)).trans m2)⟩
              case measure => simp [intOf]; omega
            · obtain rfl : j = 40 := by omega
              go_wp2
              go_roundw
              case rel => exact ⟨i + 1, rs, lab', by go_num, by omega, by omega, Lib.hid HA.out.leave, hbj⟩
              case measure => simp [intOf]; omega
        · obtain rfl : i = vs.length := by omega
          obtain ⟨ga, ca, gh, ch, hea, heh, hla, hlh, hRd⟩ := HH.out.read (by omega)
          subst hea heh
          have hrs : rs.length ≤ 8100 := by omega
          have HRd := Lib.hid hRd
          clear hrl hRd
          go_wp2
          go_loopw [10] (fun x wi => ∃ k : Nat, x = .int .i64 k ∧ k ≤ rs.length ∧ Hid (RdAll rs ga gh vs.length lab' wi) ∧ Below N w wi) (fun x _ => rs.length - (intOf x).toNat)
          case atStart => exact ⟨0, rfl, Nat.zero_le _, HRd, hbi⟩
          case round =>
            obtain ⟨k, rfl, hk, HRk, hbk⟩ := hrel
            by_cases hlt : k < rs.length
            · have hk0 : (0 : Int) ≤ (k : Int) := by omega
              have hk1 : (k : Int) < (rs.length : Int) := by omega
              obtain ⟨r, hr⟩ : ∃ r, rs[k]? = some r := ⟨_, List.getElem?_eq_getElem hlt⟩
              obtain ⟨c0, _, hrv, hrec⟩ := HRk.out.2.2 k r hr
              obtain ⟨rv, ri⟩ := r
              obtain ⟨x, m, rcap, hx, hm, hxb⟩ := hrec.form
              simp only at hx hrv c0
              subst hx
              have HX := Lib.hid hxb
              have HRr := Lib.hid hr
              unfold maxLen at hm
              clear hrec hr hxb c0
              go_wp2
              go_loopw [11] (fun x wi => ∃ j : Nat, x = .int .i64 j ∧ j ≤ m ∧ Hid (RdAll rs ga gh vs.length lab' wi) ∧ Below N w wi) (fun x _ => m - (intOf x).toNat)
              case atStart => exact ⟨0, rfl, Nat.zero_le _, HRk, hbk⟩
              case round =>
                obtain ⟨j, rfl, hj, HRj, hbj⟩ := hrel
                obtain ⟨c0, c1, _, hrec⟩ := HRj.out.2.2 k _ HRr.out
                simp only at c0 c1 hrec
                by_cases hjm : j < m
                · obtain ⟨b, rfl⟩ := HX.out j hjm
                  have hj0 : (0 : Int) ≤ (j : Int) := by omega
                  have hj1 : (j : Int) < (m : Int) := by omega
                  obtain ⟨hmc, hbl, hcl⟩ := hrec.get
                  obtain ⟨d0, d1⟩ := hcl j hjm
                  have hal := HRj.out.1
                  have hhl := HRj.out.2.1
                  have CM := Lib.hid (fun w => mark_any ri (by omega) w)
                  clear hcl hrec
                  go_wp2
                  go_region_held3 (fun w' => w'.cell? ⟨ga, k, none⟩ = some (.slice (some ⟨b, 0, none⟩) m rcap) ∧ w'.cell? ⟨b, j * 2, none⟩ = some (S (markF ri).1) ∧ w'.cell? ⟨b, j * 2 + 1, none⟩ = some (S (markF ri).2) ∧ w'.cell? ⟨gh, k, none⟩ = some (.int .i64 (ri : Int))) (go_keep)
                    (first
                      | (go_at_call 34; (with_reducible refine (CM.out _).mono ?_); rintro e W1 ⟨rfl, hb1⟩; have y0 := ((bcell hb1).1 ga k (by simp only [World.size_drew]; exact hal)).trans c0; have y1 := ((bcell hb1).1 b (j * 2) (by simp only [World.size_drew]; exact hbl)).trans d0; have y2 := ((bcell hb1).1 b (j * 2 + 1) (by simp only [World.size_drew]; exact hbl)).trans d1; have y3 := ((bcell hb1).1 gh k (by simp only [World.size_drew]; exact hhl)).trans c1))
                  have hbW : Below wr.heap.size wr W1 := ((Below.refl _ wr).drew).trans (hb1.mono (by simp))
                  have hzW := hbj.size
                  go_wp2
                  go_roundw
                  case rel => exact ⟨j + 1, by go_num, by omega, Lib.hid (HRj.out.below hbW), hbj.trans (hbW.mono (by omega))⟩
                  case measure => simp [intOf]; omega
                · obtain rfl : j = m := by omega
                  have hjI : ¬ (j : Int) < (j : Int) := by omega
                  clear hrec
                  go_wp2
                  go_roundw
                  case rel => exact ⟨k + 1, by go_num, by omega, HRj, hbj⟩
                  case measure => simp [intOf]; omega
            · have hkI : ¬ (k : Int) < (rs.length : Int) := by omega
              go_wp2
              go_ret
              exact ⟨rfl, hbk⟩
end Go.Proofs.YtldhfbdljogieaaDoor
