/- Walks of the reference of layer 5, its reader, fifth part: what stands at a text's beginning. -/
import Derived.Test.YtaomhkgdbobpkaaGreatDoorWiS4
namespace Go.Proofs.YtaomhkgdbobpkaaGreatDoor
open Go.RowKit Wi

theorem own_base {e : TypeId} {B size n : Nat} {v : Value} {xs : List Value} {w : World} (h : w.ownsRow B e size v n xs) {b : Nat} (hb : v.ownBlock = some b) : B ≤ b := by
  rcases h.2 with ⟨rfl, _⟩ | ⟨g, cap, cur, rfl, hB, _⟩
  · cases hb
  · obtain rfl : g = b := by simpa [Value.ownBlock] using hb
    exact hB
theorem cutT_len2 {c : UInt8} {t n v : List UInt8} {is : Bool} (h : cutT c t = (n, v, is)) (ht : t.length ≤ 1001) : v.length ≤ 1000 := by
  unfold cutT at h
  cases hc : cutP c t with
  | none => rw [hc] at h; simp only [Prod.mk.injEq] at h; rw [← h.2.1]; simp
  | some x =>
    obtain ⟨a, b⟩ := x
    rw [hc] at h
    simp only [Prod.mk.injEq] at h
    have := cutP_len hc
    rw [← h.2.1]
    omega
theorem sEmpty : Value.string ByteArray.empty = S [] := by congr 1
theorem first_line {s l rest : List UInt8} {ans : Bool} (h : lineP 1002 (s.drop 0) = .line l rest) :
    ansP (begin' ans) s = match (if Lib.hasSuffix l [13] = true then beginsP (atL (begin' ans) l.length) (Lib.trimSuffix l [13]) else none) with
      | none => .inr 50
      | some r' => ansP { r' with ph := 1 } rest := by
  rw [List.drop_zero] at h
  exact hd_first (r := begin' ans) rfl rfl h
theorem begin_hd {l : List UInt8} {ans : Bool} {r' : R} (h : beginsP (atL (begin' ans) l.length) (Lib.trimSuffix l [13]) = some r') : Hd ans (-1) { r' with ph := 1 } ∧ r'.hs = [] := by
  obtain ⟨f, rfl, -, -⟩ := beginsP_inv h
  exact ⟨⟨rfl, rfl, rfl, rfl, rfl, by simp [atL, begin']⟩, rfl⟩
theorem sizeP_err (v : List UInt8) : (sizeP v).2 = 0 ∨ (sizeP v).2 = 52 ∨ (sizeP v).2 = 53 := by
  unfold sizeP
  split
  · exact .inr (.inl rfl)
  · split
    · exact .inr (.inr rfl)
    · exact .inl rfl
set_option maxHeartbeats 8000000 in
set_option maxRecDepth 100000 in
theorem read_any (s : List UInt8) (ans : Bool) (w : World) (hs : s.length ≤ 1099511627776) :
    Calls Tryz.prog 37 #[S s, .bool ans] w (RdQ s ans w) := by
  have hsz : (⟨s.toArray⟩ : ByteArray).size = s.length := size_mk s
  obtain ⟨W1, hW1⟩ : ∃ W1, (w.alloc zGot).alloc zGot = W1 := ⟨_, rfl⟩
  have hz1 : noGot w.heap.size W1 := by
    rw [← hW1]
    exact (Below.heap_alloc (w.alloc zGot) zGot w.heap.size (by simp)).trans (heap_alloc_new w zGot)
  have hg1 : noGot (w.heap.size + 1) W1 := by
    rw [← hW1]
    have := heap_alloc_new (w.alloc zGot) zGot
    rwa [show (w.alloc zGot).heap.size = w.heap.size + 1 by simp] at this
  have hk1 : Kept (fun _ => True) w W1 := by rw [← hW1]; exact ((Kept.refl _ w).alloc _).alloc _
  have HZ1 := Lib.hid hz1
  have HG1 := Lib.hid hg1
  have HK1 := Lib.hid hk1
  obtain ⟨L0, hL0⟩ : ∃ L0, lineP 1002 (s.drop 0) = L0 := ⟨_, rfl⟩
  have LN : Hid (Calls Tryz.prog 66 #[S s, .int .i64 0] W1 fun e w' => e = .returned (lineV (lineT 0 L0)) ∧ Kept (fun _ => True) W1 w') := Lib.hid (by rw [← hL0]; exact line_any s 0 W1 hs (Nat.zero_le _))
  clear hz1 hg1 hk1
  cases L0 with
  | long =>
    have hR : ansP (begin' ans) s = .inr 53 := hd_long (by simp [begin']) rfl (by rw [← hL0, List.drop_zero])
    rw [lineT_long] at LN
    clear hL0
    go_enter Tryz.func37, Tryz.ntmps37
    go_wp2_with fail
    refine LN.out.mono ?_
    rintro e w2 ⟨rfl, hk2⟩
    have hz2 := HZ1.out.kept hk2 trivial
    obtain ⟨W, hW, ⟨d0, d1, d2, d3, d4, d5, d6, d7⟩, hq⟩ := errQ hR (E := 53) rfl hz2 (HK1.out.tr hk2)
    obtain ⟨f0, f1, f2, f3, f4, f5, f6, f7⟩ := hz2.free
    obtain ⟨z0, z1, z2, z3, z4, z5, z6, z7⟩ := hz2.cells
    have HQ := Lib.hid hq
    clear hk2 hz2 hq hR
    go_wp2
    refine bodyPost_ret (v := gotV [] [] 0 (.slice none 0 0) [] 0 false 53) (by simp [results, Tryz.results37, go_sem, d0, d1, d2, d3, d4, d5, d6, d7]) rfl ?_
    exact HQ.out
  | none =>
    have hR : ansP (begin' ans) s = .inr 56 := hd_none (by simp [begin']) rfl (by rw [← hL0, List.drop_zero])
    rw [lineT_none] at LN
    clear hL0
    go_enter Tryz.func37, Tryz.ntmps37
    go_wp2_with fail
    refine LN.out.mono ?_
    rintro e w2 ⟨rfl, hk2⟩
    have hz2 := HZ1.out.kept hk2 trivial
    obtain ⟨W, hW, ⟨d0, d1, d2, d3, d4, d5, d6, d7⟩, hq⟩ := errQ hR (E := 0) rfl hz2 (HK1.out.tr hk2)
    obtain ⟨f0, f1, f2, f3, f4, f5, f6, f7⟩ := hz2.free
    obtain ⟨z0, z1, z2, z3, z4, z5, z6, z7⟩ := hz2.cells
    have HQ := Lib.hid hq
    clear hk2 hz2 hq hR
    go_wp2
    refine bodyPost_ret (v := gotV [] [] 0 (.slice none 0 0) [] 0 false 0) (by simp [results, Tryz.results37, go_sem, d0, d1, d2, d3, d4, d5, d6, d7]) rfl ?_
    exact HQ.out
  | line l rest =>
    have HF := Lib.hid (first_line (ans := ans) hL0)
    have HBH := Lib.hid (fun r' h => begin_hd (ans := ans) (l := l) (r' := r') h)
    obtain ⟨e1, e2, e3, e4⟩ := line_next hL0
    have HRS := Lib.hid e1
    obtain ⟨t, ht⟩ : ∃ t, Lib.trimSuffix l [13] = t := ⟨_, rfl⟩
    obtain ⟨has, hh⟩ : ∃ has, Lib.hasSuffix l [13] = has := ⟨_, rfl⟩
    obtain ⟨y, hy⟩ : ∃ y, 0 + l.length + 1 = y := ⟨_, rfl⟩
    unfold lineT at LN
    simp only at LN
    rw [ht, hh, hy] at LN
    rw [ht] at HBH e4
    rw [ht, hh] at HF
    rw [hy] at HRS e2
    have qy : ((y : Int) == 0) = false := by rw [beq_eq_false_iff_ne]; omega
    clear hL0 e1 e3 ht hh hy
    go_enter Tryz.func37, Tryz.ntmps37
    go_wp2_with fail
    refine LN.out.mono ?_
    rintro e w2 ⟨rfl, hk2⟩
    have HZ2 := Lib.hid (HZ1.out.kept hk2 trivial)
    have HG2 := Lib.hid (HG1.out.kept hk2 trivial)
    have HK2 := Lib.hid (HK1.out.tr hk2)
    clear hk2 LN HZ1 HG1 HK1 hW1
    go_upto_if 36 with fail
    go_cut [10] (fun fv wx => ∃ (M P : List UInt8) (st : Int) (f : Bool), fv = .bool f ∧ Hid (GotAt (w.heap.size + 1) M P st (.slice none 0 0) wx) ∧ Hid (Kept (· ≠ w.heap.size + 1) w2 wx) ∧ Hid ((f = false → beginsP (atL (begin' ans) l.length) t = none) ∧ (f = true → ∃ r', beginsP (atL (begin' ans) l.length) t = some r' ∧ (ans = true → st = (decP (r'.first.getD 0 []) : Nat)) ∧ (ans = false → r'.first = [M, P]))))
    case first =>
      have hgat : GotAt (w.heap.size + 1) [] [] 0 (.slice none 0 0) w2 := HG2.out
      cases ans with
      | true =>
        have TD := Lib.hid (gotTold_any (w.heap.size + 1) [] [] 0 (.slice none 0 0) t w2 hgat e4)
        have HB : Hid (beginsP (atL (begin' true) l.length) t = (statusP t).map fun d => { atL (begin' true) l.length with first := [d] }) := Lib.hid rfl
        clear hgat
        go_wp2_with fail
        refine TD.out.mono ?_
        rintro e w3 ⟨st, rfl, h1, h2, h3⟩
        have H1 := Lib.hid h1
        have H2 := Lib.hid h2
        have H3 := Lib.hid h3
        clear h1 h2 h3
        go_wp2_with fail
        go_meet
        refine ⟨[], [], st, (statusP t).isSome, rfl, H2, H3, Lib.hid ⟨fun hf => ?_, fun hf => ?_⟩⟩
        · have hn : statusP t = none := by
            cases hq : statusP t with
            | none => rfl
            | some d => rw [hq] at hf; cases hf
          rw [HB.out, hn]; rfl
        · obtain ⟨d, hd⟩ := Option.isSome_iff_exists.1 hf
          refine ⟨{ atL (begin' true) l.length with first := [d] }, by rw [HB.out, hd]; rfl, fun _ => H1.out d hd, fun h => by cases h⟩
      | false =>
        have TD := Lib.hid (asked_any (w.heap.size + 1) [] [] 0 (.slice none 0 0) t w2 hgat (by omega))
        have HB : Hid (beginsP (atL (begin' false) l.length) t = (askedP t).map fun x => { atL (begin' false) l.length with first := [x.1, x.2] }) := Lib.hid rfl
        clear hgat
        go_wp2_with fail
        refine TD.out.mono ?_
        rintro e w3 ⟨a, b, rfl, h1, h2, h3⟩
        have H1 := Lib.hid h1
        have H2 := Lib.hid h2
        have H3 := Lib.hid h3
        clear h1 h2 h3
        go_wp2_with fail
        go_meet
        refine ⟨a, b, 0, (askedP t).isSome, rfl, H2, H3, Lib.hid ⟨fun hf => ?_, fun hf => ?_⟩⟩
        · have hn : askedP t = none := by
            cases hq : askedP t with
            | none => rfl
            | some d => rw [hq] at hf; cases hf
          rw [HB.out, hn]; rfl
        · obtain ⟨x, hx⟩ := Option.isSome_iff_exists.1 hf
          obtain rfl := H1.out x hx
          refine ⟨{ atL (begin' false) l.length with first := [a, b] }, by rw [HB.out, hx]; rfl, fun h => (by cases h), fun _ => rfl⟩
    case rest =>
      rename World => w3
      obtain ⟨M, P, st, f, rfl, HG3, HK3', HFF⟩ := hcut
      have HZ3 : Hid (noGot w.heap.size w3) := Lib.hid (HZ2.out.kept HK3'.out (by omega))
      have HK3 : Hid (Kept (fun _ => True) w w3) := Lib.hid (HK2.out.trans HK3'.out fun i hi _ => by omega)
      clear HK3' HZ2 HG2 HK2
      cases f with
      | false =>
        have hR : ansP (begin' ans) s = .inr 50 := by
          rw [HF.out, HFF.out.1 rfl]
          simp
        have hz9 : noGot w.heap.size w3 := HZ3.out
        obtain ⟨W, hW, ⟨d0, d1, d2, d3, d4, d5, d6, d7⟩, hq⟩ := errQ hR (E := 50) rfl hz9 HK3.out
        obtain ⟨f0, f1, f2, f3, f4, f5, f6, f7⟩ := hz9.free
        obtain ⟨z0, z1, z2, z3, z4, z5, z6, z7⟩ := hz9.cells
        have HQ := Lib.hid hq
        clear hz9 hq
        go_wp2
        refine bodyPost_ret (v := gotV [] [] 0 (.slice none 0 0) [] 0 false 50) (by simp [results, Tryz.results37, go_sem, d0, d1, d2, d3, d4, d5, d6, d7]) rfl ?_
        exact HQ.out
      | true =>
      cases has with
      | false =>
        have hR : ansP (begin' ans) s = .inr 50 := by
          rw [HF.out]
          simp
        have hz9 : noGot w.heap.size w3 := HZ3.out
        obtain ⟨W, hW, ⟨d0, d1, d2, d3, d4, d5, d6, d7⟩, hq⟩ := errQ hR (E := 50) rfl hz9 HK3.out
        obtain ⟨f0, f1, f2, f3, f4, f5, f6, f7⟩ := hz9.free
        obtain ⟨z0, z1, z2, z3, z4, z5, z6, z7⟩ := hz9.cells
        have HQ := Lib.hid hq
        clear hz9 hq
        go_wp2
        refine bodyPost_ret (v := gotV [] [] 0 (.slice none 0 0) [] 0 false 50) (by simp [results, Tryz.results37, go_sem, d0, d1, d2, d3, d4, d5, d6, d7]) rfl ?_
        exact HQ.out
      | true =>
      obtain ⟨r0, hr0, hst, hmp⟩ := HFF.out.2 rfl
      have HR0 : Hid (ansP (begin' ans) s = ansP { r0 with ph := 1 } (s.drop y)) := Lib.hid (by
        rw [HF.out, if_pos rfl, hr0, HRS.out])
      have HH0 := Lib.hid (HBH.out r0 hr0)
      have HFI : Hid ((ans = true → st = (decP (r0.first.getD 0 []) : Nat)) ∧ (ans = false → r0.first = [M, P])) := Lib.hid ⟨hst, hmp⟩
      clear hr0 hst hmp HF HBH HFF HRS
      go_wp2_with fail
      go_loopg [7, 11] (s.length - y) (fun q atv bv wr => ∃ (p : Nat) (bl : Int) (r : R) (hv : Value), atv = .int .i64 p ∧ bv = .int .i64 bl ∧ q = s.length - p ∧ p ≤ s.length ∧ -1 ≤ bl ∧ bl ≤ 4000 ∧ Hid (ansP (begin' ans) s = ansP r (s.drop p)) ∧ Hid (Hd ans bl r ∧ r.first = r0.first) ∧ Hid (wr.ownsRow (w.heap.size + 2) 61 2 hv r.hs.length (fieldCells r.hs)) ∧ Hid (GotAt (w.heap.size + 1) M P st hv wr) ∧ Hid (noGot w.heap.size wr) ∧ Hid (Kept (fun _ => True) w wr))
      case atStart => exact ⟨y, -1, { r0 with ph := 1 }, .slice none 0 0, rfl, rfl, rfl, e2, by omega, by omega, HR0, Lib.hid ⟨HH0.out.1, rfl⟩, Lib.hid (by rw [show ({ r0 with ph := 1 } : R).hs = [] from HH0.out.2]; exact World.ownsRow_nil _ _ _ _), HG3, HZ3, HK3⟩
      case round =>
        clear HR0 HH0 HG3 HZ3 HK3
        obtain ⟨p, bl, r, hv, rfl, rfl, rfl, hp, hb1, hb2, HR, HH, HO, HG, HZ, HK⟩ := hrel
        have LN2 := Lib.hid (fun W => line_any s p W hs hp)
        obtain ⟨L1, hL1⟩ : ∃ L, lineP 1002 (s.drop p) = L := ⟨_, rfl⟩
        rw [hL1] at LN2
        cases L1 with
        | long =>
          have hR : ansP (begin' ans) s = .inr 53 := HR.out.trans (hd_long (by rw [HH.out.1.ph]; omega) HH.out.1.line hL1)
          rw [lineT_long] at LN2
          clear hL1
          go_wp2_with fail
          refine (LN2.out _).mono ?_
          rintro e w4 ⟨rfl, hk4⟩
          have HZ4 := Lib.hid (HZ.out.kept hk4 trivial)
          have HG4 : Hid (GotAt (w.heap.size + 1) M P st hv w4) := Lib.hid (HG.out.kept hk4 trivial)
          have HO4 := Lib.hid (ownsRow_kept HO.out hk4 fun _ _ => trivial)
          have HK4 := Lib.hid (HK.out.tr hk4)
          clear hk4 LN2 HZ HG HO HK
          have hz9 : noGot w.heap.size w4 := HZ4.out
          obtain ⟨W, hW, ⟨d0, d1, d2, d3, d4, d5, d6, d7⟩, hq⟩ := errQ hR (E := 53) rfl hz9 HK4.out
          obtain ⟨f0, f1, f2, f3, f4, f5, f6, f7⟩ := hz9.free
          obtain ⟨z0, z1, z2, z3, z4, z5, z6, z7⟩ := hz9.cells
          have HQ := Lib.hid hq
          clear hz9 hq
          go_wp2
          refine bodyPost_ret (v := gotV [] [] 0 (.slice none 0 0) [] 0 false 53) (by simp [results, Tryz.results37, go_sem, d0, d1, d2, d3, d4, d5, d6, d7]) rfl ?_
          exact HQ.out
        | none =>
          have hR : ansP (begin' ans) s = .inr 56 := HR.out.trans (hd_none (by rw [HH.out.1.ph]; omega) HH.out.1.line hL1)
          rw [lineT_none] at LN2
          clear hL1
          go_wp2_with fail
          refine (LN2.out _).mono ?_
          rintro e w4 ⟨rfl, hk4⟩
          have HZ4 := Lib.hid (HZ.out.kept hk4 trivial)
          have HG4 : Hid (GotAt (w.heap.size + 1) M P st hv w4) := Lib.hid (HG.out.kept hk4 trivial)
          have HO4 := Lib.hid (ownsRow_kept HO.out hk4 fun _ _ => trivial)
          have HK4 := Lib.hid (HK.out.tr hk4)
          clear hk4 LN2 HZ HG HO HK
          have hz9 : noGot w.heap.size w4 := HZ4.out
          obtain ⟨W, hW, ⟨d0, d1, d2, d3, d4, d5, d6, d7⟩, hq⟩ := errQ hR (E := 0) rfl hz9 HK4.out
          obtain ⟨f0, f1, f2, f3, f4, f5, f6, f7⟩ := hz9.free
          obtain ⟨z0, z1, z2, z3, z4, z5, z6, z7⟩ := hz9.cells
          have HQ := Lib.hid hq
          clear hz9 hq
          go_wp2
          refine bodyPost_ret (v := gotV [] [] 0 (.slice none 0 0) [] 0 false 0) (by simp [results, Tryz.results37, go_sem, d0, d1, d2, d3, d4, d5, d6, d7]) rfl ?_
          exact HQ.out
        | line l2 rest2 =>
          obtain ⟨e1, e2', e3, e4'⟩ := line_next hL1
          obtain ⟨t2, ht2⟩ : ∃ t, Lib.trimSuffix l2 [13] = t := ⟨_, rfl⟩
          obtain ⟨has2, hh2⟩ : ∃ has, Lib.hasSuffix l2 [13] = has := ⟨_, rfl⟩
          obtain ⟨nx, hnx⟩ : ∃ y, p + l2.length + 1 = y := ⟨_, rfl⟩
          unfold lineT at LN2
          simp only at LN2
          rw [ht2, hh2, hnx] at LN2
          rw [ht2] at e4'
          rw [hnx] at e1 e2'
          have hpn : p < nx := by omega
          have qn : ((nx : Int) == 0) = false := by rw [beq_eq_false_iff_ne]; omega
          by_cases hbk : t2 = [] ∧ has2 = true
          · obtain ⟨rfl, rfl⟩ := hbk
            have HBE0 := Lib.hid (fun (k : Nat) (hk : (k : Int) = if bl < 0 then 0 else bl) => HR.out.trans (body_end (k := k) HH.out.1 hL1 hh2 ht2 hnx.symm hk))
            clear hL1 ht2 hh2 hnx e1 e3 e4' HR
            go_wp2_with fail
            refine (LN2.out _).mono ?_
            rintro e w4 ⟨rfl, hk4⟩
            have HZ4 := Lib.hid (HZ.out.kept hk4 trivial)
            have HG4 : Hid (GotAt (w.heap.size + 1) M P st hv w4) := Lib.hid (HG.out.kept hk4 trivial)
            have HO4 := Lib.hid (ownsRow_kept HO.out hk4 fun _ _ => trivial)
            have HK4 := Lib.hid (HK.out.tr hk4)
            clear hk4 LN2 HZ HG HO HK
            by_cases hbl : bl < 0
            · have HBE := Lib.hid (HBE0.out 0 (by simp [hbl]))
              clear HBE0
              by_cases hsk : s.length - nx < 0
              · exact absurd hsk (Nat.not_lt_zero _)
              · have hlt2 : ¬ ((s.length : Int) - (nx : Int) < 0) := by omega
                have hx : (s.drop nx).take 0 = [] := List.take_zero
                obtain ⟨ha9, hc9, rfl⟩ := row_slice HO4.out
                have hg4 : GotC (w.heap.size + 1) M P st (.slice ha9 r.hs.length hc9) [] 0 false 0 w4 := HG4.out
                obtain ⟨W5, hW5, hg5, hk5⟩ := hg4.setEnd [] ((nx : Int))
                have hz5 : noGot w.heap.size W5 := HZ4.out.kept hk5 (by omega)
                obtain ⟨W6, hW6, hz6, hk6⟩ := hz5.setAll M P st (.slice ha9 r.hs.length hc9) [] ((nx : Int)) true 0
                obtain ⟨d0, d1, d2, d3, d4, d5, d6, d7⟩ := hz6.cells
                obtain ⟨g0, g1, g2, g3, g4, g5, g6, g7⟩ := hg4.free
                obtain ⟨y0, y1, y2, y3, y4, y5, y6, y7⟩ := hg4.cells
                obtain ⟨o0, o1, o2, o3, o4, o5, o6, o7⟩ := hg5.cells
                obtain ⟨f0, f1, f2, f3, f4, f5, f6, f7⟩ := hz5.free
                obtain ⟨z0, z1, z2, z3, z4, z5, z6, z7⟩ := hz5.cells
                obtain ⟨p0, p1, p2, p3, p4, p5, p6, p7⟩ := HZ4.out.free
                obtain ⟨q0, q1, q2, q3, q4, q5, q6, q7⟩ := HZ4.out.cells
                have hlW : ∀ b, (Value.slice ha9 r.hs.length hc9).ownBlock = some b → b ≠ w.heap.size + 1 ∧ b ≠ w.heap.size := fun b hb => by have := own_base HO4.out hb; omega
                have HQ : Hid (RdQ s ans w (.returned (gotV M P st (.slice ha9 r.hs.length hc9) [] ((nx : Int)) true 0)) W6) := Lib.hid ⟨M, P, st, .slice ha9 r.hs.length hc9, r.hs, [], nx + 0, true, 0, by simp, ownsRow_base (ownsRow_kept (ownsRow_kept HO4.out hk5 fun b hb => (hlW b hb).1) hk6 fun b hb => (hlW b hb).2) (by omega), (HK4.out.trans hk5 fun i hi _ => by omega).trans hk6 fun i hi _ => by omega, by
                  unfold GotIs
                  rw [HBE.out, if_neg hsk]
                  refine ⟨rfl, rfl, rfl, hx.symm, by omega, rfl, fun h => ?_, fun h => ?_⟩
                  · show st = ((decP (r.first.getD 0 []) : Nat) : Int)
                    rw [HH.out.2]; exact HFI.out.1 h
                  · show r.first = [M, P]
                    rw [HH.out.2]; exact HFI.out.2 h⟩
                rw [← sEmpty] at hW5 hW6 o4
                clear HBE hg4 hk5 hz5 hk6 hz6 hg5 hlW hx
                go_wp2
                refine bodyPost_ret (v := gotV M P st (.slice ha9 r.hs.length hc9) [] ((nx : Int)) true 0) (by simp [results, Tryz.results37, go_sem, d0, d1, d2, d3, d4, d5, d6, d7]) rfl ?_
                exact HQ.out
            · obtain ⟨k, rfl⟩ : ∃ k : Nat, bl = (k : Int) := ⟨bl.toNat, by omega⟩
              have HBE := Lib.hid (HBE0.out k (by rw [if_neg hbl]))
              clear HBE0
              by_cases hsk : s.length - nx < k
              · have hR : ansP (begin' ans) s = .inr 56 := by rw [HBE.out, if_pos hsk]
                have hlt2 : (s.length : Int) - (nx : Int) < (k : Int) := by omega
                clear HBE
                have hz9 : noGot w.heap.size w4 := HZ4.out
                obtain ⟨W, hW, ⟨d0, d1, d2, d3, d4, d5, d6, d7⟩, hq⟩ := errQ hR (E := 0) rfl hz9 HK4.out
                obtain ⟨f0, f1, f2, f3, f4, f5, f6, f7⟩ := hz9.free
                obtain ⟨z0, z1, z2, z3, z4, z5, z6, z7⟩ := hz9.cells
                have HQ := Lib.hid hq
                clear hz9 hq
                go_wp2
                refine bodyPost_ret (v := gotV [] [] 0 (.slice none 0 0) [] 0 false 0) (by simp [results, Tryz.results37, go_sem, d0, d1, d2, d3, d4, d5, d6, d7]) rfl ?_
                exact HQ.out
              · have hlt2 : ¬ ((s.length : Int) - (nx : Int) < (k : Int)) := by omega
                obtain ⟨x, hx⟩ : ∃ x, (s.drop nx).take k = x := ⟨_, rfl⟩
                have EX : (⟨s.toArray⟩ : ByteArray).extract nx (nx + k) = ⟨x.toArray⟩ := by rw [extract_ba, show (nx + k) - nx = k by omega, hx]
                obtain ⟨ha9, hc9, rfl⟩ := row_slice HO4.out
                have hg4 : GotC (w.heap.size + 1) M P st (.slice ha9 r.hs.length hc9) [] 0 false 0 w4 := HG4.out
                obtain ⟨W5, hW5, hg5, hk5⟩ := hg4.setEnd x ((nx : Int) + (k : Int))
                have hz5 : noGot w.heap.size W5 := HZ4.out.kept hk5 (by omega)
                obtain ⟨W6, hW6, hz6, hk6⟩ := hz5.setAll M P st (.slice ha9 r.hs.length hc9) x ((nx : Int) + (k : Int)) true 0
                obtain ⟨d0, d1, d2, d3, d4, d5, d6, d7⟩ := hz6.cells
                obtain ⟨g0, g1, g2, g3, g4, g5, g6, g7⟩ := hg4.free
                obtain ⟨y0, y1, y2, y3, y4, y5, y6, y7⟩ := hg4.cells
                obtain ⟨o0, o1, o2, o3, o4, o5, o6, o7⟩ := hg5.cells
                obtain ⟨f0, f1, f2, f3, f4, f5, f6, f7⟩ := hz5.free
                obtain ⟨z0, z1, z2, z3, z4, z5, z6, z7⟩ := hz5.cells
                obtain ⟨p0, p1, p2, p3, p4, p5, p6, p7⟩ := HZ4.out.free
                obtain ⟨q0, q1, q2, q3, q4, q5, q6, q7⟩ := HZ4.out.cells
                have hlW : ∀ b, (Value.slice ha9 r.hs.length hc9).ownBlock = some b → b ≠ w.heap.size + 1 ∧ b ≠ w.heap.size := fun b hb => by have := own_base HO4.out hb; omega
                have HQ : Hid (RdQ s ans w (.returned (gotV M P st (.slice ha9 r.hs.length hc9) x ((nx : Int) + (k : Int)) true 0)) W6) := Lib.hid ⟨M, P, st, .slice ha9 r.hs.length hc9, r.hs, x, nx + k, true, 0, by simp, ownsRow_base (ownsRow_kept (ownsRow_kept HO4.out hk5 fun b hb => (hlW b hb).1) hk6 fun b hb => (hlW b hb).2) (by omega), (HK4.out.trans hk5 fun i hi _ => by omega).trans hk6 fun i hi _ => by omega, by
                  unfold GotIs
                  rw [HBE.out, if_neg hsk]
                  refine ⟨rfl, rfl, rfl, hx.symm, by omega, rfl, fun h => ?_, fun h => ?_⟩
                  · show st = ((decP (r.first.getD 0 []) : Nat) : Int)
                    rw [HH.out.2]; exact HFI.out.1 h
                  · show r.first = [M, P]
                    rw [HH.out.2]; exact HFI.out.2 h⟩
                clear HBE hg4 hk5 hz5 hk6 hz6 hg5 hlW hx
                go_wp2
                refine bodyPost_ret (v := gotV M P st (.slice ha9 r.hs.length hc9) x ((nx : Int) + (k : Int)) true 0) (by simp [results, Tryz.results37, go_sem, d0, d1, d2, d3, d4, d5, d6, d7]) rfl ?_
                exact HQ.out
          · obtain ⟨n, v, is, hc⟩ : ∃ n v is, cutT 58 t2 = (n, v, is) := ⟨_, _, _, rfl⟩
            have hc0 : cutT 58 (Lib.trimSuffix l2 [13]) = (n, v, is) := by rw [ht2]; exact hc
            have hHL := HR.out.trans (head_line HH.out.1 hL1 hc0 (by rw [ht2, hh2]; exact hbk))
            rw [hh2, e1] at hHL
            obtain ⟨c1, c2⟩ := cutT_len 58 t2
            rw [hc] at c1 c2
            simp only at c1 c2
            have CT := Lib.hid (fun W => refCut_any t2 58 W (by omega))
            have NM := Lib.hid (fun W => refName_any n W (by omega))
            have WI := Lib.hid (fun W => within_any v 32 126 printedP (fun c => by unfold printedP; rw [u8le, u8le]; rfl) W (by omega))
            have SM := Lib.hid (fun W => Small_any n W (by omega))
            have TR := Lib.hid (fun W => trimmed_any v W (by omega))
            have hvl : v.length ≤ 1000 := cutT_len2 hc e4'
            have SZ := Lib.hid (fun W => refSize_any (trimP v) W (by have := trimP_le v; omega))
            have HPT : Hid (putP (atL r l2.length) n v = if low n = lengthN then (if 0 ≤ (atL r l2.length).len then (atL r l2.length, 52) else if (sizeP (trimP v)).2 ≠ 0 then (atL r l2.length, (sizeP (trimP v)).2) else ({ atL r l2.length with len := (sizeP (trimP v)).1 }, 0)) else if (atL r l2.length).hs.length = 32 then (atL r l2.length, 53) else ({ atL r l2.length with hs := (atL r l2.length).hs ++ [(n, trimP v)] }, 0)) := Lib.hid (by unfold putP; rw [toldP_size])
            rw [hc] at CT
            obtain ⟨fine, hf1⟩ : ∃ q, isNameP n = q := ⟨_, rfl⟩
            obtain ⟨plain, hf2⟩ : ∃ q, v.all printedP = q := ⟨_, rfl⟩
            obtain ⟨lo, hf3⟩ : ∃ q, low n = q := ⟨_, rfl⟩
            obtain ⟨tv, hf4⟩ : ∃ q, trimP v = q := ⟨_, rfl⟩
            obtain ⟨sz, hf5⟩ : ∃ q, sizeP (trimP v) = q := ⟨_, rfl⟩
            have hsr := sizeP_range (trimP v)
            have hse := sizeP_err (trimP v)
            rw [hf5] at SZ HPT hsr hse
            rw [hf4] at TR SZ HPT
            obtain ⟨kz, ez⟩ := sz
            simp only at HPT hsr hse
            rw [hf1, hf2, hf3] at hHL
            rw [hf1] at NM
            rw [hf2] at WI
            rw [hf3] at SM HPT
            obtain ⟨X, hX⟩ : ∃ X, putP (atL r l2.length) n v = X := ⟨_, rfl⟩
            rw [hX] at hHL HPT
            have HHL : Hid (¬ (has2 = true ∧ is = true ∧ fine = true ∧ plain = true ∧ lo ≠ codingN) → ansP (begin' ans) s = .inr 51) := Lib.hid fun h => by rw [hHL, if_neg h]
            have HGD : Hid (has2 = true ∧ is = true ∧ fine = true ∧ plain = true ∧ lo ≠ codingN → ansP (begin' ans) s = if X.2 ≠ 0 then .inr X.2 else ansP X.1 (s.drop nx)) := Lib.hid fun h => by rw [hHL, if_pos h]
            have hcs : ((t2 == []) = true ∧ has2 = false) ∨ (t2 == []) = false := by
              cases t2 with
              | nil => cases has2 with
                | true => exact absurd ⟨rfl, rfl⟩ hbk
                | false => exact .inl ⟨rfl, rfl⟩
              | cons _ _ => exact .inr rfl
            have HNX := Lib.hid hnx
            have HLL : Hid ((atL r l2.length).hs = r.hs ∧ (atL r l2.length).len = bl ∧ r.hs.length ≤ 32) := Lib.hid ⟨rfl, HH.out.1.len, HH.out.1.hs⟩
            clear hL1 ht2 hh2 hnx e1 e3 HR hc hc0 hHL c1 c2 hf1 hf2 hf3 hf4 hf5 hbk hX hvl
            go_wp2_with fail
            refine (LN2.out _).mono ?_
            rintro e w4 ⟨rfl, hk4⟩
            have HZ4 := Lib.hid (HZ.out.kept hk4 trivial)
            have HG4 : Hid (GotAt (w.heap.size + 1) M P st hv w4) := Lib.hid (HG.out.kept hk4 trivial)
            have HO4 := Lib.hid (ownsRow_kept HO.out hk4 fun _ _ => trivial)
            have HK4 := Lib.hid (HK.out.tr hk4)
            clear hk4 LN2 HZ HG HO HK
            rcases hcs with ⟨q0, rfl⟩ | q0
            · go_wp2_with fail
              refine (CT.out _).mono ?_
              rintro e w5 ⟨rfl, hk5⟩
              have HK5 := Lib.hid hk5
              clear hk5 CT
              go_wp2_with fail
              refine (NM.out _).mono ?_
              rintro e w6 ⟨rfl, hk6⟩
              have HK6 := Lib.hid (HK5.out.tr hk6)
              clear hk6 NM HK5
              go_wp2_with fail
              refine (WI.out _).mono ?_
              rintro e w7 ⟨rfl, hk7⟩
              have HK7 := Lib.hid (HK6.out.tr hk7)
              clear hk7 WI HK6
              go_wp2_with fail
              refine (SM.out _).mono ?_
              rintro e w8 ⟨rfl, hk8⟩
              have hk8 := HK7.out.tr hk8
              have HZ8 := Lib.hid (HZ4.out.kept hk8 trivial)
              have HG8 : Hid (GotAt (w.heap.size + 1) M P st hv w8) := Lib.hid (HG4.out.kept hk8 trivial)
              have HO8 := Lib.hid (ownsRow_kept HO4.out hk8 fun _ _ => trivial)
              have HK8 := Lib.hid (HK4.out.tr hk8)
              clear hk8 SM HK7 HZ4 HG4 HO4 HK4
              have hz9 : noGot w.heap.size w8 := HZ8.out
              obtain ⟨W, hW, ⟨d0, d1, d2, d3, d4, d5, d6, d7⟩, hq⟩ := errQ (HHL.out fun h => by simp at h) (E := 51) rfl hz9 HK8.out
              obtain ⟨f0, f1, f2, f3, f4, f5, f6, f7⟩ := hz9.free
              obtain ⟨z0, z1, z2, z3, z4, z5, z6, z7⟩ := hz9.cells
              have HQ := Lib.hid hq
              clear hz9 hq
              go_wp2
              refine bodyPost_ret (v := gotV [] [] 0 (.slice none 0 0) [] 0 false 51) (by simp [results, Tryz.results37, go_sem, d0, d1, d2, d3, d4, d5, d6, d7]) rfl ?_
              exact HQ.out
            · go_wp2_with fail
              refine (CT.out _).mono ?_
              rintro e w5 ⟨rfl, hk5⟩
              have HK5 := Lib.hid hk5
              clear hk5 CT
              go_wp2_with fail
              refine (NM.out _).mono ?_
              rintro e w6 ⟨rfl, hk6⟩
              have HK6 := Lib.hid (HK5.out.tr hk6)
              clear hk6 NM HK5
              go_wp2_with fail
              refine (WI.out _).mono ?_
              rintro e w7 ⟨rfl, hk7⟩
              have HK7 := Lib.hid (HK6.out.tr hk7)
              clear hk7 WI HK6
              go_wp2_with fail
              refine (SM.out _).mono ?_
              rintro e w8 ⟨rfl, hk8⟩
              have hk8 := HK7.out.tr hk8
              have HZ8 := Lib.hid (HZ4.out.kept hk8 trivial)
              have HG8 : Hid (GotAt (w.heap.size + 1) M P st hv w8) := Lib.hid (HG4.out.kept hk8 trivial)
              have HO8 := Lib.hid (ownsRow_kept HO4.out hk8 fun _ _ => trivial)
              have HK8 := Lib.hid (HK4.out.tr hk8)
              clear hk8 SM HK7 HZ4 HG4 HO4 HK4
              cases has2 with
              | false =>
                have hz9 : noGot w.heap.size w8 := HZ8.out
                obtain ⟨W, hW, ⟨d0, d1, d2, d3, d4, d5, d6, d7⟩, hq⟩ := errQ (HHL.out fun h => by simp at h) (E := 51) rfl hz9 HK8.out
                obtain ⟨f0, f1, f2, f3, f4, f5, f6, f7⟩ := hz9.free
                obtain ⟨z0, z1, z2, z3, z4, z5, z6, z7⟩ := hz9.cells
                have HQ := Lib.hid hq
                clear hz9 hq
                go_wp2
                refine bodyPost_ret (v := gotV [] [] 0 (.slice none 0 0) [] 0 false 51) (by simp [results, Tryz.results37, go_sem, d0, d1, d2, d3, d4, d5, d6, d7]) rfl ?_
                exact HQ.out
              | true =>
              cases is with
              | false =>
                have hz9 : noGot w.heap.size w8 := HZ8.out
                obtain ⟨W, hW, ⟨d0, d1, d2, d3, d4, d5, d6, d7⟩, hq⟩ := errQ (HHL.out fun h => by simp at h) (E := 51) rfl hz9 HK8.out
                obtain ⟨f0, f1, f2, f3, f4, f5, f6, f7⟩ := hz9.free
                obtain ⟨z0, z1, z2, z3, z4, z5, z6, z7⟩ := hz9.cells
                have HQ := Lib.hid hq
                clear hz9 hq
                go_wp2
                refine bodyPost_ret (v := gotV [] [] 0 (.slice none 0 0) [] 0 false 51) (by simp [results, Tryz.results37, go_sem, d0, d1, d2, d3, d4, d5, d6, d7]) rfl ?_
                exact HQ.out
              | true =>
              cases fine with
              | false =>
                have hz9 : noGot w.heap.size w8 := HZ8.out
                obtain ⟨W, hW, ⟨d0, d1, d2, d3, d4, d5, d6, d7⟩, hq⟩ := errQ (HHL.out fun h => by simp at h) (E := 51) rfl hz9 HK8.out
                obtain ⟨f0, f1, f2, f3, f4, f5, f6, f7⟩ := hz9.free
                obtain ⟨z0, z1, z2, z3, z4, z5, z6, z7⟩ := hz9.cells
                have HQ := Lib.hid hq
                clear hz9 hq
                go_wp2
                refine bodyPost_ret (v := gotV [] [] 0 (.slice none 0 0) [] 0 false 51) (by simp [results, Tryz.results37, go_sem, d0, d1, d2, d3, d4, d5, d6, d7]) rfl ?_
                exact HQ.out
              | true =>
              cases plain with
              | false =>
                have hz9 : noGot w.heap.size w8 := HZ8.out
                obtain ⟨W, hW, ⟨d0, d1, d2, d3, d4, d5, d6, d7⟩, hq⟩ := errQ (HHL.out fun h => by simp at h) (E := 51) rfl hz9 HK8.out
                obtain ⟨f0, f1, f2, f3, f4, f5, f6, f7⟩ := hz9.free
                obtain ⟨z0, z1, z2, z3, z4, z5, z6, z7⟩ := hz9.cells
                have HQ := Lib.hid hq
                clear hz9 hq
                go_wp2
                refine bodyPost_ret (v := gotV [] [] 0 (.slice none 0 0) [] 0 false 51) (by simp [results, Tryz.results37, go_sem, d0, d1, d2, d3, d4, d5, d6, d7]) rfl ?_
                exact HQ.out
              | true =>
              by_cases hco : lo = codingN
              · have hR := HHL.out (fun h => h.2.2.2.2 hco)
                have q1 : (lo == [116, 114, 97, 110, 115, 102, 101, 114, 45, 101, 110, 99, 111, 100, 105, 110, 103]) = true := by rw [hco]; rfl
                clear hco
                have hz9 : noGot w.heap.size w8 := HZ8.out
                obtain ⟨W, hW, ⟨d0, d1, d2, d3, d4, d5, d6, d7⟩, hq⟩ := errQ hR (E := 51) rfl hz9 HK8.out
                obtain ⟨f0, f1, f2, f3, f4, f5, f6, f7⟩ := hz9.free
                obtain ⟨z0, z1, z2, z3, z4, z5, z6, z7⟩ := hz9.cells
                have HQ := Lib.hid hq
                clear hz9 hq
                go_wp2
                refine bodyPost_ret (v := gotV [] [] 0 (.slice none 0 0) [] 0 false 51) (by simp [results, Tryz.results37, go_sem, d0, d1, d2, d3, d4, d5, d6, d7]) rfl ?_
                exact HQ.out
              have q1 : (lo == [116, 114, 97, 110, 115, 102, 101, 114, 45, 101, 110, 99, 111, 100, 105, 110, 103]) = false := beq_eq_false_iff_ne.2 hco
              have HGG := Lib.hid (HGD.out ⟨rfl, rfl, rfl, rfl, hco⟩)
              clear hco HHL HGD
              go_wp2_with fail
              refine (TR.out _).mono ?_
              rintro e w9 ⟨rfl, hk9⟩
              have HZ9 := Lib.hid (HZ8.out.kept hk9 trivial)
              have HG9 : Hid (GotAt (w.heap.size + 1) M P st hv w9) := Lib.hid (HG8.out.kept hk9 trivial)
              have HO9 := Lib.hid (ownsRow_kept HO8.out hk9 fun _ _ => trivial)
              have HK9 := Lib.hid (HK8.out.tr hk9)
              clear hk9 TR HZ8 HG8 HO8 HK8
              by_cases hle : lo = lengthN
              · have q2 : (lo == [99, 111, 110, 116, 101, 110, 116, 45, 108, 101, 110, 103, 116, 104]) = true := by rw [hle]; rfl
                rw [if_pos hle] at HPT
                clear hle
                by_cases hbz : 0 ≤ bl
                · have hX : X = (atL r l2.length, 52) := HPT.out.trans (if_pos (by rw [HLL.out.2.1]; exact hbz))
                  have hR : ansP (begin' ans) s = .inr 52 := by rw [HGG.out, hX]; simp
                  clear hX
                  have hz9 : noGot w.heap.size w9 := HZ9.out
                  obtain ⟨W, hW, ⟨d0, d1, d2, d3, d4, d5, d6, d7⟩, hq⟩ := errQ hR (E := 52) rfl hz9 HK9.out
                  obtain ⟨f0, f1, f2, f3, f4, f5, f6, f7⟩ := hz9.free
                  obtain ⟨z0, z1, z2, z3, z4, z5, z6, z7⟩ := hz9.cells
                  have HQ := Lib.hid hq
                  clear hz9 hq
                  go_wp2
                  refine bodyPost_ret (v := gotV [] [] 0 (.slice none 0 0) [] 0 false 52) (by simp [results, Tryz.results37, go_sem, d0, d1, d2, d3, d4, d5, d6, d7]) rfl ?_
                  exact HQ.out
                · have hX0 : X = if ez ≠ 0 then (atL r l2.length, ez) else ({ atL r l2.length with len := kz }, 0) := HPT.out.trans (if_neg (by rw [HLL.out.2.1]; exact hbz))
                  have HX0 := Lib.hid hX0
                  clear hX0
                  go_wp2_with fail
                  refine (SZ.out _).mono ?_
                  rintro e w10 ⟨rfl, hk10⟩
                  have HZ10 := Lib.hid (HZ9.out.kept hk10 trivial)
                  have HG10 : Hid (GotAt (w.heap.size + 1) M P st hv w10) := Lib.hid (HG9.out.kept hk10 trivial)
                  have HO10 := Lib.hid (ownsRow_kept HO9.out hk10 fun _ _ => trivial)
                  have HK10 := Lib.hid (HK9.out.tr hk10)
                  clear hk10 SZ HZ9 HG9 HO9 HK9
                  by_cases hez : ez = 0
                  · subst hez
                    have q3 : ((0 : Int) != 0) = false := rfl
                    have HRN : Hid (ansP (begin' ans) s = ansP { atL r l2.length with len := kz } (s.drop nx)) := Lib.hid (by rw [HGG.out, HX0.out]; simp)
                    obtain ⟨hk0, hk1⟩ := hsr
                    go_wp2
                    go_roundg (s.length - nx)
                    case rel => exact ⟨nx, kz, { atL r l2.length with len := kz }, hv, rfl, rfl, rfl, e2', by omega, hk1, HRN, Lib.hid ⟨HH.out.1.told _, HH.out.2⟩, HO10, HG10, HZ10, HK10⟩
                    case measure => omega
                  · have q3 : (ez != 0) = true := bne_iff_ne.2 hez
                    have hR : ansP (begin' ans) s = .inr ez := by rw [HGG.out, HX0.out, if_pos hez]; exact if_pos hez
                    have hz9 : noGot w.heap.size w10 := HZ10.out
                    obtain ⟨W, hW, ⟨d0, d1, d2, d3, d4, d5, d6, d7⟩, hq⟩ := errQ hR (E := ez) (by rw [if_neg (by omega)]) hz9 HK10.out
                    clear hez hse hR
                    obtain ⟨f0, f1, f2, f3, f4, f5, f6, f7⟩ := hz9.free
                    obtain ⟨z0, z1, z2, z3, z4, z5, z6, z7⟩ := hz9.cells
                    have HQ := Lib.hid hq
                    clear hz9 hq
                    go_wp2
                    refine bodyPost_ret (v := gotV [] [] 0 (.slice none 0 0) [] 0 false ez) (by simp [results, Tryz.results37, go_sem, d0, d1, d2, d3, d4, d5, d6, d7]) rfl ?_
                    exact HQ.out
              · have q2 : (lo == [99, 111, 110, 116, 101, 110, 116, 45, 108, 101, 110, 103, 116, 104]) = false := beq_eq_false_iff_ne.2 hle
                rw [if_neg hle] at HPT
                clear hle SZ
                have hg9 : GotC (w.heap.size + 1) M P st hv [] 0 false 0 w9 := HG9.out
                obtain ⟨oa, oc, rfl⟩ := row_slice HO9.out
                by_cases h32 : r.hs.length = 32
                · have q3 : ((r.hs.length : Int) == 32) = true := by rw [beq_iff_eq]; omega
                  have hX : X = (atL r l2.length, 53) := HPT.out.trans (if_pos h32)
                  have hR : ansP (begin' ans) s = .inr 53 := by rw [HGG.out, hX]; simp
                  obtain ⟨y0, y1, y2, y3, y4, y5, y6, y7⟩ := hg9.cells
                  clear hX h32 hg9 y0 y1 y2 y4 y5 y6 y7
                  have hz9 : noGot w.heap.size w9 := HZ9.out
                  obtain ⟨W, hW, ⟨d0, d1, d2, d3, d4, d5, d6, d7⟩, hq⟩ := errQ hR (E := 53) rfl hz9 HK9.out
                  obtain ⟨f0, f1, f2, f3, f4, f5, f6, f7⟩ := hz9.free
                  obtain ⟨z0, z1, z2, z3, z4, z5, z6, z7⟩ := hz9.cells
                  have HQ := Lib.hid hq
                  clear hz9 hq
                  go_wp2
                  refine bodyPost_ret (v := gotV [] [] 0 (.slice none 0 0) [] 0 false 53) (by simp [results, Tryz.results37, go_sem, d0, d1, d2, d3, d4, d5, d6, d7]) rfl ?_
                  exact HQ.out
                · have q3 : ((r.hs.length : Int) == 32) = false := by rw [beq_eq_false_iff_ne]; omega
                  have hX : X = ({ atL r l2.length with hs := r.hs ++ [(n, tv)] }, 0) := HPT.out.trans (if_neg h32)
                  have HRN : Hid (ansP (begin' ans) s = ansP { atL r l2.length with hs := r.hs ++ [(n, tv)] } (s.drop nx)) := Lib.hid (by rw [HGG.out, hX]; simp)
                  obtain ⟨y0, y1, y2, y3, y4, y5, y6, y7⟩ := hg9.cells
                  obtain ⟨g0, g1, g2, g3, g4, g5, g6, g7⟩ := hg9.free
                  have hBw : w.heap.size + 2 ≤ w9.heap.size := by have := hg9.lt; omega
                  have hrl : r.hs.length ≤ 32 := HLL.out.2.2
                  have HHN := Lib.hid (HH.out.1.more l2.length (n, tv) h32)
                  clear hX h32 hg9 y0 y1 y2 y4 y5 y6 y7 g0 g1 g2 g4 g5 g6 g7
                  go_wp2_with (at_builtin; refine wpList_pushOne' 48 61 Tryz.underlying48 infoField rfl (by decide) rfl _ _ rfl (w.heap.size + 2) (.slice oa r.hs.length oc) r.hs.length (fieldCells r.hs) [S n, S tv] w9 _ rfl rfl rfl (by intro u hu; simp at hu; rcases hu with rfl | rfl <;> rfl) 1 _ rfl rfl rfl HO9.out (by omega) (by decide) hBw ?_; intro v' w11 k1 k2 k3; have HK11' := Lib.hid (Kept.of_belowB k2); have hg11 := HG9.out.kept HK11'.out (show w.heap.size + 1 < w.heap.size + 2 by omega); have HZ11 := Lib.hid (HZ9.out.kept HK11'.out (show w.heap.size < w.heap.size + 2 by omega)); obtain ⟨-, -, -, y3, -⟩ := GotC.cells hg11; obtain ⟨-, -, -, g3, -⟩ := GotC.free hg11; obtain ⟨va, vc, rfl⟩ := row_slice k1; have HS11 := Lib.hid (GotC.setHs hg11 (.slice va (r.hs.length + 1) vc)); have HO11 := Lib.hid k1; clear k1 k2 k3 hg11)
                  obtain ⟨hs1, hs2⟩ := HS11.out
                  have HO12 : Hid ((w11.setCell ⟨w.heap.size + 1, 3, none⟩ (.slice va (r.hs.length + 1) vc)).ownsRow (w.heap.size + 2) 61 2 (.slice va (r.hs.length + 1) vc) (r.hs ++ [(n, tv)]).length (fieldCells (r.hs ++ [(n, tv)]))) := Lib.hid (by
                    rw [fieldCells_snoc, List.length_append]
                    exact ownsRow_kept HO11.out hs2 fun b hb => by have := own_base HO11.out hb; omega)
                  have HG12 : Hid (GotAt (w.heap.size + 1) M P st (.slice va (r.hs.length + 1) vc) (w11.setCell ⟨w.heap.size + 1, 3, none⟩ (.slice va (r.hs.length + 1) vc))) := Lib.hid hs1
                  have HZ12 := Lib.hid (HZ11.out.kept hs2 (by omega))
                  have HK12 : Hid (Kept (fun _ => True) w (w11.setCell ⟨w.heap.size + 1, 3, none⟩ (.slice va (r.hs.length + 1) vc))) := Lib.hid ((HK9.out.trans HK11'.out fun i hi _ => by omega).trans hs2 fun i hi _ => by omega)
                  clear hs1 hs2
                  go_roundg (s.length - nx)
                  case rel => exact ⟨nx, bl, { atL r l2.length with hs := r.hs ++ [(n, tv)] }, .slice va (r.hs.length + 1) vc, rfl, rfl, rfl, e2', hb1, hb2, HRN, Lib.hid ⟨HHN.out, HH.out.2⟩, HO12, HG12, HZ12, HK12⟩
                  case measure => omega
end Go.Proofs.YtaomhkgdbobpkaaGreatDoor
