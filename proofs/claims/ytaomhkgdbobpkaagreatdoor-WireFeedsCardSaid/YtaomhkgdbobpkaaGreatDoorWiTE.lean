/- Walks of the law of layer 5: two readers, that any pieces come to in turns. -/
import Derived.Test.YtaomhkgdbobpkaaGreatDoorWiTD
namespace Go.Proofs.YtaomhkgdbobpkaaGreatDoor
open Go.RowKit Wi

set_option maxHeartbeats 1000000 in
theorem add_zz (n m : Int) (w : World) (hn : 0 ≤ n ∧ n ≤ 9223372036854775807) (hm : 0 ≤ m ∧ m ≤ 9223372036854775807) : Calls Tryz.prog 8 #[.int .i64 n, .int .i64 m] w fun e w' => e = .returned (.int .i64 (addZ n m)) ∧ w' = w := by
  obtain ⟨n0, n1⟩ := hn
  obtain ⟨m0, m1⟩ := hm
  by_cases h : 2147483647 - n < m
  · have HR : Hid (addZ n m = 2147483648) := Lib.hid (by unfold addZ; rw [if_pos (by omega)])
    go_enter Tryz.func8, Tryz.ntmps8
    go_wp2
    go_ret
    exact ⟨by rw [HR.out]; rfl, rfl⟩
  · have HR : Hid (addZ n m = n + m) := Lib.hid (addZ_of (by omega))
    go_enter Tryz.func8, Tryz.ntmps8
    go_wp2
    go_ret
    exact ⟨by rw [HR.out]; rfl, rfl⟩
/-- Pieces that came in. -/
structure PcIn (pa : Option Addr) (ps : List (Int × List UInt8)) (w : World) : Prop where
  n : ps.length ≤ 9223372036854775807
  at' : ∀ (i : Nat) x, ps[i]? = some x → ∃ b off, pa = some ⟨b, off, none⟩ ∧ b < w.heap.size ∧ w.cell? ⟨b, off + i * 2, none⟩ = some (.int .i64 x.1) ∧ w.cell? ⟨b, off + i * 2 + 1, none⟩ = some (S x.2) ∧ (-9223372036854775808 ≤ x.1 ∧ x.1 ≤ 9223372036854775807) ∧ x.2.length ≤ 9223372036854775807
/-- What the pieces weigh. -/
def sumP (ps : List (Int × List UInt8)) : Nat := (ps.map fun x => 2 * x.2.length + 50).sum
def lenP (ps : List (Int × List UInt8)) : Nat := (ps.map fun x => x.2.length).sum
theorem sumP_take {ps : List (Int × List UInt8)} {i : Nat} {x : Int × List UInt8} (h : ps[i]? = some x) : sumP (ps.take (i + 1)) = sumP (ps.take i) + (2 * x.2.length + 50) := by
  unfold sumP
  rw [List.take_add_one, h]
  simp
theorem lenP_take {ps : List (Int × List UInt8)} {i : Nat} {x : Int × List UInt8} (h : ps[i]? = some x) : lenP (ps.take (i + 1)) = lenP (ps.take i) + x.2.length := by
  unfold lenP
  rw [List.take_add_one, h]
  simp
theorem sumP_len : ∀ ps : List (Int × List UInt8), 2 * lenP ps + 50 * ps.length = sumP ps
  | [] => rfl
  | x :: ps => by
    have := sumP_len ps
    have e1 : sumP (x :: ps) = 2 * x.2.length + 50 + sumP ps := by simp [sumP]
    have e2 : lenP (x :: ps) = x.2.length + lenP ps := by simp [lenP]
    rw [e1, e2, List.length_cons]
    omega
theorem lenP_le (ps : List (Int × List UInt8)) (i : Nat) : lenP (ps.take i) ≤ lenP ps := by
  have h : lenP ps = lenP (ps.take i) + lenP (ps.drop i) := by
    unfold lenP
    rw [← List.sum_append, ← List.map_append, List.take_append_drop]
  omega
/-- An empty book, of a base below it. -/
theorem Bk.new' (w : World) (B : Nat) (h : B ≤ w.heap.size) : Bk w.heap.size B (fun _ => .slice none 0 0) (fun _ => []) (w.alloc (.cells #[.slice none 0 0, .slice none 0 0, .slice none 0 0, .slice none 0 0, .slice none 0 0, .slice none 0 0, .slice none 0 0, .slice none 0 0] 38)) :=
  ⟨heap_alloc_new w _, h, fun _ _ => World.ownsRow_nil _ _ _ _, fun _ _ _ _ _ _ hb => (by cases hb)⟩
theorem two_cases {k : Nat} (h : k < 2) : k = 0 ∨ k = 1 := by omega
theorem Fs.start {gb B C p0 p1 q0 q1 gr gy : Nat} {f0 f1 : List Nat} {w : World} (h0 : RrAt p0 (begin' false) f0 w) (h1 : RrAt p1 (begin' false) f1 w) (r0 : RsAt q0 [] false w) (r1 : RsAt q1 [] false w) (hf0 : ∀ b ∈ f0, B ≤ b ∧ b < C) (hf1 : ∀ b ∈ f1, B ≤ b ∧ C ≤ b) (hq : q0 ≠ q1)
    (rr : w.heap[gr]? = some (.cells #[.pointer (some ⟨p0, 0, none⟩), .pointer (some ⟨p1, 0, none⟩)] 27 (0, 0))) (yy : w.heap[gy]? = some (.cells #[.pointer (some ⟨q0, 0, none⟩), .pointer (some ⟨q1, 0, none⟩)] 30 (0, 0)))
    (hb : Bk gb B (fun _ => .slice none 0 0) (fun _ => []) w) :
    Fs gb B gr gy (fun k => if k = 0 then p0 else p1) (fun k => if k = 0 then q0 else q1) 0 (fun k => if k = 0 then f0 else f1) [] [] [] [] [] [] [] w := by
  have hp : p0 ≠ p1 := fun e => by
    have a := (hf0 p0 h0.pin).2
    have b := (hf1 p1 h1.pin).2
    omega
  have hfd : ∀ b ∈ f0, b ∉ f1 := fun b h h' => by
    have := (hf0 b h).2
    have := (hf1 b h').2
    omega
  refine ⟨rr, yy, fun k hk => ?_, fun j k hj hk hjk => ?_, fun j k hj hk hjk => ?_, fun j k hj hk hjk => ?_, ⟨⟨_, _, hb, rfl, rfl, rfl, rfl, rfl, rfl, rfl⟩, ColF.nil _ _⟩, ColN.nil _ _, fun k hk b hb => by simp [blks], by simp, by simp⟩
  · rcases two_cases hk with rfl | rfl
    · exact .inl ⟨begin' false, [], h0, RI.begin false, rfl, rfl, Nat.le_refl _, rfl, r0, fun b hb => (hf0 b hb).1⟩
    · exact .inl ⟨begin' false, [], h1, RI.begin false, rfl, rfl, Nat.le_refl _, rfl, r1, fun b hb => (hf1 b hb).1⟩
  · rcases two_cases hj with rfl | rfl <;> rcases two_cases hk with rfl | rfl
    · exact absurd rfl hjk
    · exact hp
    · exact hp.symm
    · exact absurd rfl hjk
  · rcases two_cases hj with rfl | rfl <;> rcases two_cases hk with rfl | rfl
    · exact absurd rfl hjk
    · exact hq
    · exact hq.symm
    · exact absurd rfl hjk
  · rcases two_cases hj with rfl | rfl <;> rcases two_cases hk with rfl | rfl
    · exact absurd rfl hjk
    · exact hfd
    · exact fun b h h' => hfd b h' h
    · exact absurd rfl hjk
set_option maxHeartbeats 16000000 in
set_option maxRecDepth 100000 in
theorem feeds_law (pa : Option Addr) (pc : Nat) (ps : List (Int × List UInt8)) (w : World) (hE : WE w.heap.size w) (hp : PcIn pa ps w) :
    Calls Tryz.prog 3 #[.slice pa ps.length pc] w fun e w' => e = .returned (.bool true) ∧ Kept (fun _ => True) w w' := by
  have HE := Lib.hid hE
  have HP := Lib.hid hp
  have hpn := hp.n
  clear hE hp
  go_enter Tryz.func3, Tryz.ntmps3
  go_upto_block 0 with fail
  go_cut [3] (fun nv wx => ∃ z : Int, nv = .int .i64 z ∧ 0 ≤ z ∧ z ≤ 2147483648 ∧ Hid (z ≤ 2147483647 → (sumP ps : Int) = z) ∧ Hid (Kept (fun _ => True) w wx))
  case first =>
    go_wp2_with fail
    go_loopg [3, 4] ps.length (fun q nv x wr => ∃ (i : Nat) (z : Int), nv = .int .i64 z ∧ x = .int .i64 i ∧ q = ps.length - i ∧ i ≤ ps.length ∧ 0 ≤ z ∧ z ≤ 2147483648 ∧ Hid (z ≤ 2147483647 → (sumP (ps.take i) : Int) = z) ∧ Hid (Kept (fun _ => True) w wr))
    case atStart => exact ⟨0, 0, rfl, rfl, rfl, Nat.zero_le _, by omega, by omega, Lib.hid (by simp [sumP]), Lib.hid (Kept.refl _ _)⟩
    case round =>
      obtain ⟨i, z, rfl, rfl, rfl, hi, hz0, hz1, HS, HK⟩ := hrel
      by_cases hlt : i < ps.length
      · by_cases hzb : z ≤ 2147483647
        · obtain ⟨x, hx⟩ : ∃ x, ps[i]? = some x := ⟨_, List.getElem?_eq_getElem hlt⟩
          obtain ⟨b, off, rfl, hb, -, x1, -, hxl⟩ := HP.out.at' i x hx
          obtain ⟨o, s⟩ := x
          simp only at x1 hxl
          replace x1 := (HK.out.cell hb trivial).trans x1
          have hsz : (⟨s.toArray⟩ : ByteArray).size = s.length := size_mk s
          have g1 := Lib.hid (addZ_rng (n := (s.length : Int)) (m := (s.length : Int)) (by omega) (by omega))
          have g2 := Lib.hid (addZ_rng (n := addZ (s.length : Int) (s.length : Int)) (m := 50) g1.out.1 (by omega))
          have g3 := Lib.hid (addZ_rng (n := z) (m := addZ (addZ (s.length : Int) (s.length : Int)) 50) hz0 g2.out.1)
          have HN : Hid (addZ z (addZ (addZ (s.length : Int) (s.length : Int)) 50) ≤ 2147483647 → (sumP (ps.take (i + 1)) : Int) = addZ z (addZ (addZ (s.length : Int) (s.length : Int)) 50)) := Lib.hid fun h => by
            rw [sumP_take hx]
            have h3 := g3.out.2.2 h
            have h2 := g2.out.2.2 (by omega)
            have h1 := g1.out.2.2 (by omega)
            have := HS.out hzb
            simp only
            omega
          have A1 := Lib.hid (fun W => add_zz (s.length : Int) (s.length : Int) W (by omega) (by omega))
          have A2 := Lib.hid (fun W => add_zz (addZ (s.length : Int) (s.length : Int)) 50 W ⟨g1.out.1, by have := g1.out.2.1; omega⟩ (by omega))
          have A3 := Lib.hid (fun W => add_zz z (addZ (addZ (s.length : Int) (s.length : Int)) 50) W (by omega) ⟨g2.out.1, by have := g2.out.2.1; omega⟩)
          have HG3 : Hid (0 ≤ addZ z (addZ (addZ (s.length : Int) (s.length : Int)) 50) ∧ addZ z (addZ (addZ (s.length : Int) (s.length : Int)) 50) ≤ 2147483648) := Lib.hid ⟨g3.out.1, g3.out.2.1⟩
          have HKD : Hid (Kept (fun _ => True) w wr.drew) := Lib.hid HK.out.drew
          clear hx g1 g2 g3
          go_wp2
          go_region_held3 (fun wz => wz.cell? ⟨b, off + i * 2 + 1, none⟩ = some (S s)) (go_keep)
            (first
              | (go_at_call 8; (with_reducible refine (A1.out _).mono ?_); rintro e w1 ⟨rfl, rfl⟩)
              | (go_at_call 8; (with_reducible refine (A2.out _).mono ?_); rintro e w1 ⟨rfl, rfl⟩)
              | (go_at_call 8; (with_reducible refine (A3.out _).mono ?_); rintro e w1 ⟨rfl, rfl⟩))
          all_goals
            go_wp2
            go_roundg (ps.length - (i + 1))
            case rel => exact ⟨i + 1, _, rfl, by go_num, rfl, by omega, HG3.out.1, HG3.out.2, HN, HKD⟩
            case measure => omega
        · have hzc : (2147483647 : Int) < z := by omega
          go_wp2
          go_meet
          exact ⟨z, rfl, hz0, hz1, Lib.hid fun h => (by omega), HK⟩
      · obtain rfl : i = ps.length := by omega
        have HS2 : Hid (z ≤ 2147483647 → (sumP ps : Int) = z) := Lib.hid (by have h := HS.out; rw [List.take_length] at h; exact h)
        go_wp2
        go_meet
        exact ⟨z, rfl, hz0, hz1, HS2, HK⟩
  case rest =>
  obtain ⟨z, rfl, hz0, hz1, HS, HK⟩ := hcut
  rename World => w1
  by_cases hzb : z ≤ 2147483647
  case neg =>
    have hzc : (2147483647 : Int) < z := by omega
    go_wp2
    go_ret
    exact ⟨rfl, HK.out⟩
  have hzc : ¬ ((2147483647 : Int) < z) := by omega
  have hsum := HS.out hzb
  have hlen := sumP_len ps
  have hll : lenP ps ≤ 1073741823 := by omega
  have hpl : ps.length ≤ 42949673 := by omega
  have AW := Lib.hid (awake_any w1 ((HE.out.kept HK.out fun _ _ => trivial).le HK.out.size))
  clear HS hsum hlen hpn
  go_wp2_with fail
  refine AW.out.mono ?_
  rintro e w2 ⟨rfl, hk2⟩
  have HK2 := Lib.hid (HK.out.tr hk2)
  clear hk2 AW HK
  have NR := Lib.hid (fun W => NewReader_any W)
  have RN := Lib.hid (fun W => refNewReader_any W)
  unfold NewQ at NR
  go_wp2_with fail
  refine (NR.out w2).mono ?_
  rintro e w3 ⟨p0, f0, rfl, h0, hf0, hk3⟩
  have H0 := Lib.hid h0
  have HF0 := Lib.hid (show ∀ b ∈ f0, w2.heap.size ≤ b ∧ b < w3.heap.size from fun b hb => ⟨hf0 b hb, h0.lt b hb⟩)
  have HK3 := Lib.hid hk3
  clear h0 hf0 hk3
  go_wp2_with fail
  refine (NR.out w3).mono ?_
  rintro e w4 ⟨p1, f1, rfl, h1, hf1, hk4⟩
  have H1 := Lib.hid h1
  have HF1 := Lib.hid (show ∀ b ∈ f1, w2.heap.size ≤ b ∧ w3.heap.size ≤ b from fun b hb => ⟨by have := hf1 b hb; have := HK3.out.size; omega, hf1 b hb⟩)
  have HK4 := Lib.hid hk4
  obtain ⟨W5, hW5⟩ : ∃ W5, w4.alloc (.cells #[.pointer (some ⟨p0, 0, none⟩), .pointer (some ⟨p1, 0, none⟩)] 27) = W5 := ⟨_, rfl⟩
  have HK5 : Hid (Kept (fun _ => True) w4 W5) := Lib.hid (by rw [← hW5]; exact (Kept.refl _ w4).alloc _)
  have HRR : Hid (W5.heap[w4.heap.size]? = some (.cells #[.pointer (some ⟨p0, 0, none⟩), .pointer (some ⟨p1, 0, none⟩)] 27 (0, 0))) := Lib.hid (by rw [← hW5]; exact heap_alloc_new w4 _)
  clear h1 hf1 hk4 NR
  go_wp2_with fail
  refine (RN.out W5).mono ?_
  rintro e w6 ⟨rfl, r0, hk6⟩
  have R0 := Lib.hid r0
  have HK6 := Lib.hid hk6
  clear r0 hk6 hW5
  go_wp2_with fail
  refine (RN.out w6).mono ?_
  rintro e w7 ⟨rfl, r1, hk7⟩
  have R1 := Lib.hid r1
  have HK7 := Lib.hid hk7
  have HQ : Hid (W5.heap.size ≠ w6.heap.size) := Lib.hid (by have := R0.out.lt; omega)
  clear r1 hk7 RN
  obtain ⟨W8, hW8⟩ : ∃ W8, w7.alloc (.cells #[.pointer (some ⟨W5.heap.size, 0, none⟩), .pointer (some ⟨w6.heap.size, 0, none⟩)] 30) = W8 := ⟨_, rfl⟩
  obtain ⟨W9, hW9⟩ : ∃ W9, W8.alloc (.cells #[.slice none 0 0, .slice none 0 0, .slice none 0 0, .slice none 0 0, .slice none 0 0, .slice none 0 0, .slice none 0 0, .slice none 0 0] 38) = W9 := ⟨_, rfl⟩
  have hk8 : Kept (fun _ => True) w7 W8 := by rw [← hW8]; exact (Kept.refl _ w7).alloc _
  have hk9 : Kept (fun _ => True) W8 W9 := by rw [← hW9]; exact (Kept.refl _ W8).alloc _
  have hyy : W8.heap[w7.heap.size]? = some (.cells #[.pointer (some ⟨W5.heap.size, 0, none⟩), .pointer (some ⟨w6.heap.size, 0, none⟩)] 30 (0, 0)) := by rw [← hW8]; exact heap_alloc_new w7 _
  have hk79 := hk8.tr hk9
  have hk69 := HK7.out.tr hk79
  have hk59 := HK6.out.tr hk69
  have hk49 := HK5.out.tr hk59
  have hk39 := HK4.out.tr hk49
  have hk29 := HK3.out.tr hk39
  have hB9 : w2.heap.size ≤ W8.heap.size := by
    have := HK3.out.size; have := HK4.out.size; have := HK5.out.size; have := HK6.out.size; have := HK7.out.size; have := hk8.size
    omega
  have hB5 : w2.heap.size ≤ W5.heap.size := by have := HK3.out.size; have := HK4.out.size; have := HK5.out.size; omega
  have hB6 : W5.heap.size ≤ w6.heap.size := HK6.out.size
  have HFS0 : Hid (Fs W8.heap.size w2.heap.size w4.heap.size w7.heap.size (fun k => if k = 0 then p0 else p1) (fun k => if k = 0 then W5.heap.size else w6.heap.size) 0 (fun k => if k = 0 then f0 else f1) [] [] [] [] [] [] [] W9) := Lib.hid
    (Fs.start (H0.out.kept hk39) (H1.out.kept hk49) (R0.out.kept hk69 trivial) (R1.out.kept hk79 trivial) HF0.out HF1.out HQ.out ((hk59.block _ (Array.getElem?_eq_some_iff.1 HRR.out).1 trivial).trans HRR.out) ((hk9.block _ (Array.getElem?_eq_some_iff.1 hyy).1 trivial).trans hyy) (by rw [← hW9]; exact Bk.new' W8 _ hB9))
  have HK9 := Lib.hid (HK2.out.tr hk29)
  have HE9 : Hid (WE w2.heap.size W9) := Lib.hid ((HE.out.kept HK9.out fun _ _ => trivial).le HK2.out.size)
  have HWB : Hid (w.heap.size ≤ w2.heap.size) := Lib.hid HK2.out.size
  obtain ⟨x0, -⟩ := HFS0.out.cells (k := 0) (by omega)
  obtain ⟨x1, -⟩ := HFS0.out.cells (k := 1) (by omega)
  simp only [if_true] at x0
  rw [if_neg (by omega)] at x1
  clear hk8 hk9 hyy hk79 hk69 hk59 hk49 hk39 hk29 hB9 H0 H1 R0 R1 HF0 HF1 HQ HRR HK3 HK4 HK5 HK6 HK7
  obtain ⟨pp, hpp⟩ : ∃ pp : Nat → Nat, (fun k => if k = 0 then p0 else p1) = pp := ⟨_, rfl⟩
  have HQ0 : ∀ k, k < 2 → w2.heap.size ≤ (fun k => if k = 0 then W5.heap.size else w6.heap.size) k := fun k hk => by
    rcases two_cases hk with rfl | rfl
    · exact hB5
    · show w2.heap.size ≤ w6.heap.size
      omega
  obtain ⟨qq, hqq⟩ : ∃ qq : Nat → Nat, (fun k => if k = 0 then W5.heap.size else w6.heap.size) = qq := ⟨_, rfl⟩
  rw [hqq] at HQ0
  have HQL := Lib.hid HQ0
  rw [hpp, hqq] at HFS0
  clear hpp hqq HQ0 hB5 hB6
  go_wp2_with fail
  go_loopg [9] ps.length (fun q x wr => ∃ (i n : Nat) (fpf : Nat → List Nat) (us ws : List Value) (fs : List (List Fl)) (ms ns : List Value) (L N : List (List (R × Value))), x = .int .i64 i ∧ q = ps.length - i ∧ i ≤ ps.length ∧ Hid (n = lenP (ps.take i) ∧ ms.length = i) ∧ Hid (Fs W8.heap.size w2.heap.size w4.heap.size w7.heap.size pp qq n fpf us ws fs ms ns L N wr) ∧ Hid (Kept (fun b => b < w2.heap.size) W9 wr))
  case atStart => exact ⟨0, 0, _, [], [], [], [], [], [], [], rfl, rfl, Nat.zero_le _, Lib.hid ⟨rfl, rfl⟩, HFS0, Lib.hid (Kept.refl _ _)⟩
  case round =>
    clear HFS0 x0 x1
    obtain ⟨i, n, fpf, us, ws, fs, ms, ns, L, N, rfl, rfl, hi, HN, HFS, HKB⟩ := hrel
    have HKT : Hid (Kept (fun _ => True) w wr) := Lib.hid (HK9.out.trans HKB.out fun b hb _ => by have := HWB.out; omega)
    by_cases hlt : i < ps.length
    · obtain ⟨x, hx⟩ : ∃ x, ps[i]? = some x := ⟨_, List.getElem?_eq_getElem hlt⟩
      obtain ⟨b, off, rfl, hb, y0, y1, hor, hsl⟩ := HP.out.at' i x hx
      have hlp := lenP_take hx
      obtain ⟨o, s⟩ := x
      simp only at y0 y1 hor hsl hlp
      have HY : Hid (∀ W, Kept (fun _ => True) wr W → W.cell? ⟨b, off + i * 2, none⟩ = some (.int .i64 o) ∧ W.cell? ⟨b, off + i * 2 + 1, none⟩ = some (S s)) := Lib.hid fun W hk => ⟨((HKT.out.tr hk).cell hb trivial).trans y0, ((HKT.out.tr hk).cell hb trivial).trans y1⟩
      have hle := lenP_le ps (i + 1)
      have HLP := Lib.hid hlp
      have hnb : n + s.length ≤ 1073741823 := by rw [HN.out.1]; omega
      obtain ⟨c0, c1⟩ := HY.out wr (Kept.refl _ _)
      have PK : Hid (Calls Tryz.prog 12 #[.int .i64 o, .int .i64 2] wr fun e w' => e = .returned (.int .i64 (pickZ o 2 : Nat)) ∧ w' = wr) := Lib.hid (pick_is o 2 wr hor ⟨by omega, by omega⟩)
      have hkl := pickZ_lt o 2 (by omega)
      obtain ⟨k, hk⟩ : ∃ k, pickZ o 2 = k := ⟨_, rfl⟩
      rw [hk] at PK hkl
      have hkl2 : (k : Int) < 2 := by omega
      have hk0 : (0 : Int) ≤ (k : Int) := by omega
      clear hx y0 y1 hk hlp
      go_wp2_with fail
      refine PK.out.mono ?_
      rintro e v1 ⟨rfl, hv1⟩
      obtain rfl := hv1.symm
      clear hv1
      have HEW : Hid (WE w2.heap.size wr) := Lib.hid (HE9.out.kept HKB.out fun _ h => h)
      have HKD : Hid (Kept (fun _ => True) wr wr.drew) := Lib.hid (Kept.refl _ _).drew
      have HFD := Lib.hid (HFS.out.keptT HKD.out)
      have hBz := HFS.out.col.size
      have F1 := Lib.hid (feed_one (s := s) (HFD.out.rk k hkl) (HEW.out.kept HKD.out fun _ _ => trivial) hBz (by omega))
      obtain ⟨x0, x1⟩ := HFD.out.cells hkl
      obtain ⟨c0, c1⟩ := HY.out wr.drew HKD.out
      have HRK := Lib.hid (HFD.out.rk k hkl)
      have HNG : Hid (w4.heap.size ∉ fpf k ∧ w4.heap.size < wr.drew.heap.size) := Lib.hid ⟨HRK.out.tyN HFD.out.rr (by decide) (by decide) (by decide) (by decide) (by decide) (by decide), (Array.getElem?_eq_some_iff.1 HFD.out.rr).1⟩
      have HNY : Hid (w7.heap.size ∉ fpf k ∧ w7.heap.size < wr.drew.heap.size) := Lib.hid ⟨HRK.out.tyN HFD.out.yy (by decide) (by decide) (by decide) (by decide) (by decide) (by decide), (Array.getElem?_eq_some_iff.1 HFD.out.yy).1⟩
      have HNB : Hid (b ∉ fpf k ∧ b < wr.drew.heap.size) := Lib.hid ⟨fun hm => by have := HRK.out.lo b hm; have := HWB.out; omega, by have := HKT.out.size; have e : wr.drew.heap.size = wr.heap.size := rfl; omega⟩
      clear PK c0
      go_wp2
      go_region_held3 (fun wz => wz.cell? ⟨w4.heap.size, k, none⟩ = some (.pointer (some ⟨pp k, 0, none⟩)) ∧ wz.cell? ⟨b, off + i * 2 + 1, none⟩ = some (S s)) (go_keep)
        (first
          | (go_at_call 13; (with_reducible refine F1.out.mono ?_); rintro e v1 ⟨v, l, E, fp', rfl, a1, a2, a3, a4, a5, a6⟩; have z0 := (a6.cell (b := w4.heap.size) (o := k) HNG.out.2 HNG.out.1).trans x0; have z1 := (a6.cell (b := b) (o := off + i * 2 + 1) HNB.out.2 HNB.out.1).trans c1; have z2 := (a6.cell (b := w7.heap.size) (o := k) HNY.out.2 HNY.out.1).trans x1; obtain ⟨va, vc, rfl⟩ := row_form a1.row; have HA1 := Lib.hid (And.intro a1 (And.intro a2 (And.intro a3 (And.intro a4 (And.intro a5 a6))))); clear a1 a2 a3 a4 a5 a6))
      have HKD1 : Hid (Kept (fun _ => True) v1 v1.drew) := Lib.hid (Kept.refl _ _).drew
      have F2 := Lib.hid (feed_two (HA1.out.2.2.2.2.1.keptT HKD1.out) (by omega))
      clear F1 x0 x1 c1 HNG HNY HNB z0
      obtain ⟨qc, hqb⟩ := HRK.out.qbox
      have HNB2 : Hid (w7.heap.size ≠ qq k ∧ w7.heap.size < v1.drew.heap.size) := Lib.hid (by
        have h1 := (Array.getElem?_eq_some_iff.1 HFD.out.yy).1
        have h2 := HA1.out.2.2.2.2.2.size
        have e : v1.drew.heap.size = v1.heap.size := rfl
        exact ⟨ty_ne HFD.out.yy hqb (by decide), by omega⟩)
      have HNB3 : Hid (b ≠ qq k ∧ b < v1.drew.heap.size) := Lib.hid (by
        have h1 := HQL.out k hkl
        have h2 := HWB.out
        have h3 := HKT.out.size
        have h4 := HA1.out.2.2.2.2.2.size
        have e : v1.drew.heap.size = v1.heap.size := rfl
        have e2 : wr.drew.heap.size = wr.heap.size := rfl
        exact ⟨by omega, by omega⟩)
      clear hqb
      go_wp2
      go_region_held3 (fun wz => wz.cell? ⟨w7.heap.size, k, none⟩ = some (.pointer (some ⟨qq k, 0, none⟩)) ∧ wz.cell? ⟨b, off + i * 2 + 1, none⟩ = some (S s)) (go_keep)
        (first
          | (go_at_call 14; (with_reducible refine F2.out.mono ?_); rintro e v2 ⟨v', kk, rfl, b1, b2, b3, b4, b5⟩; have q0 := (b5.cell (b := w7.heap.size) (o := k) HNB2.out.2 HNB2.out.1).trans z2; have q1 := (b5.cell (b := b) (o := off + i * 2 + 1) HNB3.out.2 HNB3.out.1).trans z1; obtain ⟨ka, kc, rfl⟩ := row_form b1.row; have HB1 := Lib.hid (And.intro b1 (And.intro b2 (And.intro b3 (And.intro b4 b5)))); clear b1 b2 b3 b4 b5))
      clear F2 z1 z2 q0 q1 HNB2 HNB3
      have HFED : Hid (∀ v3, Kept (fun _ => True) v2 v3 → Fd W8.heap.size w2.heap.size w4.heap.size w7.heap.size pp qq n s.length k fpf fp' us ws fs ms ns L N (.slice va l.length vc) (.slice ka kk.length kc) l kk v3) := Lib.hid fun v3 hk => by
        obtain ⟨a1, a2, a3, a4, a5, a6⟩ := HA1.out
        obtain ⟨b1, b2, b3, b4, b5⟩ := HB1.out
        exact HFD.out.fed hkl (a1.keptT HKD1.out) a2 a3 a4 (a5.keptT HKD1.out) a6.drew b1 b2 b3 b4 b5 hk
      have HKV : Hid (Kept (fun b => b < w2.heap.size) W9 v2) := Lib.hid (by
        obtain ⟨a1, a2, a3, a4, a5, a6⟩ := HA1.out
        obtain ⟨b1, b2, b3, b4, b5⟩ := HB1.out
        refine ((HKB.out.trans HKD.out fun _ _ _ => trivial).trans a6.drew fun b _ hb hm => ?_).trans b5 fun b _ hb e => ?_
        · have := HRK.out.lo b hm; omega
        · have := HQL.out k hkl; omega)
      clear HA1 HB1 HRK
      have HSM := Lib.hid (HFED.out v2 (Kept.refl _ _)).hm
      have hlk : kk.length ≤ l.length := by have := congrArg List.length HSM.out; simp only [List.length_map] at this; omega
      have hll2 : l.length ≤ s.length := (HFED.out v2 (Kept.refl _ _)).ll
      have MS := Lib.hid (messages_any (msO l) (msO kk) (.slice va l.length vc) (.slice ka kk.length kc) v2 (rowm_of (HFED.out v2 (Kept.refl _ _)).h1 fun x hx => ((HFED.out v2 (Kept.refl _ _)).hl x hx).1) (rowm_of (HFED.out v2 (Kept.refl _ _)).h2 fun x hx => ((HFED.out v2 (Kept.refl _ _)).hk x hx).1)
        ⟨by simp only [List.length_map]; omega, fun x hx => by
          unfold msO at hx
          rw [List.map_map] at hx
          obtain ⟨y, hy, rfl⟩ := List.mem_map.1 hx
          have := ((HFED.out v2 (Kept.refl _ _)).hl y hy).2
          show y.1.hs.length ≤ _
          omega⟩ ⟨by simp only [List.length_map]; omega, fun x hx => by
          unfold msO at hx
          rw [List.map_map] at hx
          obtain ⟨y, hy, rfl⟩ := List.mem_map.1 hx
          have := ((HFED.out v2 (Kept.refl _ _)).hk y hy).2
          show y.1.hs.length ≤ _
          omega⟩)
      go_wp2_with fail
      refine MS.out.mono ?_
      rintro e v3 ⟨⟨q, rfl, hq⟩, hk3⟩
      obtain rfl : q = true := hq.2 HSM.out
      have HF3 := Lib.hid (HFED.out v3 hk3)
      have HKV3 : Hid (Kept (fun b => b < w2.heap.size) W9 v3) := Lib.hid (HKV.out.trans hk3 fun _ _ _ => trivial)
      have hul : us.length ≤ n := HFS.out.lens.1
      have hnl : ns.length = ms.length := by rw [HFS.out.cn.ln, HFS.out.cn.lm, HFS.out.cn.ll]
      have hml : ms.length = i := HN.out.2
      have TK := Lib.hid (takes_book W8.heap.size w2.heap.size us ws fs ms ns (.slice va l.length vc) (.slice ka kk.length kc) l kk v3 HF3.out.col (by omega) (by omega) HF3.out.h1 HF3.out.h2 HF3.out.hl (fun x hx => (HF3.out.hk x hx).1) HF3.out.hm HF3.out.hd HF3.out.hb)
      clear hq hk3 HFED MS HKV HKD1 HKD
      go_wp2_with fail
      refine TK.out.mono ?_
      rintro e v4 ⟨rfl, hc4, hk4⟩
      have HFS4 := Lib.hid (HF3.out.next HFS.out hkl hc4 hk4)
      have HKV4 : Hid (Kept (fun b => b < w2.heap.size) W9 v4) := Lib.hid (HKV3.out.trans hk4 fun _ _ h => .inl h)
      have HN4 : Hid (n + s.length = lenP (ps.take (i + 1)) ∧ (ms ++ [Value.slice va l.length vc]).length = i + 1) := Lib.hid ⟨by rw [HLP.out, HN.out.1], by rw [List.length_append, hml]; rfl⟩
      clear hc4 hk4 TK HF3 HKV3 HFD HFS HKB HSM hul hml hnl
      obtain ⟨NN, hw1, hw2⟩ := (HFS4.out.rk k hkl).waits
      have WA := Lib.hid hw1
      have WB := Lib.hid hw2
      obtain ⟨x0, x1⟩ := HFS4.out.cells hkl
      have HKD4 : Hid (Kept (fun _ => True) v4 v4.drew) := Lib.hid (Kept.refl _ _).drew
      clear hw1 hw2
      have hEE : (E != E) = false := by simp
      go_wp2_with fail
      go_region_held3 (fun wz => wz.cell? ⟨w4.heap.size, k, none⟩ = some (.pointer (some ⟨pp k, 0, none⟩)) ∧ wz.cell? ⟨w7.heap.size, k, none⟩ = some (.pointer (some ⟨qq k, 0, none⟩))) (go_keep)
        (first
          | (go_at_call 17; (with_reducible refine (WA.out _ HKD4.out).mono ?_); rintro e v5 ⟨rfl, hk5⟩; have z0 := hk5.drewCell x0; have z1 := hk5.drewCell x1; have HK5 := Lib.hid (HKD4.out.tr hk5); clear hk5)
          | (go_at_call 18; (with_reducible refine (WB.out _ HK5.out).mono ?_); rintro e v6 ⟨rfl, hk6⟩; have q0 := (hk6.cell (cell_isLt z0) trivial).trans z0; have q1 := (hk6.cell (cell_isLt z1) trivial).trans z1; have HK6 := Lib.hid (HK5.out.tr hk6); clear hk6))
      have HFS6 := Lib.hid (HFS4.out.keptT HK6.out)
      have HKB6 : Hid (Kept (fun b => b < w2.heap.size) W9 v6) := Lib.hid (HKV4.out.trans HK6.out fun _ _ _ => trivial)
      clear HFS4 HKV4 WA WB x0 x1 z0 z1 q0 q1 HK5 HK6 HKD4
      go_wp2
      go_roundg (ps.length - (i + 1))
      case rel => exact ⟨i + 1, n + s.length, up fpf k fp', _, _, _, _, _, _, _, by go_num, rfl, by omega, HN4, HFS6, HKB6⟩
      case measure => omega
    · obtain rfl : i = ps.length := by omega
      have hnl : n ≤ 1073741823 := by have h := HN.out.1; rw [List.take_length] at h; omega
      have ST : Hid (Calls Tryz.prog 19 #[.pointer (some ⟨W8.heap.size, 0, none⟩)] wr fun e w' => e = .returned (.bool true) ∧ Kept (· < w2.heap.size) wr w') := Lib.hid (by
        obtain ⟨⟨vs, xs, hb, e0, e1, e3, e4, e5, e6, e7⟩, hcf⟩ := HFS.out.col
        have hf : ∀ (j : Nat) v (l : List Value), l.length = fs.length → l[j]? = some v → fs[j]? = some (fs.getD j []) := fun j v l hl hv => by
          obtain ⟨f, hf⟩ := get_len hv hl
          rw [List.getD_eq_getElem?_getD, hf]; rfl
        have h1 := HFS.out.lens.1
        have h2 := HN.out.2
        exact still_any _ _ vs xs us ws (fun j => fs.getD j []) wr hb e0 e1 e3 e4 (hcf.lu.trans hcf.lw.symm) (by omega) (fun j u hu => hcf.ou j u _ hu (hf j u us hcf.lu hu)) (fun j u hu => hcf.ow j u _ hu (hf j u ws hcf.lw hu)) (apart_of us hcf.nd) (fun u hu b hub => hcf.lo b (List.mem_filterMap.2 ⟨u, hu, hub⟩))
          (outer_any _ _ vs xs ms ns L N wr hb e5 e6 e7 (HFS.out.cn.colM hcf) (by omega) fun l hl => by have := HFS.out.lens.2 l hl; omega))
      go_wp2_with fail
      refine ST.out.mono ?_
      rintro e v7 ⟨rfl, hk7⟩
      have HKF : Hid (Kept (fun _ => True) w v7) := Lib.hid (HKT.out.trans hk7 fun b hb _ => by have := HWB.out; omega)
      clear hk7 ST
      go_wp2
      go_ret
      exact ⟨rfl, HKF.out⟩
end Go.Proofs.YtaomhkgdbobpkaaGreatDoor
