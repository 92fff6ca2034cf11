/- Walks of the law of layer 5, thirteenth part: bytes cut anywhere. -/
import Derived.Test.YtaomhkgdbobpkaaGreatDoorWiLC
namespace Go.Proofs.YtaomhkgdbobpkaaGreatDoor
open Go.RowKit Wi

def sizeM (x : Msg) : Nat := sizeN x.m x.p x.hs x.body
def sumS (ms : List Msg) : Nat := (ms.map sizeM).sum
theorem sumS_take {ms : List Msg} {j : Nat} {x : Msg} (h : ms[j]? = some x) : sumS (ms.take (j + 1)) = sumS (ms.take j) + sizeM x := by
  unfold sumS
  rw [List.take_add_one, h]
  simp
theorem sumS_le (ms : List Msg) (j : Nat) : sumS (ms.take j) ≤ sumS ms := by
  unfold sumS
  rw [List.map_take]
  exact sum_take_le _ _
theorem sumS_len : ∀ ms : List Msg, 100 * ms.length ≤ sumS ms
  | [] => by simp
  | x :: ms => by
    have := sumS_len ms
    have e : sumS (x :: ms) = sizeM x + sumS ms := by simp [sumS]
    rw [e, List.length_cons]
    unfold sizeM sizeN; omega
theorem sumS_mem {ms : List Msg} {j : Nat} {x : Msg} (h : ms[j]? = some x) : sizeM x ≤ sumS ms := by
  have h1 := sumS_take h
  have h2 := sumS_le ms (j + 1)
  omega
/-- Raw numbers that came in. -/
def CutIn (ca : Option Addr) (cl : Nat) (w : World) : Prop := ∀ i, i < cl → ∃ b off z, ca = some ⟨b, off, none⟩ ∧ b < w.heap.size ∧ w.cell? ⟨b, off + i, none⟩ = some (.int .i64 z) ∧ -9223372036854775808 ≤ z ∧ z ≤ 9223372036854775807
/-- What was told so far: the messages ws, in a row, apart from what the reader holds. -/
def TD (B : Nat) (v : Value) (ys : List (Msg × Value)) (ws : List R) (fp : List Nat) (w : World) : Prop := Wt B v ys w ∧ ys.map (·.1) = ws.map msgOf ∧ (∀ y ∈ ys, y.1.hs.length ≤ 32) ∧ ∀ y ∈ ys, ∀ b, y.2.ownBlock = some b → b ∉ fp
/-- The reader's state: a reading, or over. -/
def RDR (p B : Nat) (x : R × Int) (fp : List Nat) (w : World) : Prop := (x.2 = 0 → RrAt p x.1 fp w ∧ RI x.1 ∧ x.1.ans = false ∧ ∀ b ∈ fp, B ≤ b) ∧ (x.2 ≠ 0 → OvAt p w)
theorem TD.keptT {B : Nat} {v : Value} {ys : List (Msg × Value)} {ws : List R} {fp : List Nat} {w w' : World} (h : TD B v ys ws fp w) (hk : Kept (fun _ => True) w w') : TD B v ys ws fp w' := ⟨h.1.keptT hk, h.2⟩
theorem RDR.keptT {p B : Nat} {x : R × Int} {fp : List Nat} {w w' : World} (h : RDR p B x fp w) (hk : Kept (fun _ => True) w w') : RDR p B x fp w' := ⟨fun e => ⟨(h.1 e).1.kept hk, (h.1 e).2⟩, fun e => (h.2 e).kept hk⟩
/-- What a call of Feed gives, whether the reader is over or not. -/
def FB (p : Nat) (E : Int) (r : R) (s : List UInt8) (fp : List Nat) (w : World) (v : Value) (n : Int) (w' : World) : Prop :=
  (E = 0 → n = (feedP r s).2.2 ∧ ∃ (ys : List (Msg × Value)) (fp' : List Nat), Wt w.heap.size v ys w' ∧ ys.map (·.1) = (feedP r s).1.map msgOf ∧ (∀ y ∈ ys, y.1.hs.length ≤ 32) ∧ (∀ y ∈ ys, ∀ b, y.2.ownBlock = some b → b ∉ fp') ∧
      (∀ b ∈ fp', b ∈ fp ∨ w.heap.size ≤ b) ∧ ((feedP r s).2.2 = 0 → RrAt p (feedP r s).2.1 fp' w' ∧ RI (feedP r s).2.1) ∧ ((feedP r s).2.2 ≠ 0 → OvAt p w') ∧ Kept (· ∉ fp) w w') ∧
  (E ≠ 0 → v = .slice none 0 0 ∧ n = 54 ∧ Kept (fun _ => True) w w')
theorem feed_both (p B : Nat) (E : Int) (r : R) (s : List UInt8) (fp : List Nat) (w : World) (hE : WE B w) (hR : RDR p B (r, E) fp w) (hB : B ≤ w.heap.size) (hc : r.cnt + s.length ≤ 1099511627776) :
    Calls Tryz.prog 13 #[.pointer (some ⟨p, 0, none⟩), S s] w fun e w' => ∃ v n, e = .returned (.tuple #[v, .int .i64 n]) ∧ FB p E r s fp w v n w' := by
  by_cases he : E = 0
  · obtain ⟨h1, h2, h3, h4⟩ := hR.1 he
    refine (Feed_any p r s fp w B hE h1 h2 h3 hc ⟨h4, hB⟩).mono fun e w' hq => ?_
    obtain ⟨v, ys, fp', rfl, k⟩ := hq.wt
    exact ⟨v, _, rfl, fun _ => ⟨rfl, ys, fp', k⟩, fun h => absurd he h⟩
  · refine (Feed_over p s w (hR.2 he)).mono fun e w' hq => ?_
    obtain ⟨rfl, hk⟩ := hq
    exact ⟨_, _, rfl, fun h => absurd h he, fun _ => ⟨rfl, rfl, hk⟩⟩
theorem RrAt.ty {p : Nat} {r : R} {fp : List Nat} {w : World} (h : RrAt p r fp w) {b : Nat} {cs : Array Value} {fz : Nat × Nat} (hb : w.heap[b]? = some (.cells cs 50 fz)) : b ∉ fp := by
  obtain ⟨g, fp0, hp, hr, _, rfl⟩ := h
  intro hm
  rcases List.mem_cons.1 hm with rfl | hm
  · exact ty_ne hb hp (by decide) rfl
  · exact hr.ty hb (by decide) (by decide) (by decide) (by decide) (by decide) hm
theorem RrAt.keptN {p : Nat} {r : R} {fp : List Nat} {w w' : World} {ok : Nat → Prop} (h : RrAt p r fp w) (hk : Kept ok w w') (ho : ∀ b ∈ fp, ok b) : RrAt p r fp w' := by
  obtain ⟨g, fp0, hb, hr, hn, rfl⟩ := h
  exact ⟨g, fp0, (hk.block p (Array.getElem?_eq_some_iff.1 hb).1 (ho p (by simp))).trans hb, hr.kept hk fun b hm => ho b (by simp [hm]), hn, rfl⟩
theorem TD.fed {B p : Nat} {v : Value} {ys : List (Msg × Value)} {ws : List R} {r : R} {fq : List Nat} {w w6 : World} (h : TD B v ys ws fq w) (hr : RrAt p r fq w) (hk : Kept (· ∉ fq) w w6) : Wt B v ys w6 :=
  h.1.kept hk (fun b hb => by obtain ⟨cs, hc⟩ := own_cells h.1.row hb; exact hr.ty hc) fun x hx b hb => h.2.2.2 x hx b hb
/-- A piece that is taken: what was told, the reader, behind it. -/
theorem piece_ok {p B : Nat} {Sx : List UInt8} {a b : Nat} {tv v v' : Value} {ys zs : List (Msg × Value)} {fq fp' : List Nat} {wc w6 w7 : World} (hab : a ≤ b) (he : (feedP (begin' false) (Sx.take a)).2.2 = 0)
    (HT : TD B tv ys (feedP (begin' false) (Sx.take a)).1 fq wc) (HR : RDR p B (feedP (begin' false) (Sx.take a)).2 fq wc) (hB : B ≤ wc.heap.size)
    (k1 : Wt wc.heap.size v zs w6) (k2 : zs.map (·.1) = (feedP (feedP (begin' false) (Sx.take a)).2.1 ((Sx.drop a).take (b - a))).1.map msgOf) (k3 : ∀ y ∈ zs, y.1.hs.length ≤ 32) (k4 : ∀ y ∈ zs, ∀ b, y.2.ownBlock = some b → b ∉ fp') (k5 : ∀ b ∈ fp', b ∈ fq ∨ wc.heap.size ≤ b)
    (k6 : (feedP (feedP (begin' false) (Sx.take a)).2.1 ((Sx.drop a).take (b - a))).2.2 = 0 → RrAt p (feedP (feedP (begin' false) (Sx.take a)).2.1 ((Sx.drop a).take (b - a))).2.1 fp' w6 ∧ RI (feedP (feedP (begin' false) (Sx.take a)).2.1 ((Sx.drop a).take (b - a))).2.1)
    (k7 : (feedP (feedP (begin' false) (Sx.take a)).2.1 ((Sx.drop a).take (b - a))).2.2 ≠ 0 → OvAt p w6) (k8 : Kept (· ∉ fq) wc w6)
    (g1 : w7.ownsRow B 50 4 v' (ys.length + zs.length) (wtCells ys ++ wtCells zs)) (g2 : Below B w6 w7) (g3 : Moved tv v' w6 w7) :
    TD B v' (ys ++ zs) (feedP (begin' false) (Sx.take b)).1 fp' w7 ∧ RDR p B (feedP (begin' false) (Sx.take b)).2 fp' w7 := by
  obtain ⟨r1, r2, r3, r4⟩ := HR.1 he
  have hw6 := HT.fed r1 k8
  have hk : Kept (fun b => tv.ownBlock ≠ some b) w6 w7 := ⟨g2.os, g2.tape, g2.output, g3.kept.1, fun k hk ho => g3.kept.2 k hk fun e => ho e.symm⟩
  rw [feed_piece_ok Sx hab he]
  refine ⟨⟨hw6.append (fun y hy => k1.hs y hy) g1 g2 g3, ?_, fun y hy => ?_, fun y hy b' hb' hm => ?_⟩, ⟨fun h => ?_, fun h => ?_⟩⟩
  · rw [List.map_append, HT.2.1, k2, List.map_append]
  · rcases List.mem_append.1 hy with hy | hy
    · exact HT.2.2.1 y hy
    · exact k3 y hy
  · rcases List.mem_append.1 hy with hy | hy
    · rcases k5 b' hm with h1 | h1
      · exact HT.2.2.2 y hy b' hb' h1
      · obtain ⟨cs, hc⟩ := own_cells (HT.1.hs y hy) hb'
        have := (Array.getElem?_eq_some_iff.1 hc).1
        omega
    · exact k4 y hy b' hb' hm
  · obtain ⟨q1, q2⟩ := k6 h
    refine ⟨q1.keptN hk fun b' hm e => ?_, q2, (feedP_inv _ _ r2 r3 h).2, fun b' hm => ?_⟩
    · obtain ⟨cs, hc⟩ := own_cells hw6.row e
      exact q1.ty hc hm
    · rcases k5 b' hm with h1 | h1
      · exact r4 b' h1
      · omega
  · obtain ⟨g, hp⟩ := k7 h
    refine ⟨g, (hk.block p (Array.getElem?_eq_some_iff.1 hp).1 fun e => ?_).trans hp⟩
    obtain ⟨cs, hc⟩ := own_cells hw6.row e
    exact ty_ne hc hp (by decide) rfl
theorem piece_bad {p B : Nat} {Sx : List UInt8} {a b : Nat} {tv : Value} {ys : List (Msg × Value)} {fq : List Nat} {wc : World} (hab : a ≤ b) (he : (feedP (begin' false) (Sx.take a)).2.2 ≠ 0)
    (HT : TD B tv ys (feedP (begin' false) (Sx.take a)).1 fq wc) (HR : RDR p B (feedP (begin' false) (Sx.take a)).2 fq wc) :
    TD B tv ys (feedP (begin' false) (Sx.take b)).1 fq wc ∧ RDR p B (feedP (begin' false) (Sx.take b)).2 fq wc := by
  obtain ⟨e1, e2⟩ := feed_piece_bad Sx hab he
  rw [e1]
  exact ⟨HT, fun h => absurd (e2.symm.trans h) he, fun _ => HR.2 he⟩
theorem wait_both (p : Nat) (E : Int) (r : R) (fp : List Nat) (w : World) (h1 : E = 0 → RrAt p r fp w) (h2 : E ≠ 0 → OvAt p w) :
    Calls Tryz.prog 17 #[.pointer (some ⟨p, 0, none⟩)] w fun e w' => e = .returned (.int .i64 (if E = 0 then (r.cnt : Int) else 0)) ∧ Kept (fun _ => True) w w' := by
  by_cases he : E = 0
  · rw [if_pos he]; exact Waiting_any p r fp w (h1 he)
  · rw [if_neg he]; exact Waiting_over p w (h2 he)
theorem RowM.first {w : World} {a : Option Addr} {n c k : Nat} {ms : List Msg} (h : RowM w (.slice a n c) ms) (hk : k ≤ n) : RowM w (.slice a k c) (ms.take k) := by
  rcases h with ⟨a', c', e, rfl⟩ | ⟨b, off, cap, e, h1, h3, h4⟩
  · obtain ⟨rfl, rfl, rfl⟩ : a = a' ∧ n = 0 ∧ c = c' := by simpa using e
    obtain rfl : k = 0 := by omega
    exact .inl ⟨_, _, rfl, by simp⟩
  · obtain ⟨rfl, rfl, rfl⟩ : a = some ⟨b, off, none⟩ ∧ n = ms.length ∧ c = cap := by simpa using e
    have hl : (ms.take k).length = k := by rw [List.length_take]; omega
    refine .inr ⟨b, off, c, by rw [hl], by rw [hl]; omega, h3, fun j x hj => h4 j x ?_⟩
    rw [List.getElem?_take] at hj
    split at hj
    · exact hj
    · cases hj
abbrev SM4c (b o : Nat) (x : Msg) (hv : Value) (w : World) : Prop := w.cell? ⟨b, o, none⟩ = some (S x.m) ∧ w.cell? ⟨b, o + 1, none⟩ = some (S x.p) ∧ w.cell? ⟨b, o + 2, none⟩ = some hv ∧ w.cell? ⟨b, o + 3, none⟩ = some (S x.body)
theorem SM4c.kept {b o : Nat} {x : Msg} {hv : Value} {w w' : World} (h : SM4c b o x hv w) (hb : b < w.heap.size) (hk : Kept (fun _ => True) w w') : SM4c b o x hv w' :=
  ⟨(hk.cell hb trivial).trans h.1, (hk.cell hb trivial).trans h.2.1, (hk.cell hb trivial).trans h.2.2.1, (hk.cell hb trivial).trans h.2.2.2⟩
set_option maxHeartbeats 8000000 in
set_option maxRecDepth 100000 in
theorem cuts_law (ms : List Msg) (vl : Value) (tail : List UInt8) (ca : Option Addr) (cl cc : Nat) (w : World) (hE : WE w.heap.size w) (hl : RowM w vl ms) (hc : CutIn ca cl w) (hcl : cl ≤ 1048576) (hsz : tail.length + 100 + sumS ms ≤ 2147483647) :
    Calls Tryz.prog 4 #[vl, S tail, .slice ca cl cc] w fun e w' => e = .returned (.bool true) ∧ Kept (fun _ => True) w w' := by
  obtain ⟨la, lc, rfl⟩ := hl.slice
  have hlen := sumS_len ms
  have htl : tail.length ≤ 2147483647 := by omega
  have hml : ms.length ≤ 21474836 := by omega
  have htz : (⟨tail.toArray⟩ : ByteArray).size = tail.length := size_mk tail
  have HL := Lib.hid hl
  have HC := Lib.hid hc
  have HSZ := Lib.hid hsz
  have HEW := Lib.hid hE
  have HM0 : Hid (addZ (tail.length : Int) 100 = ((tail.length + 100 + sumS (ms.take 0) : Nat) : Int)) := Lib.hid (by rw [addZ_of (by omega)]; simp [sumS])
  have AD := Lib.hid (fun W => add_z (tail.length : Int) 100 W (by omega) (by omega))
  clear hl hc hsz hE hlen
  go_enter Tryz.func4, Tryz.ntmps4
  go_wp2_with fail
  refine (AD.out _).mono ?_
  rintro e w1 ⟨rfl, rfl⟩
  rw [HM0.out]
  clear AD
  go_upto_block 0 with fail
  go_cut [7] (fun mv wx => mv = .int .i64 ((tail.length + 100 + sumS ms : Nat) : Int) ∧ Hid (Kept (fun _ => True) w1 wx))
  case first =>
    go_wp2_with fail
    go_loopg [7, 8] ms.length (fun q mv iv wr => ∃ j : Nat, iv = .int .i64 j ∧ mv = .int .i64 ((tail.length + 100 + sumS (ms.take j) : Nat) : Int) ∧ q = ms.length - j ∧ j ≤ ms.length ∧ Hid (Kept (fun _ => True) w1 wr))
    case atStart => exact ⟨0, rfl, rfl, rfl, Nat.zero_le _, Lib.hid (Kept.refl _ _)⟩
    case round =>
      obtain ⟨j, rfl, rfl, rfl, hj, HK⟩ := hrel
      have HB := Lib.hid (sumS_le ms j)
      obtain ⟨M, hM⟩ : ∃ M, tail.length + 100 + sumS (ms.take j) = M := ⟨_, rfl⟩
      have HMM := Lib.hid hM
      rw [hM]
      have hMb : M ≤ 2147483647 := by have := HB.out; have := HSZ.out; omega
      clear hM
      by_cases hlt : j < ms.length
      · obtain ⟨b, off, rfl, hb, x, hx, x0, x1, x3, hv, x2, hr⟩ := HL.out.at hlt
        have hsx := sumS_mem hx
        have hst := sumS_take hx
        have hsl := sumS_le ms (j + 1)
        have HS0 : Hid (SM4c b (off + j * 4) x hv w1) := Lib.hid ⟨x0, x1, x2, x3⟩
        have HSW : Hid (∀ W, Kept (fun _ => True) wr W → SM4c b (off + j * 4) x hv W) := Lib.hid fun W hk => HS0.out.kept hb (HK.out.tr hk)
        have SZ := Lib.hid (fun W (hk : Kept (fun _ => True) wr W) => size_any x.m x.p x.body x.hs hv W (hr.kept (HK.out.tr hk) fun _ _ _ => trivial) (by have := HSZ.out; unfold sizeM at hsx; omega))
        obtain ⟨z, hz⟩ : ∃ z, sizeN x.m x.p x.hs x.body = z := ⟨_, rfl⟩
        rw [hz] at SZ
        have HAZ : Hid (addZ (M : Int) (z : Int) = ((tail.length + 100 + sumS (ms.take (j + 1)) : Nat) : Int)) := Lib.hid (by
          unfold sizeM at hst
          rw [hz] at hst
          have := HMM.out
          have := HSZ.out
          rw [addZ_of (by omega)]
          omega)
        have hz3 : z ≤ 2147483647 := by unfold sizeM at hsx; have := HSZ.out; omega
        clear x0 x1 x2 x3
        obtain ⟨x0, x1, x2, x3⟩ := HSW.out wr (Kept.refl _ _)
        clear hx hr hsx hst hsl hz
        go_wp2_with fail
        refine (SZ.out wr (Kept.refl _ _)).mono ?_
        rintro e w2 ⟨rfl, hk2⟩
        have HK2 := Lib.hid (HK.out.tr hk2)
        clear hk2 x0 x1 x2 x3
        go_wp2_with fail
        refine (add_z _ _ _ (by omega) (by omega)).mono ?_
        rintro e w3 ⟨rfl, rfl⟩
        go_wp2
        go_roundg (ms.length - (j + 1))
        case rel => exact ⟨j + 1, by go_num, congrArg (Value.int .i64) HAZ.out, rfl, by omega, HK2⟩
        case measure => omega
      · obtain rfl : j = ms.length := by omega
        have HMS : Hid ((M : Int) = ((tail.length + 100 + sumS ms : Nat) : Int)) := Lib.hid (by have := HMM.out; rw [List.take_length] at this; omega)
        clear hlt
        go_wp2
        go_meet
        exact ⟨congrArg (Value.int .i64) HMS.out, HK⟩
  case rest =>
  obtain ⟨rfl, HK1⟩ := hcut
  obtain ⟨M, hM⟩ : ∃ M, tail.length + 100 + sumS ms = M := ⟨_, rfl⟩
  rw [hM]
  have hMb : M ≤ 2147483647 := by have := HSZ.out; omega
  have AD2 := Lib.hid (fun W => add_z (M : Int) (M : Int) W (by omega) (by omega))
  have HR2 := Lib.hid (addZ_rng (n := (M : Int)) (m := (M : Int)) (by omega) (by omega))
  obtain ⟨N2, hN2⟩ : ∃ N, addZ (M : Int) (M : Int) = N := ⟨_, rfl⟩
  rw [hN2] at AD2 HR2
  clear hM hN2
  go_upto_block 2 with fail
  go_cut [9] (fun nv wx => ∃ z : Int, nv = .int .i64 z ∧ wx = wc)
  case first =>
    go_wp2_with fail
    go_loopg [9, 10] cl (fun q nv iv wr => ∃ (j : Nat) (z : Int), iv = .int .i64 j ∧ nv = .int .i64 z ∧ q = cl - j ∧ j ≤ cl ∧ 0 ≤ z ∧ z ≤ 2147483648 ∧ wr = wc)
    case atStart => exact ⟨0, M, rfl, rfl, rfl, Nat.zero_le _, by omega, by omega, rfl⟩
    case round =>
      obtain ⟨j, z, rfl, rfl, rfl, hj, hz0, hz1, rfl⟩ := hrel
      have HR3 := Lib.hid (addZ_rng (n := z) (m := N2) hz0 HR2.out.1)
      have A3 := Lib.hid (fun W => add_z z N2 W (by omega) ⟨HR2.out.1, by have := HR2.out.2.1; omega⟩)
      by_cases hlt : j < cl ∧ z ≤ 2147483647
      · obtain ⟨h1, h2⟩ := hlt
        go_wp2_with fail
        refine (AD2.out _).mono ?_
        rintro e w3 ⟨rfl, rfl⟩
        go_wp2_with fail
        refine (A3.out _).mono ?_
        rintro e w4 ⟨rfl, rfl⟩
        go_wp2
        go_roundg (cl - (j + 1))
        case rel => exact ⟨j + 1, _, by go_num, rfl, rfl, by omega, HR3.out.1, HR3.out.2.1, rfl⟩
        case measure => omega
      · by_cases h1 : j < cl
        · have h2 : ¬ z ≤ 2147483647 := fun h => hlt ⟨h1, h⟩
          clear hlt
          go_wp2
          go_meet
          exact ⟨z, rfl, rfl⟩
        · clear hlt
          go_wp2
          go_meet
          exact ⟨z, rfl, rfl⟩
  case rest =>
  obtain ⟨z, rfl, rfl⟩ := hcut
  by_cases hz : 2147483647 < z
  · go_wp2
    go_ret
    exact ⟨rfl, HK1.out⟩
  clear AD2 HR2
  have AW := Lib.hid (awake_any wc ((HEW.out.kept HK1.out fun _ _ => trivial).le HK1.out.size))
  go_wp2_with fail
  refine AW.out.mono ?_
  rintro e w3 ⟨rfl, hk3⟩
  have HK3 := Lib.hid (HK1.out.tr hk3)
  clear hk3 AW HK1
  go_upto_block 4 with fail
  go_cut [12, 13] (fun sv wv wx => ∃ xs : List (Msg × Value), sv = S (catP (xs.map (·.1))) ∧ Hid (Wt w3.heap.size wv xs wx ∧ (∀ x ∈ xs, ValidM x.1) ∧ xs.length = ms.length) ∧ Hid (Kept (fun _ => True) w3 wx))
  case first =>
    go_wp2_with fail
    go_loopg [12, 13, 14] ms.length (fun q sv wv iv wr => ∃ (j : Nat) (xs : List (Msg × Value)), iv = .int .i64 j ∧ sv = S (catP (xs.map (·.1))) ∧ q = ms.length - j ∧ j ≤ ms.length ∧ Hid (Wt w3.heap.size wv xs wr ∧ (∀ x ∈ xs, ValidM x.1) ∧ xs.length = j) ∧ Hid (Kept (fun _ => True) w3 wr))
    case atStart => exact ⟨0, [], rfl, rfl, rfl, Nat.zero_le _, Lib.hid ⟨Wt.nil _ _, by simp, rfl⟩, Lib.hid (Kept.refl _ _)⟩
    case round =>
      obtain ⟨j, xs, rfl, rfl, rfl, hj, HX, HK⟩ := hrel
      by_cases hlt : j < ms.length
      · obtain ⟨b, off, rfl, hb, x, hx, x0, x1, x3, hv, x2, hr⟩ := HL.out.at hlt
        have hsx := sumS_mem hx
        have HS0 : Hid (SM4c b (off + j * 4) x hv w1) := Lib.hid ⟨x0, x1, x2, x3⟩
        have HKr := Lib.hid (HK3.out.tr HK.out)
        have hwx : weightN x.hs ≤ 2147483647 := by have := HSZ.out; unfold sizeM sizeN at hsx; omega
        have hmx : Sml x.m ∧ Sml x.p ∧ Sml x.body := by have := HSZ.out; unfold sizeM sizeN at hsx; unfold Sml; omega
        have MS := Lib.hid (message_any x.m x.p x.body x.hs hv wr (hr.kept HKr.out fun _ _ _ => trivial) (smlF_of hwx) hmx.1 hmx.2.1 hmx.2.2)
        clear x0 x1 x2 x3
        obtain ⟨x0, x1, x2, x3⟩ := HS0.out.kept hb HKr.out
        clear hx hr hsx hwx hmx
        go_wp2_with fail
        refine MS.out.mono ?_
        rintro e w4 ⟨⟨y, yv, rfl, n1, n2, n3, n4⟩, hk4⟩
        obtain ⟨ym, yp, ys, yb⟩ := y
        simp only at n1 n2 n3 n4 ⊢
        obtain ⟨ya, yc, rfl⟩ := rowf_slice n1
        have hrz := rowf_of n1
        obtain ⟨W5, hW5⟩ : ∃ W5, w4.alloc (.cells #[S ym, S yp, .slice ya ys.length yc, S yb] 50) = W5 := ⟨_, rfl⟩
        have hk45 : Kept (fun _ => True) w4 W5 := by rw [← hW5]; exact (Kept.refl _ w4).alloc _
        have hbz : four w4.heap.size ym yp (.slice ya ys.length yc) yb W5 := by rw [← hW5]; exact heap_alloc_new w4 _
        have hkr5 := hk4.tr hk45
        have HK5 := Lib.hid (HK.out.tr hkr5)
        have HBZ := Lib.hid hbz
        have HOZ : Hid (OwnF (.slice ya ys.length yc) ys W5) := Lib.hid (ownsRow_kept (ownsRow_le n1 (Nat.zero_le _)) hk45 fun _ _ => trivial)
        have HV : Hid (ValidM ⟨ym, yp, ys, yb⟩) := Lib.hid ⟨n4, n2, n3⟩
        have PO := printM_ok (x := ⟨ym, yp, ys, yb⟩) n4 n2 n3
        have hsm : SmlF ys ∧ Sml yb := restOk_sml n4
        have hsm2 : Sml ym ∧ Sml yp := ⟨by have := method_len n2; unfold Sml; omega, by have := path_len n3; unfold Sml; omega⟩
        have PM := Lib.hid (printM_any ⟨ym, yp, ys, yb⟩ (.slice ya ys.length yc) W5 ((HEW.out.kept (HK3.out.tr HK5.out) fun _ _ => trivial).le (HK3.out.tr HK5.out).size) (hrz.kept hk45 fun _ _ _ => trivial) hsm.1 hsm2.1 hsm2.2 hsm.2)
        have HWT5 := Lib.hid (HX.out.1.keptT hkr5)
        obtain ⟨T, hT⟩ : ∃ T, (printM ⟨ym, yp, ys, yb⟩).1 = T := ⟨_, rfl⟩
        have hT' : printM ⟨ym, yp, ys, yb⟩ = (T, 0) := Prod.ext hT PO.1
        rw [hT'] at PM
        rw [hT] at PO
        have HTE := Lib.hid hT
        replace PM : Hid (Calls Tryz.prog 22 #[.agg #[S ym, S yp, .slice ya ys.length yc, S yb]] W5 (PrintQ (T, 0) W5)) := PM
        replace PO : T.length ≤ 41000 := PO.2
        clear x0 x1 x2 x3 n1 n2 n3 n4 hrz hk4 hk45 hkr5 hsm hsm2 hT hT' MS HS0
        obtain ⟨c0, c1, c2, c3⟩ := hbz.facts
        clear hbz
        go_wp2_with fail
        refine PM.out.mono ?_
        rintro e w6 ⟨rfl, hk6⟩
        have HK6 := Lib.hid (HK5.out.tr hk6)
        have hbz6 := HBZ.out.kept hk6 trivial
        have HWT6 := Lib.hid (HWT5.out.keptT hk6)
        have HOZ6 : Hid (OwnF (.slice ya ys.length yc) ys w6) := Lib.hid (ownsRow_kept HOZ.out hk6 fun _ _ => trivial)
        have hcl2 : (catP (xs.map (·.1))).length ≤ 41000 * j := by
          have := catP_len (xs := xs.map (·.1)) (fun y hy => by obtain ⟨x, hx, rfl⟩ := List.mem_map.1 hy; exact HX.out.2.1 x hx)
          rw [List.length_map, HX.out.2.2] at this
          exact this
        obtain ⟨C, hC⟩ : ∃ C, catP (xs.map (·.1)) = C := ⟨_, rfl⟩
        have HCE := Lib.hid hC
        rw [hC] at hcl2 ⊢
        have CT := run_cat (P := Tryz.prog) C T (C ++ T) rfl (by omega)
        clear c0 c1 c2 c3 hC hk6 hcl2 hW5
        obtain ⟨c0, c1, c2, c3⟩ := hbz6.facts
        clear hbz6
        have hwz : w3.heap.size ≤ w6.heap.size := HK6.out.size
        have hxl : xs.length + 1 ≤ 1099511627776 := by have := HX.out.2.2; omega
        obtain ⟨wa, wcp, rfl⟩ := row_slice HWT6.out.row
        go_wp2_with (at_builtin; refine wpList_pushOne' 39 50 Tryz.underlying39 infoMsg rfl (by decide) rfl _ _ rfl w3.heap.size (.slice wa xs.length wcp) xs.length (wtCells xs) [S ym, S yp, .slice ya ys.length yc, S yb] w6 _ rfl rfl rfl (by intro u hu; simp at hu; rcases hu with rfl | rfl | rfl | rfl <;> rfl) 1 _ rfl rfl rfl HWT6.out.row hxl (by decide) hwz ?_; intro v' w7 k1 k2 k3; have HWT7 := Lib.hid (HWT6.out.append (ys := [(⟨ym, yp, ys, yb⟩, .slice ya ys.length yc)]) (by intro y hy; rw [List.mem_singleton] at hy; rw [hy]; exact HOZ6.out) k1 k2 k3); have HK7 := Lib.hid (HK6.out.trans (Kept.of_belowB k2) fun i hi _ => hi); clear k1 k2 k3)
        go_roundg (ms.length - (j + 1))
        case rel =>
          refine ⟨j + 1, xs ++ [(⟨ym, yp, ys, yb⟩, .slice ya ys.length yc)], by go_num, ?_, rfl, by omega, Lib.hid ⟨HWT7.out, fun x hx => ?_, ?_⟩, HK7⟩
          · rw [List.map_append, List.map_cons, List.map_nil, catP_snoc, HCE.out, HTE.out]
          · rcases List.mem_append.1 hx with hx | hx
            · exact HX.out.2.1 x hx
            · rw [List.mem_singleton] at hx; rw [hx]; exact HV.out
          · rw [List.length_append, HX.out.2.2]; rfl
        case measure => omega
      · obtain rfl : j = ms.length := by omega
        clear hlt
        go_wp2
        go_meet
        exact ⟨xs, rfl, HX, HK⟩
  case rest =>
  rename World => wm
  obtain ⟨xs, rfl, HX, HK4⟩ := hcut
  have hcl3 : (catP (xs.map (·.1))).length ≤ 41000 * ms.length := by
    have := catP_len (xs := xs.map (·.1)) (fun y hy => by obtain ⟨x, hx, rfl⟩ := List.mem_map.1 hy; exact HX.out.2.1 x hx)
    rw [List.length_map, HX.out.2.2] at this
    exact this
  have HCF := Lib.hid (fun k => cat_fine (xs := xs.map (·.1)) (fun y hy => by obtain ⟨x, hx, rfl⟩ := List.mem_map.1 hy; exact HX.out.2.1 x hx) tail (k := k))
  have HCI := Lib.hid (cat_first (xs := xs.map (·.1)) (fun y hy => by obtain ⟨x, hx, rfl⟩ := List.mem_map.1 hy; exact HX.out.2.1 x hx) tail)
  obtain ⟨C, hC⟩ : ∃ C, catP (xs.map (·.1)) = C := ⟨_, rfl⟩
  rw [hC] at hcl3 HCF HCI ⊢
  have hCz : (⟨C.toArray⟩ : ByteArray).size = C.length := size_mk C
  obtain ⟨Sx, hS⟩ : ∃ Sx, C ++ tail = Sx := ⟨_, rfl⟩
  have CT := run_cat (P := Tryz.prog) C tail Sx hS (by omega)
  have hSl : Sx.length = C.length + tail.length := by rw [← hS, List.length_append]
  have hSb : Sx.length ≤ 1099511627775 := by omega
  have hCS : C.length ≤ Sx.length := by omega
  rw [hS] at HCF HCI
  have hSz : (⟨Sx.toArray⟩ : ByteArray).size = Sx.length := size_mk Sx
  obtain ⟨wa, wcp, rfl⟩ := row_slice HX.out.1.row
  have NR := Lib.hid (NewReader_any wm)
  clear hC hS hSl hcl3
  go_wp2_with fail
  refine NR.out.mono ?_
  rintro e w5 ⟨p, fp, rfl, hr5, hf5, hk5⟩
  have HK5 := Lib.hid hk5
  have HR5 : Hid (RDR p wm.heap.size (begin' false, 0) fp w5) := Lib.hid ⟨fun _ => ⟨hr5, RI.begin false, rfl, hf5⟩, fun h => absurd rfl h⟩
  have HE0 : Hid (WE wm.heap.size wm) := Lib.hid ((HEW.out.kept (HK3.out.tr HK4.out) fun _ _ => trivial).le (HK3.out.tr HK4.out).size)
  clear hr5 hf5 hk5 CT
  go_upto_block 6 with fail
  go_cut [20] (fun tv wx => ∃ ys : List (Msg × Value), Hid (Wt wm.heap.size tv ys wx ∧ ys.map (·.1) = (feedP (begin' false) Sx).1.map msgOf ∧ ∀ y ∈ ys, y.1.hs.length ≤ 32) ∧ Hid (Kept (fun _ => True) wm wx))
  case first =>
    go_wp2_with fail
    go_loopg [20, 21, 22, 23] (cl + 1) (fun q tv fv av iv wr => ∃ (j a : Nat) (E : Int) (ys : List (Msg × Value)) (fp : List Nat), iv = .int .i64 j ∧ q = cl + 1 - j ∧ j ≤ cl + 1 ∧ av = .int .i64 a ∧ a ≤ Sx.length ∧ fv = .int .i64 E ∧ Hid ((feedP (begin' false) (Sx.take a)).2.2 = E) ∧ Hid (j = cl + 1 → a = Sx.length) ∧
      Hid (TD wm.heap.size tv ys (feedP (begin' false) (Sx.take a)).1 fp wr) ∧ Hid (RDR p wm.heap.size (feedP (begin' false) (Sx.take a)).2 fp wr) ∧ Hid (Kept (fun _ => True) wm wr))
    case atStart => exact ⟨0, 0, 0, [], fp, rfl, rfl, Nat.zero_le _, rfl, Nat.zero_le _, rfl, Lib.hid rfl, Lib.hid (by omega), Lib.hid ⟨Wt.nil _ _, rfl, by simp, by simp⟩, HR5, HK5⟩
    case round =>
      obtain ⟨j, a, E, ys, fq, rfl, rfl, hj, rfl, ha, rfl, HE, HA, HT, HR, HK⟩ := hrel
      by_cases hlt : j < cl + 1
      · go_upto_if 118 with fail
        go_cut [24] (fun tv wx => ∃ b : Nat, tv = .int .i64 b ∧ a ≤ b ∧ b ≤ Sx.length ∧ Hid (j + 1 = cl + 1 → b = Sx.length) ∧ Hid (Kept (fun _ => True) wr wx))
        case first =>
          by_cases hjc : j < cl
          · obtain ⟨cb, co, zc, rfl, hcb, hcz, hz1, hz2⟩ := HC.out j hjc
            have hcz2 := (((HK3.out.tr HK4.out).tr HK.out).cell hcb trivial).trans hcz
            have hpn : ((Sx.length - a + 1 : Nat) : Int) = (Sx.length : Int) - (a : Int) + 1 := by omega
            have PK := Lib.hid (fun W => pick_big zc (Sx.length - a + 1) W ⟨hz1, hz2⟩ ⟨by omega, by omega⟩)
            have hpl := pickZ_lt zc (Sx.length - a + 1) (by omega)
            obtain ⟨pk, hpk⟩ : ∃ k, pickZ zc (Sx.length - a + 1) = k := ⟨_, rfl⟩
            rw [hpk] at PK hpl
            rw [hpn] at PK
            clear hcz hpn hpk
            go_wp2_with fail
            refine (PK.out _).mono ?_
            rintro e w6 ⟨rfl, rfl⟩
            go_wp2
            go_meet
            exact ⟨a + pk, by go_num, by omega, by omega, Lib.hid (fun h => by omega), Lib.hid (Kept.refl _ _)⟩
          · go_wp2
            go_meet
            exact ⟨Sx.length, rfl, ha, Nat.le_refl _, Lib.hid fun _ => rfl, Lib.hid (Kept.refl _ _)⟩
        case rest =>
        obtain ⟨b, rfl, hab, hb, HB, HKc⟩ := hcut
        have hcnt : (feedP (begin' false) (Sx.take a)).2.1.cnt ≤ a := by
          have := feedP_cnt (Sx.take a) (begin' false)
          rw [List.length_take] at this
          simp only [begin'] at this ⊢
          omega
        have FE := Lib.hid (feed_both p wm.heap.size E (feedP (begin' false) (Sx.take a)).2.1 ((Sx.drop a).take (b - a)) fq _ (HE0.out.kept (HK.out.tr HKc.out) fun _ _ => trivial) (by
          have h := HR.out.keptT HKc.out
          rw [show (feedP (begin' false) (Sx.take a)).2 = ((feedP (begin' false) (Sx.take a)).2.1, E) from Prod.ext rfl HE.out] at h
          exact h) (HK.out.tr HKc.out).size (by rw [List.length_take]; omega))
        have EX := extract_ba Sx a b
        clear hcnt
        go_wp2_with fail
        refine FE.out.mono ?_
        rintro e w6 ⟨v, n, rfl, hfb⟩
        have hE' : E = 0 → (feedP (begin' false) (Sx.take a)).2.2 = 0 := fun h => HE.out.trans h
        have HFB := Lib.hid hfb
        have HT6 := Lib.hid (HT.out.keptT HKc.out)
        have HR6 := Lib.hid (HR.out.keptT HKc.out)
        have HKm := Lib.hid (HK.out.tr HKc.out)
        clear hfb FE
        go_upto_if 141 with fail
        go_cut [20, 21] (fun tv fv wx => ∃ (ys' : List (Msg × Value)) (fp' : List Nat) (E' : Int), fv = .int .i64 E' ∧ Hid ((feedP (begin' false) (Sx.take b)).2.2 = E') ∧ Hid (TD wm.heap.size tv ys' (feedP (begin' false) (Sx.take b)).1 fp' wx) ∧ Hid (RDR p wm.heap.size (feedP (begin' false) (Sx.take b)).2 fp' wx) ∧ Hid (Kept (fun _ => True) wm wx))
        case first =>
          by_cases he : E = 0
          · obtain ⟨hn, zs, fp', k1, k2, k3, k4, k5, k6, k7, k8⟩ := HFB.out.1 he
            have q1 : (E != 0) = false := by rw [he]; rfl
            have HE0a := Lib.hid (hE' he)
            obtain ⟨r1, r2, r3, r4⟩ := HR6.out.1 HE0a.out
            have HW6 := Lib.hid (HT6.out.fed r1 k8)
            have HNB : Hid (n = (feedP (begin' false) (Sx.take b)).2.2) := Lib.hid (by rw [feed_piece_ok Sx hab HE0a.out]; exact hn)
            obtain ⟨ta, tc, rfl⟩ := row_slice HW6.out.row
            obtain ⟨va, vc, rfl⟩ := row_slice k1.row
            have hbnd : ys.length + zs.length ≤ 1099511627776 := by
              have h1 := congrArg List.length HT6.out.2.1
              have h2 := congrArg List.length k2
              have h3 := feedP_len (Sx.take b) (begin' false)
              rw [feed_piece_ok Sx hab HE0a.out] at h3
              simp only [List.length_map, List.length_append, List.length_take] at h1 h2 h3
              omega
            have HK6m : Hid (Kept (fun _ => True) wm w6) := Lib.hid (HKm.out.trans k8 fun i hi _ hm => by have := r4 i hm; omega)
            have hwz := HK6m.out.size
            have HPK := Lib.hid (fun v' w7 => piece_ok (v' := v') (w7 := w7) hab HE0a.out HT6.out HR6.out HKm.out.size k1 k2 k3 k4 k5 k6 k7 k8)
            have HK1 := Lib.hid k1
            clear hn k1 k2 k3 k4 k5 k6 k7 k8 r1 r2 r3 r4 HFB
            go_wp2_with (at_builtin; refine wpList_pushAll 39 50 Tryz.underlying39 infoMsg rfl (by decide) rfl _ _ rfl wm.heap.size (.slice ta ys.length tc) ys.length (wtCells ys) (.slice va zs.length vc) zs.length (wtCells zs) (wtCells_len zs) (wt_ones HK1.out) rfl rfl HK1.out.rd HW6.out.row hbnd (by decide) hwz ?_; intro v' w7 g1 g2 g3; have HPZ := Lib.hid (HPK.out v' w7 g1 g2 g3); have HK7 : Hid (Kept (fun _ => True) wm w7) := Lib.hid (HK6m.out.trans (Kept.of_belowB g2) fun i hi _ => hi); clear g1 g2 g3)
            go_meet
            exact ⟨ys ++ zs, fp', n, rfl, Lib.hid HNB.out.symm, Lib.hid HPZ.out.1, Lib.hid HPZ.out.2, HK7⟩
          · obtain ⟨rfl, rfl, hk⟩ := HFB.out.2 he
            have q1 : (E != 0) = true := bne_iff_ne.2 he
            have he2 : (feedP (begin' false) (Sx.take a)).2.2 ≠ 0 := by rw [HE.out]; exact he
            have HPZ := Lib.hid (piece_bad hab he2 (HT6.out.keptT hk) (HR6.out.keptT hk))
            have HNB : Hid ((feedP (begin' false) (Sx.take b)).2.2 = E) := Lib.hid ((feed_piece_bad Sx hab he2).2.trans HE.out)
            have HK7 := Lib.hid (HKm.out.tr hk)
            clear he2 hk HFB
            go_wp2
            go_meet
            exact ⟨ys, fq, E, rfl, HNB, Lib.hid HPZ.out.1, Lib.hid HPZ.out.2, HK7⟩
        case rest =>
        obtain ⟨ys', fp', E', rfl, HE', HT', HR', HK'⟩ := hcut
        have NR2 := Lib.hid (NewReader_any wc)
        have EXb : (⟨Sx.toArray⟩ : ByteArray).extract 0 b = ⟨(Sx.take b).toArray⟩ := by rw [extract_ba]; simp
        clear HFB HT6 HR6 HKm HT HR HK hE' EX
        go_wp2_with fail
        refine NR2.out.mono ?_
        rintro e w8 ⟨pf, fpf, rfl, hr8, hf8, hk8⟩
        have FE2 := Lib.hid (Feed_any pf (begin' false) (Sx.take b) fpf w8 wm.heap.size (HE0.out.kept (HK'.out.tr hk8) fun _ _ => trivial) hr8 (RI.begin false) rfl (by simp only [begin', List.length_take]; omega) ⟨fun b' hb' => by have := hf8 b' hb'; have := HK'.out.size; omega, (HK'.out.tr hk8).size⟩)
        have HK8 := Lib.hid hk8
        have HF8 : Hid (∀ b ∈ fpf, wc.heap.size ≤ b) := Lib.hid hf8
        clear hr8 hf8 hk8 NR2
        go_wp2_with fail
        refine FE2.out.mono ?_
        rintro e w9 hq
        obtain ⟨v2, zs2, fp2, rfl, k1, k2, k3, -, -, k6, k7, k8⟩ := hq.wt
        rw [HE'.out] at k6 k7 ⊢
        have hk9 : Kept (fun _ => True) wc w9 := HK8.out.trans k8 fun i hi _ hm => by have := HF8.out i hm; omega
        have HK9 := Lib.hid hk9
        have HT9 := Lib.hid (HT'.out.keptT hk9)
        have HR9 := Lib.hid (HR'.out.keptT hk9)
        have HEQ : Hid (zs2.map (·.1) = ys'.map (·.1)) := Lib.hid (k2.trans HT'.out.2.1.symm)
        have hln : ∀ zs : List (Msg × Value), zs.map (·.1) = (feedP (begin' false) (Sx.take b)).1.map msgOf → zs.length ≤ 1099511627776 := fun zs h => by
          have h1 := congrArg List.length h
          have h3 := feedP_len (Sx.take b) (begin' false)
          simp only [List.length_map, List.length_take] at h1 h3
          omega
        have ME := Lib.hid (messages_any (zs2.map (·.1)) (ys'.map (·.1)) _ _ w9 k1.rowm HT9.out.1.rowm ⟨by rw [List.length_map]; exact hln _ k2, fun x hx => by obtain ⟨y, hy, rfl⟩ := List.mem_map.1 hx; have := k3 y hy; omega⟩ ⟨by rw [List.length_map]; exact hln _ HT'.out.2.1, fun x hx => by obtain ⟨y, hy, rfl⟩ := List.mem_map.1 hx; have := HT'.out.2.2.1 y hy; omega⟩)
        have hrd : RDR p wm.heap.size ((feedP (begin' false) (Sx.take b)).2.1, E') fp' w9 := by
          have h := HR9.out
          rw [show (feedP (begin' false) (Sx.take b)).2 = ((feedP (begin' false) (Sx.take b)).2.1, E') from Prod.ext rfl HE'.out] at h
          exact h
        have WT1 := Lib.hid (fun W (hk : Kept (fun _ => True) w9 W) => wait_both p E' (feedP (begin' false) (Sx.take b)).2.1 fp' W (fun h => (hrd.1 h).1.kept hk) fun h => (hrd.2 h).kept hk)
        have WT2 := Lib.hid (fun W (hk : Kept (fun _ => True) w9 W) => wait_both pf E' (feedP (begin' false) (Sx.take b)).2.1 fp2 W (fun h => (k6 h).1.kept hk) fun h => (k7 h).kept hk)
        obtain ⟨wn, hwn⟩ : ∃ wn, (if E' = 0 then ((feedP (begin' false) (Sx.take b)).2.1.cnt : Int) else 0) = wn := ⟨_, rfl⟩
        rw [hwn] at WT1 WT2
        clear k1 k2 k3 k6 k7 k8 hk9 hln hrd hwn hq
        go_wp2_with fail
        refine ME.out.mono ?_
        rintro e w10 ⟨⟨q, rfl, hq⟩, hk10⟩
        obtain rfl : q = true := hq.2 HEQ.out
        have HK10 := Lib.hid hk10
        clear hq hk10 ME FE2
        by_cases hbw : b ≤ C.length
        · obtain rfl : E' = 0 := HE'.out.symm.trans (HCF.out b hbw)
          go_wp2_with fail
          refine (WT1.out _ HK10.out).mono ?_
          rintro e w11 ⟨rfl, hk11⟩
          have HK11 := Lib.hid (HK10.out.tr hk11)
          clear hk11
          go_wp2_with fail
          refine (WT2.out _ HK11.out).mono ?_
          rintro e w12 ⟨rfl, hk12⟩
          have HK12 := Lib.hid (HK11.out.tr hk12)
          clear hk12
          go_wp2
          go_roundg (cl + 1 - (j + 1))
          case rel => exact ⟨j + 1, b, _, ys', fp', by go_num, rfl, by omega, rfl, hb, rfl, HE', HB, Lib.hid (HT9.out.keptT HK12.out), Lib.hid (HR9.out.keptT HK12.out), Lib.hid ((HK'.out.tr HK9.out).tr HK12.out)⟩
          case measure => omega
        · go_wp2_with fail
          refine (WT1.out _ HK10.out).mono ?_
          rintro e w11 ⟨rfl, hk11⟩
          have HK11 := Lib.hid (HK10.out.tr hk11)
          clear hk11
          go_wp2_with fail
          refine (WT2.out _ HK11.out).mono ?_
          rintro e w12 ⟨rfl, hk12⟩
          have HK12 := Lib.hid (HK11.out.tr hk12)
          clear hk12
          go_wp2
          go_roundg (cl + 1 - (j + 1))
          case rel => exact ⟨j + 1, b, _, ys', fp', by go_num, rfl, by omega, rfl, hb, rfl, HE', HB, Lib.hid (HT9.out.keptT HK12.out), Lib.hid (HR9.out.keptT HK12.out), Lib.hid ((HK'.out.tr HK9.out).tr HK12.out)⟩
          case measure => omega
      · obtain rfl : j = cl + 1 := by omega
        obtain rfl : a = Sx.length := HA.out rfl
        have HZ : Hid (Wt wm.heap.size u20 ys wr ∧ ys.map (·.1) = (feedP (begin' false) Sx).1.map msgOf ∧ ∀ y ∈ ys, y.1.hs.length ≤ 32) := Lib.hid (by
          have h := HT.out
          rw [List.take_length] at h
          exact ⟨h.1, h.2.1, h.2.2.1⟩)
        clear hlt
        go_wp2
        go_meet
        exact ⟨ys, HZ, HK⟩
  case rest =>
  obtain ⟨ys, HY, HK6⟩ := hcut
  obtain ⟨ta, tc, rfl⟩ := row_slice HY.out.1.row
  obtain ⟨more, hmore⟩ := HCI.out
  have HYM : Hid (ys.map (·.1) = xs.map (·.1) ++ more) := Lib.hid (HY.out.2.1.trans hmore)
  have hln : xs.length ≤ ys.length := by
    have h := congrArg List.length HYM.out
    simp only [List.length_map, List.length_append] at h
    omega
  have hyl : ys.length ≤ tc := by
    have hrow := HY.out.1.row
    rcases hrow.2 with ⟨e, h0⟩ | ⟨g, cap, cur, e, _, _, hnc, _⟩
    · obtain ⟨-, h1, h2⟩ : ta = none ∧ ys.length = 0 ∧ tc = 0 := by simpa using e
      omega
    · obtain ⟨-, h2⟩ : ta = some ⟨g, 0, none⟩ ∧ tc = cap := by simpa using e
      omega
  have HW := Lib.hid (HX.out.1.keptT HK6.out)
  have HRM : Hid (RowM wc (.slice ta xs.length tc) (xs.map (·.1))) := Lib.hid (by
    have h := HY.out.1.rowm.first hln
    rw [HYM.out, List.take_left' (by rw [List.length_map])] at h
    exact h)
  have h32 : ∀ x ∈ xs.map (·.1), x.hs.length ≤ 1099511627776 := fun x hx => by
    obtain ⟨y, hy, rfl⟩ := List.mem_map.1 hx
    have := restOk_len (HX.out.2.1 y hy).1
    omega
  have hxl : xs.length ≤ 1099511627776 := by have := HX.out.2.2; omega
  have ME := Lib.hid (messages_any (xs.map (·.1)) (xs.map (·.1)) _ _ wc HRM.out HW.out.rowm ⟨by rw [List.length_map]; exact hxl, h32⟩ ⟨by rw [List.length_map]; exact hxl, h32⟩)
  have HKZ := Lib.hid ((HK3.out.tr HK4.out).tr HK6.out)
  clear hmore h32 HCI
  go_wp2_with fail
  refine ME.out.mono ?_
  rintro e w7 ⟨⟨q, rfl, hq⟩, hk7⟩
  obtain rfl : q = true := hq.2 (by first | rfl | trivial)
  have HKY := Lib.hid (HKZ.out.tr hk7)
  clear hq hk7
  go_wp2
  go_ret
  exact ⟨rfl, HKY.out⟩
end Go.Proofs.YtaomhkgdbobpkaaGreatDoor
