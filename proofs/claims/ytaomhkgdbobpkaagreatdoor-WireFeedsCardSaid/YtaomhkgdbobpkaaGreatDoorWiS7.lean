/- Walks of the reference of layer 5, its reader, seventh part: a reader made, fed, and what it waits for. -/
import Derived.Test.YtaomhkgdbobpkaaGreatDoorWiS5
import Derived.Test.YtaomhkgdbobpkaaGreatDoorWiW18
import Derived.Test.YtaomhkgdbobpkaaGreatDoorWiPB
namespace Go.Proofs.YtaomhkgdbobpkaaGreatDoor
open Go.RowKit Wi

/-- A reader of the reference at p. -/
def RsAt (p : Nat) (x : List UInt8) (o : Bool) (w : World) : Prop := w.heap[p]? = some (.cells #[S x, .bool o] 78 (0, 0))
theorem RsAt.facts {p : Nat} {x : List UInt8} {o : Bool} {w : World} (h : RsAt p x o w) : w.cell? ⟨p, 0, none⟩ = some (S x) ∧ w.cell? ⟨p, 1, none⟩ = some (.bool o) ∧ ∀ o, w.frozen? ⟨p, o, none⟩ = false := by
  unfold RsAt at h
  refine ⟨?_, ?_, fun o => frozen_row h o⟩ <;> rw [cell_of_row w p _ _ _ (0, 0) h] <;> rfl
theorem RsAt.lt {p : Nat} {x : List UInt8} {o : Bool} {w : World} (h : RsAt p x o w) : p < w.heap.size := (Array.getElem?_eq_some_iff.1 h).1
theorem RsAt.kept {p : Nat} {x : List UInt8} {o : Bool} {w w' : World} {ok : Nat → Prop} (h : RsAt p x o w) (hk : Kept ok w w') (ho : ok p) : RsAt p x o w' := (hk.block p h.lt ho).trans h
theorem RsAt.set0 {p : Nat} {x : List UInt8} {o : Bool} {w : World} (h : RsAt p x o w) (y : List UInt8) : RsAt p y o (w.setCell ⟨p, 0, none⟩ (S y)) := (setCell_heap (o := 0) h _).trans rfl
theorem RsAt.set1 {p : Nat} {x : List UInt8} {o : Bool} {w : World} (h : RsAt p x o w) (y : Bool) : RsAt p x y (w.setCell ⟨p, 1, none⟩ (.bool y)) := (setCell_heap (o := 1) h _).trans rfl
theorem kept_set (w : World) (p o : Nat) (u : Value) : Kept (· ≠ p) w (w.setCell ⟨p, o, none⟩ u) := (Kept.refl _ w).setCell (.inr (by simp)) _
theorem Outs.keptP {B p : Nat} {v : Value} {l : List (R × Value)} {x : List UInt8} {o : Bool} {w w' : World} (h : Outs B v l [] w) (hp : RsAt p x o w) (hk : Kept (· ≠ p) w w') : Outs B v l [] w' := by
  refine ⟨ownsRow_kept h.row hk fun b hb' => ?_, fun x hx => ⟨ownsRow_kept (h.hs x hx).1 hk fun b hb' => ?_, (h.hs x hx).2⟩, h.nodup, h.apart⟩
  · obtain ⟨x, hc⟩ := own_cells h.row hb'; exact ty_ne hc hp (by decide)
  · obtain ⟨x, hc⟩ := own_cells (h.hs _ hx).1 hb'; exact ty_ne hc hp (by decide)
/-- A message more, whose headers lie in blocks that are new. -/
theorem Outs.pushF {B H : Nat} {v v' hv : Value} {l : List (R × Value)} {r : R} {w w1 : World} (h : Outs B v l [] w) (ho : w.ownsRow H 61 2 hv r.hs.length (fieldCells r.hs)) (hH : ∀ x ∈ l, ∀ b, x.2.ownBlock = some b → b < H) (h32 : r.hs.length ≤ 32)
    (k1 : w1.ownsRow B 50 4 v' (l.length + 1) (outCells l ++ msgCells (r, hv))) (k2 : Below B w w1) (k3 : Moved v v' w w1) : Outs B v' (l ++ [(r, hv)]) [] w1 := by
  have hk : Kept (fun b => v.ownBlock ≠ some b) w w1 := ⟨k2.os, k2.tape, k2.output, k3.kept.1, fun k hk ho => k3.kept.2 k hk fun e => ho e.symm⟩
  have hfr : ∀ (u : Value) C n xs, w.ownsRow C 61 2 u n xs → ∀ b, u.ownBlock = some b → v.ownBlock ≠ some b := fun u C n xs hu b hb e => by
    obtain ⟨x, h1⟩ := own_cells hu hb
    obtain ⟨y, h2⟩ := own_cells h.row e
    exact ty_ne h1 h2 (by decide) rfl
  refine ⟨?_, fun x hx => ?_, ?_, by simp⟩
  · rw [outCells_snoc, List.length_append]; exact k1
  · rcases List.mem_append.1 hx with hx | hx
    · exact ⟨ownsRow_kept (h.hs x hx).1 hk (hfr _ _ _ _ (h.hs x hx).1), (h.hs x hx).2⟩
    · obtain rfl : x = (r, hv) := by simpa using hx
      exact ⟨ownsRow_base (ownsRow_kept ho hk (hfr _ _ _ _ ho)) (Nat.zero_le _), h32⟩
  · rw [List.filterMap_append]
    refine List.nodup_append.2 ⟨h.nodup, ?_, ?_⟩
    · simp only [List.filterMap_cons, List.filterMap_nil]
      split <;> simp
    · intro a ha b hb e
      subst e
      obtain ⟨x, hx, hxa⟩ := List.mem_filterMap.1 ha
      obtain ⟨y, hy, hya⟩ := List.mem_filterMap.1 hb
      obtain rfl : y = (r, hv) := by simpa using hy
      have h1 := hH x hx a hxa
      have h2 := own_base ho hya
      omega
set_option maxHeartbeats 2000000 in
theorem refNewReader_any (w : World) : Calls Tryz.prog 11 #[] w fun e w' => e = .returned (.pointer (some ⟨w.heap.size, 0, none⟩)) ∧ RsAt w.heap.size [] false w' ∧ Kept (fun _ => True) w w' := by
  have HZ : Hid (RsAt w.heap.size [] false (w.alloc (.cells #[S [], .bool false] 78)) ∧ Kept (fun _ => True) w (w.alloc (.cells #[S [], .bool false] 78))) := Lib.hid ⟨heap_alloc_new w _, (Kept.refl _ w).alloc _⟩
  go_enter Tryz.func11, Tryz.ntmps11
  go_wp2
  go_ret
  exact ⟨rfl, HZ.out⟩
set_option maxHeartbeats 2000000 in
theorem refWaiting_any (p : Nat) (x : List UInt8) (o : Bool) (w : World) (h : RsAt p x o w) : Calls Tryz.prog 18 #[.pointer (some ⟨p, 0, none⟩)] w fun e w' => e = .returned (.int .i64 x.length) ∧ Kept (fun _ => True) w w' := by
  have hsz : (⟨x.toArray⟩ : ByteArray).size = x.length := size_mk x
  obtain ⟨c0, -, -⟩ := h.facts
  clear h
  go_enter Tryz.func18, Tryz.ntmps18
  go_wp2
  go_ret
  exact ⟨rfl, Kept.refl _ _⟩
set_option maxHeartbeats 2000000 in
theorem refFeed_over (p : Nat) (x s : List UInt8) (w : World) (h : RsAt p x true w) : Calls Tryz.prog 14 #[.pointer (some ⟨p, 0, none⟩), S s] w fun e w' => e = .returned (.tuple #[.slice none 0 0, .int .i64 54]) ∧ Kept (fun _ => True) w w' := by
  obtain ⟨-, c1, -⟩ := h.facts
  clear h
  go_enter Tryz.func14, Tryz.ntmps14
  go_wp2
  refine bodyPost_ret (v := .tuple #[.slice none 0 0, .int .i64 54]) (by simp [results, Tryz.results14, go_sem]) rfl ?_
  exact ⟨rfl, Kept.refl _ _⟩
/-- What Feed leaves, of a reader of the reference, where t is all that it has then. -/
def RfQ (p : Nat) (t : List UInt8) (w : World) (e : Ending) (w' : World) : Prop :=
  ∃ (v : Value) (l : List (R × Value)), e = .returned (.tuple #[v, .int .i64 (feedP (begin' false) t).2.2]) ∧ l.map (·.1) = (feedP (begin' false) t).1 ∧ Outs w.heap.size v l [] w' ∧
    (∀ x ∈ l, ∀ b, x.2.ownBlock = some b → w.heap.size ≤ b) ∧ ((feedP (begin' false) t).2.2 = 0 → ∃ y, RsAt p y false w' ∧ y.length ≤ t.length ∧ feedP (begin' false) y = ([], (feedP (begin' false) t).2.1, 0) ∧ (feedP (begin' false) t).2.1.cnt = y.length) ∧ ((feedP (begin' false) t).2.2 ≠ 0 → RsAt p [] true w') ∧ Kept (· ≠ p) w w'
set_option maxHeartbeats 8000000 in
set_option maxRecDepth 100000 in
theorem refFeed_any (p : Nat) (x s : List UInt8) (w : World) (h : RsAt p x false w) (hl : x.length + s.length ≤ 1099511627776) :
    Calls Tryz.prog 14 #[.pointer (some ⟨p, 0, none⟩), S s] w (RfQ p (x ++ s) w) := by
  have hsz : (⟨s.toArray⟩ : ByteArray).size = s.length := size_mk s
  have hsx : (⟨x.toArray⟩ : ByteArray).size = x.length := size_mk x
  obtain ⟨c0, c1, c9⟩ := h.facts
  have f0 := c9 0
  obtain ⟨t, ht⟩ : ∃ t, x ++ s = t := ⟨_, rfl⟩
  have hcat : ∀ W, (Op.stringOp .add ⟨x.toArray⟩ ⟨s.toArray⟩).run Tryz.prog W = .ok (.string ⟨t.toArray⟩) W := fun W => run_cat x s t ht (by omega) W
  rw [ht]
  have htl : t.length ≤ 1099511627776 := by rw [← ht, List.length_append]; exact hl
  obtain ⟨W0, hW0⟩ : ∃ W0, w.setCell ⟨p, 0, none⟩ (S t) = W0 := ⟨_, rfl⟩
  have HR0 : Hid (RsAt p t false W0) := Lib.hid (by rw [← hW0]; exact h.set0 t)
  have HK0 : Hid (Kept (· ≠ p) w W0) := Lib.hid (by rw [← hW0]; exact kept_set _ _ _ _)
  clear h c9 ht hl
  go_enter Tryz.func14, Tryz.ntmps14
  go_wp2_with fail
  go_loopg [6] t.length (fun q ov wr => ∃ (l : List (R × Value)) (y : List UInt8), q = y.length ∧ y.length ≤ t.length ∧ l.length + y.length ≤ t.length ∧ Hid (feedP (begin' false) t = (l.map (·.1) ++ (feedP (begin' false) y).1, (feedP (begin' false) y).2)) ∧ Hid (RsAt p y false wr) ∧ Hid (Outs w.heap.size ov l [] wr) ∧ Hid (∀ x ∈ l, ∀ b, x.2.ownBlock = some b → w.heap.size ≤ b ∧ b < wr.heap.size) ∧ Hid (Kept (· ≠ p) w wr))
  case atStart => exact ⟨[], t, rfl, Nat.le_refl _, by simp, Lib.hid (by simp), HR0, Lib.hid (Outs.nil _ _ _), Lib.hid (by simp), HK0⟩
  case round =>
    clear HR0 HK0 c0 c1 f0 hW0 hcat
    obtain ⟨l, y, rfl, hyt, hly, HFD, HR, HO, HM, HK⟩ := hrel
    obtain ⟨r0, r1, r9⟩ := HR.out.facts
    have RD := Lib.hid (read_any y false wr (by omega))
    clear r9
    go_wp2_with fail
    refine RD.out.mono ?_
    rintro e w1 ⟨m, pa, st, hv, hs, body, n, wh, E, rfl, ho, hk, hg⟩
    obtain ⟨oa, oc, rfl⟩ := row_slice ho
    obtain ⟨W1, hW1⟩ : ∃ W1, w1.alloc (.cells #[S m, S pa, .int .i64 st, .slice oa hs.length oc, S body, .int .i64 (n : Nat), .bool wh, .int .i64 E] 85) = W1 := ⟨_, rfl⟩
    have hg1 : GotC w1.heap.size m pa st (.slice oa hs.length oc) body n wh E W1 := by rw [← hW1]; exact heap_alloc_new w1 _
    have hk1 : Kept (fun _ => True) w1 W1 := by rw [← hW1]; exact (Kept.refl _ w1).alloc _
    have hkw := hk.tr hk1
    have HR1 := Lib.hid (HR.out.kept hkw trivial)
    have HO1 := Lib.hid (HO.out.keptT hkw)
    have HK1 : Hid (Kept (· ≠ p) w W1) := Lib.hid (HK.out.trans hkw fun _ _ _ => trivial)
    have HOW := Lib.hid (ownsRow_kept ho hk1 fun _ _ => trivial)
    have HG1 := Lib.hid hg1
    have hz1 : wr.heap.size ≤ w1.heap.size := hk.size
    have HKW : Hid (w.heap.size ≤ wr.heap.size) := Lib.hid HK.out.size
    have hz2 : w1.heap.size < W1.heap.size := hg1.lt
    have HM1 : Hid (∀ x ∈ l, ∀ b, x.2.ownBlock = some b → w.heap.size ≤ b ∧ b < wr.heap.size) := HM
    obtain ⟨g0, g1, g2, g3, g4, g5, g6, g7⟩ := hg1.cells
    have HNE : Hid (w1.heap.size ≠ p) := Lib.hid (ty_ne hg1 HR1.out (by decide))
    clear ho hk RD hg1 hk1 hkw HR HO HK r0 r1 HM
    go_upto_if 28 with fail
    clear hW1
    obtain ⟨r0, r1, r9⟩ := HR1.out.facts
    have f0 := r9 0
    have f1 := r9 1
    clear r9
    unfold GotIs at hg
    cases hX : ansP (begin' false) y with
    | inr z =>
      rw [hX] at hg
      obtain ⟨rfl, hE⟩ := hg
      obtain ⟨i1, i2, i3, i4⟩ := feed_inr y _ z hX
      by_cases h56 : z = 56
      · subst h56
        obtain rfl : E = 0 := hE
        obtain ⟨j1, j2⟩ := i3 rfl
        have HFE : Hid (feedP (begin' false) t = (l.map (·.1), (feedP (begin' false) y).2.1, 0)) := Lib.hid (by
          rw [HFD.out, i2, List.append_nil, ← j1])
        have HZ : Hid (∀ ov, Outs w.heap.size ov l [] W1 → RfQ p t w (.returned (.tuple #[ov, .int .i64 0])) W1) := Lib.hid fun ov ho => by
          refine ⟨ov, l, by rw [HFE.out], by rw [HFE.out], ho, fun x hx b hb => (HM1.out x hx b hb).1, fun _ => ⟨y, HR1.out, by omega, ?_, ?_⟩, fun h => absurd (by rw [HFE.out]) h, HK1.out⟩
          · rw [HFE.out]
            exact Prod.ext i2 (Prod.ext rfl j1)
          · rw [HFE.out]
            show (feedP (begin' false) y).2.1.cnt = _
            rw [j2]
            simp [begin']
        have HZ2 := Lib.hid (HZ.out _ HO1.out)
        obtain ⟨va, vc, hov⟩ := row_slice HO1.out.row
        subst hov
        clear hX i1 i2 i3 i4 j1 j2
        go_wp2
        refine bodyPost_ret (v := .tuple #[.slice va l.length vc, .int .i64 0]) (by simp [results, Tryz.results14, go_sem]) rfl ?_
        exact HZ2.out
      · obtain rfl : E = z := hE.trans (if_neg h56)
        have hz := i4 h56
        have HFE : Hid (feedP (begin' false) t = (l.map (·.1), (feedP (begin' false) y).2.1, E)) := Lib.hid (by
          rw [HFD.out, i2, List.append_nil, ← hz])
        have q1 : (E != 0) = true := bne_iff_ne.2 i1
        obtain ⟨W2, hW2⟩ : ∃ W2, (W1.setCell ⟨p, 1, none⟩ (.bool true)).setCell ⟨p, 0, none⟩ (S []) = W2 := ⟨_, rfl⟩
        have hp2 : RsAt p [] true W2 := by rw [← hW2]; exact (HR1.out.set1 true).set0 []
        have hk2 : Kept (· ≠ p) W1 W2 := by rw [← hW2]; exact (kept_set _ _ _ _).tr (kept_set _ _ _ _)
        have HO2 := Lib.hid (HO1.out.keptP HR1.out hk2)
        have HZ2 : Hid (RfQ p t w (.returned (.tuple #[_, .int .i64 E])) W2.drew) := Lib.hid ⟨_, l, by rw [HFE.out], by rw [HFE.out], HO2.out.keptT (Kept.refl (fun _ => True) W2).drew, fun x hx b hb => (HM1.out x hx b hb).1, fun h => absurd (by rw [HFE.out] at h; exact h) i1, fun _ => hp2, (HK1.out.tr hk2).drew⟩
        obtain ⟨va, vc, hov⟩ := row_slice HO1.out.row
        subst hov
        have k7 : W2.cell? ⟨w1.heap.size, 7, none⟩ = some (.int .i64 E) := (hk2.cell HG1.out.lt HNE.out).trans g7
        clear hX i1 i2 i3 i4 hE h56 hz hp2 hk2
        go_wp2
        go_region
        go_wp2
        refine bodyPost_ret (v := .tuple #[.slice va l.length vc, .int .i64 E]) (by simp [results, Tryz.results14, go_sem]) rfl ?_
        exact HZ2.out
    | inl xr =>
      obtain ⟨r, rest⟩ := xr
      rw [hX] at hg
      obtain ⟨rfl, rfl, rfl, rfl, hn, hrest, -, hmp⟩ := hg
      obtain ⟨i1, i2⟩ := feed_inl y _ r rest hX
      have hrw := (ans_whole_inv y _ r rest (RI.begin false) hX).1
      subst hrest
      have HFE : Hid (feedP (begin' false) t = ((l ++ [(r, Value.slice oa r.hs.length oc)]).map (·.1) ++ (feedP (begin' false) (y.drop n)).1, (feedP (begin' false) (y.drop n)).2)) := Lib.hid (by rw [HFD.out, i2]; simp)
      have HMC : Hid (msgCells (r, Value.slice oa r.hs.length oc) = [S m, S pa, .slice oa r.hs.length oc, S r.body]) := Lib.hid (by unfold msgCells; rw [hmp rfl]; rfl)
      have h32 := hrw.hs
      obtain ⟨body, hbd⟩ : ∃ body, r.body = body := ⟨_, rfl⟩
      rw [hbd] at HMC g4 HG1
      obtain ⟨W2, hW2⟩ : ∃ W2, W1.setCell ⟨p, 0, none⟩ (S (y.drop n)) = W2 := ⟨_, rfl⟩
      have hp2 : RsAt p (y.drop n) false W2 := by rw [← hW2]; exact HR1.out.set0 _
      have hk2 : Kept (· ≠ p) W1 W2 := by rw [← hW2]; exact kept_set _ _ _ _
      have HO2 := Lib.hid (HO1.out.keptP HR1.out hk2)
      have HG2 := Lib.hid (HG1.out.kept hk2 HNE.out)
      have HOW2 := Lib.hid (ownsRow_kept HOW.out hk2 fun b hb => by
        obtain ⟨cs, hc⟩ := own_cells HOW.out hb
        exact ty_ne hc HR1.out (by decide))
      have HR2 := Lib.hid hp2
      have HK2 := Lib.hid (HK1.out.tr hk2)
      have hyz : (⟨y.toArray⟩ : ByteArray).size = y.length := size_mk y
      have hi1 : (0 : Int) ≤ (n : Int) := by omega
      have hi2 : (n : Int) ≤ (y.length : Int) := by omega
      have EX : (⟨y.toArray⟩ : ByteArray).extract n y.length = ⟨(y.drop n).toArray⟩ := by rw [extract_ba, List.take_of_length_le (by rw [List.length_drop]; omega)]
      obtain ⟨k0, k1, k2, k3, k4, k5, k6, k7⟩ := HG2.out.cells
      have hwz : w.heap.size ≤ W2.heap.size := HK2.out.size
      have hn0 : (y.drop n).length < y.length := i1
      obtain ⟨va, vc, hov⟩ := row_slice HO1.out.row
      subst hov
      clear hX i1 i2 hmp hrw hbd hp2 hk2 HR1 HO1 HG1 HOW HK1
      go_wp2_with fail
      have HO2d := Lib.hid (HO2.out.keptT (Kept.refl (fun _ => True) W2).drew)
      have hly1 : l.length + 1 ≤ t.length := by omega
      go_region
      go_wp2_with (at_builtin; refine wpList_pushOne' 39 50 Tryz.underlying39 infoMsg rfl (by decide) rfl _ _ rfl w.heap.size (.slice va l.length vc) l.length (outCells l) [S m, S pa, .slice oa r.hs.length oc, S body] W2.drew _ rfl rfl rfl (by intro u hu; simp at hu; rcases hu with rfl | rfl | rfl | rfl <;> rfl) 1 _ rfl rfl rfl HO2d.out.row (by omega) (by decide) hwz ?_)
      intro v' w3 k1' k2' k3'
      have hkd : Kept (fun _ => True) W2 W2.drew := (Kept.refl _ W2).drew
      have HPU := Lib.hid (HO2d.out.pushF (H := wr.heap.size) (r := r) (hv := .slice oa r.hs.length oc) (ownsRow_kept HOW2.out hkd fun _ _ => trivial) (fun x hx b hb => (HM1.out x hx b hb).2) h32 (by rw [HMC.out]; exact k1') k2' k3')
      have HKP : Hid (Kept (fun b => b < w.heap.size) W2.drew w3) := Lib.hid ⟨k2'.os, k2'.tape, k2'.output, k3'.kept.1, fun k _ ho => k2'.block k ho⟩
      have HR3 : Hid (RsAt p (y.drop n) false w3) := Lib.hid ((k3'.kept.2 p HR2.out.lt (fun e => by
        obtain ⟨q, h2⟩ := own_cells HO2d.out.row e.symm
        exact ty_ne HR2.out h2 (by decide) rfl)).trans HR2.out)
      have hz3 : W2.heap.size ≤ w3.heap.size := HKP.out.size
      have hz12 : W1.heap.size ≤ W2.heap.size := by rw [← hW2]; simp [World.setCell]
      have HM3 : Hid (∀ x ∈ l ++ [(r, Value.slice oa r.hs.length oc)], ∀ b, x.2.ownBlock = some b → w.heap.size ≤ b ∧ b < w3.heap.size) := Lib.hid fun x hx b hb => by
        rcases List.mem_append.1 hx with hx | hx
        · have := HM1.out x hx b hb; omega
        · obtain rfl : x = (r, .slice oa r.hs.length oc) := by simpa using hx
          have h1 := own_base HOW2.out hb
          have h2 := (HOW2.out.lt b hb).2
          have := HKW.out
          omega
      have HK3 : Hid (Kept (· ≠ p) w w3) := Lib.hid ((HK2.out.drew).trans HKP.out fun b hb _ => hb)
      obtain ⟨va', vc', rfl⟩ := row_slice k1'
      have HLL : Hid ((l ++ [(r, Value.slice oa r.hs.length oc)]).length + (y.drop n).length ≤ t.length) := Lib.hid (by rw [List.length_append]; simp only [List.length_cons, List.length_nil]; omega)
      clear k1' k2' k3' hkd HO2d HO2 HG2 HOW2 HR2 HK2 hW2
      go_wp2
      go_roundg (y.drop n).length
      case rel => exact ⟨l ++ [(r, .slice oa r.hs.length oc)], y.drop n, rfl, by omega, HLL.out, HFE, HR3, HPU, HM3, HK3⟩
      case measure => exact hn0
end Go.Proofs.YtaomhkgdbobpkaaGreatDoor
