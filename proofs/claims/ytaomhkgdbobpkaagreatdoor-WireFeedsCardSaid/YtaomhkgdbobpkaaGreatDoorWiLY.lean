/- Walks of the law of layer 5: the first calls, whose answers are fixed; small laws. -/
import Derived.Test.YtaomhkgdbobpkaaGreatDoorWiPB
import Derived.Test.YtaomhkgdbobpkaaGreatDoorWiW17
import Derived.Test.YtaomhkgdbobpkaaGreatDoorWiL8
namespace Go.Proofs.YtaomhkgdbobpkaaGreatDoor
open Wi
theorem printM_ok {x : Msg} (h : restOk x.hs x.body = true) (hm : isMethodP x.m = true) (hp : isPathP x.p = true) : (printM x).2 = 0 ∧ (printM x).1.length ≤ 41000 := by
  have h1 := method_len hm
  have h2 := path_len hp
  have h3 := rest_len h
  unfold printM
  rw [h, hm, hp]
  simp only [Bool.and_self, if_true, List.length_append, List.length_cons, List.length_nil, versionL, true_and]
  omega
theorem msg_pieces {x : Msg} (h : restOk x.hs x.body = true) (hm : isMethodP x.m = true) (hp : isPathP x.p = true) :
    ∃ w : R, w.first = [x.m, x.p] ∧ w.hs = x.hs ∧ w.body = x.body ∧ 1 ≤ (printM x).1.length ∧ (∀ more, feedP (begin' false) ((printM x).1 ++ more) = (w :: (feedP (begin' false) more).1, (feedP (begin' false) more).2)) ∧
      ∀ k, k < (printM x).1.length → ∃ rk, feedP (begin' false) ((printM x).1.take k) = ([], rk, 0) ∧ rk.cnt = k ∧ feedP rk ((printM x).1.drop k) = ([w], begin' false, 0) := by
  obtain ⟨pre, b, rl, w, e, h1, h2, h3, h4, h5⟩ := msg_read h hm hp
  refine ⟨w, h3, h4, h5, by rw [e]; simp, fun more => by rw [e]; exact feed_whole h1 h2 more, fun k hk => ?_⟩
  rw [e] at hk ⊢
  have hk2 : k ≤ pre.length := by simp at hk; omega
  obtain ⟨rk, r1, r2⟩ := run_take pre _ rl k h1 hk2
  have ht : (pre ++ [b]).take k = pre.take k := List.take_append_of_le_length hk2
  have hf := feed_run_nil r1
  refine ⟨rk, by rw [ht]; exact hf, by rw [r2]; simp [begin'], ?_⟩
  have hw := feed_whole h1 h2 []
  rw [List.append_nil] at hw
  have ha := feedP_append ((pre ++ [b]).take k) (begin' false) ((pre ++ [b]).drop k) (by rw [ht, hf])
  rw [List.take_append_drop, hw, ht, hf] at ha
  simp only [List.nil_append] at ha
  exact ha.symm
theorem printA_ok {st : Nat} {hs : List Fl} {body : List UInt8} (h : restOk hs body = true) (h1 : 100 ≤ st) (h2 : st ≤ 599) : (printA ⟨st, hs, body⟩).2 = 0 ∧ (printA ⟨st, hs, body⟩).1.length ≤ 41000 := by
  have h3 := rest_len h
  have h4 := reason_len (st : Int)
  have h5 := itoa_len (st : Int) (by omega) (by omega)
  unfold printA
  rw [if_pos (by simp [h]; omega)]
  refine ⟨rfl, ?_⟩
  simp only [List.length_append, List.length_cons, List.length_nil, versionL]
  omega
theorem ans_pieces {st : Nat} {hs : List Fl} {body : List UInt8} (h : restOk hs body = true) (h1 : 100 ≤ st) (h2 : st ≤ 599) :
    1 ≤ (printA ⟨st, hs, body⟩).1.length ∧ (∀ more, parseA ((printA ⟨st, hs, body⟩).1 ++ more) = (⟨st, hs, body⟩, more, 0)) ∧ ∀ k, k < (printA ⟨st, hs, body⟩).1.length → parseA ((printA ⟨st, hs, body⟩).1.take k) = (⟨0, [], []⟩, [], 56) := by
  obtain ⟨pre, b, rl, w, e, k1, k2, k3, k4, k5⟩ := ans_read h h1 h2
  rw [e]
  refine ⟨by simp, fun more => ?_, fun k hk => ?_⟩
  · unfold parseA
    rw [ans_whole k1 k2 more]
    simp only [ofAns, k3, k4, k5, List.getD_cons_zero, decP_itoa]
  · have hk2 : k ≤ pre.length := by simp at hk; omega
    obtain ⟨rk, r1, r2⟩ := run_take pre _ rl k k1 hk2
    rw [List.take_append_of_le_length hk2]
    unfold parseA
    rw [ans_run_nil r1]
    rfl
/-- A reading of messages stays one. -/
theorem feedP_inv : ∀ (s : List UInt8) (r : R), RI r → r.ans = false → (feedP r s).2.2 = 0 → RI (feedP r s).2.1 ∧ (feedP r s).2.1.ans = false
  | [], r, h, ha, _ => ⟨h, ha⟩
  | c :: s, r, h, ha, he => by
    rw [feedP_cons] at he ⊢
    split
    · rename_i h1; rw [if_pos h1] at he; exact absurd he h1
    · rename_i h1
      rw [if_neg h1] at he
      obtain ⟨k1, k2, k3⟩ := takesP_inv h (by simpa using h1)
      split
      · rename_i h2
        rw [if_pos h2] at he
        exact feedP_inv s _ (RI.begin false) rfl he
      · rename_i h2
        rw [if_neg h2] at he
        exact feedP_inv s _ (k1 (by simpa using h2)) (by rw [k3]; exact ha) he
theorem feedP_cnt : ∀ (s : List UInt8) (r : R), (feedP r s).2.1.cnt ≤ r.cnt + s.length
  | [], r => by simp [feedP]
  | c :: s, r => by
    rw [feedP_cons]
    have h1 := takesP_cnt r c
    split
    · simp only [h1, List.length_cons]; omega
    · split
      · have := feedP_cnt s (begin' false)
        simp only [begin'] at this
        simp only [List.length_cons, begin']
        omega
      · have := feedP_cnt s (takesP r c).1
        simp only [List.length_cons]
        omega
end Go.Proofs.YtaomhkgdbobpkaaGreatDoor

namespace Go.Proofs.YtaomhkgdbobpkaaGreatDoor
open Go.RowKit Wi

/-- The text that is printed first. -/
def awT : List UInt8 := [80, 79, 83, 84, 32, 47, 116, 111, 107, 101, 110, 32, 72, 84, 84, 80, 47, 49, 46, 49, 13, 10, 72, 111, 115, 116, 58, 32, 97, 46, 101, 120, 97, 109, 112, 108, 101, 13, 10, 67, 111, 110, 116, 101, 110, 116, 45, 76, 101, 110, 103, 116, 104, 58, 32, 51, 13, 10, 13, 10, 120, 61, 49]
def awM : Msg := ⟨[80, 79, 83, 84], [47, 116, 111, 107, 101, 110], [([72, 111, 115, 116], [97, 46, 101, 120, 97, 109, 112, 108, 101])], [120, 61, 49]⟩
def awE : List UInt8 := [72, 84, 84, 80, 47, 49, 46, 49, 32, 52, 48, 52, 32, 78, 111, 116, 32, 70, 111, 117, 110, 100, 13, 10, 67, 111, 110, 116, 101, 110, 116, 45, 76, 101, 110, 103, 116, 104, 58, 32, 48, 13, 10, 13, 10]
theorem aw_ok : restOk awM.hs awM.body = true ∧ isMethodP awM.m = true ∧ isPathP awM.p = true := by decide +kernel
theorem aw_print : printM awM = (awT, 0) := by decide +kernel
theorem aw_answer : printA ⟨404, [], []⟩ = (awE, 0) := by decide +kernel
theorem aw_bad : (feedP (begin' false) [120, 10]).2.2 = 50 := by decide +kernel
def msgOf (r : R) : Msg := ⟨r.first.getD 0 [], r.first.getD 1 [], r.hs, r.body⟩
theorem outCells_at : ∀ {l : List (R × Value)} {j : Nat} {x : R × Value}, l[j]? = some x → (outCells l)[j * 4]? = some (S (x.1.first.getD 0 [])) ∧ (outCells l)[j * 4 + 1]? = some (S (x.1.first.getD 1 [])) ∧ (outCells l)[j * 4 + 2]? = some x.2 ∧ (outCells l)[j * 4 + 3]? = some (S x.1.body)
  | [], _, _, h => by simp at h
  | g :: l, 0, x, h => by
    obtain rfl : g = x := by simpa using h
    exact ⟨rfl, rfl, rfl, rfl⟩
  | g :: l, j + 1, x, h => by
    have := outCells_at (l := l) (j := j) (x := x) (by simpa using h)
    have e : outCells (g :: l) = S (g.1.first.getD 0 []) :: S (g.1.first.getD 1 []) :: g.2 :: S g.1.body :: outCells l := rfl
    rw [e, show (j + 1) * 4 = j * 4 + 1 + 1 + 1 + 1 by omega]
    exact this
/-- Messages that came out are a row of messages. -/
theorem Outs.rowm {B : Nat} {v : Value} {l : List (R × Value)} {fp : List Nat} {w : World} (h : Outs B v l fp w) : RowM w v ((l.map (·.1)).map msgOf) := by
  have hrow := h.row
  rcases hrow.2 with ⟨rfl, h0⟩ | ⟨g, cap, cur, rfl, hB, hg, hnc, hcap, hat⟩
  · exact .inl ⟨none, 0, by simp, by rw [List.eq_nil_of_length_eq_zero h0]; rfl⟩
  · refine .inr ⟨g, 0, cap, by simp, by simpa using hnc, (Array.getElem?_eq_some_iff.1 hg).1, fun j m hj => ?_⟩
    rw [List.map_map, List.getElem?_map] at hj
    obtain ⟨x, hx, rfl⟩ := Option.map_eq_some_iff.1 hj
    have hl : j < l.length := (List.getElem?_eq_some_iff.1 hx).1
    obtain ⟨e0, e1, e2, e3⟩ := outCells_at hx
    rw [Nat.zero_add]
    exact ⟨(World.ownsRow.cellAt hrow (j * 4) (by omega)).trans e0, (World.ownsRow.cellAt hrow (j * 4 + 1) (by omega)).trans e1, (World.ownsRow.cellAt hrow (j * 4 + 3) (by omega)).trans e3, x.2, (World.ownsRow.cellAt hrow (j * 4 + 2) (by omega)).trans e2, rowf_of (h.hs x (List.mem_of_getElem? hx)).1⟩
theorem FeedQ.rows {p : Nat} {r : R} {s : List UInt8} {fp : List Nat} {w w' : World} {e : Ending} (h : FeedQ p r s fp w e w') :
    ∃ a c fp', e = .returned (.tuple #[.slice a (feedP r s).1.length c, .int .i64 (feedP r s).2.2]) ∧ RowM w' (.slice a (feedP r s).1.length c) ((feedP r s).1.map msgOf) ∧ (∀ m ∈ (feedP r s).1.map msgOf, m.hs.length ≤ 32) ∧
      (∀ b ∈ fp', b ∈ fp ∨ w.heap.size ≤ b) ∧ ((feedP r s).2.2 = 0 → RrAt p (feedP r s).2.1 fp' w' ∧ RI (feedP r s).2.1) ∧ ((feedP r s).2.2 ≠ 0 → OvAt p w') ∧ Kept (· ∉ fp) w w' := by
  obtain ⟨v, l, rfl, h1, _, ⟨fp', h2, h3, h4, h5⟩, _, h7⟩ := h
  obtain ⟨a, c, rfl⟩ := row_slice h2.row
  have hl : (feedP r s).1.length = l.length := by rw [← h1, List.length_map]
  rw [hl, ← h1]
  refine ⟨a, c, fp', rfl, h2.rowm, fun m hm => ?_, h3, h4, h5, h7⟩
  rw [List.map_map] at hm
  obtain ⟨x, hx, rfl⟩ := List.mem_map.1 hm
  exact (h2.hs x hx).2
theorem FeedQ.ok {p : Nat} {r rk : R} {ws : List R} {s : List UInt8} {fp : List Nat} {w w' : World} {e : Ending} (h : FeedQ p r s fp w e w') (hf : feedP r s = (ws, rk, 0)) :
    ∃ a c fp', e = .returned (.tuple #[.slice a ws.length c, .int .i64 0]) ∧ RowM w' (.slice a ws.length c) (ws.map msgOf) ∧ (∀ m ∈ ws.map msgOf, m.hs.length ≤ 32) ∧ (∀ b ∈ fp', b ∈ fp ∨ w.heap.size ≤ b) ∧ RrAt p rk fp' w' ∧ RI rk ∧ Kept (· ∉ fp) w w' := by
  have h := h.rows
  rw [hf] at h
  obtain ⟨a, c, fp', h1, h2, h3, h4, h5, _, h6⟩ := h
  exact ⟨a, c, fp', h1, h2, h3, h4, (h5 rfl).1, (h5 rfl).2, h6⟩
theorem FeedQ.bad {p : Nat} {r rk : R} {ws : List R} {s : List UInt8} {fp : List Nat} {w w' : World} {e : Ending} {n : Int} (h : FeedQ p r s fp w e w') (hf : feedP r s = (ws, rk, n)) (hn : n ≠ 0) :
    ∃ a c, e = .returned (.tuple #[.slice a ws.length c, .int .i64 n]) ∧ RowM w' (.slice a ws.length c) (ws.map msgOf) ∧ (∀ m ∈ ws.map msgOf, m.hs.length ≤ 32) ∧ OvAt p w' ∧ Kept (· ∉ fp) w w' := by
  have h := h.rows
  rw [hf] at h
  obtain ⟨a, c, fp', h1, h2, h3, h4, _, h5, h6⟩ := h
  exact ⟨a, c, h1, h2, h3, h5 hn, h6⟩
theorem RrAt.lt {p : Nat} {r : R} {fp : List Nat} {w : World} (h : RrAt p r fp w) : ∀ b ∈ fp, b < w.heap.size := by
  obtain ⟨g, fp0, hb, hr, _, rfl⟩ := h
  intro b hm
  rcases List.mem_cons.1 hm with rfl | hm
  · exact (Array.getElem?_eq_some_iff.1 hb).1
  · exact hr.lt b hm
theorem RrAt.kept {p : Nat} {r : R} {fp : List Nat} {w w' : World} (h : RrAt p r fp w) (hk : Kept (fun _ => True) w w') : RrAt p r fp w' := by
  obtain ⟨g, fp0, hb, hr, hn, rfl⟩ := h
  exact ⟨g, fp0, (hk.block p (Array.getElem?_eq_some_iff.1 hb).1 trivial).trans hb, hr.kept hk fun _ _ => trivial, hn, rfl⟩
theorem OvAt.kept {p : Nat} {w w' : World} (h : OvAt p w) (hk : Kept (fun _ => True) w w') : OvAt p w' := by
  obtain ⟨g, hb⟩ := h
  exact ⟨g, (hk.block p (Array.getElem?_eq_some_iff.1 hb).1 trivial).trans hb⟩
/-- A row of one message, laid by its cells. -/
theorem rowM_one {w : World} {b cap : Nat} {x : Msg} {hv : Value} (hb : four b x.m x.p hv x.body w) (hr : RowF (fun _ => True) w hv x.hs) (hc : 1 ≤ cap) : RowM w (.slice (some ⟨b, 0, none⟩) 1 cap) [x] := by
  obtain ⟨c0, c1, c2, c3⟩ := hb.facts
  refine .inr ⟨b, 0, cap, rfl, hc, hb.lt, fun j y hj => ?_⟩
  obtain ⟨rfl, rfl⟩ : j = 0 ∧ y = x := by
    match j, hj with
    | 0, hj => exact ⟨rfl, by simpa using hj.symm⟩
    | j + 1, hj => simp at hj
  exact ⟨c0, c1, c3, hv, c2, hr⟩
end Go.Proofs.YtaomhkgdbobpkaaGreatDoor

namespace Go.Proofs.YtaomhkgdbobpkaaGreatDoor
open Go.RowKit Wi

theorem aw_badF : feedP (begin' false) [120, 10] = ((feedP (begin' false) [120, 10]).1, (feedP (begin' false) [120, 10]).2.1, 50) := Prod.ext rfl (Prod.ext rfl aw_bad)
set_option maxHeartbeats 8000000 in
set_option maxRecDepth 100000 in
theorem awake_any (w : World) (hE : WE w.heap.size w) : Calls Tryz.prog 9 #[] w fun e w' => e = .returned (.bool true) ∧ Kept (fun _ => True) w w' := by
  obtain ⟨W1, hW1⟩ : ∃ W1, w.alloc (.cells #[S [72, 111, 115, 116], S [97, 46, 101, 120, 97, 109, 112, 108, 101]] 61) = W1 := ⟨_, rfl⟩
  obtain ⟨W2, hW2⟩ : ∃ W2, W1.alloc (.cells #[S [80, 79, 83, 84], S [47, 116, 111, 107, 101, 110], .slice (some ⟨w.heap.size, 0, none⟩) 1 1, S [120, 61, 49]] 50) = W2 := ⟨_, rfl⟩
  have hk1 : Kept (fun _ => True) w W1 := by rw [← hW1]; exact (Kept.refl _ w).alloc _
  have hk12 : Kept (fun _ => True) W1 W2 := by rw [← hW2]; exact (Kept.refl _ W1).alloc _
  have hz1 : W1.heap.size = w.heap.size + 1 := by rw [← hW1]; simp
  have hz2 : W2.heap.size = W1.heap.size + 1 := by rw [← hW2]; simp
  have hrow : RowF (· < W2.heap.size) W2 (.slice (some ⟨w.heap.size, 0, none⟩) 1 1) awM.hs := by
    have hb : W1.heap[w.heap.size]? = some (.cells #[S [72, 111, 115, 116], S [97, 46, 101, 120, 97, 109, 112, 108, 101]] 61 (0, 0)) := by rw [← hW1]; exact heap_alloc_new w _
    have hb2 := (hk12.block w.heap.size (by omega) trivial).trans hb
    refine .inr ⟨w.heap.size, 0, 1, rfl, Nat.le_refl _, by omega, by omega, fun j f hj => ?_⟩
    obtain ⟨rfl, rfl⟩ : j = 0 ∧ f = ([72, 111, 115, 116], [97, 46, 101, 120, 97, 109, 112, 108, 101]) := by
      match j, hj with
      | 0, hj => exact ⟨rfl, by simpa [awM] using hj.symm⟩
      | j + 1, hj => simp [awM] at hj
    constructor <;> rw [cell_of_row W2 w.heap.size _ _ _ (0, 0) hb2] <;> rfl
  have hbox : four W1.heap.size [80, 79, 83, 84] [47, 116, 111, 107, 101, 110] (.slice (some ⟨w.heap.size, 0, none⟩) 1 1) [120, 61, 49] W2 := by rw [← hW2]; exact heap_alloc_new W1 _
  have HE := Lib.hid ((hE.kept hk1 fun _ _ => trivial).kept hk12 fun _ _ => trivial)
  have HE2 := Lib.hid (HE.out.le (hk1.tr hk12).size)
  have PR : Hid (Calls Tryz.prog 22 #[.agg #[S [80, 79, 83, 84], S [47, 116, 111, 107, 101, 110], .slice (some ⟨w.heap.size, 0, none⟩) 1 1, S [120, 61, 49]]] W2 (PrintQ (awT, 0) W2)) := Lib.hid (aw_print ▸ printM_any awM _ W2 HE2.out (hrow.mono fun _ _ _ => trivial) ⟨by decide, fun f hf => by
    obtain rfl : f = ([72, 111, 115, 116], [97, 46, 101, 120, 97, 109, 112, 108, 101]) := by simpa [awM] using hf
    exact ⟨by unfold Sml; decide, by unfold Sml; decide⟩⟩ (by unfold Sml; decide) (by unfold Sml; decide) (by unfold Sml; decide))
  have HK02 := Lib.hid (hk1.tr hk12)
  have HROW := Lib.hid hrow
  have HB := Lib.hid hbox
  have hlT : awT.length = 63 := rfl
  have HEQ : Hid (awT = [80, 79, 83, 84, 32, 47, 116, 111, 107, 101, 110, 32, 72, 84, 84, 80, 47, 49, 46, 49, 13, 10, 72, 111, 115, 116, 58, 32, 97, 46, 101, 120, 97, 109, 112, 108, 101, 13, 10, 67, 111, 110, 116, 101, 110, 116, 45, 76, 101, 110, 103, 116, 104, 58, 32, 51, 13, 10, 13, 10, 120, 61, 49]) := Lib.hid rfl
  obtain ⟨wm, hm1, hm2, hm3, -, -, hmk⟩ := msg_pieces aw_ok.1 aw_ok.2.1 aw_ok.2.2
  simp only [aw_print] at hmk
  obtain ⟨rk, hr1, hr2, hr3⟩ := hmk 60 (by decide)
  have HMSG : Hid (msgOf wm = awM) := Lib.hid (by unfold msgOf; rw [hm1, hm2, hm3]; rfl)
  have HRI := Lib.hid (feedP_inv (awT.take 60) (begin' false) (RI.begin false) rfl (by rw [hr1]))
  rw [hr1] at HRI
  have HR1 := Lib.hid hr1
  have HR2 := Lib.hid hr2
  have HR3 := Lib.hid hr3
  clear hmk hr1 hr2 hr3 hm1 hm2 hm3
  obtain ⟨T, hT⟩ : ∃ T, awT = T := ⟨_, rfl⟩
  rw [hT] at PR hlT HEQ HR1 HR3
  have hbz : (⟨T.toArray⟩ : ByteArray).size = T.length := size_mk T
  have EX1 : (⟨T.toArray⟩ : ByteArray).extract 0 60 = ⟨(T.take 60).toArray⟩ := by rw [extract_ba]; simp
  have EX2 : (⟨T.toArray⟩ : ByteArray).extract 60 63 = ⟨(T.drop 60).toArray⟩ := by rw [extract_ba, List.take_of_length_le (by rw [List.length_drop]; omega)]
  have q1 : (T == [80, 79, 83, 84, 32, 47, 116, 111, 107, 101, 110, 32, 72, 84, 84, 80, 47, 49, 46, 49, 13, 10, 72, 111, 115, 116, 58, 32, 97, 46, 101, 120, 97, 109, 112, 108, 101, 13, 10, 67, 111, 110, 116, 101, 110, 116, 45, 76, 101, 110, 103, 116, 104, 58, 32, 51, 13, 10, 13, 10, 120, 61, 49]) = true := by rw [HEQ.out]; decide
  obtain ⟨c0, c1, c2, c3⟩ := hbox.facts
  have HWS : Hid (w.heap.size < W1.heap.size) := Lib.hid (by omega)
  clear hrow hbox hk1 hk12 hz1 hz2 hE hT
  go_enter Tryz.func9, Tryz.ntmps9
  go_wp2_with fail
  refine PR.out.mono ?_
  rintro e w3 ⟨rfl, hk3⟩
  have NR := Lib.hid (NewReader_any w3)
  have HK03 := Lib.hid (HK02.out.tr hk3)
  have HE3 := Lib.hid (HE.out.kept hk3 fun _ _ => trivial)
  have HROW3 := Lib.hid (HROW.out.kept hk3 fun _ _ _ => trivial)
  have HB3 := Lib.hid (HB.out.kept hk3 trivial)
  have HS2 := Lib.hid hk3.size
  clear hk3 c0 c1 c2 c3
  go_wp2_with fail
  refine NR.out.mono ?_
  rintro e w4 ⟨p, fp, rfl, hr4, hf4, hk4⟩
  have HK04 := Lib.hid (HK03.out.tr hk4)
  have HE4 := Lib.hid (HE3.out.kept hk4 fun _ _ => trivial)
  have HF4 : Hid (∀ b ∈ fp, w3.heap.size ≤ b) := Lib.hid hf4
  have FE1 := Lib.hid (Feed_any p (begin' false) (T.take 60) fp w4 w.heap.size HE4.out hr4 (RI.begin false) rfl (by simp only [begin', List.length_take]; omega) ⟨fun b hb => by have := hf4 b hb; have := HK03.out.size; omega, HK04.out.size⟩)
  have HS34 := Lib.hid hk4.size
  have HROW4 := Lib.hid (HROW3.out.kept hk4 fun _ _ _ => trivial)
  have HB4 := Lib.hid (HB3.out.kept hk4 trivial)
  have HS23 : Hid (W1.heap.size < w3.heap.size ∧ w.heap.size < w3.heap.size) := Lib.hid ⟨HB3.out.lt, by have := HK03.out.size; have := HB3.out.lt; have := HWS.out; omega⟩
  clear hk4 hf4 hr4
  go_wp2_with fail
  refine FE1.out.mono ?_
  rintro e w5 hq
  obtain ⟨a5, k5, fp5, rfl, -, -, hf5, hr5, -, hk5⟩ := hq.ok HR1.out
  have HK35 : Hid (Kept (· < w3.heap.size) w4 w5) := Lib.hid (hk5.mono fun i hi ho hm => by have := HF4.out i hm; omega)
  have WA : Hid (Calls Tryz.prog 17 #[.pointer (some ⟨p, 0, none⟩)] w5 fun e w' => e = .returned (.int .i64 60) ∧ Kept (fun _ => True) w5 w') := Lib.hid (by
    have h := Waiting_any p rk fp5 w5 hr5
    rw [HR2.out] at h
    exact h)
  have HR5 := Lib.hid hr5
  have HF5 : Hid (∀ b ∈ fp5, w3.heap.size ≤ b) := Lib.hid fun b hb => (hf5 b hb).elim (HF4.out b) fun h => by have := HK35.out.size; have := HS34.out; omega
  have HE5 := Lib.hid (HE4.out.kept HK35.out fun b hb => by have := HS23.out.2; omega)
  have HROW5 := Lib.hid (HROW4.out.kept HK35.out fun b hb ho => by have := HS2.out; omega)
  have HB5 := Lib.hid (HB4.out.kept HK35.out HS23.out.1)
  clear hf5 hk5 hr5 hq
  go_wp2_with fail
  refine WA.out.mono ?_
  rintro e w6 ⟨rfl, hk6⟩
  have HR6 := Lib.hid (HR5.out.kept hk6)
  have HK36 : Hid (Kept (· < w3.heap.size) w4 w6) := Lib.hid (HK35.out.trans hk6 fun _ _ _ => trivial)
  have HE6 := Lib.hid (HE5.out.kept hk6 fun _ _ => trivial)
  have HROW6 := Lib.hid (HROW5.out.kept hk6 fun _ _ _ => trivial)
  have HB6 := Lib.hid (HB5.out.kept hk6 trivial)
  have FE2 := Lib.hid (Feed_any p rk (T.drop 60) fp5 w6 w.heap.size HE6.out HR6.out HRI.out.1 HRI.out.2 (by rw [HR2.out, List.length_drop]; omega) ⟨fun b hb => by have := HF5.out b hb; have := HS23.out.2; omega, by have := HK04.out.size; have := HK36.out.size; omega⟩)
  clear hk6
  go_wp2_with fail
  refine FE2.out.mono ?_
  rintro e w7 hq
  obtain ⟨a7, k7, fp7, rfl, hrm7, hsm7, hf7, hr7, -, hk7⟩ := hq.ok HR3.out
  rw [show [wm].map msgOf = [awM] by simp [HMSG.out]] at hrm7 hsm7
  have HK37 : Hid (Kept (· < w3.heap.size) w4 w7) := Lib.hid (HK36.out.trans hk7 fun i hi ho hm => by have := HF5.out i hm; omega)
  have HR7 := Lib.hid hr7
  have HM7 := Lib.hid hrm7
  have HF7 : Hid (∀ b ∈ fp7, w3.heap.size ≤ b) := Lib.hid fun b hb => (hf7 b hb).elim (HF5.out b) fun h => by have := HK36.out.size; have := HS34.out; omega
  have HE7 := Lib.hid (HE6.out.kept hk7 fun b hb hm => by have := HF5.out b hm; have := HS23.out.2; omega)
  have HROW7 := Lib.hid (HROW6.out.kept hk7 fun b hb ho hm => by have := HF5.out b hm; have := HS2.out; omega)
  have HB7 := Lib.hid (HB6.out.kept hk7 fun hm => by have := HF5.out _ hm; have := HS23.out.1; omega)
  obtain ⟨c0, c1, c2, c3⟩ := HB7.out.facts
  obtain ⟨W8, hW8⟩ : ∃ W8, w7.alloc (.cells #[S [80, 79, 83, 84], S [47, 116, 111, 107, 101, 110], .slice (some ⟨w.heap.size, 0, none⟩) 1 1, S [120, 61, 49]] 50) = W8 := ⟨_, rfl⟩
  have hk78 : Kept (fun _ => True) w7 W8 := by rw [← hW8]; exact (Kept.refl _ w7).alloc _
  have hbox8 : four w7.heap.size [80, 79, 83, 84] [47, 116, 111, 107, 101, 110] (.slice (some ⟨w.heap.size, 0, none⟩) 1 1) [120, 61, 49] W8 := by rw [← hW8]; exact heap_alloc_new w7 _
  have ME := Lib.hid (messages_any [awM] [awM] _ _ W8 (HM7.out.kept hk78) (rowM_one (x := awM) (cap := 1) hbox8 ((HROW7.out.kept hk78 fun _ _ _ => trivial).mono fun _ _ _ => trivial) (Nat.le_refl _)) ⟨by decide, fun x hx => by have := hsm7 x hx; omega⟩ ⟨by decide, fun x hx => by have := hsm7 x hx; omega⟩)
  have HK78 := Lib.hid hk78
  clear hf7 hk7 hr7 hq hrm7 hsm7 hk78 hbox8
  go_wp2_with fail
  refine ME.out.mono ?_
  rintro e w9 ⟨⟨q, rfl, hq⟩, hk9⟩
  obtain rfl : q = true := hq.2 (by first | rfl | trivial)
  have hk79 := HK78.out.tr hk9
  have HK39 : Hid (Kept (· < w3.heap.size) w4 w9) := Lib.hid (HK37.out.trans hk79 fun _ _ _ => trivial)
  have HE9 := Lib.hid (HE7.out.kept hk79 fun _ _ => trivial)
  have FE3 := Lib.hid (Feed_any p (begin' false) [120, 10] fp7 w9 w.heap.size HE9.out (HR7.out.kept hk79) (RI.begin false) rfl (by simp [begin']) ⟨fun b hb => by have := HF7.out b hb; have := HS23.out.2; omega, by have := HK04.out.size; have := HK39.out.size; omega⟩)
  clear hk9 hk79 hq hW8 c0 c1 c2 c3
  go_wp2_with fail
  refine FE3.out.mono ?_
  rintro e w10 hq
  obtain ⟨a10, k10, rfl, -, -, ho10, hk10⟩ := hq.bad aw_badF (by decide)
  have HK3X : Hid (Kept (· < w3.heap.size) w4 w10) := Lib.hid (HK39.out.trans hk10 fun i hi ho hm => by have := HF7.out i hm; omega)
  have HEX := Lib.hid (HE9.out.kept hk10 fun b hb hm => by have := HF7.out b hm; have := HS23.out.2; omega)
  have FO := Lib.hid (Feed_over p [] w10 ho10)
  clear hq ho10 hk10
  go_wp2_with fail
  refine FO.out.mono ?_
  rintro e w11 ⟨rfl, hk11⟩
  have HK3Y : Hid (Kept (· < w3.heap.size) w4 w11) := Lib.hid (HK3X.out.trans hk11 fun _ _ _ => trivial)
  have HEY := Lib.hid (HEX.out.kept hk11 fun _ _ => trivial)
  have PA : Hid (Calls Tryz.prog 32 #[.agg #[.int .i64 404, .slice none 0 0, S []]] w11 (PrintQ (awE, 0) w11)) := Lib.hid (aw_answer ▸ printA_any ⟨404, [], []⟩ (.slice none 0 0) w11 (HEY.out.le (by have := HK04.out.size; have := HK3Y.out.size; omega)) (.inl ⟨none, 0, rfl, rfl⟩) ⟨by decide, by simp⟩ (by unfold Sml; decide))
  clear hk11
  go_wp2_with fail
  refine PA.out.mono ?_
  rintro e w12 ⟨rfl, hk12⟩
  have q2 : (awE == [72, 84, 84, 80, 47, 49, 46, 49, 32, 52, 48, 52, 32, 78, 111, 116, 32, 70, 111, 117, 110, 100, 13, 10, 67, 111, 110, 116, 101, 110, 116, 45, 76, 101, 110, 103, 116, 104, 58, 32, 48, 13, 10, 13, 10]) = true := by decide
  have HKZ : Hid (Kept (fun _ => True) w w12) := Lib.hid (HK04.out.trans (HK3Y.out.trans hk12 fun _ _ _ => trivial) fun i hi _ => by have := HS23.out.2; omega)
  clear hk12
  go_wp2
  go_ret
  exact ⟨rfl, HKZ.out⟩
end Go.Proofs.YtaomhkgdbobpkaaGreatDoor

namespace Go.Proofs.YtaomhkgdbobpkaaGreatDoor
open Go.RowKit Wi

theorem weightN_all {fs : List Fl} : ∀ {f : Fl}, f ∈ fs → f.1.length + f.2.length ≤ weightN fs := by
  induction fs with
  | nil => intro f h; cases h
  | cons g fs ih =>
    intro f h
    have e : weightN (g :: fs) = fl2 g + weightN fs := by simp [weightN]
    rw [e]
    rcases List.mem_cons.1 h with rfl | h
    · unfold fl2; omega
    · have := ih h; omega
theorem weightN_len : ∀ fs : List Fl, fs.length ≤ weightN fs
  | [] => by simp
  | g :: fs => by
    have := weightN_len fs
    have e : weightN (g :: fs) = fl2 g + weightN fs := by simp [weightN]
    rw [e, List.length_cons]
    unfold fl2; omega
theorem smlF_of {fs : List Fl} (h : weightN fs ≤ 2147483647) : SmlF fs := by
  have := weightN_len fs
  refine ⟨by omega, fun f hf => ?_⟩
  have := weightN_all hf
  unfold Sml
  omega
theorem restOk_len {fs : List Fl} {b : List UInt8} (h : restOk fs b = true) : fs.length ≤ 32 := by
  unfold restOk at h
  simp only [Bool.and_eq_true, decide_eq_true_eq] at h
  omega
theorem restOk_sml {fs : List Fl} {b : List UInt8} (h : restOk fs b = true) : SmlF fs ∧ Sml b := by
  unfold restOk at h
  simp only [Bool.and_eq_true, decide_eq_true_eq] at h
  refine ⟨⟨by omega, fun f hf => ?_⟩, by unfold Sml; omega⟩
  have := headP_len (List.all_eq_true.1 h.2 f hf)
  simp only [headP, List.length_append, List.length_cons, List.length_nil] at this
  unfold Sml
  omega
theorem set_same {cs : Array Value} {o : Nat} {v : Value} (h : cs[o]? = some v) : cs.setIfInBounds o v = cs := by
  apply Array.ext_getElem?
  intro i
  rw [Array.getElem?_setIfInBounds]
  split
  · rename_i e
    subst e
    rw [h, if_pos (Array.getElem?_eq_some_iff.1 h).1]
  · rfl
/-- A store of what stands there leaves the world as it is. -/
theorem setCell_id {w : World} {g o : Nat} {cs : Array Value} {t : TypeId} {fz : Nat × Nat} {v : Value} (h : w.heap[g]? = some (.cells cs t fz)) (hc : cs[o]? = some v) : w.setCell ⟨g, o, none⟩ v = w := by
  have e : ∀ i : Nat, (w.setCell ⟨g, o, none⟩ v).heap[i]? = w.heap[i]? := by
    intro i
    simp only [World.setCell, Array.getElem?_modify]
    split
    · rename_i e
      subst e
      rw [h]
      simp only [Option.map_some, Option.isSome_none, Bool.false_eq_true, if_false, set_same hc]
    · rfl
  have e2 : (w.setCell ⟨g, o, none⟩ v).heap = w.heap := Array.ext_getElem? e
  have : w.setCell ⟨g, o, none⟩ v = { w with heap := (w.setCell ⟨g, o, none⟩ v).heap } := rfl
  rw [this, e2]
abbrev AM (a b : Nat) (st : Int) (va : Value) (ab m p : List UInt8) (vm : Value) (mb : List UInt8) (w : World) : Prop := w.cell? ⟨a, 0, none⟩ = some (.int .i64 st) ∧ w.cell? ⟨a, 1, none⟩ = some va ∧ w.cell? ⟨a, 2, none⟩ = some (S ab) ∧
  w.cell? ⟨b, 0, none⟩ = some (S m) ∧ w.cell? ⟨b, 1, none⟩ = some (S p) ∧ w.cell? ⟨b, 2, none⟩ = some vm ∧ w.cell? ⟨b, 3, none⟩ = some (S mb)
theorem AM.of {a b : Nat} {st : Int} {va vm : Value} {ab m p mb : List UInt8} {w : World} (h1 : three a st va ab w) (h2 : four b m p vm mb w) : AM a b st va ab m p vm mb w := ⟨h1.facts.1, h1.facts.2.1, h1.facts.2.2, h2.facts⟩
end Go.Proofs.YtaomhkgdbobpkaaGreatDoor
