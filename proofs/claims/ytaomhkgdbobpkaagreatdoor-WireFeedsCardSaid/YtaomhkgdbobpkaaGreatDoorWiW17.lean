/- Walks of wire (layer 5), seventeenth part: bytes are fed. -/
import Derived.Test.YtaomhkgdbobpkaaGreatDoorWiWD
import Derived.Test.YtaomhkgdbobpkaaGreatDoorWiPB
namespace Go.Proofs.YtaomhkgdbobpkaaGreatDoor
open Go.RowKit Wi

/-- A message that came out: what was read, and the row of its headers. -/
def msgCells (x : R × Value) : List Value := [S (x.1.first.getD 0 []), S (x.1.first.getD 1 []), x.2, S x.1.body]
def outCells (l : List (R × Value)) : List Value := l.flatMap msgCells
theorem outCells_snoc (l : List (R × Value)) (x : R × Value) : outCells (l ++ [x]) = outCells l ++ msgCells x := by simp [outCells]
theorem infoMsg : (Tryz.prog.info? 50).map (fun i => (i.zero, i.size, i.bytes)) = some (some (.agg #[S [], S [], .slice none 0 0, S []]), 4, 72) := by kernel_rfl
/-- Messages that came out: their row, in blocks from B on; the rows of their headers: each is there, no two in one block, none in a block of fp; where they lie. -/
structure Outs (B : Nat) (v : Value) (l : List (R × Value)) (fp : List Nat) (w : World) : Prop where
  row : w.ownsRow B 50 4 v l.length (outCells l)
  hs : ∀ x ∈ l, OwnF x.2 x.1.hs w ∧ x.1.hs.length ≤ 32
  nodup : (l.filterMap fun x => x.2.ownBlock).Nodup
  apart : ∀ x ∈ l, ∀ b, x.2.ownBlock = some b → b ∉ fp
theorem Outs.nil (B : Nat) (fp : List Nat) (w : World) : Outs B (.slice none 0 0) [] fp w := ⟨World.ownsRow_nil _ _ _ _, by simp, by simp, by simp⟩
/-- A reader at p: it has a reading, and is not over. -/
def RrAt (p : Nat) (r : R) (fp : List Nat) (w : World) : Prop := ∃ g fp0, w.heap[p]? = some (.cells #[.pointer (some ⟨g, 0, none⟩), .bool false] 76 (0, 0)) ∧ RdAt g r fp0 w ∧ p ∉ fp0 ∧ fp = p :: fp0
/-- .. it is over. -/
def OvAt (p : Nat) (w : World) : Prop := ∃ g, w.heap[p]? = some (.cells #[.pointer (some ⟨g, 0, none⟩), .bool true] 76 (0, 0))
theorem RdAt.lt {g : Nat} {r : R} {fp : List Nat} {w : World} (h : RdAt g r fp w) : ∀ b ∈ fp, b < w.heap.size := by
  obtain ⟨bx, lv, fv, hv, bv, h, rfl⟩ := h
  exact h.lt
theorem RdAt.kept {g : Nat} {r : R} {fp : List Nat} {w w' : World} {ok : Nat → Prop} (h : RdAt g r fp w) (hk : Kept ok w w') (ho : ∀ b ∈ fp, ok b) : RdAt g r fp w' := by
  obtain ⟨bx, lv, fv, hv, bv, h, rfl⟩ := h
  exact ⟨bx, lv, fv, hv, bv, h.kept hk ho, rfl⟩
theorem RdAt.mem {g : Nat} {r : R} {fp : List Nat} {w : World} (h : RdAt g r fp w) : g ∈ fp := by
  obtain ⟨bx, lv, fv, hv, bv, h, rfl⟩ := h
  simp [fpC]
theorem RdAt.ty {g : Nat} {r : R} {fp : List Nat} {w : World} (h : RdAt g r fp w) {b : Nat} {cs : Array Value} {T : TypeId} {fz : Nat × Nat} (hb : w.heap[b]? = some (.cells cs T fz)) (h1 : T ≠ 83) (h2 : T ≠ 73) (h3 : T ≠ 5) (h4 : T ≠ 9) (h5 : T ≠ 61) : b ∉ fp := by
  obtain ⟨bx, lv, fv, hv, bv, h, rfl⟩ := h
  intro hm
  rcases fpC_mem.1 hm with rfl | rfl | e | e | e | e
  · exact ty_ne hb h.box h1 rfl
  · exact ty_ne hb h.ptr h2 rfl
  · obtain ⟨x, k⟩ := own_cells h.line e; exact ty_ne hb k h3 rfl
  · obtain ⟨x, y, k⟩ := h.first.ty e; exact ty_ne hb k h4 rfl
  · obtain ⟨x, k⟩ := own_cells h.hs e; exact ty_ne hb k h5 rfl
  · obtain ⟨x, k⟩ := own_cells h.body e; exact ty_ne hb k h3 rfl
/-- The outs stay where the reader goes on. -/
theorem Outs.step {B p g : Nat} {v : Value} {l : List (R × Value)} {r : R} {fp0 fp' : List Nat} {w w' : World} (h : Outs B v l (p :: fp0) w) (hr : RdAt g r fp0 w) (hk : Kept (· ∉ fp0) w w') (hf : ∀ b ∈ fp', b ∈ fp0 ∨ w.heap.size ≤ b) : Outs B v l (p :: fp') w' where
  row := ownsRow_kept h.row hk fun b hb => by
    obtain ⟨cs, hc⟩ := own_cells h.row hb
    exact hr.ty hc (by decide) (by decide) (by decide) (by decide) (by decide)
  hs := fun x hx => ⟨ownsRow_kept (h.hs x hx).1 hk fun b hb hm => h.apart x hx b hb (List.mem_cons_of_mem _ hm), (h.hs x hx).2⟩
  nodup := h.nodup
  apart := fun x hx b hb hm => by
    have h1 := h.apart x hx b hb
    rcases List.mem_cons.1 hm with rfl | hm
    · exact h1 (by simp)
    · rcases hf b hm with e | e
      · exact h1 (List.mem_cons_of_mem _ e)
      · obtain ⟨cs, hc⟩ := own_cells (h.hs x hx).1 hb
        have := (Array.getElem?_eq_some_iff.1 hc).1
        omega
theorem Outs.setP {B p o : Nat} {v u : Value} {l : List (R × Value)} {fp : List Nat} {w : World} {cs : Array Value} (h : Outs B v l fp w) (hb : w.heap[p]? = some (.cells cs 76 (0, 0))) : Outs B v l fp (w.setCell ⟨p, o, none⟩ u) := by
  have hk : Kept (· ≠ p) w (w.setCell ⟨p, o, none⟩ u) := (Kept.refl _ w).setCell (.inr (by simp)) _
  refine ⟨ownsRow_kept h.row hk fun b hb' => ?_, fun x hx => ⟨ownsRow_kept (h.hs x hx).1 hk fun b hb' => ?_, (h.hs x hx).2⟩, h.nodup, h.apart⟩
  · obtain ⟨x, hc⟩ := own_cells h.row hb'; exact ty_ne hc hb (by decide)
  · obtain ⟨x, hc⟩ := own_cells (h.hs _ hx).1 hb'; exact ty_ne hc hb (by decide)
theorem Outs.keptT {B : Nat} {v : Value} {l : List (R × Value)} {fp : List Nat} {w w' : World} (h : Outs B v l fp w) (hk : Kept (fun _ => True) w w') : Outs B v l fp w' :=
  ⟨ownsRow_kept h.row hk fun _ _ => trivial, fun x hx => ⟨ownsRow_kept (h.hs x hx).1 hk fun _ _ => trivial, (h.hs x hx).2⟩, h.nodup, h.apart⟩
/-- A message more. -/
theorem Outs.push {B p g bx : Nat} {v v' lv fv hv bv : Value} {l : List (R × Value)} {r : R} {w w1 : World} {cs : Array Value} (h : Outs B v l (p :: fpC g bx lv fv hv bv) w) (hc : RdC g bx lv fv hv bv r w) (hp : w.heap[p]? = some (.cells cs 76 (0, 0))) (h32 : r.hs.length ≤ 32)
    (k1 : w1.ownsRow B 50 4 v' (l.length + 1) (outCells l ++ msgCells (r, hv))) (k2 : Below B w w1) (k3 : Moved v v' w w1) (fq : List Nat) (hq : ∀ b ∈ fq, w.heap.size ≤ b) : Outs B v' (l ++ [(r, hv)]) (p :: fq) w1 := by
  have hk : Kept (fun b => v.ownBlock ≠ some b) w w1 := ⟨k2.os, k2.tape, k2.output, k3.kept.1, fun k hk ho => k3.kept.2 k hk fun e => ho e.symm⟩
  have hfr : ∀ (u : Value) n xs, w.ownsRow 0 61 2 u n xs → ∀ b, u.ownBlock = some b → v.ownBlock ≠ some b := fun u n xs hu b hb e => by
    obtain ⟨x, h1⟩ := own_cells hu hb
    obtain ⟨y, h2⟩ := own_cells h.row e
    exact ty_ne h1 h2 (by decide) rfl
  have hlt : ∀ (u : Value) n xs, w.ownsRow 0 61 2 u n xs → ∀ b, u.ownBlock = some b → b ≠ p ∧ b ∉ fq := fun u n xs hu b hb => by
    obtain ⟨x, h1⟩ := own_cells hu hb
    refine ⟨ty_ne h1 hp (by decide), fun hm => ?_⟩
    have := (Array.getElem?_eq_some_iff.1 h1).1
    have := hq b hm
    omega
  refine ⟨?_, fun x hx => ?_, ?_, fun x hx b hb hm => ?_⟩
  · rw [outCells_snoc, List.length_append]; exact k1
  · rcases List.mem_append.1 hx with hx | hx
    · exact ⟨ownsRow_kept (h.hs x hx).1 hk (hfr _ _ _ (h.hs x hx).1), (h.hs x hx).2⟩
    · obtain rfl : x = (r, hv) := by simpa using hx
      exact ⟨ownsRow_kept hc.hs hk (hfr _ _ _ hc.hs), h32⟩
  · rw [List.filterMap_append]
    refine List.nodup_append.2 ⟨h.nodup, ?_, ?_⟩
    · simp only [List.filterMap_cons, List.filterMap_nil]
      split <;> simp
    · intro a ha b hb e
      subst e
      obtain ⟨x, hx, hxa⟩ := List.mem_filterMap.1 ha
      obtain ⟨y, hy, hya⟩ := List.mem_filterMap.1 hb
      obtain rfl : y = (r, hv) := by simpa using hy
      exact h.apart x hx a hxa (List.mem_cons_of_mem _ (fpC_mem.2 (.inr (.inr (.inr (.inr (.inl hya)))))))
  · have hu : w.ownsRow 0 61 2 x.2 x.1.hs.length (fieldCells x.1.hs) := by
      rcases List.mem_append.1 hx with hx | hx
      · exact (h.hs x hx).1
      · obtain rfl : x = (r, hv) := by simpa using hx
        exact hc.hs
    obtain ⟨h1, h2⟩ := hlt _ _ _ hu b hb
    rcases List.mem_cons.1 hm with e | hm
    · exact h1 e
    · exact h2 hm
/-- The messages' row is no block of a reading. -/
theorem Outs.apart_row {B g bx : Nat} {v lv fv hv bv : Value} {l : List (R × Value)} {fp : List Nat} {r : R} {w : World} (h : Outs B v l fp w) (hc : RdC g bx lv fv hv bv r w) {b : Nat} (hb : v.ownBlock = some b) : b ∉ fpC g bx lv fv hv bv := by
  obtain ⟨cs, hx⟩ := own_cells h.row hb
  exact RdAt.ty (r := r) ⟨bx, lv, fv, hv, bv, hc, rfl⟩ hx (by decide) (by decide) (by decide) (by decide) (by decide)
theorem feedP_cons (r : R) (c : UInt8) (s : List UInt8) : feedP r (c :: s) = if (takesP r c).2.2 ≠ 0 then ([], (takesP r c).1, (takesP r c).2.2) else if (takesP r c).2.1 = true then ((takesP r c).1 :: (feedP (begin' false) s).1, (feedP (begin' false) s).2) else feedP (takesP r c).1 s := rfl
/-- What Feed leaves. -/
def FeedQ (p : Nat) (r : R) (s : List UInt8) (fp : List Nat) (w : World) (e : Ending) (w' : World) : Prop :=
  ∃ (v : Value) (l : List (R × Value)), e = .returned (.tuple #[v, .int .i64 (feedP r s).2.2]) ∧ l.map (·.1) = (feedP r s).1 ∧ (∀ x ∈ l, RW x.1) ∧
    (∃ fp', Outs w.heap.size v l fp' w' ∧ (∀ b ∈ fp', b ∈ fp ∨ w.heap.size ≤ b) ∧ ((feedP r s).2.2 = 0 → RrAt p (feedP r s).2.1 fp' w' ∧ RI (feedP r s).2.1) ∧ ((feedP r s).2.2 ≠ 0 → OvAt p w')) ∧
    (∀ x ∈ l, ∀ b, x.2.ownBlock = some b → b ∈ fp ∨ w.heap.size ≤ b) ∧ Kept (· ∉ fp) w w'
set_option maxHeartbeats 8000000 in
set_option maxRecDepth 100000 in
theorem Feed_any (p : Nat) (r : R) (s : List UInt8) (fp : List Nat) (w : World) (B : Nat) (hE : WE B w) (h : RrAt p r fp w) (hi : RI r) (ha : r.ans = false) (hc : r.cnt + s.length ≤ 1099511627776) (hB : (∀ b ∈ fp, B ≤ b) ∧ B ≤ w.heap.size) :
    Calls Tryz.prog 13 #[.pointer (some ⟨p, 0, none⟩), S s] w (FeedQ p r s fp w) := by
  have hsz : (⟨s.toArray⟩ : ByteArray).size = s.length := size_mk s
  obtain ⟨g, fp0, hb, hrd, hnp, rfl⟩ := h
  have c0 : w.cell? ⟨p, 0, none⟩ = some (.pointer (some ⟨g, 0, none⟩)) := by rw [cell_of_row w p _ _ _ (0, 0) hb]; rfl
  have c1 : w.cell? ⟨p, 1, none⟩ = some (.bool false) := by rw [cell_of_row w p _ _ _ (0, 0) hb]; rfl
  have HE := Lib.hid hE
  have HB := Lib.hid hB
  have hcl : s.length ≤ 1099511627776 := by omega
  have HST : Hid (∃ g fp0, w.heap[p]? = some (.cells #[.pointer (some ⟨g, 0, none⟩), .bool false] 76 (0, 0)) ∧ RdAt g r fp0 w ∧ p ∉ fp0 ∧ p :: fp0 = p :: fp0) := Lib.hid ⟨g, fp0, hb, hrd, hnp, rfl⟩
  have HRA : Hid (RrAt p r (p :: fp0) w) := Lib.hid ⟨g, fp0, hb, hrd, hnp, rfl⟩
  have HI := Lib.hid hi
  have HA := Lib.hid ha
  have HC := Lib.hid hc
  clear hE hi ha hc hB HST hb hrd hnp
  go_enter Tryz.func13, Tryz.ntmps13
  go_wp2_with fail
  go_loopg [6, 7, 8, 9, 10, 17] s.length (fun q ov _ _ _ _ n wr => ∃ (i : Nat) (rr : R) (l : List (R × Value)) (fpw : List Nat), n = .int .i64 i ∧ q = s.length - i ∧ i ≤ s.length ∧
    Hid (feedP r s = ((l.map (·.1)) ++ (feedP rr (s.drop i)).1, (feedP rr (s.drop i)).2)) ∧ Hid (RrAt p rr fpw wr ∧ RI rr ∧ rr.ans = false ∧ rr.cnt ≤ r.cnt + i ∧ l.length ≤ i ∧ ∀ b ∈ fpw, b ∈ (p :: fp0) ∨ w.heap.size ≤ b) ∧ Hid (Outs w.heap.size ov l fpw wr) ∧ Hid (∀ x ∈ l, RW x.1 ∧ ∀ b, x.2.ownBlock = some b → b ∈ (p :: fp0) ∨ w.heap.size ≤ b) ∧ Hid (Kept (· ∉ (p :: fp0)) w wr))
  case atStart =>
    exact ⟨0, r, [], p :: fp0, rfl, rfl, Nat.zero_le _, Lib.hid (by simp), Lib.hid ⟨HRA.out, HI.out, HA.out, by omega, by simp, fun b hb => .inl hb⟩, Lib.hid (Outs.nil _ _ _), Lib.hid (by simp), Lib.hid (Kept.refl _ _)⟩
  case round =>
    clear c0 c1 HRA HI HA
    obtain ⟨i, rr, l, fpw, rfl, rfl, hil, HFD, HR, HO, HM, HK⟩ := hrel
    obtain ⟨⟨g1, fp1, hb1, hrd1, hnp1, rfl⟩, hri, hra, hrc, hll, hfw⟩ := HR.out
    have c0 : wr.cell? ⟨p, 0, none⟩ = some (.pointer (some ⟨g1, 0, none⟩)) := by rw [cell_of_row wr p _ _ _ (0, 0) hb1]; rfl
    have c1 : wr.cell? ⟨p, 1, none⟩ = some (.bool false) := by rw [cell_of_row wr p _ _ _ (0, 0) hb1]; rfl
    have f1 : wr.frozen? ⟨p, 1, none⟩ = false := frozen_row hb1 1
    by_cases hlt : i < s.length
    · obtain ⟨c, hcc⟩ : ∃ c, s[i]? = some c := ⟨s[i], List.getElem?_eq_getElem hlt⟩
      have hIx := run_at s i c hcc
      have hgB : B ≤ g1 := by
        rcases hfw g1 (List.mem_cons_of_mem _ hrd1.mem) with e | e
        · exact HB.out.1 g1 e
        · have := HB.out.2; omega
      have HIN : Hid (B ≤ w.heap.size ∧ ∀ k, k < B → k ∉ (p :: fp0)) := Lib.hid ⟨HB.out.2, fun k hk hm => by have := HB.out.1 k hm; omega⟩
      have HEr := Lib.hid (HE.out.kept HK.out HIN.out.2)
      have hdrop : s.drop i = c :: s.drop (i + 1) := by
        rw [List.drop_eq_getElem_cons hlt]
        congr 1
        rw [List.getElem?_eq_getElem hlt] at hcc
        simpa using hcc
      have HX : Hid (feedP rr (s.drop i) = if (takesP rr c).2.2 ≠ 0 then ([], (takesP rr c).1, (takesP rr c).2.2) else if (takesP rr c).2.1 = true then ((takesP rr c).1 :: (feedP (begin' false) (s.drop (i + 1))).1, (feedP (begin' false) (s.drop (i + 1))).2) else feedP (takesP rr c).1 (s.drop (i + 1))) := Lib.hid (by rw [hdrop]; exact feedP_cons _ _ _)
      have HINV := Lib.hid (fun h => takesP_inv (c := c) hri h)
      have HCNT := Lib.hid (takesP_cnt rr c)
      have hl3 := hri.line
      have hl4 := hri.hs
      have hl5 : rr.body.length ≤ 4000 := by
        by_cases hp : rr.ph < 2
        · rw [hri.nobody hp]; simp
        · have := hri.ph; have h6 := hri.inbody (by omega); have := hri.len; omega
      have hcn : rr.cnt ≤ 1099511627776 := by have := HC.out; omega
      have HRD := Lib.hid hrd1
      have TK : Hid (∀ W, Kept (fun _ => True) wr W → Calls Tryz.prog 36 #[.pointer (some ⟨g1, 0, none⟩), .int .u8 c.toNat] W (StepQ g1 fp1 (takesP rr c) W)) := Lib.hid fun W hk =>
        takes_any g1 fp1 rr c W B (HEr.out.kept hk fun _ _ => trivial) (HRD.out.kept hk fun _ _ => trivial) hcn (by omega) (by omega) (by omega) hgB
      obtain ⟨x, hx⟩ : ∃ x, takesP rr c = x := ⟨_, rfl⟩
      rw [hx] at TK HX HINV HCNT
      obtain ⟨r2, q, E⟩ := x
      simp only at HX HINV HCNT
      have HP1 := Lib.hid (And.intro hb1 hnp1)
      have hkd : Kept (fun _ => True) wr wr.drew := (Kept.refl _ wr).drew
      have hpl : p < wr.drew.heap.size := (Array.getElem?_eq_some_iff.1 hb1).1
      have c0d : wr.drew.cell? ⟨p, 0, none⟩ = some (.pointer (some ⟨g1, 0, none⟩)) := c0
      have HC0 := Lib.hid (And.intro hpl c0d)
      clear hpl c0d
      have HFW := Lib.hid hfw
      have HRI := Lib.hid (And.intro hra hrc)
      clear hx hcc hdrop hrd1 hri hl3 hl4 hl5 hcn hb1 hnp1 hfw hra hrc hgB HR
      go_wp2_with fail
      go_region_held3 (fun wz => wz.cell? ⟨p, 0, none⟩ = some (.pointer (some ⟨g1, 0, none⟩))) (go_keep)
        (first
          | (go_at_call 36; (with_reducible refine (TK.out _ hkd).mono ?_); rintro e w2 ⟨rfl, hs2, hk2⟩; have c2 := (hk2.cell HC0.out.1 HP1.out.2).trans HC0.out.2; have HS2 := Lib.hid hs2; have HK2 := Lib.hid hk2; clear hs2 hk2))
      have HKW : Hid (Kept (· ∉ fp1) wr w2) := Lib.hid (((Kept.refl (fun _ => True) wr).drew.mono fun _ _ _ => trivial).tr HK2.out)
      have hb2 : w2.heap[p]? = some (.cells #[.pointer (some ⟨g1, 0, none⟩), .bool false] 76 (0, 0)) := (HKW.out.block p (Array.getElem?_eq_some_iff.1 HP1.out.1).1 HP1.out.2).trans HP1.out.1
      have c2b : w2.cell? ⟨p, 1, none⟩ = some (.bool false) := by rw [cell_of_row w2 p _ _ _ (0, 0) hb2]; rfl
      have f2 : ∀ o, w2.frozen? ⟨p, o, none⟩ = false := fun o => frozen_row hb2 o
      have f20 := f2 0
      have f21 := f2 1
      have HB2 := Lib.hid hb2
      have HKA : Hid (Kept (· ∉ (p :: fp0)) w w2) := Lib.hid (HK.out.trans HKW.out fun b hb hn hm => by
        rcases HFW.out b (List.mem_cons_of_mem _ hm) with e | e
        · exact hn e
        · omega)
      clear c0 c1 f1 hb2 f2 HK2 HC0 hkd TK HEr
      by_cases hE : E = 0
      case neg =>
        have q1 : (E != 0) = true := bne_iff_ne.2 hE
        have HFE : Hid (feedP r s = (l.map (·.1), r2, E)) := Lib.hid (by rw [HFD.out, HX.out, if_pos hE]; simp)
        have HZ : Hid (FeedQ p r s (p :: fp0) w (.returned (.tuple #[u6, .int .i64 E])) (w2.setCell ⟨p, 1, none⟩ (.bool true))) := Lib.hid (by
          have ho := (HO.out.step (fp' := []) HRD.out HKW.out (by simp)).setP (o := 1) (u := .bool true) HB2.out
          refine ⟨u6, l, by rw [HFE.out], by rw [HFE.out], fun x hx => (HM.out x hx).1, ⟨[p], ho, fun b hb => .inl (by simp at hb; simp [hb]), fun h => absurd (by rw [HFE.out] at h; exact h) hE, fun _ => ⟨g1, by rw [setCell_heap HB2.out]; rfl⟩⟩, fun x hx => (HM.out x hx).2, HKA.out.setCell (.inr (by simp)) _⟩)
        obtain ⟨oa, oc, hov⟩ := row_slice HO.out.row
        subst hov
        clear hE HX HINV
        go_wp2
        refine bodyPost_ret (v := .tuple #[.slice oa l.length oc, .int .i64 E]) (by simp [results, Tryz.results13, go_sem]) rfl ?_
        exact HZ.out
      subst hE
      have q1 : ((0 : Int) != 0) = false := rfl
      obtain ⟨hiF, hiT, hans⟩ := HINV.out rfl
      obtain ⟨fp', hr2, hf2'⟩ := HS2.out rfl
      have hf2 : ∀ b ∈ fp', b ∈ fp1 ∨ wr.heap.size ≤ b := hf2'
      clear hf2'
      cases q with
      | false =>
        have HFE : Hid (feedP r s = (l.map (·.1) ++ (feedP r2 (s.drop (i + 1))).1, (feedP r2 (s.drop (i + 1))).2)) := Lib.hid (by rw [HFD.out, HX.out, if_neg (by simp), if_neg (by simp)])
        have HO2 := Lib.hid (HO.out.step HRD.out HKW.out hf2)
        have HR2 : Hid (RrAt p r2 (p :: fp') w2 ∧ RI r2 ∧ r2.ans = false ∧ r2.cnt ≤ r.cnt + (i + 1) ∧ l.length ≤ i + 1 ∧ ∀ b ∈ (p :: fp'), b ∈ (p :: fp0) ∨ w.heap.size ≤ b) := Lib.hid (by
          refine ⟨⟨g1, fp', HB2.out, hr2, fun hm => ?_, rfl⟩, hiF rfl, hans.trans HRI.out.1, by have := HCNT.out; have := HRI.out.2; omega, by omega, fun b hb => ?_⟩
          · rcases hf2 p hm with e | e
            · exact HP1.out.2 e
            · have := (Array.getElem?_eq_some_iff.1 HP1.out.1).1; omega
          · rcases List.mem_cons.1 hb with rfl | hb
            · exact .inl (by simp)
            · rcases hf2 b hb with e | e
              · exact HFW.out b (List.mem_cons_of_mem _ e)
              · exact .inr (Nat.le_trans HK.out.size e))
        clear hiF hiT hans hr2 hf2 HX HINV HS2
        go_wp2
        go_roundg (s.length - (i + 1))
        case rel => exact ⟨i + 1, r2, l, p :: fp', by go_num, rfl, by omega, HFE, HR2, HO2, HM, HKA⟩
        case measure => omega
      | true =>
        have hrw := hiT rfl
        obtain ⟨m, pa, hfst⟩ := hrw.first (hans.trans HRI.out.1)
        obtain ⟨bx, lv, fv, hv, bv, hc2, rfl⟩ := hr2
        have HO2 := Lib.hid (HO.out.step HRD.out HKW.out hf2)
        have hfv := hc2.first
        rw [hfst] at hfv
        obtain ⟨fb, fcap, fcs, ffz, rfl, hfb, hfc, hfe⟩ : ∃ b cap cs fz, fv = .slice (some ⟨b, 0, none⟩) [m, pa].length cap ∧ w2.heap[b]? = some (.cells cs 9 fz) ∧ [m, pa].length ≤ cap ∧ ∀ (j : Nat) l, [m, pa][j]? = some l → cs[j]? = some (S l) := by
          rcases hfv with ⟨_, h⟩ | h
          · cases h
          · exact h
        have e0 : w2.cell? ⟨fb, 0, none⟩ = some (S m) := by rw [cell_of_row w2 fb _ _ _ _ hfb]; exact hfe 0 m rfl
        have e1 : w2.cell? ⟨fb, 1, none⟩ = some (S pa) := by rw [cell_of_row w2 fb _ _ _ _ hfb]; exact hfe 1 pa rfl
        obtain ⟨-, -, -, -, -, g5, g6, -, g8, -, -⟩ := hc2.facts
        have hd2 : Kept (fun _ => True) w2 w2.drew := (Kept.refl _ w2).drew
        have hcv := OwnB.string (src := 81) (dst := 9) Tryz.underlying81 Tryz.underlying5 Tryz.underlying9 (hc2.kept hd2 fun _ _ => trivial).body
        have HCD := Lib.hid (hc2.kept hd2 fun _ _ => trivial)
        have HOD := Lib.hid (HO2.out.keptT hd2)
        have HMC : Hid (msgCells (r2, hv) = [S m, S pa, hv, S r2.body]) := Lib.hid (by unfold msgCells; rw [hfst]; rfl)
        obtain ⟨oa, oc, hov⟩ := row_slice HO.out.row
        subst hov
        obtain ⟨ha1, hac, hhv⟩ := row_slice hc2.hs
        subst hhv
        obtain ⟨ba1, bac, hbv⟩ := row_slice hc2.body
        subst hbv
        have hwz : w.heap.size ≤ w2.drew.heap.size := HKA.out.size
        have hl1 : l.length + 1 ≤ 1099511627776 := by omega
        have HRW := Lib.hid hrw
        have HF2 := Lib.hid hf2
        clear hiF hiT hans hc2 hfv hfb hfc hfe hd2 HS2 hrw hf2
        have HPD : Hid (w2.drew.heap[p]? = some (.cells #[.pointer (some ⟨g1, 0, none⟩), .bool false] 76 (0, 0))) := Lib.hid HB2.out
        have HFE : Hid (feedP r s = ((l ++ [(r2, Value.slice ha1 r2.hs.length hac)]).map (fun x => x.1) ++ (feedP (begin' false) (s.drop (i + 1))).1, (feedP (begin' false) (s.drop (i + 1))).2)) := Lib.hid (by rw [HFD.out, HX.out, if_neg (by simp), if_pos rfl]; simp)
        have HM2 : Hid (∀ x ∈ l ++ [(r2, Value.slice ha1 r2.hs.length hac)], RW x.1 ∧ ∀ b, x.2.ownBlock = some b → b ∈ (p :: fp0) ∨ w.heap.size ≤ b) := Lib.hid (by
          intro x hx
          rcases List.mem_append.1 hx with hx | hx
          · exact HM.out x hx
          · obtain rfl : x = (r2, .slice ha1 r2.hs.length hac) := by simpa using hx
            refine ⟨HRW.out, fun b hb => ?_⟩
            rcases HF2.out b (fpC_mem.2 (.inr (.inr (.inr (.inr (.inl hb)))))) with e | e
            · exact HFW.out b (List.mem_cons_of_mem _ e)
            · exact .inr (Nat.le_trans HK.out.size e))
        have hrb : r.cnt + (i + 1) + 1 ≤ r.cnt + (i + 1) + 1 := Nat.le_refl _
        clear HX HINV hrb
        have hss : w2.drew.cell? ⟨g1, 5, none⟩ = some (.slice (some ⟨fb, 0, none⟩) 2 fcap) ∧ w2.drew.cell? ⟨g1, 6, none⟩ = some (.slice ha1 r2.hs.length hac) ∧ w2.drew.cell? ⟨g1, 8, none⟩ = some (.slice ba1 r2.body.length bac) ∧ w2.drew.cell? ⟨fb, 0, none⟩ = some (S m) ∧ w2.drew.cell? ⟨fb, 1, none⟩ = some (S pa) ∧ (convert 81 9 (.slice ba1 r2.body.length bac)).run Tryz.prog w2.drew = .ok (.string ⟨r2.body.toArray⟩) w2.drew := ⟨g5, g6, g8, e0, e1, hcv⟩
        have hg1l : g1 < w2.drew.heap.size := HCD.out.lt g1 (by simp [fpC])
        have hfbl : fb < w2.drew.heap.size := HCD.out.lt fb (by simp [fpC, Value.ownBlock])
        have HSW : Hid (∀ W : World, RdC g1 bx lv (.slice (some ⟨fb, 0, none⟩) 2 fcap) (.slice ha1 r2.hs.length hac) (.slice ba1 r2.body.length bac) r2 W → W.heap[fb]? = w2.drew.heap[fb]? → W.cell? ⟨g1, 5, none⟩ = some (.slice (some ⟨fb, 0, none⟩) 2 fcap) ∧ W.cell? ⟨g1, 6, none⟩ = some (.slice ha1 r2.hs.length hac) ∧ W.cell? ⟨g1, 8, none⟩ = some (.slice ba1 r2.body.length bac) ∧ W.cell? ⟨fb, 0, none⟩ = some (S m) ∧ W.cell? ⟨fb, 1, none⟩ = some (S pa) ∧ (convert 81 9 (.slice ba1 r2.body.length bac)).run Tryz.prog W = .ok (.string ⟨r2.body.toArray⟩) W) := Lib.hid fun W hc hf => by
          obtain ⟨-, -, -, -, -, x5, x6, -, x8, -, -⟩ := hc.facts
          refine ⟨x5, x6, x8, ?_, ?_, OwnB.string (src := 81) (dst := 9) Tryz.underlying81 Tryz.underlying5 Tryz.underlying9 hc.body⟩
          · rw [World.cell?_of_block (a := ⟨fb, 0, none⟩) hf]; exact e0
          · rw [World.cell?_of_block (a := ⟨fb, 1, none⟩) hf]; exact e1
        have HSA : Hid (∀ o, (w2.drew.alloc o).cell? ⟨g1, 5, none⟩ = some (.slice (some ⟨fb, 0, none⟩) 2 fcap) ∧ (w2.drew.alloc o).cell? ⟨g1, 6, none⟩ = some (.slice ha1 r2.hs.length hac) ∧ (w2.drew.alloc o).cell? ⟨g1, 8, none⟩ = some (.slice ba1 r2.body.length bac) ∧ (w2.drew.alloc o).cell? ⟨fb, 0, none⟩ = some (S m) ∧ (w2.drew.alloc o).cell? ⟨fb, 1, none⟩ = some (S pa) ∧ (convert 81 9 (.slice ba1 r2.body.length bac)).run Tryz.prog (w2.drew.alloc o) = .ok (.string ⟨r2.body.toArray⟩) (w2.drew.alloc o)) := Lib.hid fun o => HSW.out _ (HCD.out.kept (ok := fun _ => True) ((Kept.refl _ _).alloc o) fun _ _ => trivial) (((Kept.refl (fun _ => True) w2.drew).alloc o).block fb hfbl trivial)
        have HFB : Hid (∀ w3 : World, Below w.heap.size w2.drew w3 → KeptRow (Value.slice oa l.length oc).ownBlock w2.drew w3 → w3.cell? ⟨g1, 5, none⟩ = some (.slice (some ⟨fb, 0, none⟩) 2 fcap) ∧ w3.cell? ⟨g1, 6, none⟩ = some (.slice ha1 r2.hs.length hac) ∧ w3.cell? ⟨g1, 8, none⟩ = some (.slice ba1 r2.body.length bac) ∧ w3.cell? ⟨fb, 0, none⟩ = some (S m) ∧ w3.cell? ⟨fb, 1, none⟩ = some (S pa) ∧ (convert 81 9 (.slice ba1 r2.body.length bac)).run Tryz.prog w3 = .ok (.string ⟨r2.body.toArray⟩) w3) := Lib.hid fun w3 hb hk => by
          have n1 : ∀ b ∈ fpC g1 bx lv (.slice (some ⟨fb, 0, none⟩) 2 fcap) (.slice ha1 r2.hs.length hac) (.slice ba1 r2.body.length bac), (Value.slice oa l.length oc).ownBlock ≠ some b := fun b hm e => HOD.out.apart_row HCD.out e hm
          have hkk : Kept (fun b => (Value.slice oa l.length oc).ownBlock ≠ some b) w2.drew w3 := ⟨hb.os, hb.tape, hb.output, hk.1, fun k hk' ho => hk.2 k hk' fun e => ho e.symm⟩
          exact HSW.out w3 (HCD.out.kept hkk n1) (hkk.block fb hfbl (n1 fb (by simp [fpC, Value.ownBlock])))
        go_wp2_with fail
        go_region_held3 (fun wz => wz.cell? ⟨g1, 5, none⟩ = some (.slice (some ⟨fb, 0, none⟩) 2 fcap) ∧ wz.cell? ⟨g1, 6, none⟩ = some (.slice ha1 r2.hs.length hac) ∧ wz.cell? ⟨g1, 8, none⟩ = some (.slice ba1 r2.body.length bac) ∧ wz.cell? ⟨fb, 0, none⟩ = some (S m) ∧ wz.cell? ⟨fb, 1, none⟩ = some (S pa) ∧ (convert 81 9 (.slice ba1 r2.body.length bac)).run Tryz.prog wz = .ok (.string ⟨r2.body.toArray⟩) wz) (first | exact hss | exact HSA.out _ | go_keep)
          (first
            | (refine step_pushOne 39 50 Tryz.underlying39 infoMsg rfl (by decide) rfl _ _ rfl w.heap.size (.slice oa l.length oc) l.length (outCells l) [S m, S pa, .slice ha1 r2.hs.length hac, S r2.body] w2.drew _ rfl rfl rfl (by intro u hu; simp at hu; rcases hu with rfl | rfl | rfl | rfl <;> rfl) 1 _ rfl rfl rfl HOD.out.row hl1 (by decide) hwz ?_; intro v' w3 k1 k2 k3; have hss := HFB.out w3 k2 k3.kept; have HK3 := Lib.hid (And.intro k1 (And.intro k2 k3)); obtain ⟨va, vc, rfl⟩ := row_slice k1; clear k1 k2 k3))
        obtain ⟨k1, k2, k3⟩ := HK3.out
        have HPU := Lib.hid (fun fq hq => HOD.out.push HCD.out HPD.out HRW.out.hs (by rw [HMC.out]; exact k1) k2 k3 fq hq)
        have HKP : Hid (Kept (fun b => b < w.heap.size) w2.drew w3) := Lib.hid ⟨k2.os, k2.tape, k2.output, k3.kept.1, fun k _ ho => k2.block k ho⟩
        have HP3 : Hid (w3.heap[p]? = some (.cells #[.pointer (some ⟨g1, 0, none⟩), .bool false] 76 (0, 0))) := Lib.hid ((k3.kept.2 p (Array.getElem?_eq_some_iff.1 HPD.out).1 (fun e => by obtain ⟨y, h2⟩ := own_cells HOD.out.row e.symm; exact ty_ne HPD.out h2 (by decide) rfl)).trans HPD.out)
        clear k1 k2 k3 hss HFB HSW HSA hcv g5 g6 g8 e0 e1
        have BG := Lib.hid (begin_any false w3)
        go_wp2_with fail
        refine BG.out.mono ?_
        rintro e w4 ⟨g4, fp4, rfl, hr4, hf4, hk4⟩
        have hb4 : w4.heap[p]? = some (.cells #[.pointer (some ⟨g1, 0, none⟩), .bool false] 76 (0, 0)) := (hk4.block p (Array.getElem?_eq_some_iff.1 HP3.out).1 trivial).trans HP3.out
        have d0 : w4.cell? ⟨p, 0, none⟩ = some (.pointer (some ⟨g1, 0, none⟩)) := by rw [cell_of_row w4 p _ _ _ (0, 0) hb4]; rfl
        have d9 : w4.frozen? ⟨p, 0, none⟩ = false := frozen_row hb4 0
        have hp3 : p < w3.heap.size := (Array.getElem?_eq_some_iff.1 HP3.out).1
        have hpf : p ∉ fp4 := fun hm => by have := hf4 p hm; omega
        have hk5 : Kept (· ≠ p) w4 (w4.setCell ⟨p, 0, none⟩ (.pointer (some ⟨g4, 0, none⟩))) := (Kept.refl _ w4).setCell (.inr (by simp)) _
        have hz23 : w2.drew.heap.size ≤ w3.heap.size := HKP.out.size
        have HO5 : Hid (Outs w.heap.size (.slice va (l.length + 1) vc) (l ++ [(r2, .slice ha1 r2.hs.length hac)]) (p :: fp4) (w4.setCell ⟨p, 0, none⟩ (.pointer (some ⟨g4, 0, none⟩)))) := Lib.hid (((HPU.out fp4 fun b hb => Nat.le_trans hz23 (hf4 b hb)).keptT hk4).setP hb4)
        have HK5 : Hid (Kept (· ∉ (p :: fp0)) w (w4.setCell ⟨p, 0, none⟩ (.pointer (some ⟨g4, 0, none⟩)))) := Lib.hid ((((HKA.out.drew).trans HKP.out fun b hb _ => hb).tr (hk4.mono fun _ _ _ => trivial)).setCell (.inr (by simp)) _)
        have HR5 : Hid (RrAt p (begin' false) (p :: fp4) (w4.setCell ⟨p, 0, none⟩ (.pointer (some ⟨g4, 0, none⟩))) ∧ RI (begin' false) ∧ (begin' false).ans = false ∧ (begin' false).cnt ≤ r.cnt + (i + 1) ∧ (l ++ [(r2, Value.slice ha1 r2.hs.length hac)]).length ≤ i + 1 ∧ ∀ b ∈ (p :: fp4), b ∈ (p :: fp0) ∨ w.heap.size ≤ b) := Lib.hid (by
          refine ⟨⟨g4, fp4, by rw [setCell_heap hb4]; rfl, hr4.kept hk5 fun b hb e => hpf (e ▸ hb), hpf, rfl⟩, RI.begin false, rfl, Nat.zero_le _, by rw [List.length_append]; simp; omega, fun b hb => ?_⟩
          rcases List.mem_cons.1 hb with rfl | hb
          · exact .inl (by simp)
          · exact .inr (Nat.le_trans (Nat.le_trans hwz hz23) (hf4 b hb)))
        have HOV : Hid ((l ++ [(r2, Value.slice ha1 r2.hs.length hac)]).length = l.length + 1) := Lib.hid (by simp)
        clear hr4 hf4 hk4 hb4 hk5 hpf hz23
        go_wp2
        go_roundg (s.length - (i + 1))
        case rel => exact ⟨i + 1, begin' false, l ++ [(r2, .slice ha1 r2.hs.length hac)], p :: fp4, by go_num, rfl, by omega, HFE, HR5, HO5, HM2, HK5⟩
        case measure => omega
    · obtain rfl : i = s.length := by omega
      have HFE : Hid (feedP r s = (l.map (·.1), rr, 0)) := Lib.hid (by rw [HFD.out, List.drop_length]; simp [feedP])
      have HZ : Hid (∀ ov, Outs w.heap.size ov l (p :: fp1) wr → FeedQ p r s (p :: fp0) w (.returned (.tuple #[ov, .int .i64 0])) wr) := Lib.hid fun ov ho => by
        refine ⟨ov, l, by rw [HFE.out], by rw [HFE.out], fun x hx => (HM.out x hx).1, ⟨p :: fp1, ho, hfw, fun _ => by rw [HFE.out]; exact ⟨⟨g1, fp1, hb1, hrd1, hnp1, rfl⟩, hri⟩, fun h => absurd (by rw [HFE.out]) h⟩, fun x hx => (HM.out x hx).2, HK.out⟩
      clear hb1 hrd1 hnp1 hri hra hrc hfw
      have HZ2 := Lib.hid (HZ.out _ HO.out)
      obtain ⟨oa, oc, hov⟩ := row_slice HO.out.row
      subst hov
      go_wp2
      refine bodyPost_ret (v := .tuple #[.slice oa l.length oc, .int .i64 0]) (by simp [results, Tryz.results13, go_sem]) rfl ?_
      exact HZ2.out
end Go.Proofs.YtaomhkgdbobpkaaGreatDoor
