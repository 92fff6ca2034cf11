/- What the proof of this law needs, part 9: walks of the program's functions and plain laws (texts JoOwnW, JoGet, JoB1). -/
import Derived.Test.YtpcgfhleloonfaaGreatDoorZb8
import Derived.Lib.Builder
namespace Go.Proofs.YtpcgfhleloonfaaGreatDoor
open Go.RowKit Jo
/-- At most m names and items in each list. -/
inductive Few (m : Nat) : J → Prop where
  | mk (k n : Int) (t : List UInt8) (ns : List (List UInt8)) (xs : List J) (h1 : ns.length ≤ m) (h2 : xs.length ≤ m) (h : ∀ (j : Nat) x, xs[j]? = some x → Few m x) : Few m (.mk k n t ns xs)
theorem Few.inv {m : Nat} {x : J} (h : Few m x) : x.names.length ≤ m ∧ x.items.length ≤ m ∧ ∀ (j : Nat) y, x.items[j]? = some y → Few m y := by
  cases h with | mk k n t ns xs h1 h2 h => exact ⟨h1, h2, h⟩
theorem RowS.rd {ok : Nat → Prop} {w : World} {v : Value} {ns : List (List UInt8)} (h : RowS ok w v ns) : Rd w v ns.length (ns.map S) := by
  rcases h with ⟨a, c, rfl, rfl⟩ | ⟨b, off, cap, rfl, h1, h2, h3, h4⟩
  · exact .inl ⟨a, c, rfl, rfl, rfl⟩
  · by_cases h0 : ns.length = 0
    · exact .inl ⟨_, _, by rw [h0], h0, by rw [List.eq_nil_of_length_eq_zero h0]; rfl⟩
    · refine .inr ⟨b, off, cap, rfl, by omega, fun j u hj => ?_⟩
      rw [List.getElem?_map] at hj
      obtain ⟨l, hl, rfl⟩ := Option.map_eq_some_iff.1 hj
      exact h4 j l hl
theorem ones_S (ns : List (List UInt8)) : ∀ u ∈ ns.map S, u.oneCell' = true := by
  intro u hu
  obtain ⟨l, _, rfl⟩ := List.mem_map.1 hu
  rfl
theorem RowS.drewK {ok : Nat → Prop} {w w' : World} {v : Value} {ns : List (List UInt8)} (h : RowS ok w v ns) (hk : Kept (fun _ => True) w w') : RowS ok w' v ns := h.kept hk fun _ _ _ => trivial
set_option maxHeartbeats 8000000 in
set_option maxRecDepth 100000 in
theorem own_any : ∀ x : J, ∀ (va : Value) (ok : Nat → Prop) (w : World), JIn ok w x va → Few 1000000 x → Calls Tryz.prog 104 #[va] w (JotQ w x) := by
  refine J.ind fun k n t ns xs IH => ?_
  intro va ok w hx hf
  obtain ⟨na, nc, ia, ic, us, rfl, hr, hn, hi, h⟩ := hx.invM
  obtain ⟨hf1, hf2, hf3⟩ := hf.inv
  simp only [J.names, J.items] at hf1 hf2 hf3
  have HN := Lib.hid hn
  have HI := Lib.hid hi
  have HH := Lib.hid h
  have HIH := Lib.hid IH
  have HF3 := Lib.hid hf3
  clear hx hf hr hn hi h IH hf3
  go_enter Tryz.func104, Tryz.ntmps104
  obtain ⟨W0, hW0⟩ : ∃ W0, ((w.alloc (.cells #[.int .i64 k, .int .i64 n, S t, .slice na ns.length nc, .slice ia xs.length ic] 72)).alloc (.cells #[.int .i64 0, .int .i64 0, S [], .slice none 0 0, .slice none 0 0] 72)).alloc (.cells #[.int .i64 k, .int .i64 n, S t, .slice none 0 0, .slice none 0 0] 72) = W0 := ⟨_, rfl⟩
  have hk0 : Kept (fun _ => True) w W0 := by rw [← hW0]; exact (((Kept.refl _ w).alloc _).alloc _).alloc _
  have hz0 : W0.heap.size = w.heap.size + 3 := by rw [← hW0]; simp
  have hbox : OutAt w.heap.size k n t (.slice na ns.length nc) (.slice ia xs.length ic) W0 := by
    rw [← hW0]; exact ((OutAt.new w k n t _ _).kept (ok := fun _ => True) ((Kept.refl _ _).alloc _) trivial).kept (ok := fun _ => True) ((Kept.refl _ _).alloc _) trivial
  have hres : OutAt (w.heap.size + 1) 0 0 [] (.slice none 0 0) (.slice none 0 0) W0 := by
    rw [← hW0]
    have := (OutAt.new (w.alloc (.cells #[.int .i64 k, .int .i64 n, S t, .slice na ns.length nc, .slice ia xs.length ic] 72)) 0 0 [] (.slice none 0 0) (.slice none 0 0)).kept (ok := fun _ => True) ((Kept.refl _ _).alloc (.cells #[.int .i64 k, .int .i64 n, S t, .slice none 0 0, .slice none 0 0] 72)) trivial
    simpa using this
  have hout : OutAt (w.heap.size + 2) k n t (.slice none 0 0) (.slice none 0 0) W0 := by
    rw [← hW0]
    have := OutAt.new ((w.alloc (.cells #[.int .i64 k, .int .i64 n, S t, .slice na ns.length nc, .slice ia xs.length ic] 72)).alloc (.cells #[.int .i64 0, .int .i64 0, S [], .slice none 0 0, .slice none 0 0] 72)) k n t (.slice none 0 0) (.slice none 0 0)
    simpa using this
  have HW0 := Lib.hid hW0
  have hN0 := (HN.out.drewK hk0).rd
  clear hW0
  go_wp2_with (at_builtin; rw [HW0.out]; refine wpList_pushAll 24 9 Tryz.underlying24 infoStr rfl (by decide) rfl (.tmp 14) (.tmp 16) rfl (w.heap.size + 3) (.slice none 0 0) 0 [] _ ns.length (ns.map S) (by simp) (ones_S ns) rfl rfl hN0 (World.ownsRow_nil _ _ _ _) (by omega) (by decide) (by omega) ?_)
  intro nv w1 k1 k2 k3
  obtain ⟨nb, nl, nvc, rfl⟩ := ownsRow_slice k1
  have HOUT1 := Lib.hid (hout.below k2 (by omega))
  have HRES1 := Lib.hid (hres.below k2 (by omega))
  have HBOX1 := Lib.hid (hbox.below k2 (by omega))
  have hk01 : Kept (fun _ => True) w w1 := hk0.trans (ok2 := fun i => i < w.heap.size + 3) ⟨k2.os, k2.tape, k2.output, k2.size, fun i _ h => k2.block i h⟩ (fun i hi _ => by omega)
  have hks : Kept (· ≠ w.heap.size + 2) w1 (w1.setCell ⟨w.heap.size + 2, 3, none⟩ (.slice nb nl nvc)) := (Kept.refl _ w1).setCell (.inr (by simp)) _
  have hz1 : w.heap.size + 3 ≤ w1.heap.size := by have := k2.size; omega
  obtain ⟨o0, o1, o2, o3, o4, o5, o6⟩ := HOUT1.out.facts
  obtain ⟨W2, hW2⟩ : ∃ W2, w1.setCell ⟨w.heap.size + 2, 3, none⟩ (.slice nb nl nvc) = W2 := ⟨_, rfl⟩
  have HOUT2 := Lib.hid (HOUT1.out.setNames (.slice nb nl nvc))
  have HRES2 := Lib.hid (HRES1.out.kept hks (by omega))
  have HBOX2 := Lib.hid (HBOX1.out.kept hks (by omega))
  have hz2 : w1.heap.size = W2.heap.size := by rw [← hW2]; simp [World.setCell]
  have hk2 : Kept (fun _ => True) w W2 := by
    rw [← hW2]
    exact hk01.trans hks fun i hi _ => by omega
  have HNV : Hid (W2.ownsRow (w.heap.size + 3) 9 1 (.slice nb nl nvc) ns.length (ns.map S)) := Lib.hid (by
    have := ownsRow_kept k1 hks (fun b hb => by have := (k1.lt b hb).1; omega)
    rw [hW2] at this
    simpa using this)
  rw [hW2] at HOUT2 HRES2 HBOX2
  have HW2 := Lib.hid hW2
  obtain ⟨b0, b1, b2, b3, b4, b5, b6⟩ := HBOX1.out.facts
  have HW2' : Hid (w1.setCell ⟨w.heap.size + 1 + 1, 3, none⟩ (.slice nb nl nvc) = W2) := Lib.hid hW2
  clear HOUT1 HRES1 HBOX1 hout hres hbox k1 k2 k3 hks hW2 hk01 hN0 HW0
  go_wp2_with fail
  go_loopg [22] xs.length (fun q i wr => ∃ (j : Nat) (iv : Value), i = .int .i64 j ∧ q = xs.length - j ∧ j ≤ xs.length ∧ OutAt (w.heap.size + 2) k n t (.slice nb nl nvc) iv wr ∧ OutAt (w.heap.size + 1) 0 0 [] (.slice none 0 0) (.slice none 0 0) wr ∧
    OwnJ (w.heap.size + 3) (Value.slice nb nl nvc).ownBlock iv (xs.take j) wr ∧ wr.ownsRow (w.heap.size + 3) 9 1 (.slice nb nl nvc) ns.length (ns.map S) ∧ Hid (∀ b, (Value.slice nb nl nvc).ownBlock = some b → some b ≠ iv.ownBlock) ∧ w.heap.size + 3 ≤ wr.heap.size ∧ Kept (fun _ => True) w wr)
  case atStart =>
    rw [HW2'.out]
    exact ⟨0, _, rfl, by omega, Nat.zero_le _, HOUT2.out, HRES2.out, OwnJ.nil _ _ _, HNV.out, Lib.hid (fun b hb => by simp [Value.ownBlock]), by omega, hk2⟩
  case round =>
    clear b0 b1 b2 b3 b4 b5 b6 o0 o1 o2 o3 o4 o5 o6 HW2' HOUT2 HRES2 HBOX2 HNV hk2 hz2 hz1 HW2
    obtain ⟨j, iv, rfl, rfl, hjl, hout, hres, ho, hnv, hne, hz, hk⟩ := hrel
    have HOUT := Lib.hid hout
    have HRES := Lib.hid hres
    have HO := Lib.hid ho
    have HNV := Lib.hid hnv
    clear hout hres ho hnv
    by_cases hlt : j < xs.length
    · obtain ⟨b, off, rfl, hb, -, -, kx, nx, tx, nax, nlx, ncx, iax, ilx, icx, e1, c0, c1, c2, c3, c4⟩ := HI.out.at hlt
      replace c0 := (hk.cell hb trivial).trans c0
      replace c1 := (hk.cell hb trivial).trans c1
      replace c2 := (hk.cell hb trivial).trans c2
      replace c3 := (hk.cell hb trivial).trans c3
      replace c4 := (hk.cell hb trivial).trans c4
      obtain ⟨x, hx⟩ : ∃ x, xs[j]? = some x := ⟨xs[j]'hlt, List.getElem?_eq_getElem hlt⟩
      have hC := fun wx (hkx : Kept (fun _ => True) w wx) => HIH.out x (List.mem_of_getElem? hx) (us j) ok wx ((HH.out j x hx).kept hkx (fun _ _ _ => trivial)) (HF3.out j x hx)
      rw [e1] at hC
      have HC := Lib.hid hC
      have HX := Lib.hid hx
      -- the copy of the item in a block of its own
      have hka : Kept (fun _ => True) wr (wr.alloc (.cells #[.int .i64 kx, .int .i64 nx, S tx, .slice nax nlx ncx, .slice iax ilx icx] 72)) := (Kept.refl _ wr).alloc _
      have hit : OutAt wr.heap.size kx nx tx (.slice nax nlx ncx) (.slice iax ilx icx) (wr.alloc (.cells #[.int .i64 kx, .int .i64 nx, S tx, .slice nax nlx ncx, .slice iax ilx icx] 72)) := OutAt.new _ _ _ _ _ _
      obtain ⟨W4, hW4⟩ : ∃ W4, wr.alloc (.cells #[.int .i64 kx, .int .i64 nx, S tx, .slice nax nlx ncx, .slice iax ilx icx] 72) = W4 := ⟨_, rfl⟩
      have hz4 : W4.heap.size = wr.heap.size + 1 := by rw [← hW4]; simp
      rw [hW4] at hit hka
      have hk4 : Kept (fun _ => True) w W4 := hk.tr hka
      have HOUT4 := Lib.hid (HOUT.out.kept hka trivial)
      have HRES4 := Lib.hid (HRES.out.kept hka trivial)
      have HO4 := Lib.hid (HO.out.kept hka (fun _ _ => trivial))
      have HNV4 := Lib.hid (ownsRow_kept HNV.out hka (fun _ _ => trivial))
      have HW4 := Lib.hid hW4
      clear e1 hx hC hka HO HNV HOUT HRES hW4
      go_wp2_with fail
      rw [HW4.out]
      clear c0 c1 c2 c3 c4
      obtain ⟨o0, o1, o2, o3, o4, o5, o6⟩ := HOUT4.out.facts
      obtain ⟨i0, i1, i2, i3, i4, i5, i6⟩ := hit.facts
      obtain ⟨us2, fss, q1, q2, q3, q4, q5, q6⟩ := HO4.out
      have HQ := Lib.hid (And.intro q1 (And.intro q2 (And.intro q3 (And.intro q4 (And.intro q5 (And.intro q6 (mem_flat_lt q2 q4)))))))
      have htl : (xs.take j).length = j := by rw [List.length_take]; omega
      have HTL := Lib.hid htl
      have hkd : Kept (fun _ => True) W4 W4.drew := (Kept.refl _ W4).drew
      have HIT := Lib.hid hit
      clear q1 q2 q3 q4 q5 q6 HO4 htl hit
      go_region_law (first
        | (refine step_call1 104 (.tmp 28) 72 rfl rfl (fun w => by kernel_rfl) rfl (HC.out _ (hk4.tr hkd)) ?_
           rintro e w5 ⟨⟨u, fp, rfl, hown, hnd, hfp⟩, hk5⟩
           obtain ⟨xa, xl, xc, ya, yl, yc, rfl⟩ := hown.form2
           have hz5 : W4.heap.size ≤ w5.heap.size := hk5.size
           have hz6 : w.heap.size + 2 < w5.heap.size := by omega
           have HOUT5 := Lib.hid (HOUT4.out.kept (hkd.tr hk5) trivial)
           have HRES5 := Lib.hid (HRES4.out.kept (hkd.tr hk5) trivial)
           obtain ⟨p0, p1, p2, p3, p4, p5, p6⟩ := HOUT5.out.facts
           have HN5 := Lib.hid (And.intro hown (And.intro hnd hfp))
           have HK5 := Lib.hid (hkd.tr hk5)
           clear hown hnd hfp hk5
           refine ⟨_, rfl, ?_⟩)
        | (refine step_pushOne 70 72 Tryz.underlying70 infoJot rfl (by decide) rfl (.tmp 27) (.tmp 30) rfl (w.heap.size + 3) iv (xs.take j).length (jotCells us2) (jotV x.kind x.num x.text (.slice xa xl xc) (.slice ya yl yc)).cells.toList w5 _ rfl rfl rfl HN5.out.1.ones 1 _ rfl rfl rfl (ownsRow_kept HQ.out.2.2.1 HK5.out (fun _ _ => trivial)) (by have := HTL.out; omega) (by decide) (by omega) ?_
           intro v' w8 k1 k2 k3
           obtain ⟨vb, vc, rfl⟩ := ownsRow_some k1
           have HOUT8 := Lib.hid (HOUT5.out.below k2 (by omega))
           have HRES8 := Lib.hid (HRES5.out.below k2 (by omega))
           obtain ⟨s0, s1, s2, s3, s4, s5, s6⟩ := HOUT8.out.facts
           have HK8 := Lib.hid (And.intro k1 (And.intro k2 k3))
           clear k1 k2 k3))
      all_goals
        have HX' := HX.out
        have hks8 : Kept (· ≠ w.heap.size + 2) w8 (w8.setCell ⟨w.heap.size + 2, 4, none⟩ (.slice (some ⟨vb, 0, none⟩) (j + 1) vc)) := (Kept.refl _ _).setCell (.inr (by simp)) _
        have hO : OwnJ (w.heap.size + 3) (Value.slice nb nl nvc).ownBlock (.slice (some ⟨vb, 0, none⟩) ((xs.take j).length + 1) vc) (xs.take j ++ [x]) w8 := by
          obtain ⟨q1, q2, q3, q4, q5, q6, q7⟩ := HQ.out
          obtain ⟨hown, hnd, hfp⟩ := HN5.out
          have hfp' : ∀ b ∈ fp, W4.heap.size ≤ b := fun b hb => by have := hfp b hb; simpa using this
          refine ownJ_push q1 q2 (jown_kept q2 q4 HK5.out.size fun b hb => HK5.out.block b (q7 b hb) trivial) q5 q6 hown hnd (fun b hb => ⟨?_, ?_, ?_, ?_⟩) HK8.out.1 HK8.out.2.2
          · have h := hfp' b hb; omega
          · intro e
            have h := hfp' b hb
            have := (q3.lt b e.symm).2
            omega
          · intro e
            have h := hfp' b hb
            have := (HNV4.out.lt b e.symm).2
            omega
          · intro hin
            have h := hfp' b hb
            have := q7 b hin
            omega
        have hrow : w8.ownsRow (w.heap.size + 3) 9 1 (.slice nb nl nvc) ns.length (ns.map S) := by
          refine ownsRow_keptL (ownsRow_kept HNV4.out HK5.out (fun _ _ => trivial)) HK8.out.2.1.size fun b hb => ?_
          refine HK8.out.2.2.kept.2 b ?_ fun e => hne.out b hb e
          exact Nat.lt_of_lt_of_le (HNV4.out.lt b hb).2 HK5.out.size
        have hne8 : ∀ b, (Value.slice nb nl nvc).ownBlock = some b → some b ≠ (Value.slice (some ⟨vb, 0, none⟩) (j + 1) vc).ownBlock := by
          intro b hb e
          have h2 := HK8.out.2.2
          rcases h2 with ⟨e2, _⟩ | ⟨e2, _⟩
          · exact hne.out b hb (by rw [← e2]; rw [HTL.out]; exact e)
          · have := e2 b (by rw [HTL.out]; exact e.symm)
            have := (HNV4.out.lt b hb).2
            have := HK5.out.size
            omega
        have hk8 : Kept (fun _ => True) w w8 := (hk4.tr HK5.out).trans (ok2 := fun k => k < w.heap.size + 3) ⟨HK8.out.2.1.os, HK8.out.2.1.tape, HK8.out.2.1.output, HK8.out.2.1.size, fun k _ h => HK8.out.2.1.block k h⟩ fun i hi _ => by omega
        have ht : xs.take j ++ [x] = xs.take (j + 1) := by rw [List.take_add_one, HX']; rfl
        rw [ht, HTL.out] at hO
        have HO8 := Lib.hid (hO.kept hks8 (fun b hb => by omega))
        have HR8 := Lib.hid (ownsRow_kept hrow hks8 (fun b hb => by have := (hrow.lt b hb).1; omega))
        have HNE8 := Lib.hid hne8
        have hz8 := HK8.out.2.1.size
        have HRES9 := Lib.hid (HRES8.out.kept hks8 (by omega))
        clear hO ht HX' hrow hne8 hks8
        go_wp2
        go_roundg (xs.length - (j + 1))
        case rel => exact ⟨j + 1, _, by go_num, rfl, by omega, HOUT8.out.setItems _, HRES9.out, HO8.out, HR8.out, HNE8, by simp [World.setCell]; omega, hk8.setCell (.inl (by simp; omega)) _⟩
        case measure => omega
    · obtain rfl : j = xs.length := by omega
      have HO2 := Lib.hid (show OwnJ (w.heap.size + 3) (Value.slice nb nl nvc).ownBlock iv xs wr by have := HO.out; rwa [List.take_of_length_le (Nat.le_refl _)] at this)
      obtain ⟨ja, jl, jc, rfl⟩ := HO2.out.slice
      obtain ⟨o0, o1, o2, o3, o4, o5, o6⟩ := HOUT.out.facts
      obtain ⟨g0, g1, g2, g3, g4, g5, g6⟩ := HRES.out.facts
      obtain ⟨f0, f1, f2, f3, f4⟩ := HRES.out.free
      clear HO
      go_wp2
      refine bodyPost_ret (v := jotV k n t (.slice nb nl nvc) (.slice ja jl jc)) (by simp [results, Tryz.results104, go_sem, g0, g1, g2, g3, g4]) rfl ?_
      exact JotQ.of (g := w.heap.size + 1) (HO2.out.value k n t (ns := ns) HNV.out hne.out) (by omega) (by omega) (by omega) hk (kept_box _ _ _ _ _ _ _)
end Go.Proofs.YtpcgfhleloonfaaGreatDoor
namespace Go.Proofs.YtpcgfhleloonfaaGreatDoor
open Go.RowKit Jo
/-- What stands under a name. -/
def goG (name : List UInt8) : List (List UInt8) → List J → Option J
  | [], _ => none
  | n :: ns, xs => if n = name then xs.head? else goG name ns xs.tail
def getP (x : J) (name : List UInt8) : Option J := if x.kind = 6 then goG name x.names x.items else none
theorem goG_at {name : List UInt8} : ∀ {ns : List (List UInt8)} {xs : List J} {j : Nat}, (∀ i, i < j → ns[i]? ≠ some name) → ns[j]? = some name → goG name ns xs = xs[j]? := by
  intro ns
  induction ns with
  | nil => intro xs j h1 h2; simp at h2
  | cons n ns ih =>
    intro xs j h1 h2
    unfold goG
    cases j with
    | zero =>
      obtain rfl : n = name := by simpa using h2
      rw [if_pos rfl]
      cases xs <;> rfl
    | succ j =>
      rw [if_neg (fun e => h1 0 (by omega) (by simp [e])), ih (j := j) (fun i hi => by have := h1 (i + 1) (by omega); simpa using this) (by simpa using h2)]
      cases xs <;> simp
theorem goG_none {name : List UInt8} : ∀ {ns : List (List UInt8)} {xs : List J}, (∀ i : Nat, i < ns.length → ns[i]? ≠ some name) → goG name ns xs = none := by
  intro ns
  induction ns with
  | nil => intro xs h; rfl
  | cons n ns ih =>
    intro xs h
    unfold goG
    rw [if_neg (fun e => h 0 (by simp) (by simp [e])), ih (fun i hi => by have := h (i + 1) (by simp; omega); simpa using this)]
/-- What Get leaves: all lists of what it hands out are new. -/
def GetQ (w : World) (r : Option J) (e : Ending) (w' : World) : Prop := (∃ v fp, e = .returned (.tuple #[v, .bool r.isSome]) ∧ JOwn w' (r.getD J.null) v fp ∧ fp.Nodup ∧ ∀ b ∈ fp, w.heap.size ≤ b) ∧ Kept (fun _ => True) w w'
theorem JOwn.null (w : World) : JOwn w J.null (jotV 0 0 [] (.slice none 0 0) (.slice none 0 0)) [] := .mk 0 0 [] [] [] _ _ [] [] rfl rfl (World.ownsRow_nil _ _ _ _) (World.ownsRow_nil _ _ _ _) (fun j x h => by simp at h)
theorem GetQ.none {w w' : World} {r : Option J} (hr : r = none) (hk : Kept (fun _ => True) w w') : GetQ w r (.returned (.tuple #[jotV 0 0 [] (.slice none 0 0) (.slice none 0 0), .bool false])) w' := by
  subst hr
  exact ⟨⟨_, [], rfl, JOwn.null _, List.nodup_nil, fun b hb => by cases hb⟩, hk⟩
set_option maxHeartbeats 8000000 in
set_option maxRecDepth 100000 in
theorem Get_any (x : J) (va : Value) (name : List UInt8) (ok : Nat → Prop) (w : World) (hx : JIn ok w x va) (hf : Few 1000000 x) : Calls Tryz.prog 77 #[va, S name] w (GetQ w (getP x name)) := by
  obtain ⟨k, n, t, ns, xs⟩ := x
  obtain ⟨na, nc, ia, ic, us, rfl, hr, hn, hi, h⟩ := hx.invM
  obtain ⟨hf1, hf2, hf3⟩ := hf.inv
  simp only [J.names, J.items] at hf1 hf2 hf3
  have HN := Lib.hid hn
  have HI := Lib.hid hi
  have HH := Lib.hid h
  have HF3 := Lib.hid hf3
  clear hx hf hr hn hi h hf3
  have HR : Hid (getP (.mk k n t ns xs) name = if k = 6 then goG name ns xs else none) := Lib.hid rfl
  obtain ⟨R, hR⟩ : ∃ R, getP (.mk k n t ns xs) name = R := ⟨_, rfl⟩
  rw [hR] at HR ⊢
  clear hR
  have hbox0 : OutAt w.heap.size k n t (.slice na ns.length nc) (.slice ia xs.length ic) ((w.alloc (.cells #[.int .i64 k, .int .i64 n, S t, .slice na ns.length nc, .slice ia xs.length ic] 72)).alloc (.cells #[.int .i64 0, .int .i64 0, S [], .slice none 0 0, .slice none 0 0] 72)) := (OutAt.new w k n t _ _).kept (ok := fun _ => True) ((Kept.refl _ _).alloc _) trivial
  have hres0 : OutAt (w.heap.size + 1) 0 0 [] (.slice none 0 0) (.slice none 0 0) ((w.alloc (.cells #[.int .i64 k, .int .i64 n, S t, .slice na ns.length nc, .slice ia xs.length ic] 72)).alloc (.cells #[.int .i64 0, .int .i64 0, S [], .slice none 0 0, .slice none 0 0] 72)) := by
    have := OutAt.new (w.alloc (.cells #[.int .i64 k, .int .i64 n, S t, .slice na ns.length nc, .slice ia xs.length ic] 72)) 0 0 [] (.slice none 0 0) (.slice none 0 0)
    simpa using this
  have HB := Lib.hid hbox0
  have HS := Lib.hid hres0
  have hk0 : Kept (fun _ => True) w ((w.alloc (.cells #[.int .i64 k, .int .i64 n, S t, .slice na ns.length nc, .slice ia xs.length ic] 72)).alloc (.cells #[.int .i64 0, .int .i64 0, S [], .slice none 0 0, .slice none 0 0] 72)) := ((Kept.refl _ w).alloc _).alloc _
  clear hbox0 hres0
  by_cases hk6 : k = 6
  case neg =>
    have q : (k != 6) = true := by simpa using hk6
    have q2 : (k == 6) = false := by simpa using hk6
    have HN : Hid (R = none) := Lib.hid (by rw [HR.out, if_neg hk6])
    have HK0 := Lib.hid hk0
    clear hk0 hk6
    go_enter Tryz.func77, Tryz.ntmps77
    go_wp2
    refine bodyPost_ret (v := .tuple #[jotV 0 0 [] (.slice none 0 0) (.slice none 0 0), .bool false]) (by simp [results, Tryz.results77, go_sem]) rfl ?_
    exact GetQ.none HN.out HK0.out
  subst hk6
  have HR2 : Hid (R = goG name ns xs) := Lib.hid (by rw [HR.out, if_pos rfl])
  clear HR
  have HK0 := Lib.hid hk0
  clear hk0
  go_enter Tryz.func77, Tryz.ntmps77
  go_wp2
  go_loopg [15] ns.length (fun q i wr => ∃ j : Nat, i = .int .i64 j ∧ q = ns.length - j ∧ j ≤ ns.length ∧ Hid (∀ i, i < j → ns[i]? ≠ some name) ∧ OutAt w.heap.size 6 n t (.slice na ns.length nc) (.slice ia xs.length ic) wr ∧ OutAt (w.heap.size + 1) 0 0 [] (.slice none 0 0) (.slice none 0 0) wr ∧ w.heap.size + 2 ≤ wr.heap.size ∧ Kept (fun _ => True) w wr)
  case atStart => exact ⟨0, rfl, by omega, Nat.zero_le _, Lib.hid (fun i hi => absurd hi (by omega)), HB.out, HS.out, by simp, HK0.out⟩
  case round =>
    clear HB HS HK0
    obtain ⟨j, rfl, rfl, hj, hsm, hbox, hres, hz, hk⟩ := hrel
    obtain ⟨b0, b1, b2, b3, b4, b5, b6⟩ := hbox.facts
    have HBOX := Lib.hid hbox
    have HRES := Lib.hid hres
    clear hbox hres
    by_cases hlt : j < ns.length
    · obtain ⟨b, off, rfl, hb, -, -, l, hl, hc⟩ := HN.out.at hlt
      have c1 := (hk.cell hb trivial).trans hc
      have HL := Lib.hid hl
      clear hc hl
      by_cases hll : l = name
      · subst hll
        by_cases hit : j < xs.length
        · obtain ⟨y, hy⟩ : ∃ y, xs[j]? = some y := ⟨xs[j]'hit, List.getElem?_eq_getElem hit⟩
          have HRY : Hid (R = some y) := Lib.hid (by rw [HR2.out, goG_at hsm.out HL.out, hy])
          obtain ⟨b', off', rfl, hb', -, -, kx, nx, tx, nax, nlx, ncx, iax, ilx, icx, e1, d0, d1, d2, d3, d4⟩ := HI.out.at hit
          replace d0 := (hk.cell hb' trivial).trans d0
          replace d1 := (hk.cell hb' trivial).trans d1
          replace d2 := (hk.cell hb' trivial).trans d2
          replace d3 := (hk.cell hb' trivial).trans d3
          replace d4 := (hk.cell hb' trivial).trans d4
          have hC := fun wx (hkx : Kept (fun _ => True) w wx) => own_any y (us j) ok wx ((HH.out j y hy).kept hkx (fun _ _ _ => trivial)) (HF3.out j y hy)
          rw [e1] at hC
          have HC := Lib.hid hC
          clear e1 hC hy
          go_wp2_with (refine (HC.out _ hk).mono ?_; rintro e w2 ⟨⟨v, fp, rfl, hown, hnd, hfp⟩, hk2⟩; obtain ⟨xa, xl, xc, ya, yl, yc, rfl⟩ := hown.form2; have HO := Lib.hid (And.intro hown (And.intro hnd hfp)); have HRES2 := Lib.hid (HRES.out.kept hk2 trivial); obtain ⟨f0, f1, f2, f3, f4⟩ := HRES2.out.free; obtain ⟨g0, g1, g2, g3, g4, g5, g6⟩ := HRES2.out.facts; have HK2 := Lib.hid hk2; clear hown hnd hfp hk2)
          refine bodyPost_ret (v := .tuple #[jotV y.kind y.num y.text (.slice xa xl xc) (.slice ya yl yc), .bool true]) (by simp [results, Tryz.results77, go_sem, g0, g1, g2, g3, g4]) rfl ?_
          have h5 := kept_box w2 (w.heap.size + 1) (.int .i64 y.kind) (.int .i64 y.num) (S y.text) (.slice xa xl xc) (.slice ya yl yc)
          refine ⟨⟨_, fp, by rw [HRY.out]; rfl, ?_, HO.out.2.1, fun b hb => ?_⟩, (hk.tr HK2.out).trans h5 fun i hi _ => by omega⟩
          · rw [HRY.out]
            exact HO.out.1.kept h5.size fun b hb => h5.block b (HO.out.1.lt b hb) (by have := HO.out.2.2 b hb; omega)
          · have := HO.out.2.2 b hb
            omega
        · have HRY : Hid (R = none) := Lib.hid (by rw [HR2.out, goG_at hsm.out HL.out, List.getElem?_eq_none (by omega)])
          obtain ⟨f0, f1, f2, f3, f4⟩ := HRES.out.free
          obtain ⟨g0, g1, g2, g3, g4, g5, g6⟩ := HRES.out.facts
          have q : decide (xs.length ≤ j) = true := by simp; omega
          have q2 : decide ((xs.length : Int) ≤ (j : Int)) = true := by simp; omega
          go_wp2
          refine bodyPost_ret (v := .tuple #[jotV 0 0 [] (.slice none 0 0) (.slice none 0 0), .bool false]) (by simp [results, Tryz.results77, go_sem, g0, g1, g2, g3, g4]) rfl ?_
          exact GetQ.none HRY.out (hk.trans (kept_box _ (w.heap.size + 1) _ _ _ _ _) fun i hi _ => by omega)
      · have q : (l == name) = false := by simpa using hll
        have q2 : (l != name) = true := by simpa using hll
        go_wp2
        go_roundg (ns.length - (j + 1))
        case rel => exact ⟨j + 1, by go_num, rfl, by omega, Lib.hid (fun i hi => by
          by_cases hij : i = j
          · rw [hij, HL.out]
            intro e
            exact hll (Option.some.inj e)
          · exact hsm.out i (by omega)), HBOX.out, HRES.out, hz, hk⟩
        case measure => omega
    · obtain rfl : j = ns.length := by omega
      have HRY : Hid (R = none) := Lib.hid (by rw [HR2.out, goG_none hsm.out])
      obtain ⟨f0, f1, f2, f3, f4⟩ := HRES.out.free
      obtain ⟨g0, g1, g2, g3, g4, g5, g6⟩ := HRES.out.facts
      clear hlt hsm
      go_wp2
      refine bodyPost_ret (v := .tuple #[jotV 0 0 [] (.slice none 0 0) (.slice none 0 0), .bool false]) (by simp [results, Tryz.results77, go_sem, g0, g1, g2, g3, g4]) rfl ?_
      exact GetQ.none HRY.out (hk.trans (kept_box _ (w.heap.size + 1) _ _ _ _ _) fun i hi _ => by omega)
end Go.Proofs.YtpcgfhleloonfaaGreatDoor
namespace Go.Proofs.YtpcgfhleloonfaaGreatDoor
open Go.RowKit Jo
/-- The builder at block b holds the bytes l. -/
abbrev Bd (b : Nat) (l : List UInt8) (w : World) : Prop := Lib.IsBuilder 130 5 b b (Lib.byteCells l) w
/-- .. and has been written to. -/
abbrev BdU (b : Nat) (l : List UInt8) (w : World) : Prop := Lib.BuilderAt 130 5 b b (.pointer (some ⟨b, 0, none⟩)) (Lib.byteCells l) w
def NotB (w : World) (k : Nat) : Prop := ∀ c fz, w.heap[k]? ≠ some (.cells c 5 fz)
/-- All blocks stay but the builder's and rows of bytes behind it. -/
abbrev KB (b : Nat) (w w' : World) : Prop := Kept (fun k => k < b ∨ (k ≠ b ∧ NotB w k)) w w'
theorem KB.refl (b : Nat) (w : World) : KB b w w := Kept.refl _ w
theorem KB.trans {b : Nat} {w w1 w2 : World} (h : KB b w w1) (k : KB b w1 w2) : KB b w w2 := by
  refine Kept.trans h k fun i hi ho => ?_
  rcases ho with ho | ⟨h1, h2⟩
  · exact .inl ho
  · exact .inr ⟨h1, fun c fz e => h2 c fz (((h.block i hi (.inr ⟨h1, h2⟩)).symm).trans e)⟩
theorem KB.to {b : Nat} {w w' : World} (h : KB b w w') : Kept (· < b) w w' := h.mono fun _ _ h => .inl h
theorem Bd.lt {b : Nat} {l : List UInt8} {w : World} (h : Bd b l w) : b < w.heap.size := by
  rcases h with h | h <;> exact h.lt
theorem Bd.kept {b : Nat} {l : List UInt8} {w w' : World} (h : Bd b l w) (_hz : w.heap.size ≤ w'.heap.size) (hk : ∀ k, k < w.heap.size → b ≤ k → (k = b ∨ ¬ NotB w k) → w'.heap[k]? = w.heap[k]?) : Bd b l w' := by
  have key : ∀ p, Lib.BuilderAt 130 5 b b p (Lib.byteCells l) w → Lib.BuilderAt 130 5 b b p (Lib.byteCells l) w' := by
    intro p hp
    have hlt := hp.lt
    obtain ⟨hB, v, hb, hown, hne⟩ := hp
    refine ⟨hB, v, (hk b hlt (Nat.le_refl _) (.inl rfl)).trans hb, ⟨hown.1, ?_⟩, hne⟩
    rcases hown.2 with hn | ⟨g, cap, cur, rfl, hBg, hgg, rest⟩
    · exact .inl hn
    · exact .inr ⟨g, cap, cur, rfl, hBg, (hk g (Array.getElem?_eq_some_iff.1 hgg).1 hBg (.inr fun hn => hn _ _ hgg)).trans hgg, rest⟩
  rcases h with h | h
  · exact .inl (key _ h)
  · exact .inr (key _ h)
theorem Bd.alloc {b : Nat} {l : List UInt8} {w : World} (h : Bd b l w) (o : Obj) : Bd b l (w.alloc o) := h.kept (by simp) fun k hk _ _ => Lib.alloc_old w o k hk
theorem Bd.drewN {b : Nat} {l : List UInt8} {w : World} (h : Bd b l w) (n : Nat) : Bd b l (w.drewN n) := h.kept (Nat.le_refl _) fun _ _ _ _ => rfl
theorem infoBuilder : ((Tryz.prog.info? 130).map (·.size) = some 2) := by kernel_rfl
theorem liesBuilder : liesAt Tryz.prog Tryz.prog.depth 130 (2 / Tryz.prog.cellsOf 130) 0 130 1 = true := by kernel_rfl
set_option maxHeartbeats 1000000 in
set_option maxRecDepth 100000 in
theorem copyCheck_used (b : Nat) (w : World) (h0 : w.cell? ⟨b, 0, none⟩ = some (.pointer (some ⟨b, 0, none⟩))) :
    Calls Tryz.prog 115 #[.pointer (some ⟨b, 0, none⟩)] w fun e w' => e = .returned (.tuple #[]) ∧ w' = w := by
  obtain ⟨j, hj, _⟩ := Option.map_eq_some_iff.1 infoBuilder
  go_enter Tryz.func115, Tryz.ntmps115
  go_wp2
  rw [Lib.run_neq_ptr_same w _ Tryz.underlying128 hj]
  go_wp2
  go_end0
  exact ⟨rfl, rfl⟩
set_option maxHeartbeats 1000000 in
set_option maxRecDepth 100000 in
theorem copyCheck_fresh (b : Nat) (w : World) (h0 : w.cell? ⟨b, 0, none⟩ = some (.pointer none)) (hsh : w.shape? b = some (130, 2)) (hfz : w.frozen? ⟨b, 0, none⟩ = false) :
    Calls Tryz.prog 115 #[.pointer (some ⟨b, 0, none⟩)] w fun e w' => e = .returned (.tuple #[]) ∧ w' = w.setCell ⟨b, 0, none⟩ (.pointer (some ⟨b, 0, none⟩)) := by
  obtain ⟨j, hj, hjs⟩ := Option.map_eq_some_iff.1 infoBuilder
  go_enter Tryz.func115, Tryz.ntmps115
  go_wp2
  rw [Lib.run_to_unsafe w ⟨b, 0, none⟩ Tryz.underlying128 Tryz.underlying182 hj (by rw [hjs]; decide) hsh (Nat.zero_lt_succ 1)]
  simp only [Result.andThen]
  rw [Oper.upon_value]
  go_wp2
  rw [run_callFunc_extern Tryz.func137 (by kernel_rfl) (by kernel_rfl) (by kernel_rfl) (e := Extern.AbiNoEscape.same) (by kernel_rfl)]
  rw [Lib.run_noEscape]
  simp only [Result.andThen]
  rw [Oper.upon_value]
  go_wp2
  rw [Lib.run_from_unsafe w ⟨b, 0, none⟩ Tryz.underlying182 Tryz.underlying128 hj hsh liesBuilder]
  simp only [Result.andThen]
  rw [Oper.upon_value]
  go_wp2
  go_end0
  exact ⟨rfl, rfl⟩
theorem copyCheck_any (b : Nat) (l : List UInt8) (w : World) (h : Bd b l w) : Calls Tryz.prog 115 #[.pointer (some ⟨b, 0, none⟩)] w fun e w' => e = .returned (.tuple #[]) ∧ BdU b l w' ∧ KB b w w' := by
  rcases h with h | h
  · refine (copyCheck_fresh b w h.cell0 h.shape h.frozen0).mono ?_
    rintro e w' ⟨rfl, rfl⟩
    exact ⟨rfl, h.used _, (Kept.refl _ w).setCell (.inr (by simp)) _⟩
  · refine (copyCheck_used b w h.cell0).mono ?_
    rintro e w' ⟨rfl, rfl⟩
    exact ⟨rfl, h, KB.refl _ _⟩
theorem KB.moved {b n : Nat} {v : Value} {xs : List Value} {w w' : World} (hown : w.ownsRow b 5 1 v n xs) (hb : Below b w w') (hm : KeptRow v.ownBlock w w') : KB b w w' := by
  refine ⟨hb.os, hb.tape, hb.output, hm.1, fun k hk ho => ?_⟩
  rcases ho with ho | ⟨h1, h2⟩
  · exact hb.block k ho
  · refine hm.2 k hk fun e => ?_
    rcases hown.2 with ⟨rfl, _⟩ | ⟨g, cap, cur, rfl, _, hg, _⟩
    · simp [Value.ownBlock] at e
    · obtain rfl : k = g := by simpa [Value.ownBlock] using e
      exact h2 _ _ hg
theorem BdU.row {b : Nat} {l : List UInt8} {w : World} (h : BdU b l w) : ∃ a c, w.heap[b]? = some (.cells #[.pointer (some ⟨b, 0, none⟩), .slice a l.length c] 130 (0, 0)) ∧ OwnB 5 b (.slice a l.length c) l w ∧ (Value.slice a l.length c).ownBlock ≠ some b := by
  obtain ⟨_, v, hb, hown, hne⟩ := h
  have hl : (Lib.byteCells l).length = l.length := by simp [Lib.byteCells]
  rw [hl] at hown
  rcases hown.2 with ⟨rfl, h0⟩ | ⟨g, cap, cur, rfl, _⟩
  · exact ⟨none, 0, by rw [h0]; exact hb, by rw [h0]; exact hown, hne⟩
  · exact ⟨_, _, hb, hown, hne⟩
theorem BdU.put {b : Nat} {l' : List UInt8} {v v' : Value} {w : World} (hb : w.heap[b]? = some (.cells #[.pointer (some ⟨b, 0, none⟩), v] 130 (0, 0))) (hown : OwnB 5 b v' l' w) : Bd b l' (w.setCell ⟨b, 1, none⟩ v') := by
  have hl : (Lib.byteCells l').length = l'.length := by simp [Lib.byteCells]
  exact .inr (Lib.BuilderAt.put (Nat.le_refl b) hb (by rw [hl]; exact hown) (by decide))
theorem ownsRow_slice2 {e : TypeId} {B : Nat} {v : Value} {l : List UInt8} {w : World} (h : OwnB e B v l w) : ∃ a m c, v = .slice a m c := by
  rcases h.2 with ⟨rfl, _⟩ | ⟨b, cap, cur, rfl, _⟩ <;> exact ⟨_, _, _, rfl⟩
/-- A string's bytes onto a row of bytes: where the row lies. -/
theorem wpList_pushSK {P : Program} {ops : Array Oper} {rest : List Oper} {o : Oper} {a : Act} {Q : Exit → Act → World → Prop} {w : World} (t u e : TypeId) (ht : P.underlying t = some (.slice e)) (hu : P.underlying u = some .string) (hi : (P.info? e).map (fun i => (i.zero, i.size, i.bytes)) = some (some (.int .u8 0), 1, 1))
    (hgd : o.guard = none) (s x : Operand) (ho : o.op = .call { callee := .builtin .append, args := #[s, x], argTypes := #[t, u] })
    (B : Nat) (l : List UInt8) (v : Value) (bs : List UInt8) (hs : a.eval s = v) (hx : a.eval x = S bs) (hown : OwnB e B v l w) (hl : l.length + bs.length ≤ 140737488355328) (hB : B ≤ w.heap.size)
    (h : ∀ v' w', OwnB e B v' (l ++ bs) w' → Below B w w' → KeptRow v.ownBlock w w' → wpList P ops Q rest (a.put o.dst v') w') : wpList P ops Q (o :: rest) a w := by
  obtain ⟨i0, hi0, hz0, hz1, hz2⟩ := info_parts hi
  have hsz : (⟨bs.toArray⟩ : ByteArray).size = bs.length := size_mk bs
  refine Lib.wpList_append_own_string w hgd s x t u ho B e i0 ht hu hi0 hz0 hz1 hz2 v l.length (Lib.byteCells l) hs hown ⟨bs.toArray⟩ hx (by rw [hsz]; unfold maxLen; omega) (by rw [hsz]; omega) hB ?_
  intro v' w' h2 h3 _
  refine h v' w' ?_ (Below.of_grown hown hB h3) ⟨h3.size, h3.block⟩
  unfold OwnB
  rw [List.length_append, Lib.byteCells_append, ← strCells_mk bs, ← hsz]
  exact h2
set_option maxHeartbeats 1000000 in
set_option maxRecDepth 100000 in
theorem WriteByte_any (b : Nat) (c : UInt8) (l : List UInt8) (w : World) (h : Bd b l w) (hl : l.length + 1 ≤ 1099511627776) :
    Calls Tryz.prog 273 #[.pointer (some ⟨b, 0, none⟩), .int .u8 c.toNat] w fun e w' => e = .returned .nilIface ∧ Bd b (l ++ [c]) w' ∧ KB b w w' := by
  go_enter Tryz.func273, Tryz.ntmps273
  go_wp2_with (first
    | (refine (copyCheck_any b l w h).mono ?_; rintro e w1 ⟨rfl, hb1, hk1⟩; obtain ⟨a, cp, hbk, hown, hne⟩ := hb1.row; have c1 : w1.cell? ⟨b, 1, none⟩ = some (.slice a l.length cp) := (by rw [cell_of_row w1 b 1 _ _ (0, 0) hbk]; rfl); have HK1 := Lib.hid hk1; have HBK := Lib.hid hbk; have HOWN := Lib.hid hown; have hlt := hb1.lt; have HNE := Lib.hid hne; clear hk1 hbk hown hb1 hne)
    | (at_builtin; refine wpList_pushOne' 84 5 Tryz.underlying84 infoByte rfl (by decide) rfl (.tmp 11) (.tmp 13) rfl b (.slice a l.length cp) l.length (Lib.byteCells l) [.int .u8 c.toNat] w1 _ rfl rfl rfl (by intro u hu; simp at hu; subst hu; rfl) 1 _ rfl rfl rfl HOWN.out hl (by decide) (by omega) ?_
       intro v' w2 k1 k2 k3
       obtain ⟨vb, vc, rfl⟩ := ownsRow_some k1
       have hbk2 := (k3.kept.2 b hlt (fun e => HNE.out e.symm)).trans HBK.out
       have d1 : w2.cell? ⟨b, 1, none⟩ = some (.slice a l.length cp) := (by rw [cell_of_row w2 b 1 _ _ (0, 0) hbk2]; rfl)
       have d2 : w2.frozen? ⟨b, 1, none⟩ = false := frozen_row hbk2 1
       have HBK2 := Lib.hid hbk2
       have HK2 := Lib.hid (And.intro k1 (And.intro k2 k3))
       clear k1 k2 k3 hbk2))
  go_ret
  have hown : OwnB 5 b (.slice (some ⟨vb, 0, none⟩) (l.length + 1) vc) (l ++ [c]) w2 := by
    have := HK2.out.1
    unfold OwnB
    rw [List.length_append, Lib.byteCells_append]
    exact this
  exact ⟨rfl, BdU.put HBK2.out hown, (KB.trans HK1.out (KB.moved HOWN.out HK2.out.2.1 HK2.out.2.2.kept)).setCell (.inr (by simp)) _⟩
set_option maxHeartbeats 1000000 in
set_option maxRecDepth 100000 in
theorem WriteString_any (b : Nat) (s l : List UInt8) (w : World) (h : Bd b l w) (hl : l.length + s.length ≤ 1099511627776) :
    Calls Tryz.prog 95 #[.pointer (some ⟨b, 0, none⟩), S s] w fun e w' => (∃ v, e = .returned v) ∧ Bd b (l ++ s) w' ∧ KB b w w' := by
  go_enter Tryz.func95, Tryz.ntmps95
  go_wp2_with (first
    | (refine (copyCheck_any b l w h).mono ?_; rintro e w1 ⟨rfl, hb1, hk1⟩; obtain ⟨a, cp, hbk, hown, hne⟩ := hb1.row; have c1 : w1.cell? ⟨b, 1, none⟩ = some (.slice a l.length cp) := (by rw [cell_of_row w1 b 1 _ _ (0, 0) hbk]; rfl); have HK1 := Lib.hid hk1; have HBK := Lib.hid hbk; have HOWN := Lib.hid hown; have hlt := hb1.lt; have HNE := Lib.hid hne; clear hk1 hbk hown hb1 hne)
    | (at_builtin; refine wpList_pushSK 84 9 5 Tryz.underlying84 Tryz.underlying9 infoByte rfl (.tmp 12) (.tmp 13) rfl b l (.slice a l.length cp) s rfl rfl HOWN.out (by omega) (by omega) ?_
       intro v' w2 k1 k2 k3
       obtain ⟨va, vl, vc, rfl⟩ := ownsRow_slice2 k1
       have hbk2 := (k3.2 b hlt (fun e => HNE.out e.symm)).trans HBK.out
       have d1 : w2.cell? ⟨b, 1, none⟩ = some (.slice a l.length cp) := (by rw [cell_of_row w2 b 1 _ _ (0, 0) hbk2]; rfl)
       have d2 : w2.frozen? ⟨b, 1, none⟩ = false := frozen_row hbk2 1
       have HBK2 := Lib.hid hbk2
       have HK2 := Lib.hid (And.intro k1 (And.intro k2 k3))
       clear k1 k2 k3 hbk2))
  go_ret2
  exact ⟨⟨_, rfl⟩, BdU.put HBK2.out HK2.out.1, (KB.trans HK1.out (KB.moved HOWN.out HK2.out.2.1 HK2.out.2.2)).setCell (.inr (by simp)) _⟩
end Go.Proofs.YtpcgfhleloonfaaGreatDoor
