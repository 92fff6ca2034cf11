/- Walks of jot's Print (layer 4), fourth part. -/
import Derived.Test.YtmajpambfblhnaaGreatDoorJoOA
import Derived.Test.YtmajpambfblhnaaGreatDoorJoVA
import Derived.Test.YtmajpambfblhnaaGreatDoorJoQ3
import Derived.Test.YtmajpambfblhnaaGreatDoorJoOwnW
namespace Go.Proofs.YtmajpambfblhnaaGreatDoor
open Go.RowKit Jo

def bareP (a b c d : Bool) (n : Int) (t : List UInt8) (nl il : Nat) : Bool := (a || n == 0) && (b || t == []) && (c || (nl : Int) == 0) && (d || (il : Int) == 0)
set_option maxHeartbeats 4000000 in
set_option maxRecDepth 100000 in
theorem bare_any (a b c d : Bool) (k n : Int) (t : List UInt8) (na ia : Option Addr) (nl nc il ic : Nat) (w : World) :
    Calls Tryz.prog 49 #[jotV k n t (.slice na nl nc) (.slice ia il ic), .bool a, .bool b, .bool c, .bool d] w fun e w' => e = .returned (.bool (bareP a b c d n t nl il)) ∧ Kept (fun _ => True) w w' := by
  go_enter Tryz.func49, Tryz.ntmps49
  go_wp2
  all_goals
    go_ret
    exact ⟨by simp_all [bareP], (Kept.refl _ _).alloc _⟩
end Go.Proofs.YtmajpambfblhnaaGreatDoor

namespace Go.Proofs.YtmajpambfblhnaaGreatDoor
open Go.RowKit Jo

/-- What inside leaves. -/
def InQ (x : J) (w : World) (e : Ending) (w' : World) : Prop := (∃ u, e = .returned (.tuple #[u, .bool (mayP x)]) ∧ (mayP x = true → VIn (w.heap.size ≤ ·) w' x u)) ∧ Kept (fun _ => True) w w'
def InsideC (v : Value) (x : J) : Prop := ∀ w, JIn (fun _ => True) w x v → JE w.heap.size w → Calls Tryz.prog 30 #[v] w (InQ x w)
/-- What items leaves. -/
def ItemsQ (xs : List J) (w : World) (e : Ending) (w' : World) : Prop := (∃ v, e = .returned (.tuple #[v, .bool (mays xs)]) ∧ (mays xs = true → OwnV w.heap.size v xs w')) ∧ Kept (fun _ => True) w w'
theorem mays_take {xs : List J} {j : Nat} {x : J} (h : xs[j]? = some x) (h1 : mays (xs.take j) = true) : mays (xs.take (j + 1)) = mayP x := by
  rw [mays_all] at h1 ⊢
  rw [List.take_add_one, h, List.all_append, h1]
  simp
theorem mays_false {xs : List J} {j : Nat} {x : J} (h : xs[j]? = some x) (h1 : mayP x = false) : mays xs = false := by
  rw [mays_all, List.all_eq_false]
  exact ⟨x, List.mem_of_getElem? h, by simp [h1]⟩
theorem OwnV.slice {B : Nat} {v : Value} {xs : List J} {w : World} (h : OwnV B v xs w) : ∃ a l c, v = .slice a l c := by
  obtain ⟨us, _, h2, _⟩ := h
  exact ownsRow_slice h2
theorem OwnV.keptT {B : Nat} {v : Value} {xs : List J} {w w' : World} (h : OwnV B v xs w) (hk : Kept (fun _ => True) w w') : OwnV B v xs w' := by
  obtain ⟨us, h1, h2, h3⟩ := h
  exact ⟨us, h1, ownsRow_kept h2 hk (fun _ _ => trivial), fun j x hx => (h3 j x hx).kept' hk.size fun b hb _ => hk.block b hb trivial⟩

set_option maxHeartbeats 8000000 in
set_option maxRecDepth 100000 in
theorem items_any (xs : List J) (ia : Option Addr) (ic : Nat) (us : Nat → Value) (w : World) (hE : JE w.heap.size w) (hi : RowJ (fun _ => True) w (.slice ia xs.length ic) xs.length us) (hin : ∀ (j : Nat) x, xs[j]? = some x → JIn (fun _ => True) w x (us j))
    (hih : ∀ (j : Nat) x, xs[j]? = some x → InsideC (us j) x) (hl : xs.length ≤ 1000000) : Calls Tryz.prog 51 #[.slice ia xs.length ic] w (ItemsQ xs w) := by
  have HI := Lib.hid hi
  have HH := Lib.hid (And.intro hin hih)
  have HE := Lib.hid hE
  clear hi hin hih hE
  go_enter Tryz.func51, Tryz.ntmps51
  go_wp2
  go_loopg [4, 11] xs.length (fun q v i wr => ∃ j : Nat, i = .int .i64 j ∧ q = xs.length - j ∧ j ≤ xs.length ∧ OwnV w.heap.size v (xs.take j) wr ∧ Hid (mays (xs.take j) = true) ∧ Kept (fun _ => True) w wr)
  case atStart => exact ⟨0, rfl, by omega, Nat.zero_le _, OwnV.nil _ _, Lib.hid rfl, Kept.refl _ _⟩
  case round =>
    obtain ⟨j, rfl, rfl, hjl, ho, hm, hk⟩ := hrel
    obtain ⟨va, vl, vc, rfl⟩ := ho.slice
    have HO := Lib.hid ho
    clear ho
    by_cases hlt : j < xs.length
    · obtain ⟨b, off, rfl, hb, -, -, kx, nx, tx, nax, nlx, ncx, iax, ilx, icx, e1, c0, c1, c2, c3, c4⟩ := HI.out.at hlt
      replace c0 := (hk.cell hb trivial).trans c0
      replace c1 := (hk.cell hb trivial).trans c1
      replace c2 := (hk.cell hb trivial).trans c2
      replace c3 := (hk.cell hb trivial).trans c3
      replace c4 := (hk.cell hb trivial).trans c4
      obtain ⟨x, hx⟩ : ∃ x, xs[j]? = some x := ⟨xs[j]'hlt, List.getElem?_eq_getElem hlt⟩
      obtain ⟨W4, hW4⟩ : ∃ W4, wr.alloc (.cells #[.int .i64 kx, .int .i64 nx, S tx, .slice nax nlx ncx, .slice iax ilx icx] 25) = W4 := ⟨_, rfl⟩
      have hka : Kept (fun _ => True) wr W4 := by rw [← hW4]; exact (Kept.refl _ wr).alloc _
      have hz4 : W4.heap.size = wr.heap.size + 1 := by rw [← hW4]; simp
      have hC := (HH.out.2 j x hx) W4 ((HH.out.1 j x hx).kept (hk.tr hka) fun _ _ _ => trivial) ((HE.out.kept (hk.tr hka) fun _ _ => trivial).le (by have := hk.size; omega))
      rw [e1] at hC
      have HC := Lib.hid hC
      have HX := Lib.hid hx
      have HO4 := Lib.hid (HO.out.keptT hka)
      have hk4 := hk.tr hka
      have HW4 := Lib.hid hW4
      clear e1 hx hC HO hW4
      go_wp2_with fail
      rw [HW4.out]
      refine HC.out.mono ?_
      rintro e w2 ⟨⟨u, rfl, hu⟩, hk2⟩
      cases hmx : mayP x with
      | false =>
        have HN : Hid (mays xs = false) := Lib.hid (mays_false HX.out hmx)
        clear hmx hu
        go_wp2
        refine bodyPost_ret (v := .tuple #[.slice none 0 0, .bool false]) (by simp [results, Tryz.results51, go_sem]) rfl ?_
        exact ⟨⟨_, by rw [HN.out], fun h => by rw [HN.out] at h; cases h⟩, hk4.tr hk2⟩
      | true =>
        have hu := hu hmx
        have HN : Hid (mays (xs.take (j + 1)) = true) := Lib.hid (by rw [mays_take HX.out hm.out, hmx])
        obtain ⟨ut, uv, rfl⟩ := hu.face
        have HO5 := Lib.hid (HO4.out.keptT hk2)
        have HU : Hid (VIn (fun b => w.heap.size ≤ b ∧ some b ≠ (Value.slice va vl vc).ownBlock) w2 x (.iface ut uv)) := Lib.hid (hu.mono fun b hb hw => ⟨by have := hk4.size; omega, fun e => by
          obtain ⟨us2, _, e2, _⟩ := HO4.out
          have := (e2.lt b e.symm).2
          omega⟩)
        have hw2 : w.heap.size ≤ w2.heap.size := (hk4.tr hk2).size
        have htl : (xs.take j).length = j := by rw [List.length_take]; omega
        have HT : Hid (xs.take j ++ [x] = xs.take (j + 1)) := Lib.hid (by rw [List.take_add_one, HX.out]; rfl)
        clear hmx hu hm HO4
        obtain ⟨us2, e1, e2, e3⟩ := HO5.out
        have HE1 := Lib.hid e1
        have HE2 := Lib.hid e2
        have HE3 := Lib.hid e3
        have HTL := Lib.hid htl
        clear e1 e2 e3 htl
        go_wp2_with (at_builtin; refine wpList_pushOne 86 57 Tryz.underlying86 infoValue rfl (by decide) rfl _ _ rfl w.heap.size _ (xs.take j).length us2 [.iface ut uv] w2 _ rfl rfl rfl (by intro y hy; simp at hy; subst hy; rfl) 1 _ rfl rfl rfl HE2.out (by have := HTL.out; omega) (by decide) hw2 ?_)
        intro v' w3 k1 k2 k3
        have HO3 := Lib.hid (ownV_push HE1.out HE3.out HU.out (by rw [HTL.out]; exact k1) k3)
        have hk3 : Kept (fun _ => True) w w3 := (hk4.tr hk2).trans (ok2 := fun i => i < w.heap.size) ⟨k2.os, k2.tape, k2.output, k2.size, fun i _ h => k2.block i h⟩ (fun i hi _ => hi)
        clear k1 k2 k3
        go_wp2
        go_roundg (xs.length - (j + 1))
        case rel => exact ⟨j + 1, by go_num, rfl, by omega, by rw [← HT.out]; exact HO3.out, HN, hk3⟩
        case measure => omega
    · obtain rfl : j = xs.length := by omega
      have HN : Hid (mays xs = true) := Lib.hid (by have := hm.out; rwa [List.take_of_length_le (Nat.le_refl _)] at this)
      have HO2 := Lib.hid (show OwnV w.heap.size (.slice va vl vc) xs wr by have := HO.out; rwa [List.take_of_length_le (Nat.le_refl _)] at this)
      clear HO hm
      go_wp2
      refine bodyPost_ret (v := .tuple #[.slice va vl vc, .bool true]) (by simp [results, Tryz.results51, go_sem]) rfl ?_
      exact ⟨⟨_, by rw [HN.out], fun _ => HO2.out⟩, hk⟩
end Go.Proofs.YtmajpambfblhnaaGreatDoor

namespace Go.Proofs.YtmajpambfblhnaaGreatDoor
open Go.RowKit Jo Go.Shelf

def cells2 (l : List (List UInt8 × Value)) : List Value := l.flatMap fun e => [S e.1, e.2]
theorem cells2_len (l : List (List UInt8 × Value)) : (cells2 l).length = l.length * 2 := by
  induction l with
  | nil => rfl
  | cons e r ih => simp only [cells2, List.flatMap_cons, List.length_append, List.length_cons, List.length_nil] at ih ⊢; omega
theorem cells2_snoc (l : List (List UInt8 × Value)) (e : List UInt8 × Value) : cells2 (l ++ [e]) = cells2 l ++ [S e.1, e.2] := by simp [cells2]
theorem cells2_at : ∀ (l : List (List UInt8 × Value)) (j : Nat) (e : List UInt8 × Value), l[j]? = some e → (cells2 l)[j * 2]? = some (S e.1) ∧ (cells2 l)[j * 2 + 1]? = some e.2 := by
  intro l
  induction l with
  | nil => intro j e h; simp at h
  | cons x r ih =>
    intro j e h
    cases j with
    | zero =>
      obtain rfl : x = e := by simpa using h
      exact ⟨rfl, rfl⟩
    | succ j =>
      have := ih j e (by simpa using h)
      rw [show (j + 1) * 2 = j * 2 + 1 + 1 by omega]
      have e2 : cells2 (x :: r) = S x.1 :: x.2 :: cells2 r := by simp [cells2]
      rw [e2]
      simpa using this

theorem namesOk_take {ns : List (List UInt8)} (m : Nat) (h : namesOk ns = true) : namesOk (ns.take m) = true := by
  rw [namesOk_iff] at h ⊢
  exact ⟨fun n hn => h.1 n (List.mem_of_mem_take hn), h.2.sublist (List.take_sublist _ _)⟩
theorem namesOk_next {ns : List (List UInt8)} {j : Nat} {n : List UInt8} (hn : ns[j]? = some n) (h : namesOk (ns.take j) = true) :
    (Lib.validD n = true ∧ (∀ p, 0 < j → ns[j - 1]? = some p → ltB p n = true) → namesOk (ns.take (j + 1)) = true) ∧ (Lib.validD n = false ∨ (∃ p, 0 < j ∧ ns[j - 1]? = some p ∧ ltB p n = false) → namesOk ns = false) := by
  have hj := (List.getElem?_eq_some_iff.1 hn).1
  constructor
  · rintro ⟨h1, h2⟩
    rw [List.take_add_one, hn]
    rw [namesOk_iff] at h ⊢
    refine ⟨fun m hm => ?_, ?_⟩
    · rcases List.mem_append.1 hm with hm | hm
      · exact h.1 m hm
      · obtain rfl : m = n := by simpa using hm
        exact h1
    · refine List.pairwise_append.2 ⟨h.2, by simp, fun a ha b hb => ?_⟩
      obtain rfl : b = n := by simpa using hb
      have hj0 : 0 < j := by
        rcases Nat.eq_zero_or_pos j with e | e
        · subst e; simp at ha
        · exact e
      obtain ⟨p, hp⟩ : ∃ p, ns[j - 1]? = some p := ⟨ns[j - 1]'(by omega), List.getElem?_eq_getElem (by omega)⟩
      have hpn := h2 p hj0 hp
      obtain ⟨i, hi, rfl⟩ := List.mem_take_iff_getElem.1 ha
      by_cases e : i = j - 1
      · subst e
        have : p = ns[j - 1] := by
          rw [List.getElem?_eq_getElem (by omega)] at hp
          simpa using hp.symm
        rw [← this]
        exact hpn
      · have hlt := List.pairwise_iff_getElem.1 h.2 i (j - 1) (by rw [List.length_take]; omega) (by rw [List.length_take]; omega) (by omega)
        rw [List.getElem_take, List.getElem_take] at hlt
        have : p = ns[j - 1] := by
          rw [List.getElem?_eq_getElem (by omega)] at hp
          simpa using hp.symm
        rw [← this] at hlt
        exact ltB_trans hlt hpn
  · intro hbad
    cases hq : namesOk ns with
    | false => rfl
    | true =>
      exfalso
      rw [namesOk_iff] at hq
      rcases hbad with hv | ⟨p, hj0, hp, hl⟩
      · rw [hq.1 n (List.mem_of_getElem? hn)] at hv
        cases hv
      · have := List.pairwise_iff_getElem.1 hq.2 (j - 1) j (by omega) hj (by omega)
        rw [List.getElem?_eq_getElem (by omega)] at hp hn
        obtain rfl : ns[j - 1] = p := by simpa using hp
        obtain rfl : ns[j] = n := by simpa using hn
        rw [this] at hl
        cases hl
theorem valid_any (n : List UInt8) (w : World) (hn : n.length ≤ 9223372036854775807) (hT : Lib.Utf8Tabs 0 1 w) : Calls Tryz.prog 50 #[S n] w fun e w' => e = .returned (.bool (Lib.validD n)) ∧ Kept (fun _ => True) w w' := by
  refine (Any.utf8_ValidString Tryz.laysValid ⟨n.toArray⟩ w (by rw [size_mk]; exact hn) hT).mono ?_
  rintro e w' ⟨rfl, hb⟩
  exact ⟨by simp, ⟨hb.os, hb.tape, hb.output, hb.size, fun k hk _ => hb.block k hk⟩⟩

set_option maxHeartbeats 16000000 in
set_option maxRecDepth 100000 in
theorem insideObj_any (n : Int) (t : List UInt8) (ns : List (List UInt8)) (xs : List J) (na ia : Option Addr) (nc ic : Nat) (us : Nat → Value) (w : World) (hE : JE w.heap.size w) (hr : Rng 6 n t ns xs.length) (hn : RowS (fun _ => True) w (.slice na ns.length nc) ns) (hi : RowJ (fun _ => True) w (.slice ia xs.length ic) xs.length us)
    (hin : ∀ (j : Nat) x, xs[j]? = some x → JIn (fun _ => True) w x (us j)) (hih : ∀ (j : Nat) x, xs[j]? = some x → InsideC (us j) x) (hl : xs.length ≤ 1000000) :
    Calls Tryz.prog 52 #[jotV 6 n t (.slice na ns.length nc) (.slice ia xs.length ic)] w (InQ (.mk 6 n t ns xs) w) := by
  obtain ⟨M, hM⟩ : ∃ M, mayP (.mk 6 n t ns xs) = M := ⟨_, rfl⟩
  have HM : Hid (M = (n == 0 && t == [] && ns.length == xs.length && namesOk ns && mays xs)) := Lib.hid (by rw [← hM]; simp [mayP])
  obtain ⟨W0, hW0⟩ : ∃ W0, w.alloc (.cells #[.int .i64 6, .int .i64 n, S t, .slice na ns.length nc, .slice ia xs.length ic] 25) = W0 := ⟨_, rfl⟩
  have hk0 : Kept (fun _ => True) w W0 := by rw [← hW0]; exact (Kept.refl _ w).alloc _
  have hz0 : W0.heap.size = w.heap.size + 1 := by rw [← hW0]; simp
  have hbox : OutAt w.heap.size 6 n t (.slice na ns.length nc) (.slice ia xs.length ic) W0 := by rw [← hW0]; exact OutAt.new w 6 n t _ _
  have HIT := Lib.hid (items_any xs ia ic us W0 ((hE.kept hk0 fun _ _ => trivial).le (by omega)) (hi.kept hk0 fun _ _ _ => trivial) (fun j x hx => (hin j x hx).kept hk0 fun _ _ _ => trivial) hih hl)
  have HR := Lib.hid hr
  have HE := Lib.hid hE
  have HN := Lib.hid hn
  have HW0 := Lib.hid hW0
  have HBOX := Lib.hid hbox
  obtain ⟨o0, o1, o2, o3, o4, o5, o6⟩ := hbox.facts
  have HMM := Lib.hid hM
  clear hr hE hn hi hin hih hW0 hbox hM
  go_enter Tryz.func52, Tryz.ntmps52
  go_wp2_with fail
  rw [HW0.out]
  refine HIT.out.mono ?_
  rintro e w1 ⟨⟨lv, rfl, hlv⟩, hk1⟩
  have hk01 := hk0.tr hk1
  have hz1 := hk1.size
  have HBOX1 := Lib.hid (HBOX.out.kept hk1 trivial)
  clear o0 o1 o2 o3 o4 o5 o6 HBOX HIT
  obtain ⟨o0, o1, o2, o3, o4, o5, o6⟩ := HBOX1.out.facts
  cases hms : mays xs with
  | false =>
    have HF : Hid (M = false) := Lib.hid (by rw [HM.out, hms]; simp)
    clear hms hlv HM
    go_wp2
    refine bodyPost_ret (v := .tuple #[.iface 81 (.agg #[]), .bool false]) (by simp [results, Tryz.results52, go_sem]) rfl ?_
    exact ⟨⟨_, by rw [HMM.out, HF.out], fun h => by rw [HMM.out, HF.out] at h; cases h⟩, hk01⟩
  | true =>
    have hlv := hlv hms
    obtain ⟨la, ll, lc, rfl⟩ := hlv.slice
    have HLV := Lib.hid hlv
    clear hlv
    by_cases hlen : ns.length = xs.length
    · have BA := Lib.hid (fun w => bare_any false false true true 6 n t na ia ns.length nc xs.length ic w)
      obtain ⟨q, hq⟩ : ∃ q, bareP false false true true n t ns.length xs.length = q := ⟨_, rfl⟩
      rw [hq] at BA
      have HB : Hid (M = (q && namesOk ns)) := Lib.hid (by rw [HM.out, hms, ← hq]; simp [bareP, hlen])
      have HLEN := Lib.hid hlen
      have hne : ((ns.length : Int) != (xs.length : Int)) = false := by simp; omega
      have hnl : ns.length ≤ 1000000 := by omega
      clear hq HM hms hlen
      cases q with
      | false =>
        have HF : Hid (M = false) := Lib.hid (by rw [HB.out]; simp)
        clear HB
        go_wp2_with (refine (BA.out _).mono ?_; rintro e w2 ⟨rfl, hk2⟩)
        refine bodyPost_ret (v := .tuple #[.iface 81 (.agg #[]), .bool false]) (by simp [results, Tryz.results52, go_sem]) rfl ?_
        exact ⟨⟨_, by rw [HMM.out, HF.out], fun h => by rw [HMM.out, HF.out] at h; cases h⟩, hk01.tr hk2⟩
      | true =>
        have HQ : Hid (M = namesOk ns) := Lib.hid (by rw [HB.out]; simp)
        clear HB
        go_wp2_with fail
        refine (BA.out _).mono ?_
        rintro e w2 ⟨rfl, hk2⟩
        have hk02 := hk01.tr hk2
        obtain ⟨us2, l1, l2, l3⟩ := HLV.out.keptT hk2
        have HL2 := Lib.hid l2
        have HL3 := Lib.hid (And.intro l1 l3)
        have HBOX2 := Lib.hid (HBOX1.out.kept hk2 trivial)
        have hB1 : w.heap.size < w2.heap.size := by have := hk02.size; have := HBOX2.out.lt; omega
        clear o0 o1 o2 o3 o4 o5 o6 HBOX1 HLV l1 l2 l3
        obtain ⟨o0, o1, o2, o3, o4, o5, o6⟩ := HBOX2.out.facts
        go_wp2_with fail
        go_loopg [6, 36] ns.length (fun q v i wr => ∃ j : Nat, i = .int .i64 j ∧ q = ns.length - j ∧ j ≤ ns.length ∧ Hid (wr.ownsRow w2.heap.size 93 2 v j (cells2 ((ns.zip us2).take j))) ∧ Hid (namesOk (ns.take j) = true) ∧ Kept (· < w2.heap.size) w2 wr)
        case atStart => exact ⟨0, rfl, by omega, Nat.zero_le _, Lib.hid (World.ownsRow_nil _ _ _ _), Lib.hid rfl, Kept.refl _ _⟩
        case round =>
          clear o0 o1 o2 o3 o4 o5 o6
          obtain ⟨j, rfl, rfl, hjl, ho, hm, hk⟩ := hrel
          obtain ⟨va, vl, vc, rfl⟩ := ownsRow_slice ho.out
          have HBOXr := Lib.hid (HBOX2.out.kept hk hB1)
          obtain ⟨o0, o1, o2, o3, o4, o5, o6⟩ := HBOXr.out.facts
          have hk0r : Kept (fun _ => True) w wr := hk02.trans hk fun i hi _ => by have := hk02.size; omega
          by_cases hlt : j < ns.length
          · obtain ⟨b, off, rfl, hb, -, -, m, hm1, hc⟩ := HN.out.at hlt
            replace hc := (hk0r.cell hb trivial).trans hc
            have HM1 := Lib.hid hm1
            have hml : m.length ≤ 9223372036854775807 := HR.out.2.2.2.2.2.2.1 m (List.mem_of_getElem? hm1)
            have HV := Lib.hid (valid_any m wr hml (HE.out.kept hk0r fun _ _ => trivial).u8)
            clear hm1 hml
            cases hvd : Lib.validD m with
            | false =>
              have HF : Hid (M = false) := Lib.hid (by rw [HQ.out]; exact (namesOk_next HM1.out hm.out).2 (.inl hvd))
              rw [hvd] at HV
              clear hvd
              go_wp2_with (refine HV.out.mono ?_; rintro e w3 ⟨rfl, hk3⟩)
              refine bodyPost_ret (v := .tuple #[.iface 81 (.agg #[]), .bool false]) (by simp [results, Tryz.results52, go_sem]) rfl ?_
              exact ⟨⟨_, by rw [HMM.out, HF.out], fun h => by rw [HMM.out, HF.out] at h; cases h⟩, hk0r.tr hk3⟩
            | true =>
              rw [hvd] at HV
              have HVD := Lib.hid hvd
              clear hvd
              have hlx : j < xs.length := by have := HLEN.out; omega
              obtain ⟨x, hx⟩ : ∃ x, xs[j]? = some x := ⟨xs[j]'hlx, List.getElem?_eq_getElem hlx⟩
              rcases ownsRow_view HL2.out with ⟨_, h0⟩ | ⟨lb, lcap, el, _, _, hlb, hlc⟩
              · omega
              obtain ⟨rfl, rfl, rfl⟩ : la = some ⟨lb, 0, none⟩ ∧ ll = xs.length ∧ lc = lcap := by simpa using el
              have hju : us2[j]? = some (us2.getD j .nilIface) := by rw [List.getD_eq_getElem?_getD, List.getElem?_eq_getElem (by rw [HL3.out.1]; exact hlx)]; rfl
              obtain ⟨ut, uv, hu⟩ := (HL3.out.2 j x hx).face
              rw [hu] at hju
              have hcl : wr.cell? ⟨lb, j, none⟩ = some (.iface ut uv) := (hk.cell hlb hlb).trans (hlc j _ hju)
              have HZP : Hid ((ns.zip us2)[j]? = some (m, .iface ut uv)) := Lib.hid (by rw [List.getElem?_zip_eq_some]; exact ⟨HM1.out, hju⟩)
              clear el hu hju hx hlc
              by_cases hj0 : j = 0
              · have hjz : ¬ 0 < j := by omega
                have HNX : Hid (namesOk (ns.take (j + 1)) = true) := Lib.hid ((namesOk_next HM1.out hm.out).1 ⟨HVD.out, fun p h => absurd h hjz⟩)
                clear hj0
                go_wp2_with (first
                  | (go_at_call 50; refine HV.out.mono ?_; rintro e w3 ⟨rfl, hk3⟩; replace hcl := (hk3.cell (cell_isLt hcl) trivial).trans hcl; have HO3 := Lib.hid (ownsRow_kept ho.out hk3 (fun _ _ => trivial)); have HZ3 : Hid (w2.heap.size ≤ w3.heap.size) := Lib.hid (Nat.le_trans hk.size hk3.size))
                  | (at_builtin; refine wpList_pushOne 91 93 Tryz.underlying91 infoMember rfl (by decide) rfl _ _ rfl w2.heap.size _ (j) (cells2 ((ns.zip us2).take (j))) [S m, .iface ut uv] w3 _ rfl rfl rfl (by intro y hy; simp at hy; rcases hy with rfl | rfl <;> rfl) 1 _ rfl rfl rfl HO3.out (by omega) (by decide) HZ3.out ?_))
                intro v' w4 k1 k2 k3
                have HO4 : Hid (w4.ownsRow w2.heap.size 93 2 v' (j + 1) (cells2 ((ns.zip us2).take (j + 1)))) := Lib.hid (by rw [List.take_add_one, HZP.out]; simp only [Option.toList_some]; rw [cells2_snoc]; exact k1)
                have hk4 : Kept (· < w2.heap.size) w2 w4 := (hk.tr (hk3.mono fun _ _ _ => trivial)).trans (ok2 := fun i => i < w2.heap.size) ⟨k2.os, k2.tape, k2.output, k2.size, fun i _ h => k2.block i h⟩ (fun i _ h => h)
                clear k1 k2 k3
                go_wp2
                go_roundg (ns.length - (j + 1))
                case rel => exact ⟨j + 1, by go_num, rfl, by omega, HO4, HNX, hk4⟩
                case measure => omega
              · obtain ⟨i, rfl⟩ : ∃ i, j = i + 1 := ⟨j - 1, by omega⟩
                have hp0 : i < ns.length := by omega
                obtain ⟨b', off', e', -, -, -, p, hp, hcp⟩ := HN.out.at hp0
                obtain ⟨rfl, rfl⟩ : b = b' ∧ off = off' := by simpa using e'
                replace hcp := (hk0r.cell hb trivial).trans hcp
                have HP := Lib.hid hp
                clear hp e' hp0
                cases hlt2 : ltB p m with
                | false =>
                  have HF : Hid (M = false) := Lib.hid (by rw [HQ.out]; exact (namesOk_next HM1.out hm.out).2 (.inr ⟨p, by omega, HP.out, hlt2⟩))
                  rw [← bytesLess_eq] at hlt2
                  go_wp2_with (refine HV.out.mono ?_; rintro e w3 ⟨rfl, hk3⟩; replace hcp := (hk3.cell (cell_isLt hcp) trivial).trans hcp; have HBOX3 := Lib.hid (HBOXr.out.kept hk3 trivial); obtain ⟨r0, r1, r2, r3, r4, r5, r6⟩ := HBOX3.out.facts)
                  refine bodyPost_ret (v := .tuple #[.iface 81 (.agg #[]), .bool false]) (by simp [results, Tryz.results52, go_sem]) rfl ?_
                  exact ⟨⟨_, by rw [HMM.out, HF.out], fun h => by rw [HMM.out, HF.out] at h; cases h⟩, hk0r.tr hk3⟩
                | true =>
                have HNX : Hid (namesOk (ns.take (i + 1 + 1)) = true) := Lib.hid ((namesOk_next HM1.out hm.out).1 ⟨HVD.out, fun q _ hq => by
                  have e := HP.out
                  rw [show i + 1 - 1 = i by omega] at hq
                  rw [e] at hq
                  obtain rfl : p = q := by simpa using hq
                  exact hlt2⟩)
                rw [← bytesLess_eq] at hlt2
                go_wp2_with (first
                  | (go_at_call 50; refine HV.out.mono ?_; rintro e w3 ⟨rfl, hk3⟩; replace hcl := (hk3.cell (cell_isLt hcl) trivial).trans hcl; have HO3 := Lib.hid (ownsRow_kept ho.out hk3 (fun _ _ => trivial)); have HZ3 : Hid (w2.heap.size ≤ w3.heap.size) := Lib.hid (Nat.le_trans hk.size hk3.size); replace hcp := (hk3.cell (cell_isLt hcp) trivial).trans hcp; have HBOX3 := Lib.hid (HBOXr.out.kept hk3 trivial); obtain ⟨r0, r1, r2, r3, r4, r5, r6⟩ := HBOX3.out.facts)
                  | (at_builtin; refine wpList_pushOne 91 93 Tryz.underlying91 infoMember rfl (by decide) rfl _ _ rfl w2.heap.size _ (i + 1) (cells2 ((ns.zip us2).take (i + 1))) [S m, .iface ut uv] w3 _ rfl rfl rfl (by intro y hy; simp at hy; rcases hy with rfl | rfl <;> rfl) 1 _ rfl rfl rfl HO3.out (by omega) (by decide) HZ3.out ?_))
                intro v' w4 k1 k2 k3
                have HO4 : Hid (w4.ownsRow w2.heap.size 93 2 v' (i + 1 + 1) (cells2 ((ns.zip us2).take (i + 1 + 1)))) := Lib.hid (by rw [List.take_add_one, HZP.out]; simp only [Option.toList_some]; rw [cells2_snoc]; exact k1)
                have hk4 : Kept (· < w2.heap.size) w2 w4 := (hk.tr (hk3.mono fun _ _ _ => trivial)).trans (ok2 := fun i => i < w2.heap.size) ⟨k2.os, k2.tape, k2.output, k2.size, fun i _ h => k2.block i h⟩ (fun i _ h => h)
                clear k1 k2 k3
                go_wp2
                go_roundg (ns.length - (i + 1 + 1))
                case rel => exact ⟨i + 1 + 1, by go_num, rfl, by omega, HO4, HNX, hk4⟩
                case measure => omega
          · obtain rfl : j = ns.length := by omega
            have HF : Hid (M = true) := Lib.hid (by rw [HQ.out]; have := hm.out; rwa [List.take_of_length_le (Nat.le_refl _)] at this)
            have hz2 : (ns.zip us2).length = ns.length := by rw [List.length_zip, HL3.out.1, HLEN.out]; omega
            have HO2 := Lib.hid (show wr.ownsRow w2.heap.size 93 2 (.slice va vl vc) ns.length (cells2 (ns.zip us2)) by have := ho.out; rwa [List.take_of_length_le (by omega)] at this)
            clear ho hm
            go_wp2
            refine bodyPost_ret (v := .tuple #[.iface 91 (.slice va vl vc), .bool true]) (by simp [results, Tryz.results52, go_sem]) rfl ?_
            refine ⟨⟨_, by rw [HMM.out, HF.out], fun _ => ?_⟩, hk0r⟩
            have hx : J.mk 6 n t ns xs = J.obj (ns.zip xs) := by
              have h1 := HMM.out.trans HF.out
              simp only [mayP] at h1
              simp at h1
              obtain ⟨⟨⟨⟨rfl, rfl⟩, h2⟩, _⟩, _⟩ := h1
              unfold J.obj
              rw [zip_fst _ _ h2, zip_snd _ _ h2]
            have hzl : (ns.zip xs).length = ns.length := by rw [List.length_zip, HLEN.out]; omega
            rw [hx]
            refine .obj (ns.zip xs) _ (fun j => us2.getD j .nilIface) (by omega) ?_ (fun j m hm => ?_)
            · rw [zip_fst _ _ HLEN.out]
              rcases ownsRow_view HO2.out with ⟨e, h0⟩ | ⟨b, cap, e, q1, q2, q3, q4⟩
              · exact .inl ⟨e, List.eq_nil_of_length_eq_zero h0⟩
              · refine .inr ⟨b, cap, e, q1, by omega, q3, fun j l hl => ?_⟩
                have hj := (List.getElem?_eq_some_iff.1 hl).1
                have hju : us2[j]? = some (us2.getD j .nilIface) := by rw [List.getD_eq_getElem?_getD, List.getElem?_eq_getElem (by rw [HL3.out.1, ← HLEN.out]; exact hj)]; rfl
                have hz : (ns.zip us2)[j]? = some (l, us2.getD j .nilIface) := by rw [List.getElem?_zip_eq_some]; exact ⟨hl, hju⟩
                obtain ⟨c1, c2⟩ := cells2_at _ _ _ hz
                exact ⟨q4 _ _ c1, q4 _ _ c2⟩
            · have hmx : xs[j]? = some m.2 := by
                obtain ⟨n', x'⟩ := m
                rw [List.getElem?_zip_eq_some] at hm
                exact hm.2
              exact ((HL3.out.2 j _ hmx).kept' hk.size fun b hb h => hk.block b hb hb).mono fun b _ h => by have := h.1; omega
    · have HF : Hid (M = false) := Lib.hid (by rw [HM.out]; simp [hlen])
      have hne : ((ns.length : Int) != (xs.length : Int)) = true := by simp; omega
      clear hms HM
      go_wp2
      refine bodyPost_ret (v := .tuple #[.iface 81 (.agg #[]), .bool false]) (by simp [results, Tryz.results52, go_sem]) rfl ?_
      exact ⟨⟨_, by rw [HMM.out, HF.out], fun h => by rw [HMM.out, HF.out] at h; cases h⟩, hk01⟩
end Go.Proofs.YtmajpambfblhnaaGreatDoor
