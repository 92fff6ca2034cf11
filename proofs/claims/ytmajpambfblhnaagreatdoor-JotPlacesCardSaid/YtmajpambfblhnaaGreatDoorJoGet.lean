/- Walk of jot.Get (layer 4). -/
import Derived.Test.YtmajpambfblhnaaGreatDoorJoOwnW
namespace Go.Proofs.YtmajpambfblhnaaGreatDoor
open Go.RowKit Jo

/-- What stands under a name. -/
def goG (name : List UInt8) : List (List UInt8) → List J → Option J
  | [], _ => none
  | n :: ns, xs => if n = name then xs.head? else goG name ns xs.tail
def getP (x : J) (name : List UInt8) : Option J := if x.kind = 6 then goG name x.names x.items else none
theorem goG_at {name : List UInt8} : ∀ {ns : List (List UInt8)} {xs : List J} {j : Nat}, (∀ i, i < j → ns[i]? ≠ some name) → ns[j]? = some name → goG name ns xs = xs[j]? := by
  intro ns
  induction ns with
  | nil => intro xs j h1 h2; simp at h2
  | cons n ns ih =>
    intro xs j h1 h2
    unfold goG
    cases j with
    | zero =>
      obtain rfl : n = name := by simpa using h2
      rw [if_pos rfl]
      cases xs <;> rfl
    | succ j =>
      rw [if_neg (fun e => h1 0 (by omega) (by simp [e])), ih (j := j) (fun i hi => by have := h1 (i + 1) (by omega); simpa using this) (by simpa using h2)]
      cases xs <;> simp
theorem goG_none {name : List UInt8} : ∀ {ns : List (List UInt8)} {xs : List J}, (∀ i : Nat, i < ns.length → ns[i]? ≠ some name) → goG name ns xs = none := by
  intro ns
  induction ns with
  | nil => intro xs h; rfl
  | cons n ns ih =>
    intro xs h
    unfold goG
    rw [if_neg (fun e => h 0 (by simp) (by simp [e])), ih (fun i hi => by have := h (i + 1) (by simp; omega); simpa using this)]
/-- What Get leaves: all lists of what it hands out are new. -/
def GetQ (w : World) (r : Option J) (e : Ending) (w' : World) : Prop := (∃ v fp, e = .returned (.tuple #[v, .bool r.isSome]) ∧ JOwn w' (r.getD J.null) v fp ∧ fp.Nodup ∧ ∀ b ∈ fp, w.heap.size ≤ b) ∧ Kept (fun _ => True) w w'
theorem JOwn.null (w : World) : JOwn w J.null (jotV 0 0 [] (.slice none 0 0) (.slice none 0 0)) [] := .mk 0 0 [] [] [] _ _ [] [] rfl rfl (World.ownsRow_nil _ _ _ _) (World.ownsRow_nil _ _ _ _) (fun j x h => by simp at h)
theorem GetQ.none {w w' : World} {r : Option J} (hr : r = none) (hk : Kept (fun _ => True) w w') : GetQ w r (.returned (.tuple #[jotV 0 0 [] (.slice none 0 0) (.slice none 0 0), .bool false])) w' := by
  subst hr
  exact ⟨⟨_, [], rfl, JOwn.null _, List.nodup_nil, fun b hb => by cases hb⟩, hk⟩

set_option maxHeartbeats 8000000 in
set_option maxRecDepth 100000 in
theorem Get_any (x : J) (va : Value) (name : List UInt8) (ok : Nat → Prop) (w : World) (hx : JIn ok w x va) (hf : Few 1000000 x) : Calls Tryz.prog 22 #[va, S name] w (GetQ w (getP x name)) := by
  obtain ⟨k, n, t, ns, xs⟩ := x
  obtain ⟨na, nc, ia, ic, us, rfl, hr, hn, hi, h⟩ := hx.invM
  obtain ⟨hf1, hf2, hf3⟩ := hf.inv
  simp only [J.names, J.items] at hf1 hf2 hf3
  have HN := Lib.hid hn
  have HI := Lib.hid hi
  have HH := Lib.hid h
  have HF3 := Lib.hid hf3
  clear hx hf hr hn hi h hf3
  have HR : Hid (getP (.mk k n t ns xs) name = if k = 6 then goG name ns xs else none) := Lib.hid rfl
  obtain ⟨R, hR⟩ : ∃ R, getP (.mk k n t ns xs) name = R := ⟨_, rfl⟩
  rw [hR] at HR ⊢
  clear hR
  have hbox0 : OutAt w.heap.size k n t (.slice na ns.length nc) (.slice ia xs.length ic) ((w.alloc (.cells #[.int .i64 k, .int .i64 n, S t, .slice na ns.length nc, .slice ia xs.length ic] 25)).alloc (.cells #[.int .i64 0, .int .i64 0, S [], .slice none 0 0, .slice none 0 0] 25)) := (OutAt.new w k n t _ _).kept (ok := fun _ => True) ((Kept.refl _ _).alloc _) trivial
  have hres0 : OutAt (w.heap.size + 1) 0 0 [] (.slice none 0 0) (.slice none 0 0) ((w.alloc (.cells #[.int .i64 k, .int .i64 n, S t, .slice na ns.length nc, .slice ia xs.length ic] 25)).alloc (.cells #[.int .i64 0, .int .i64 0, S [], .slice none 0 0, .slice none 0 0] 25)) := by
    have := OutAt.new (w.alloc (.cells #[.int .i64 k, .int .i64 n, S t, .slice na ns.length nc, .slice ia xs.length ic] 25)) 0 0 [] (.slice none 0 0) (.slice none 0 0)
    simpa using this
  have HB := Lib.hid hbox0
  have HS := Lib.hid hres0
  have hk0 : Kept (fun _ => True) w ((w.alloc (.cells #[.int .i64 k, .int .i64 n, S t, .slice na ns.length nc, .slice ia xs.length ic] 25)).alloc (.cells #[.int .i64 0, .int .i64 0, S [], .slice none 0 0, .slice none 0 0] 25)) := ((Kept.refl _ w).alloc _).alloc _
  clear hbox0 hres0
  by_cases hk6 : k = 6
  case neg =>
    have q : (k != 6) = true := by simpa using hk6
    have q2 : (k == 6) = false := by simpa using hk6
    have HN : Hid (R = none) := Lib.hid (by rw [HR.out, if_neg hk6])
    have HK0 := Lib.hid hk0
    clear hk0 hk6
    go_enter Tryz.func22, Tryz.ntmps22
    go_wp2
    refine bodyPost_ret (v := .tuple #[jotV 0 0 [] (.slice none 0 0) (.slice none 0 0), .bool false]) (by simp [results, Tryz.results22, go_sem]) rfl ?_
    exact GetQ.none HN.out HK0.out
  subst hk6
  have HR2 : Hid (R = goG name ns xs) := Lib.hid (by rw [HR.out, if_pos rfl])
  clear HR
  have HK0 := Lib.hid hk0
  clear hk0
  go_enter Tryz.func22, Tryz.ntmps22
  go_wp2
  go_loopg [15] ns.length (fun q i wr => ∃ j : Nat, i = .int .i64 j ∧ q = ns.length - j ∧ j ≤ ns.length ∧ Hid (∀ i, i < j → ns[i]? ≠ some name) ∧ OutAt w.heap.size 6 n t (.slice na ns.length nc) (.slice ia xs.length ic) wr ∧ OutAt (w.heap.size + 1) 0 0 [] (.slice none 0 0) (.slice none 0 0) wr ∧ w.heap.size + 2 ≤ wr.heap.size ∧ Kept (fun _ => True) w wr)
  case atStart => exact ⟨0, rfl, by omega, Nat.zero_le _, Lib.hid (fun i hi => absurd hi (by omega)), HB.out, HS.out, by simp, HK0.out⟩
  case round =>
    clear HB HS HK0
    obtain ⟨j, rfl, rfl, hj, hsm, hbox, hres, hz, hk⟩ := hrel
    obtain ⟨b0, b1, b2, b3, b4, b5, b6⟩ := hbox.facts
    have HBOX := Lib.hid hbox
    have HRES := Lib.hid hres
    clear hbox hres
    by_cases hlt : j < ns.length
    · obtain ⟨b, off, rfl, hb, -, -, l, hl, hc⟩ := HN.out.at hlt
      have c1 := (hk.cell hb trivial).trans hc
      have HL := Lib.hid hl
      clear hc hl
      by_cases hll : l = name
      · subst hll
        by_cases hit : j < xs.length
        · obtain ⟨y, hy⟩ : ∃ y, xs[j]? = some y := ⟨xs[j]'hit, List.getElem?_eq_getElem hit⟩
          have HRY : Hid (R = some y) := Lib.hid (by rw [HR2.out, goG_at hsm.out HL.out, hy])
          obtain ⟨b', off', rfl, hb', -, -, kx, nx, tx, nax, nlx, ncx, iax, ilx, icx, e1, d0, d1, d2, d3, d4⟩ := HI.out.at hit
          replace d0 := (hk.cell hb' trivial).trans d0
          replace d1 := (hk.cell hb' trivial).trans d1
          replace d2 := (hk.cell hb' trivial).trans d2
          replace d3 := (hk.cell hb' trivial).trans d3
          replace d4 := (hk.cell hb' trivial).trans d4
          have hC := fun wx (hkx : Kept (fun _ => True) w wx) => own_any y (us j) ok wx ((HH.out j y hy).kept hkx (fun _ _ _ => trivial)) (HF3.out j y hy)
          rw [e1] at hC
          have HC := Lib.hid hC
          clear e1 hC hy
          go_wp2_with (refine (HC.out _ hk).mono ?_; rintro e w2 ⟨⟨v, fp, rfl, hown, hnd, hfp⟩, hk2⟩; obtain ⟨xa, xl, xc, ya, yl, yc, rfl⟩ := hown.form2; have HO := Lib.hid (And.intro hown (And.intro hnd hfp)); have HRES2 := Lib.hid (HRES.out.kept hk2 trivial); obtain ⟨f0, f1, f2, f3, f4⟩ := HRES2.out.free; obtain ⟨g0, g1, g2, g3, g4, g5, g6⟩ := HRES2.out.facts; have HK2 := Lib.hid hk2; clear hown hnd hfp hk2)
          refine bodyPost_ret (v := .tuple #[jotV y.kind y.num y.text (.slice xa xl xc) (.slice ya yl yc), .bool true]) (by simp [results, Tryz.results22, go_sem, g0, g1, g2, g3, g4]) rfl ?_
          have h5 := kept_box w2 (w.heap.size + 1) (.int .i64 y.kind) (.int .i64 y.num) (S y.text) (.slice xa xl xc) (.slice ya yl yc)
          refine ⟨⟨_, fp, by rw [HRY.out]; rfl, ?_, HO.out.2.1, fun b hb => ?_⟩, (hk.tr HK2.out).trans h5 fun i hi _ => by omega⟩
          · rw [HRY.out]
            exact HO.out.1.kept h5.size fun b hb => h5.block b (HO.out.1.lt b hb) (by have := HO.out.2.2 b hb; omega)
          · have := HO.out.2.2 b hb
            omega
        · have HRY : Hid (R = none) := Lib.hid (by rw [HR2.out, goG_at hsm.out HL.out, List.getElem?_eq_none (by omega)])
          obtain ⟨f0, f1, f2, f3, f4⟩ := HRES.out.free
          obtain ⟨g0, g1, g2, g3, g4, g5, g6⟩ := HRES.out.facts
          have q : decide (xs.length ≤ j) = true := by simp; omega
          have q2 : decide ((xs.length : Int) ≤ (j : Int)) = true := by simp; omega
          go_wp2
          refine bodyPost_ret (v := .tuple #[jotV 0 0 [] (.slice none 0 0) (.slice none 0 0), .bool false]) (by simp [results, Tryz.results22, go_sem, g0, g1, g2, g3, g4]) rfl ?_
          exact GetQ.none HRY.out (hk.trans (kept_box _ (w.heap.size + 1) _ _ _ _ _) fun i hi _ => by omega)
      · have q : (l == name) = false := by simpa using hll
        have q2 : (l != name) = true := by simpa using hll
        go_wp2
        go_roundg (ns.length - (j + 1))
        case rel => exact ⟨j + 1, by go_num, rfl, by omega, Lib.hid (fun i hi => by
          by_cases hij : i = j
          · rw [hij, HL.out]
            intro e
            exact hll (Option.some.inj e)
          · exact hsm.out i (by omega)), HBOX.out, HRES.out, hz, hk⟩
        case measure => omega
    · obtain rfl : j = ns.length := by omega
      have HRY : Hid (R = none) := Lib.hid (by rw [HR2.out, goG_none hsm.out])
      obtain ⟨f0, f1, f2, f3, f4⟩ := HRES.out.free
      obtain ⟨g0, g1, g2, g3, g4, g5, g6⟩ := HRES.out.facts
      clear hlt hsm
      go_wp2
      refine bodyPost_ret (v := .tuple #[jotV 0 0 [] (.slice none 0 0) (.slice none 0 0), .bool false]) (by simp [results, Tryz.results22, go_sem, g0, g1, g2, g3, g4]) rfl ?_
      exact GetQ.none HRY.out (hk.trans (kept_box _ (w.heap.size + 1) _ _ _ _ _) fun i hi _ => by omega)
end Go.Proofs.YtmajpambfblhnaaGreatDoor
