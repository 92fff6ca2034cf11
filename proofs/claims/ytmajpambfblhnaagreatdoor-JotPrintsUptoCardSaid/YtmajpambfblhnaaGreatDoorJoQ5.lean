/- Walk of jot's items (layer 4). -/
import Derived.Test.YtmajpambfblhnaaGreatDoorJoQ4
import Derived.Test.YtmajpambfblhnaaGreatDoorJoOwnW
namespace Go.Proofs.YtmajpambfblhnaaGreatDoor
open Go.RowKit Jo

/-- What inside leaves. -/
def InQ (x : J) (w : World) (e : Ending) (w' : World) : Prop := (∃ u, e = .returned (.tuple #[u, .bool (mayP x)]) ∧ (mayP x = true → VIn (w.heap.size ≤ ·) w' x u)) ∧ Kept (fun _ => True) w w'
def InsideC (v : Value) (x : J) : Prop := ∀ w, JIn (fun _ => True) w x v → JE w.heap.size w → Calls Tryz.prog 30 #[v] w (InQ x w)
/-- What items leaves. -/
def ItemsQ (xs : List J) (w : World) (e : Ending) (w' : World) : Prop := (∃ v, e = .returned (.tuple #[v, .bool (mays xs)]) ∧ (mays xs = true → OwnV w.heap.size v xs w')) ∧ Kept (fun _ => True) w w'
theorem mays_take {xs : List J} {j : Nat} {x : J} (h : xs[j]? = some x) (h1 : mays (xs.take j) = true) : mays (xs.take (j + 1)) = mayP x := by
  rw [mays_all] at h1 ⊢
  rw [List.take_add_one, h, List.all_append, h1]
  simp
theorem mays_false {xs : List J} {j : Nat} {x : J} (h : xs[j]? = some x) (h1 : mayP x = false) : mays xs = false := by
  rw [mays_all, List.all_eq_false]
  exact ⟨x, List.mem_of_getElem? h, by simp [h1]⟩
theorem OwnV.slice {B : Nat} {v : Value} {xs : List J} {w : World} (h : OwnV B v xs w) : ∃ a l c, v = .slice a l c := by
  obtain ⟨us, _, h2, _⟩ := h
  exact ownsRow_slice h2
theorem OwnV.keptT {B : Nat} {v : Value} {xs : List J} {w w' : World} (h : OwnV B v xs w) (hk : Kept (fun _ => True) w w') : OwnV B v xs w' := by
  obtain ⟨us, h1, h2, h3⟩ := h
  exact ⟨us, h1, ownsRow_kept h2 hk (fun _ _ => trivial), fun j x hx => (h3 j x hx).kept' hk.size fun b hb _ => hk.block b hb trivial⟩

set_option maxHeartbeats 8000000 in
set_option maxRecDepth 100000 in
theorem items_any (xs : List J) (ia : Option Addr) (ic : Nat) (us : Nat → Value) (w : World) (hE : JE w.heap.size w) (hi : RowJ (fun _ => True) w (.slice ia xs.length ic) xs.length us) (hin : ∀ (j : Nat) x, xs[j]? = some x → JIn (fun _ => True) w x (us j))
    (hih : ∀ (j : Nat) x, xs[j]? = some x → InsideC (us j) x) (hl : xs.length ≤ 1000000) : Calls Tryz.prog 51 #[.slice ia xs.length ic] w (ItemsQ xs w) := by
  have HI := Lib.hid hi
  have HH := Lib.hid (And.intro hin hih)
  have HE := Lib.hid hE
  clear hi hin hih hE
  go_enter Tryz.func51, Tryz.ntmps51
  go_wp2
  go_loopg [4, 11] xs.length (fun q v i wr => ∃ j : Nat, i = .int .i64 j ∧ q = xs.length - j ∧ j ≤ xs.length ∧ OwnV w.heap.size v (xs.take j) wr ∧ Hid (mays (xs.take j) = true) ∧ Kept (fun _ => True) w wr)
  case atStart => exact ⟨0, rfl, by omega, Nat.zero_le _, OwnV.nil _ _, Lib.hid rfl, Kept.refl _ _⟩
  case round =>
    obtain ⟨j, rfl, rfl, hjl, ho, hm, hk⟩ := hrel
    obtain ⟨va, vl, vc, rfl⟩ := ho.slice
    have HO := Lib.hid ho
    clear ho
    by_cases hlt : j < xs.length
    · obtain ⟨b, off, rfl, hb, -, -, kx, nx, tx, nax, nlx, ncx, iax, ilx, icx, e1, c0, c1, c2, c3, c4⟩ := HI.out.at hlt
      replace c0 := (hk.cell hb trivial).trans c0
      replace c1 := (hk.cell hb trivial).trans c1
      replace c2 := (hk.cell hb trivial).trans c2
      replace c3 := (hk.cell hb trivial).trans c3
      replace c4 := (hk.cell hb trivial).trans c4
      obtain ⟨x, hx⟩ : ∃ x, xs[j]? = some x := ⟨xs[j]'hlt, List.getElem?_eq_getElem hlt⟩
      obtain ⟨W4, hW4⟩ : ∃ W4, wr.alloc (.cells #[.int .i64 kx, .int .i64 nx, S tx, .slice nax nlx ncx, .slice iax ilx icx] 25) = W4 := ⟨_, rfl⟩
      have hka : Kept (fun _ => True) wr W4 := by rw [← hW4]; exact (Kept.refl _ wr).alloc _
      have hz4 : W4.heap.size = wr.heap.size + 1 := by rw [← hW4]; simp
      have hC := (HH.out.2 j x hx) W4 ((HH.out.1 j x hx).kept (hk.tr hka) fun _ _ _ => trivial) ((HE.out.kept (hk.tr hka) fun _ _ => trivial).le (by have := hk.size; omega))
      rw [e1] at hC
      have HC := Lib.hid hC
      have HX := Lib.hid hx
      have HO4 := Lib.hid (HO.out.keptT hka)
      have hk4 := hk.tr hka
      have HW4 := Lib.hid hW4
      clear e1 hx hC HO hW4
      go_wp2_with fail
      rw [HW4.out]
      refine HC.out.mono ?_
      rintro e w2 ⟨⟨u, rfl, hu⟩, hk2⟩
      cases hmx : mayP x with
      | false =>
        have HN : Hid (mays xs = false) := Lib.hid (mays_false HX.out hmx)
        clear hmx hu
        go_wp2
        refine bodyPost_ret (v := .tuple #[.slice none 0 0, .bool false]) (by simp [results, Tryz.results51, go_sem]) rfl ?_
        exact ⟨⟨_, by rw [HN.out], fun h => by rw [HN.out] at h; cases h⟩, hk4.tr hk2⟩
      | true =>
        have hu := hu hmx
        have HN : Hid (mays (xs.take (j + 1)) = true) := Lib.hid (by rw [mays_take HX.out hm.out, hmx])
        obtain ⟨ut, uv, rfl⟩ := hu.face
        have HO5 := Lib.hid (HO4.out.keptT hk2)
        have HU : Hid (VIn (fun b => w.heap.size ≤ b ∧ some b ≠ (Value.slice va vl vc).ownBlock) w2 x (.iface ut uv)) := Lib.hid (hu.mono fun b hb hw => ⟨by have := hk4.size; omega, fun e => by
          obtain ⟨us2, _, e2, _⟩ := HO4.out
          have := (e2.lt b e.symm).2
          omega⟩)
        have hw2 : w.heap.size ≤ w2.heap.size := (hk4.tr hk2).size
        have htl : (xs.take j).length = j := by rw [List.length_take]; omega
        have HT : Hid (xs.take j ++ [x] = xs.take (j + 1)) := Lib.hid (by rw [List.take_add_one, HX.out]; rfl)
        clear hmx hu hm HO4
        obtain ⟨us2, e1, e2, e3⟩ := HO5.out
        have HE1 := Lib.hid e1
        have HE2 := Lib.hid e2
        have HE3 := Lib.hid e3
        have HTL := Lib.hid htl
        clear e1 e2 e3 htl
        go_wp2_with (at_builtin; refine wpList_pushOne 86 57 Tryz.underlying86 infoValue rfl (by decide) rfl _ _ rfl w.heap.size _ (xs.take j).length us2 [.iface ut uv] w2 _ rfl rfl rfl (by intro y hy; simp at hy; subst hy; rfl) 1 _ rfl rfl rfl HE2.out (by have := HTL.out; omega) (by decide) hw2 ?_)
        intro v' w3 k1 k2 k3
        have HO3 := Lib.hid (ownV_push HE1.out HE3.out HU.out (by rw [HTL.out]; exact k1) k3)
        have hk3 : Kept (fun _ => True) w w3 := (hk4.tr hk2).trans (ok2 := fun i => i < w.heap.size) ⟨k2.os, k2.tape, k2.output, k2.size, fun i _ h => k2.block i h⟩ (fun i hi _ => hi)
        clear k1 k2 k3
        go_wp2
        go_roundg (xs.length - (j + 1))
        case rel => exact ⟨j + 1, by go_num, rfl, by omega, by rw [← HT.out]; exact HO3.out, HN, hk3⟩
        case measure => omega
    · obtain rfl : j = xs.length := by omega
      have HN : Hid (mays xs = true) := Lib.hid (by have := hm.out; rwa [List.take_of_length_le (Nat.le_refl _)] at this)
      have HO2 := Lib.hid (show OwnV w.heap.size (.slice va vl vc) xs wr by have := HO.out; rwa [List.take_of_length_le (Nat.le_refl _)] at this)
      clear HO hm
      go_wp2
      refine bodyPost_ret (v := .tuple #[.slice va vl vc, .bool true]) (by simp [results, Tryz.results51, go_sem]) rfl ?_
      exact ⟨⟨_, by rw [HN.out], fun _ => HO2.out⟩, hk⟩
end Go.Proofs.YtmajpambfblhnaaGreatDoor
