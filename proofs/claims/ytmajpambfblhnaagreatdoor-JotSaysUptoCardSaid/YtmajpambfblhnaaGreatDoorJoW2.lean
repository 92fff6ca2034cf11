/- The law's mark and gather (layer 4), and what its owned keeps true. -/
import Derived.Test.YtmajpambfblhnaaGreatDoorOwnW
import Derived.Test.YtmajpambfblhnaaGreatDoorJoM2
import Derived.Test.YtmajpambfblhnaaGreatDoorJoR3
import Derived.Test.YtmajpambfblhnaaGreatDoorJoM3
import Derived.Test.YtmajpambfblhnaaGreatDoorJoR7
import Derived.Deep.RegionLaw
import Derived.Deep.DeepCutAuto
namespace Go.Proofs.YtmajpambfblhnaaGreatDoor
open Go.RowKit Jo

/-- The text that mark(n) is. -/
def markS (n : Nat) : List UInt8 := [109, 97, 114, 107, (n % 256).toUInt8, (n / 256 % 256).toUInt8]
theorem u8_mod (n : Nat) : IntKind.u8.wrap (n : Int) = ((n % 256 : Nat) : Int) := by
  unfold IntKind.wrap
  simp [IntKind.bits, IntKind.signed]
set_option maxHeartbeats 1000000 in
set_option maxRecDepth 100000 in
theorem mark_any (n : Nat) (_hn : n < 4611686018427387904) (w : World) :
    Calls Tryz.prog 40 #[.int .i64 n] w fun e w' => e = .returned (S (markS n)) ∧ Kept (fun _ => True) w w' := by
  have q1 : IntKind.u8.wrap (n : Int) = (n : Int) % 256 := by rw [u8_mod n]; omega
  have q2 : IntKind.u8.wrap ((n : Int) / 256) = (n : Int) / 256 % 256 := by rw [show (n : Int) / 256 = ((n / 256 : Nat) : Int) by omega, u8_mod (n / 256)]; omega
  have hvs : (#[.int .u8 ((n : Int) % 256), .int .u8 ((n : Int) / 256 % 256)] : Array Value) = (Lib.byteCells [(n % 256).toUInt8, (n / 256 % 256).toUInt8]).toArray := by
    have e1 : (((n % 256).toUInt8.toNat : Nat) : Int) = (n : Int) % 256 := by simp
    have e2 : (((n / 256 % 256).toUInt8.toNat : Nat) : Int) = (n : Int) / 256 % 256 := by simp
    simp only [Lib.byteCells, List.map_cons, List.map_nil, e1, e2]
  have HC := run_row_string (P := Tryz.prog) (src := 55) (dst := 9) (e := 5) Tryz.underlying55 Tryz.underlying5 Tryz.underlying9 w [(n % 256).toUInt8, (n / 256 % 256).toUInt8] #[.int .u8 ((n : Int) % 256), .int .u8 ((n : Int) / 256 % 256)] hvs w.heap.size 2 2 rfl rfl
  clear hvs
  have CT := run_cat (P := Tryz.prog) [109, 97, 114, 107] [(n % 256).toUInt8, (n / 256 % 256).toUInt8] (markS n) rfl (by simp)
  go_enter Tryz.func40, Tryz.ntmps40
  go_wp2
  go_ret
  exact ⟨rfl, (Kept.refl _ w).alloc _⟩
end Go.Proofs.YtmajpambfblhnaaGreatDoor

namespace Go.Proofs.YtmajpambfblhnaaGreatDoor
open Go.RowKit Jo

/-- The book at gb, with its rows nv and iv. -/
structure BookG (gb B : Nat) (nv iv : Value) (nr ir : List Value) (w : World) : Prop where
  box : w.heap[gb]? = some (.cells #[nv, iv] 32 (0, 0))
  base : B ≤ gb
  nrow : w.ownsRow B 22 1 nv nr.length nr
  irow : w.ownsRow B 23 1 iv ir.length ir
theorem BookG.step {gb B : Nat} {nv iv : Value} {nr ir : List Value} {w w' : World} (h : BookG gb B nv iv nr ir w) (hz : w.heap.size ≤ w'.heap.size) (hb : KT w w' 32) (h1 : KT w w' 22) (h2 : KT w w' 23) : BookG gb B nv iv nr ir w' :=
  ⟨(hb _ _ h.box).trans h.box, h.base, ownsRow_keptL h.nrow hz (fun b hb => by obtain ⟨c, hc⟩ := ownsRow_typ h.nrow hb; exact h1 b c hc), ownsRow_keptL h.irow hz (fun b hb => by obtain ⟨c, hc⟩ := ownsRow_typ h.irow hb; exact h2 b c hc)⟩
theorem BookG.keptT {gb B : Nat} {nv iv : Value} {nr ir : List Value} {w w' : World} (h : BookG gb B nv iv nr ir w) (hk : Kept (fun _ => True) w w') : BookG gb B nv iv nr ir w' := h.step hk.size (.of hk) (.of hk) (.of hk)
theorem BookG.facts {gb B : Nat} {nv iv : Value} {nr ir : List Value} {w : World} (h : BookG gb B nv iv nr ir w) :
    w.cell? ⟨gb, 0, none⟩ = some nv ∧ w.cell? ⟨gb, 1, none⟩ = some iv ∧ w.frozen? ⟨gb, 0, none⟩ = false ∧ w.frozen? ⟨gb, 1, none⟩ = false := by
  have hb := h.box
  refine ⟨?_, ?_, frozen_row hb 0, frozen_row hb 1⟩ <;> rw [cell_of_row w gb _ _ _ (0, 0) hb] <;> rfl
theorem BookG.size {gb B : Nat} {nv iv : Value} {nr ir : List Value} {w : World} (h : BookG gb B nv iv nr ir w) : B ≤ w.heap.size := by
  have := h.base; have := (Array.getElem?_eq_some_iff.1 h.box).1; omega
/-- One list of names more. -/
theorem BookG.addN {gb B : Nat} {nv iv nv' u : Value} {nr ir : List Value} {w w' : World} (h : BookG gb B nv iv nr ir w) (k1 : w'.ownsRow B 22 1 nv' (nr.length + 1) (nr ++ [u])) (k2 : Below B w w') (k3 : Moved nv nv' w w') :
    BookG gb B nv' iv (nr ++ [u]) ir (w'.setCell ⟨gb, 0, none⟩ nv') ∧ Kept (FB B w) w (w'.setCell ⟨gb, 0, none⟩ nv') ∧ w'.frozen? ⟨gb, 0, none⟩ = false ∧ w'.cell? ⟨gb, 0, none⟩ = some nv ∧ KT w w' 25 := by
  have kt := fun U (hU : U ≠ 22) => kt_moved (U := U) h.nrow k3 hU
  have hbox : w'.heap[gb]? = some (.cells #[nv, iv] 32 (0, 0)) := (kt _ (by decide) _ _ h.box).trans h.box
  have ks := fun U (hU : U ≠ 32) => kt_set (U := U) hbox hU 0 nv'
  have hz : w.heap.size ≤ w'.heap.size := k2.size
  have hz2 : w'.heap.size ≤ (w'.setCell ⟨gb, 0, none⟩ nv').heap.size := by simp [World.setCell]
  refine ⟨⟨(setCell_heap hbox _).trans rfl, h.base, ?_, ?_⟩, ?_, frozen_row hbox 0, by rw [cell_of_row w' gb _ _ _ (0, 0) hbox]; rfl, kt _ (by decide)⟩
  · rw [List.length_append]
    exact ownsRow_keptL k1 hz2 fun b hb => by obtain ⟨c, hc⟩ := ownsRow_typ k1 hb; exact ks _ (by decide) b c hc
  · exact ownsRow_keptL (ownsRow_keptL h.irow hz fun b hb => by obtain ⟨c, hc⟩ := ownsRow_typ h.irow hb; exact kt _ (by decide) b c hc) hz2 fun b hb => by
      obtain ⟨c, hc⟩ := ownsRow_typ h.irow hb
      exact ks _ (by decide) b c ((kt _ (by decide) b c hc).trans hc)
  · exact KeptFB.trans (FB.moved h.nrow (.inl rfl) k2 k3) (keptFB_set hbox h.base 0 nv')
/-- One list of items more. -/
theorem BookG.addI {gb B : Nat} {nv iv iv' u : Value} {nr ir : List Value} {w w' : World} (h : BookG gb B nv iv nr ir w) (k1 : w'.ownsRow B 23 1 iv' (ir.length + 1) (ir ++ [u])) (k2 : Below B w w') (k3 : Moved iv iv' w w') :
    BookG gb B nv iv' nr (ir ++ [u]) (w'.setCell ⟨gb, 1, none⟩ iv') ∧ Kept (FB B w) w (w'.setCell ⟨gb, 1, none⟩ iv') ∧ w'.frozen? ⟨gb, 1, none⟩ = false ∧ w'.cell? ⟨gb, 1, none⟩ = some iv ∧ KT w w' 25 := by
  have kt := fun U (hU : U ≠ 23) => kt_moved (U := U) h.irow k3 hU
  have hbox : w'.heap[gb]? = some (.cells #[nv, iv] 32 (0, 0)) := (kt _ (by decide) _ _ h.box).trans h.box
  have ks := fun U (hU : U ≠ 32) => kt_set (U := U) hbox hU 1 iv'
  have hz : w.heap.size ≤ w'.heap.size := k2.size
  have hz2 : w'.heap.size ≤ (w'.setCell ⟨gb, 1, none⟩ iv').heap.size := by simp [World.setCell]
  refine ⟨⟨(setCell_heap hbox _).trans rfl, h.base, ?_, ?_⟩, ?_, frozen_row hbox 1, by rw [cell_of_row w' gb _ _ _ (0, 0) hbox]; rfl, kt _ (by decide)⟩
  · exact ownsRow_keptL (ownsRow_keptL h.nrow hz fun b hb => by obtain ⟨c, hc⟩ := ownsRow_typ h.nrow hb; exact kt _ (by decide) b c hc) hz2 fun b hb => by
      obtain ⟨c, hc⟩ := ownsRow_typ h.nrow hb
      exact ks _ (by decide) b c ((kt _ (by decide) b c hc).trans hc)
  · rw [List.length_append]
    exact ownsRow_keptL k1 hz2 fun b hb => by obtain ⟨c, hc⟩ := ownsRow_typ k1 hb; exact ks _ (by decide) b c hc
  · exact KeptFB.trans (FB.moved h.irow (.inr rfl) k2 k3) (keptFB_set hbox h.base 1 iv')

/-- The blocks in which these slices lie. -/
def blks (us : List Value) : List Nat := us.filterMap Value.ownBlock
theorem blks_app (a b : List Value) : blks (a ++ b) = blks a ++ blks b := List.filterMap_append
theorem blks_one (u : Value) : blks [u] = u.ownBlock.toList := by
  unfold blks
  cases h : u.ownBlock with
  | none => simp [h]
  | some b => simp [h]
theorem apart_of (us : List Value) (h : (blks us).Nodup) : Apart us := by
  induction us with
  | nil => intro i j b u v hu; simp at hu
  | cons x r ih =>
    have hr : (blks r).Nodup ∧ ∀ b, x.ownBlock = some b → b ∉ blks r := by
      unfold blks at h ⊢
      rw [List.filterMap_cons] at h
      cases hx : x.ownBlock with
      | none => rw [hx] at h; exact ⟨h, fun b e => by cases e⟩
      | some b => rw [hx] at h; exact ⟨(List.nodup_cons.1 h).2, fun b' e => by cases e; exact (List.nodup_cons.1 h).1⟩
    have hmem : ∀ (j b : Nat) (v : Value), r[j]? = some v → v.ownBlock = some b → b ∈ blks r := fun j b v hv hb => List.mem_filterMap.2 ⟨v, List.mem_of_getElem? hv, hb⟩
    intro i j b u v hu hv hub hvb
    cases i with
    | zero =>
      cases j with
      | zero => rfl
      | succ j =>
        exfalso
        obtain rfl : x = u := by simpa using hu
        exact hr.2 b hub (hmem j b v (by simpa using hv) hvb)
    | succ i =>
      cases j with
      | zero =>
        exfalso
        obtain rfl : x = v := by simpa using hv
        exact hr.2 b hvb (hmem i b u (by simpa using hu) hub)
      | succ j => rw [ih hr.1 i j b u v (by simpa using hu) (by simpa using hv) hub hvb]

/-- Lists that are somebody's own: us of names, vs of items; all lie in blocks of fp, each in its own. -/
structure Gd (w : World) (fp : List Nat) (us vs : List Value) : Prop where
  un : ∀ u ∈ us, ∃ l xs, l ≤ 1000000 ∧ w.ownsRow 0 9 1 u l xs
  vn : ∀ v ∈ vs, ∃ l xs, l ≤ 1000000 ∧ w.ownsRow 0 25 5 v l xs
  ud : (blks us).Nodup
  uf : ∀ b ∈ blks us, b ∈ fp
  vd : (blks vs).Nodup
  vf : ∀ b ∈ blks vs, b ∈ fp
theorem Gd.nil (w : World) (fp : List Nat) : Gd w fp [] [] := ⟨fun _ h => (by cases h), fun _ h => (by cases h), List.nodup_nil, fun _ h => (by cases h), List.nodup_nil, fun _ h => (by cases h)⟩
theorem Gd.app {w : World} {fp fp' : List Nat} {us us' vs vs' : List Value} (h : Gd w fp us vs) (k : Gd w fp' us' vs') (hd : ∀ b ∈ fp, b ∉ fp') : Gd w (fp ++ fp') (us ++ us') (vs ++ vs') := by
  refine ⟨fun u hu => (List.mem_append.1 hu).elim (h.un u) (k.un u), fun u hu => (List.mem_append.1 hu).elim (h.vn u) (k.vn u), ?_, fun b hb => ?_, ?_, fun b hb => ?_⟩
  · rw [blks_app]
    exact List.nodup_append.2 ⟨h.ud, k.ud, fun a ha b hb e => hd a (h.uf a ha) (e ▸ k.uf b hb)⟩
  · rw [blks_app] at hb
    exact (List.mem_append.1 hb).elim (fun x => List.mem_append_left _ (h.uf b x)) fun x => List.mem_append_right _ (k.uf b x)
  · rw [blks_app]
    exact List.nodup_append.2 ⟨h.vd, k.vd, fun a ha b hb e => hd a (h.vf a ha) (e ▸ k.vf b hb)⟩
  · rw [blks_app] at hb
    exact (List.mem_append.1 hb).elim (fun x => List.mem_append_left _ (h.vf b x)) fun x => List.mem_append_right _ (k.vf b x)
theorem Gd.keptFB {B : Nat} {w w' : World} {fp : List Nat} {us vs : List Value} (h : Gd w fp us vs) (hk : Kept (FB B w) w w') : Gd w' fp us vs :=
  ⟨fun u hu => by obtain ⟨l, xs, h0, h1⟩ := h.un u hu; exact ⟨l, xs, h0, rowS_keptFB h1 hk⟩, fun u hu => by obtain ⟨l, xs, h0, h1⟩ := h.vn u hu; exact ⟨l, xs, h0, rowJ_keptFB h1 hk⟩, h.ud, h.uf, h.vd, h.vf⟩
theorem Gd.mono {w : World} {fp fp' : List Nat} {us vs : List Value} (h : Gd w fp us vs) (hs : ∀ b ∈ fp, b ∈ fp') : Gd w fp' us vs := ⟨h.un, h.vn, h.ud, fun b hb => hs b (h.uf b hb), h.vd, fun b hb => hs b (h.vf b hb)⟩

/-- A value of somebody's own, taken apart. -/
theorem JOwn.openM {w : World} {k n : Int} {t : List UInt8} {ns : List (List UInt8)} {xs : List J} {v : Value} {fp : List Nat} (h : JOwn w (.mk k n t ns xs) v fp) :
    ∃ na nc ia ic, ∃ us : List Value, ∃ fss : List (List Nat), v = jotV k n t (.slice na ns.length nc) (.slice ia xs.length ic) ∧ fss.length = xs.length ∧ w.ownsRow 0 9 1 (.slice na ns.length nc) ns.length (ns.map S) ∧ w.ownsRow 0 25 5 (.slice ia xs.length ic) xs.length (jotCells us) ∧
      (∀ (j : Nat) x, xs[j]? = some x → JOwn w x (us.getD j .nilIface) (fss.getD j [])) ∧ RowJ (fun _ => True) w (.slice ia xs.length ic) xs.length (fun j => us.getD j .nilIface) ∧ fp = (Value.slice na ns.length nc).ownBlock.toList ++ (Value.slice ia xs.length ic).ownBlock.toList ++ fss.flatten := by
  cases h with
  | mk k n t ns xs nv iv us fss hu hfl hn hi h =>
    have hmem : ∀ (j : Nat) x, xs[j]? = some x → us[j]? = some (us.getD j .nilIface) := fun j x hx => by
      have hj : j < xs.length := (List.getElem?_eq_some_iff.1 hx).1
      rw [List.getD_eq_getElem?_getD, List.getElem?_eq_getElem (by omega)]; rfl
    have h5 : ∀ u ∈ us, u.cells.size = 5 := by
      intro u hu2
      obtain ⟨j, hj, rfl⟩ := List.getElem_of_mem hu2
      have := (h j (xs[j]'(by omega)) (List.getElem?_eq_getElem _)).five
      rwa [List.getD_eq_getElem?_getD, List.getElem?_eq_getElem hj] at this
    have hrow : RowJ (fun _ => True) w iv xs.length (fun j => us.getD j .nilIface) := by
      rcases ownsRow_view hi with ⟨rfl, h0⟩ | ⟨b, cap, rfl, h1, h2, h3, h4⟩
      · exact .inl ⟨_, _, rfl, h0⟩
      · refine .inr ⟨b, 0, cap, rfl, h1, trivial, h3, fun j hj => ?_⟩
        have hx := List.getElem?_eq_getElem hj
        obtain ⟨na, nl, nc, ia, il, ic, e⟩ := (h j _ hx).form2
        refine ⟨_, _, _, na, nl, nc, ia, il, ic, e, ?_⟩
        have hc := fun i hi => jotCells_at us h5 j _ (hmem j _ hx) i hi
        rw [e] at hc
        rw [Nat.zero_add]
        exact ⟨h4 _ _ (hc 0 (by omega)), h4 _ _ (hc 1 (by omega)), h4 _ _ (hc 2 (by omega)), h4 _ _ (hc 3 (by omega)), h4 _ _ (hc 4 (by omega))⟩
    obtain ⟨ia, ic, rfl⟩ := hrow.slice
    obtain ⟨na, nc, rfl⟩ : ∃ na nc, nv = .slice na ns.length nc := by
      rcases ownsRow_view hn with ⟨rfl, h0⟩ | ⟨b, cap, rfl, _⟩
      · exact ⟨none, 0, by rw [h0]⟩
      · exact ⟨_, _, rfl⟩
    exact ⟨na, nc, ia, ic, us, fss, rfl, hfl, hn, hi, h, hrow, rfl⟩

/-- What gather leaves. -/
def GathQ (w : World) (x : J) (fp : List Nat) (gb B : Nat) (nr ir : List Value) (e : Ending) (w' : World) : Prop :=
  e = .returned (.tuple #[]) ∧ ∃ bn' bi' us vs, BookG gb B bn' bi' (nr ++ us) (ir ++ vs) w' ∧ Kept (FB B w) w w' ∧ Gd w' fp us vs ∧ us.length ≤ partsJ x ∧ vs.length ≤ partsJ x

set_option maxHeartbeats 16000000 in
set_option maxRecDepth 100000 in
theorem gather_any : ∀ x : J, ∀ (va : Value) (fp : List Nat) (gb B : Nat) (nr ir : List Value) (bn bi : Value) (w : World), JOwn w x va fp → fp.Nodup → Few 1000000 x → BookG gb B bn bi nr ir w → nr.length + partsJ x ≤ 1000000000 → ir.length + partsJ x ≤ 1000000000 →
    Calls Tryz.prog 19 #[.pointer (some ⟨gb, 0, none⟩), va] w (GathQ w x fp gb B nr ir) := by
  refine J.ind fun k n t ns xs IH => ?_
  intro va fp gb B nr ir bn bi w hx hnd hf hB hP1 hP2
  obtain ⟨na, nc, ia, ic, us, fss, rfl, hfl, hn, hi, h, hrow, rfl⟩ := hx.openM
  obtain ⟨hf1, hf2, hf3⟩ := hf.inv
  simp only [J.names, J.items] at hf1 hf2 hf3
  have HPP : Hid (partsJ (.mk k n t ns xs) = 1 + ns.length + partsAll xs) := Lib.hid rfl
  obtain ⟨px, hpx⟩ : ∃ px, partsJ (.mk k n t ns xs) = px := ⟨_, rfl⟩
  rw [hpx] at HPP hP1 hP2
  have HPX := Lib.hid hpx
  have hpx1 : 1 ≤ px := by have := HPP.out; omega
  have hGd : Gd w ((Value.slice na ns.length nc).ownBlock.toList ++ (Value.slice ia xs.length ic).ownBlock.toList) [.slice na ns.length nc] [.slice ia xs.length ic] := by
    refine ⟨fun u hu => ?_, fun u hu => ?_, ?_, fun b hb => ?_, ?_, fun b hb => ?_⟩
    · obtain rfl : u = .slice na ns.length nc := by simpa using hu
      exact ⟨_, _, hf1, hn⟩
    · obtain rfl : u = .slice ia xs.length ic := by simpa using hu
      exact ⟨_, _, hf2, hi⟩
    · rw [blks_one]; cases (Value.slice na ns.length nc).ownBlock <;> simp
    · rw [blks_one] at hb; exact List.mem_append_left _ hb
    · rw [blks_one]; cases (Value.slice ia xs.length ic).ownBlock <;> simp
    · rw [blks_one] at hb; exact List.mem_append_right _ hb
  obtain ⟨FP, hFP⟩ : ∃ FP, (Value.slice na ns.length nc).ownBlock.toList ++ (Value.slice ia xs.length ic).ownBlock.toList = FP := ⟨_, rfl⟩
  rw [hFP] at hnd hGd ⊢
  have HG := Lib.hid hGd
  have HND := Lib.hid hnd
  have HFL := Lib.hid hfl
  have HH := Lib.hid h
  have HI := Lib.hid hrow
  have HIH := Lib.hid IH
  have HF3 := Lib.hid hf3
  have HB := Lib.hid hB
  have hBz := hB.size
  obtain ⟨bna, bnl, bnc, rfl⟩ := ownsRow_slice hB.nrow
  obtain ⟨bia, bil, bic, rfl⟩ := ownsRow_slice hB.irow
  clear hx hf hn hi h IH hf3 hpx hFP hnd hGd hrow hB hfl
  obtain ⟨W0, hW0⟩ : ∃ W0, w.alloc (.cells #[.int .i64 k, .int .i64 n, S t, .slice na ns.length nc, .slice ia xs.length ic] 25) = W0 := ⟨_, rfl⟩
  have hk0 : Kept (fun _ => True) w W0 := by rw [← hW0]; exact (Kept.refl _ w).alloc _
  have hz0 : W0.heap.size = w.heap.size + 1 := by rw [← hW0]; simp
  have hbox : OutAt w.heap.size k n t (.slice na ns.length nc) (.slice ia xs.length ic) W0 := by rw [← hW0]; exact OutAt.new w k n t _ _
  have HB0 := Lib.hid ((HB.out.keptT hk0).keptT ((Kept.refl (fun _ => True) W0).drew))
  have HW0 := Lib.hid hW0
  have HZ0 := Lib.hid hz0
  have HK0 : Hid (Kept (fun _ => True) w W0.drew) := Lib.hid hk0.drew
  have HBX0 := Lib.hid (hbox.kept ((Kept.refl (fun _ => True) W0).drew) trivial)
  have hgb := HB.out.base
  have hgbl : gb < w.heap.size := (Array.getElem?_eq_some_iff.1 HB.out.box).1
  have hsz0 : w.heap.size ≤ W0.heap.size := by omega
  have hgl0 : gb < W0.heap.size := by omega
  have hgx0 : w.heap.size < W0.heap.size := by omega
  have hBd : B ≤ W0.drew.heap.size := Nat.le_trans hBz hsz0
  obtain ⟨b0, b1, b2, b3⟩ := (HB.out.keptT hk0).facts
  obtain ⟨c0, c1, c2, c3, c4, c5, c6⟩ := hbox.facts
  have hgne : gb ≠ w.heap.size := by omega
  clear hW0 hk0 hz0 hbox
  go_enter Tryz.func19, Tryz.ntmps19
  go_upto_region 1 with fail
  go_cut [] (fun wx => ∃ nva nvl nvc, Hid (BookG gb B (.slice nva nvl nvc) (.slice bia bil bic) (nr ++ [.slice na ns.length nc]) ir wx) ∧ Hid (Kept (FB B w) w wx) ∧ Hid (OutAt w.heap.size k n t (.slice na ns.length nc) (.slice ia xs.length ic) wx) ∧ w.heap.size + 1 ≤ wx.heap.size)
  case first =>
    go_wp2_with fail
    rw [HW0.out]
    go_region_law (
      (refine step_pushOne 29 22 Tryz.underlying29 infoRowS rfl (by decide) rfl _ _ rfl B (.slice bna bnl bnc) nr.length nr [.slice na ns.length nc] W0.drew _ rfl rfl rfl (by intro u hu; simp at hu; subst hu; rfl) 1 _ rfl rfl rfl HB0.out.nrow (by omega) (by decide) hBd ?_; intro nv1 w1 k1 k2 k3; obtain ⟨hB1, hkB1, hfz1, hq1, hkt1⟩ := HB0.out.addN k1 k2 k3; obtain ⟨nv1a, nv1l, nv1c, rfl⟩ := ownsRow_slice k1; have hbx1 := (hkt1 _ _ HBX0.out).trans HBX0.out; obtain ⟨x0, x1, x2, x3, x4, x5, x6⟩ := OutAt.facts hbx1; have HKK1 := Lib.hid (And.intro hB1 hkB1); clear k1 k2 k3 hB1 hkB1 hkt1 hbx1))
    all_goals
      obtain ⟨hB1, hkB1⟩ := HKK1.out
      have hz1 := hkB1.size
      have hz2 := HZ0.out
      simp only [World.size_drew] at hz1
      have HHH := Lib.hid (And.intro hB1 (And.intro (KeptFB.trans (KeptFB.all HK0.out) hkB1) (And.intro (HBX0.out.keptFB hkB1) (show w.heap.size + 1 ≤ (w1.setCell ⟨gb, 0, none⟩ (.slice nv1a nv1l nv1c)).heap.size by omega))))
      clear hB1 hkB1 hz1 hz2 HKK1
      go_wp2
      go_meet
      exact ⟨_, _, _, Lib.hid HHH.out.1, Lib.hid HHH.out.2.1, Lib.hid HHH.out.2.2.1, HHH.out.2.2.2⟩
  case rest =>
  obtain ⟨nva, nvl, nvc, HB1, HK1, HBX1, hz1⟩ := hcut
  clear HB0 HBX0 b0 b1 b2 b3 c0 c1 c2 c3 c4 c5 c6 HK0 HW0 HZ0 hsz0 hgl0 hgx0 hBd
  have hgl1 : gb < wc.heap.size := by omega
  have hgx1 : w.heap.size < wc.heap.size := by omega
  have hBd1 : B ≤ wc.drew.heap.size := by simp only [World.size_drew]; omega
  have HB1d := Lib.hid (HB1.out.keptT ((Kept.refl (fun _ => True) wc).drew))
  have HBX1d := Lib.hid (HBX1.out.kept ((Kept.refl (fun _ => True) wc).drew) trivial)
  have HK1d := Lib.hid (KeptFB.trans HK1.out (KeptFB.all (Kept.refl (fun _ => True) wc).drew))
  obtain ⟨d0, d1, d2, d3⟩ := HB1.out.facts
  obtain ⟨c0, c1, c2, c3, c4, c5, c6⟩ := HBX1.out.facts
  go_upto_region 2 with fail
  go_cut [] (fun wx => ∃ iva ivl ivc, Hid (BookG gb B (.slice nva nvl nvc) (.slice iva ivl ivc) (nr ++ [.slice na ns.length nc]) (ir ++ [.slice ia xs.length ic]) wx) ∧ Hid (Kept (FB B w) w wx) ∧ Hid (OutAt w.heap.size k n t (.slice na ns.length nc) (.slice ia xs.length ic) wx) ∧ w.heap.size + 1 ≤ wx.heap.size)
  case first =>
    go_region_law (
      (refine step_pushOne 30 23 Tryz.underlying30 infoRowJ rfl (by decide) rfl _ _ rfl B (.slice bia bil bic) ir.length ir [.slice ia xs.length ic] wc.drew _ rfl rfl rfl (by intro u hu; simp at hu; subst hu; rfl) 1 _ rfl rfl rfl HB1d.out.irow (by omega) (by decide) hBd1 ?_; intro iv1 w2 k1 k2 k3; obtain ⟨hB2, hkB2, hfz2, hq2, hkt2⟩ := HB1d.out.addI k1 k2 k3; obtain ⟨iv1a, iv1l, iv1c, rfl⟩ := ownsRow_slice k1; have hbx2 := (hkt2 _ _ HBX1d.out).trans HBX1d.out; obtain ⟨x0, x1, x2, x3, x4, x5, x6⟩ := OutAt.facts hbx2; have HKK2 := Lib.hid (And.intro hB2 hkB2); clear k1 k2 k3 hB2 hkB2 hkt2 hbx2))
    all_goals
      obtain ⟨hB2, hkB2⟩ := HKK2.out
      have hz2 := hkB2.size
      simp only [World.size_drew] at hz2
      have HHH := Lib.hid (And.intro hB2 (And.intro (KeptFB.trans HK1d.out hkB2) (And.intro (HBX1d.out.keptFB hkB2) (show w.heap.size + 1 ≤ (w2.setCell ⟨gb, 1, none⟩ (.slice iv1a iv1l iv1c)).heap.size by omega))))
      clear hB2 hkB2 hz2 HKK2
      go_wp2
      go_meet
      exact ⟨_, _, _, Lib.hid HHH.out.1, Lib.hid HHH.out.2.1, Lib.hid HHH.out.2.2.1, HHH.out.2.2.2⟩
  case rest =>
  obtain ⟨iva, ivl, ivc, HB2, HK2, HBX2, hz2⟩ := hcut
  clear HB1 HBX1 HB1d HBX1d HK1 HK1d d0 d1 d2 d3 c0 c1 c2 c3 c4 c5 c6 hgl1 hgx1 hBd1 hz1
  go_wp2_with fail
  go_loopg [4] xs.length (fun q i wr => ∃ (j : Nat) (mn mi : List Value), i = .int .i64 j ∧ q = xs.length - j ∧ j ≤ xs.length ∧ Hid (OutAt w.heap.size k n t (.slice na ns.length nc) (.slice ia xs.length ic) wr) ∧ Hid (∃ bn bi, BookG gb B bn bi (nr ++ mn) (ir ++ mi) wr) ∧
    Hid (Gd wr (FP ++ (fss.take j).flatten) mn mi ∧ mn.length ≤ 1 + partsAll (xs.take j) ∧ mi.length ≤ 1 + partsAll (xs.take j)) ∧ w.heap.size + 1 ≤ wr.heap.size ∧ Hid (Kept (FB B w) w wr))
  case atStart => exact ⟨0, [_], [_], rfl, by omega, Nat.zero_le _, HBX2, Lib.hid ⟨_, _, HB2.out⟩, Lib.hid ⟨by simpa using HG.out.keptFB HK2.out, by simp, by simp⟩, hz2, HK2⟩
  case round =>
    clear HB2 HK2 HBX2 hz2
    obtain ⟨j, mn, mi, rfl, rfl, hjl, HBX, HBK, HM, hz, HK⟩ := hrel
    obtain ⟨c0, c1, c2, c3, c4, c5, c6⟩ := HBX.out.facts
    by_cases hlt : j < xs.length
    · obtain ⟨b, off, rfl, hb, -, -, kx, nx, tx, nax, nlx, ncx, iax, ilx, icx, e1, e2, e3, e4, e5, e6⟩ := HI.out.at hlt
      obtain ⟨x, hx⟩ : ∃ x, xs[j]? = some x := ⟨xs[j]'hlt, List.getElem?_eq_getElem hlt⟩
      obtain ⟨fs, hfs⟩ : ∃ fs, fss[j]? = some fs := ⟨fss[j]'(by have := HFL.out; omega), List.getElem?_eq_getElem _⟩
      have hfd : fss.getD j [] = fs := by rw [List.getD_eq_getElem?_getD, hfs]; rfl
      have ht : xs.take j ++ [x] = xs.take (j + 1) := by rw [List.take_add_one, hx]; rfl
      have htf : (fss.take (j + 1)).flatten = (fss.take j).flatten ++ fs := by rw [List.take_add_one, hfs]; simp
      have hps : partsAll (xs.take j) + partsJ x ≤ partsAll xs := by
        have := partsAll_take xs (j + 1)
        rw [← ht, partsAll_snoc] at this
        exact this
      have hpq : partsAll (xs.take (j + 1)) = partsAll (xs.take j) + partsJ x := by rw [← ht, partsAll_snoc]
      have hown := HH.out j x hx
      rw [hfd] at hown
      have hndf := HND.out
      have hsub : FP ++ (fss.take j).flatten ++ fs ++ (fss.drop (j + 1)).flatten = FP ++ fss.flatten := by
        rw [List.append_assoc, List.append_assoc, ← List.append_assoc (fss.take j).flatten, ← htf, ← List.flatten_append, List.take_append_drop]
      rw [← hsub] at hndf
      have hnd1 := (List.nodup_append.1 hndf).1
      obtain ⟨hnda, hndb, hndc⟩ := List.nodup_append.1 hnd1
      obtain ⟨bn, bi, hbk⟩ := HBK.out
      have hcf : ∀ o v, w.cell? ⟨b, o, none⟩ = some v → wr.cell? ⟨b, o, none⟩ = some v := fun o v hv => by
        have hiv : ∃ cc, w.heap[b]? = some (.cells cc 25 (0, 0)) := by
          obtain ⟨l1, xs1, _, ho⟩ := HG.out.vn (.slice (some ⟨b, off, none⟩) xs.length ic) (by simp)
          exact ownsRow_typ ho rfl
        obtain ⟨cc, hcc⟩ := hiv
        exact (HK.out.cell hb (.jot hcc)).trans hv
      have r0 := hcf _ _ e2
      have r1 := hcf _ _ e3
      have r2 := hcf _ _ e4
      have r3 := hcf _ _ e5
      have r4 := hcf _ _ e6
      have hcall := HIH.out x (List.mem_of_getElem? hx) (us.getD j .nilIface) fs gb B (nr ++ mn) (ir ++ mi) bn bi wr (hown.keptFB HK.out) hndb (HF3.out j x hx) hbk (by rw [List.length_append]; have := HM.out.2.1; have := HPP.out; omega) (by rw [List.length_append]; have := HM.out.2.2; have := HPP.out; omega)
      rw [e1] at hcall
      have HC := Lib.hid hcall
      have HD := Lib.hid hndc
      have HT := Lib.hid (And.intro htf hpq)
      have HOX := Lib.hid hown
      clear hx hfs hfd ht htf hps hpq hown hndf hsub hnd1 hnda hndb hndc hbk hcf hcall e1 e2 e3 e4 e5 e6
      go_wp2_with fail
      refine HC.out.mono ?_
      rintro e w5 ⟨rfl, bn2, bi2, mn2, mi2, hB5, hk5, hg5, hl1, hl2⟩
      have hz5 := hk5.size
      have HB5 := Lib.hid hB5
      have HK5 := Lib.hid hk5
      have HG5 := Lib.hid hg5
      have HL5 := Lib.hid (And.intro hl1 hl2)
      clear hB5 hk5 hg5 hl1 hl2 HC
      go_wp2
      go_roundg (xs.length - (j + 1))
      case rel =>
        refine ⟨j + 1, mn ++ mn2, mi ++ mi2, by go_num, rfl, by omega, Lib.hid (HBX.out.keptFB HK5.out), Lib.hid ⟨_, _, by rw [← List.append_assoc, ← List.append_assoc]; exact HB5.out⟩, Lib.hid ⟨?_, ?_, ?_⟩, by omega, Lib.hid (KeptFB.trans HK.out HK5.out)⟩
        · rw [HT.out.1, ← List.append_assoc]
          exact (HM.out.1.keptFB HK5.out).app HG5.out fun b hb hb2 => HD.out b hb b hb2 rfl
        · rw [List.length_append, HT.out.2]; have := HM.out.2.1; have := HL5.out.1; omega
        · rw [List.length_append, HT.out.2]; have := HM.out.2.2; have := HL5.out.2; omega
      case measure => omega
    · obtain rfl : j = xs.length := by omega
      have HE : Hid ((fss.take xs.length).flatten = fss.flatten ∧ xs.take xs.length = xs) := Lib.hid ⟨by rw [← HFL.out, List.take_length], List.take_length⟩
      go_wp2
      go_end0
      obtain ⟨bn, bi, hbk⟩ := HBK.out
      have hm := HM.out
      rw [HE.out.1, HE.out.2] at hm
      have hpp := HPP.out
      exact ⟨rfl, bn, bi, mn, mi, hbk, HK.out, hm.1, by rw [HPX.out]; omega, by rw [HPX.out]; omega⟩
end Go.Proofs.YtmajpambfblhnaaGreatDoor

namespace Go.Proofs.YtmajpambfblhnaaGreatDoor
open Go.RowKit Jo

def mkN (n : Nat) : List Value := [S (markS n)]
def mkI (n : Nat) : List Value := [.int .i64 (-5 - (n : Int)), .int .i64 0, S [], .slice none 0 0, .slice none 0 0]
theorem mkN_len (n : Nat) : (mkN n).length = 1 := rfl
theorem mkI_len (n : Nat) : (mkI n).length = 5 := rfl
theorem BookG.kr {gb B : Nat} {nv iv : Value} {nr ir : List Value} {w w' : World} (h : BookG gb B nv iv nr ir w) (k0 : KR 32 none w w') (k1 : KR 22 none w w') (k2 : KR 23 none w w') : BookG gb B nv iv nr ir w' :=
  h.step k0.1 (fun g c hg => k0.2 g c hg (by simp)) (fun g c hg => k1.2 g c hg (by simp)) (fun g c hg => k2.2 g c hg (by simp))
/-- The book's rows as slices of a known length. -/
theorem row_form {T : TypeId} {z B n : Nat} {v : Value} {xs : List Value} {w : World} (h : w.ownsRow B T z v n xs) : ∃ a c, v = .slice a n c := by
  rcases ownsRow_view h with ⟨rfl, rfl⟩ | ⟨b, cap, rfl, _⟩
  · exact ⟨_, _, rfl⟩
  · exact ⟨_, _, rfl⟩
/-- The place in a list where the next mark goes. -/
theorem Fl.place {T : TypeId} {z : Nat} {mk : Nat → List Value} {us : List Value} {ls ks : Nat → Nat} {w : World} (h : Fl T z mk us ls ks w) {n i : Nat} {u : Value} (hu : us[n]? = some u) (hi : i < ls n) :
    ∃ b cap, u = .slice (some ⟨b, 0, none⟩) (ls n) cap ∧ b < w.heap.size ∧ (∃ c, w.heap[b]? = some (.cells c T (0, 0))) ∧ (∀ o, w.frozen? ⟨b, o, none⟩ = false) ∧ ∀ t, t < z → ∃ y, w.cell? ⟨b, i * z + t, none⟩ = some y := by
  obtain ⟨rest, hr⟩ := h n u hu
  have hl := hr.1
  have ht := fun g hg => own_typ hr (g := g) hg
  rcases ownsRow_view hr with ⟨rfl, h0⟩ | ⟨b, cap, rfl, h1, h2, h3, h4⟩
  · omega
  · obtain ⟨c, hc⟩ := ht b rfl
    refine ⟨b, cap, rfl, h3, ⟨c, hc⟩, fun o => frozen_row hc o, fun t htz => ?_⟩
    have hlt : i * z + t < (reps mk n (ks n) ++ rest).length := by
      rw [hl]
      have : (i + 1) * z ≤ ls n * z := Nat.mul_le_mul_right _ hi
      rw [Nat.succ_mul] at this
      omega
    exact ⟨_, h4 _ _ (List.getElem?_eq_getElem hlt)⟩
theorem Fl.form {T : TypeId} {z : Nat} {mk : Nat → List Value} {us : List Value} {ls ks : Nat → Nat} {w : World} (h : Fl T z mk us ls ks w) {n : Nat} {u : Value} (hu : us[n]? = some u) : ∃ a c, u = .slice a (ls n) c := by
  obtain ⟨rest, hr⟩ := h n u hu
  exact row_form hr
def fulled (ls : Nat → Nat) (n : Nat) : Nat → Nat := fun j => if j < n then ls j else 0
theorem Fl.full0 {T : TypeId} {z : Nat} {mk : Nat → List Value} {us : List Value} {ls : Nat → Nat} {w : World} (h : Fl T z mk us ls (fun _ => 0) w) : Fl T z mk us ls (fulled ls 0) w := h.congr fun j _ => by simp [fulled]
theorem Fl.enter {T : TypeId} {z : Nat} {mk : Nat → List Value} {us : List Value} {ls : Nat → Nat} {w : World} {n : Nat} (h : Fl T z mk us ls (fulled ls n) w) : Fl T z mk us ls (upd (fulled ls n) n 0) w := h.congr fun j _ => by
  unfold upd fulled
  by_cases e : j = n
  · rw [if_pos e, if_neg (by omega)]
  · rw [if_neg e]
theorem Fl.leave {T : TypeId} {z : Nat} {mk : Nat → List Value} {us : List Value} {ls : Nat → Nat} {w : World} {n : Nat} (h : Fl T z mk us ls (upd (fulled ls n) n (ls n)) w) : Fl T z mk us ls (fulled ls (n + 1)) w := h.congr fun j _ => by
  unfold upd fulled
  by_cases e : j = n
  · rw [if_pos e, e, if_pos (by omega)]
  · rw [if_neg e]
    by_cases h : j < n
    · rw [if_pos h, if_pos (by omega)]
    · rw [if_neg h, if_neg (by omega)]
theorem Fl.all {T : TypeId} {z : Nat} {mk : Nat → List Value} {us : List Value} {ls : Nat → Nat} {w : World} (h : Fl T z mk us ls (fulled ls us.length) w) : Fl T z mk us ls ls w := h.congr fun j hj => by
  unfold fulled
  rw [if_pos hj]
theorem Fl.next1 {T : TypeId} {mk : Nat → List Value} {us : List Value} {ls f : Nat → Nat} {w : World} {n i b cap : Nat} {x : Value} (h : Fl T 1 mk us ls (upd f n i) w) (ha : Apart us) (hz : ∀ n, (mk n).length = 1) (hu : us[n]? = some (.slice (some ⟨b, 0, none⟩) (ls n) cap)) (hl : i < ls n) (hx : mk n = [x]) :
    Fl T 1 mk us ls (upd f n (i + 1)) (w.setCell ⟨b, i, none⟩ x) :=
  (h.store1 ha hz hu (if_pos rfl) hl hx).congr fun j _ => by
    unfold upd
    by_cases e : j = n
    · rw [if_pos e, if_pos e]
    · rw [if_neg e, if_neg e, if_neg e]
theorem Fl.next5 {T : TypeId} {mk : Nat → List Value} {us : List Value} {ls f : Nat → Nat} {w : World} {n i b cap : Nat} {x0 x1 x2 x3 x4 : Value} (h : Fl T 5 mk us ls (upd f n i) w) (ha : Apart us) (hz : ∀ n, (mk n).length = 5) (hu : us[n]? = some (.slice (some ⟨b, 0, none⟩) (ls n) cap)) (hl : i < ls n) (hx : mk n = [x0, x1, x2, x3, x4]) :
    Fl T 5 mk us ls (upd f n (i + 1)) (((((w.setCell ⟨b, i * 5, none⟩ x0).setCell ⟨b, i * 5 + 1, none⟩ x1).setCell ⟨b, i * 5 + 2, none⟩ x2).setCell ⟨b, i * 5 + 3, none⟩ x3).setCell ⟨b, i * 5 + 4, none⟩ x4) :=
  (h.store5 ha hz hu (if_pos rfl) hl hx).congr fun j _ => by
    unfold upd
    by_cases e : j = n
    · rw [if_pos e, if_pos e]
    · rw [if_neg e, if_neg e, if_neg e]
/-- A store into a block of one type leaves those of other types. -/
theorem KR.setC {T U : TypeId} {w : World} {b : Nat} (hb : ∃ c, w.heap[b]? = some (.cells c U (0, 0))) (hne : T ≠ U) (o : Nat) (v : Value) : KR T none w (w.setCell ⟨b, o, none⟩ v) := by
  obtain ⟨c, hc⟩ := hb
  exact KR.set_other hc hne o v
theorem typ_set {U : TypeId} {w : World} {b : Nat} (hb : ∃ c, w.heap[b]? = some (.cells c U (0, 0))) (b' o : Nat) (v : Value) : ∃ c, (w.setCell ⟨b', o, none⟩ v).heap[b]? = some (.cells c U (0, 0)) := by
  obtain ⟨c, hc⟩ := hb
  by_cases e : b = b'
  · subst e; exact ⟨_, setCell_heap hc _⟩
  · exact ⟨c, (Below.heap_setCell _ _ _ _ e).trans hc⟩
theorem KR.set5 {T U : TypeId} {w : World} {b : Nat} (hb : ∃ c, w.heap[b]? = some (.cells c U (0, 0))) (hne : T ≠ U) (o0 o1 o2 o3 o4 : Nat) (x0 x1 x2 x3 x4 : Value) :
    KR T none w (((((w.setCell ⟨b, o0, none⟩ x0).setCell ⟨b, o1, none⟩ x1).setCell ⟨b, o2, none⟩ x2).setCell ⟨b, o3, none⟩ x3).setCell ⟨b, o4, none⟩ x4) := by
  have h1 := typ_set hb b o0 x0
  have h2 := typ_set h1 b o1 x1
  have h3 := typ_set h2 b o2 x2
  have h4 := typ_set h3 b o3 x3
  exact ((((KR.setC hb hne o0 x0).trans (KR.setC h1 hne o1 x1)).trans (KR.setC h2 hne o2 x2)).trans (KR.setC h3 hne o3 x3)).trans (KR.setC h4 hne o4 x4)
theorem mem_blks {us : List Value} {n b : Nat} {u : Value} (h : us[n]? = some u) (hb : u.ownBlock = some b) : b ∈ blks us := List.mem_filterMap.2 ⟨u, List.mem_of_getElem? h, hb⟩

theorem kept_5 (w : World) (g o0 o1 o2 o3 o4 : Nat) (a b c d e : Value) : Kept (· ≠ g) w (((((w.setCell ⟨g, o0, none⟩ a).setCell ⟨g, o1, none⟩ b).setCell ⟨g, o2, none⟩ c).setCell ⟨g, o3, none⟩ d).setCell ⟨g, o4, none⟩ e) :=
  (((((Kept.refl _ w).setCell (.inr (by simp)) _).setCell (.inr (by simp)) _).setCell (.inr (by simp)) _).setCell (.inr (by simp)) _).setCell (.inr (by simp)) _
/-- The book lies elsewhere than the lists that it names. -/
theorem BookG.far {gb B : Nat} {nv iv : Value} {us vs : List Value} {w w' : World} {lu lv : Nat → Nat} (h : BookG gb B nv iv us vs w) (hu : ∀ (j : Nat) u, us[j]? = some u → ∃ xs, w.ownsRow 0 9 1 u (lu j) xs) (hv : ∀ (j : Nat) u, vs[j]? = some u → ∃ xs, w.ownsRow 0 25 5 u (lv j) xs)
    (hk : Kept (fun b => b ∉ blks us ∧ b ∉ blks vs) w w') : BookG gb B nv iv us vs w' := by
  have key : ∀ (T : TypeId) (b : Nat) (c : Array Value), w.heap[b]? = some (.cells c T (0, 0)) → T ≠ 9 → T ≠ 25 → b ∉ blks us ∧ b ∉ blks vs := by
    intro T b c hc h1 h2
    refine ⟨fun hb => ?_, fun hb => ?_⟩
    · obtain ⟨u, hu1, hu2⟩ := List.mem_filterMap.1 hb
      obtain ⟨j, hj, rfl⟩ := List.getElem_of_mem hu1
      obtain ⟨xs, hx⟩ := hu j _ (List.getElem?_eq_getElem hj)
      obtain ⟨c', hc'⟩ := own_typ hx hu2
      exact h1 (typ_eq hc hc')
    · obtain ⟨u, hu1, hu2⟩ := List.mem_filterMap.1 hb
      obtain ⟨j, hj, rfl⟩ := List.getElem_of_mem hu1
      obtain ⟨xs, hx⟩ := hv j _ (List.getElem?_eq_getElem hj)
      obtain ⟨c', hc'⟩ := own_typ hx hu2
      exact h2 (typ_eq hc hc')
  refine ⟨(hk.block gb (Array.getElem?_eq_some_iff.1 h.box).1 (key _ _ _ h.box (by decide) (by decide))).trans h.box, h.base, ownsRow_kept h.nrow hk fun b hb => ?_, ownsRow_kept h.irow hk fun b hb => ?_⟩
  · obtain ⟨c, hc⟩ := own_typ h.nrow hb
    exact key _ _ _ hc (by decide) (by decide)
  · obtain ⟨c, hc⟩ := own_typ h.irow hb
    exact key _ _ _ hc (by decide) (by decide)
theorem cnt_snoc {rs : List (Value × Nat)} {n i : Nat} {x : Value} (h : rs.length = 20 * n + i ∧ ∀ (k : Nat) r, rs[k]? = some r → r.2 = k / 20) (hi : i < 20) :
    (rs ++ [(x, n)]).length = 20 * n + (i + 1) ∧ ∀ (k : Nat) r, (rs ++ [(x, n)])[k]? = some r → r.2 = k / 20 := by
  obtain ⟨h1, h2⟩ := h
  refine ⟨by rw [List.length_append, h1]; simp; omega, fun k r hr => ?_⟩
  rw [List.getElem?_append] at hr
  by_cases hk : k < rs.length
  · rw [if_pos hk] at hr
    exact h2 k r hr
  · rw [if_neg hk] at hr
    have hk0 : k - rs.length = 0 := by
      have := (List.getElem?_eq_some_iff.1 hr).1
      simp at this; omega
    rw [hk0] at hr
    obtain rfl : (x, n) = r := by simpa using hr
    show n = k / 20
    omega
/-- What was recorded reads as its marks: the k-th slice bears marks of k / 20. -/
def RdR (T : TypeId) (z : Nat) (mk : Nat → List Value) (rs : List (Value × Nat)) (lab : Nat → Nat) (w : World) : Prop := ∀ r ∈ rs, RecK T z mk lab none 0 w r.1 r.2
theorem RdR.kr {T : TypeId} {z : Nat} {mk : Nat → List Value} {rs : List (Value × Nat)} {lab : Nat → Nat} {w w' : World} (h : RdR T z mk rs lab w) (hk : KR T none w w') : RdR T z mk rs lab w' := fun r hr => (h r hr).kr hk fun _ e => (by cases e)
theorem RecK.form {T : TypeId} {z : Nat} {mk : Nat → List Value} {lab : Nat → Nat} {w : World} {u : Value} {i : Nat} (h : RecK T z mk lab none 0 w u i) : ∃ a l c, u = .slice a l c ∧ l ≤ 9223372036854775807 ∧ ∀ j, j < l → ∃ b, a = some ⟨b, 0, none⟩ ∧ b < w.heap.size ∧ ∀ t, t < z → w.cell? ⟨b, j * z + t, none⟩ = (mk i)[t]? := by
  rcases h with rfl | ⟨b, k, cap, rfl, h1, ⟨c, h2⟩, h3, h4, h5⟩
  · exact ⟨_, _, _, rfl, by omega, fun j hj => by omega⟩
  · unfold maxLen at h1
    exact ⟨_, _, _, rfl, by omega, fun j hj => ⟨b, rfl, (Array.getElem?_eq_some_iff.1 h2).1, fun t ht => h5 j t hj ht⟩⟩
end Go.Proofs.YtmajpambfblhnaaGreatDoor
