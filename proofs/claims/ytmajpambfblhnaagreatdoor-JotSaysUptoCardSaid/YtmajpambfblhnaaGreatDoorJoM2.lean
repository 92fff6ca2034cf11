/- Layer 4: what is lent: a book of marked lists. -/
import Derived.Test.YtmajpambfblhnaaGreatDoorJoM1
import Derived.Test.YtmajpambfblhnaaGreatDoorJoL1
namespace Go.Proofs.YtmajpambfblhnaaGreatDoor
open Go.RowKit Jo

namespace Jo
mutual
/-- How many parts and names a value has. -/
def partsJ : J → Nat
  | .mk _ _ _ ns xs => 1 + ns.length + partsAll xs
def partsAll : List J → Nat
  | [] => 0
  | x :: xs => partsJ x + partsAll xs
end
theorem partsAll_snoc (xs : List J) (x : J) : partsAll (xs ++ [x]) = partsAll xs + partsJ x := by
  induction xs with
  | nil => simp [partsAll]
  | cons y ys ih => simp only [List.cons_append, partsAll, ih]; omega
theorem partsAll_take (xs : List J) (j : Nat) : partsAll (xs.take j) ≤ partsAll xs := by
  induction xs generalizing j with
  | nil => simp
  | cons y ys ih => cases j with
    | zero => simp [partsAll]
    | succ j => simp only [List.take_succ_cons, partsAll]; have := ih j; omega
theorem partsJ_pos (x : J) : 1 ≤ partsJ x := by cases x; simp only [partsJ]; omega
theorem left_parts : ∀ x : J, ∀ n : Int, 0 ≤ leftP x n → leftP x n + partsJ x = n := by
  refine J.ind fun k a t ns xs IH => ?_
  intro n h0
  rw [leftP] at h0 ⊢
  have key : ∀ (ys : List J), (∀ y ∈ ys, y ∈ xs) → ∀ m : Int, 0 ≤ leftAll ys m → leftAll ys m + partsAll ys = m := by
    intro ys
    induction ys with
    | nil => intro _ m h3; simp [leftAll, partsAll]
    | cons y ys ih =>
      intro hy m h3
      rw [leftAll] at h3 ⊢
      by_cases hm : m < 0
      · rw [if_pos hm] at h3; omega
      · rw [if_neg hm] at h3 ⊢
        have hnn : 0 ≤ leftP y m := by
          rcases Int.lt_or_le (leftP y m) 0 with h | h
          · rw [leftAll_neg _ _ h] at h3; omega
          · exact h
        have q0 := IH y (hy y (by simp)) m hnn
        have q3 := ih (fun z hz => hy z (by simp [hz])) (leftP y m) h3
        simp only [partsAll]
        omega
  have := key xs (fun _ h => h) _ h0
  simp only [partsJ]
  omega
end Jo

theorem infoRowS : (Tryz.prog.info? 22).map (fun i => (i.zero, i.size, i.bytes)) = some (some (.slice none 0 0), 1, 24) := by kernel_rfl
theorem infoRowJ : (Tryz.prog.info? 23).map (fun i => (i.zero, i.size, i.bytes)) = some (some (.slice none 0 0), 1, 24) := by kernel_rfl

theorem ownsRow_typ {e : TypeId} {size B n : Nat} {v : Value} {xs : List Value} {w : World} (h : w.ownsRow B e size v n xs) {g : Nat} (hg : v.ownBlock = some g) : ∃ c, w.heap[g]? = some (.cells c e (0, 0)) := by
  rcases h.2 with ⟨rfl, _⟩ | ⟨b, cap, cur, rfl, _, hb, _⟩
  · cases hg
  · obtain rfl : b = g := by simpa [Value.ownBlock] using hg
    exact ⟨_, hb⟩
/-- All blocks of cells of this type stay. -/
def KT (w w' : World) (T : TypeId) : Prop := ∀ (g : Nat) (c : Array Value), w.heap[g]? = some (.cells c T (0, 0)) → w'.heap[g]? = w.heap[g]?
theorem KT.of {w w' : World} {T : TypeId} (hk : Kept (fun _ => True) w w') : KT w w' T := fun _ _ h => hk.block _ (Array.getElem?_eq_some_iff.1 h).1 trivial
/-- A marked place behind names that are lent. -/
def MkN (w : World) (u : Value) : Prop := ∃ g n c cs, u = .slice (some ⟨g, 0, none⟩) (n + 1) c ∧ (n < c ∧ c ≤ 9223372036854775807) ∧ w.heap[g]? = some (.cells cs 9 (0, 0)) ∧ cs[n]? = some (S [126])
/-- .. behind items. -/
def MkI (w : World) (u : Value) : Prop := ∃ g n c cs, u = .slice (some ⟨g, 0, none⟩) (n + 1) c ∧ (n < c ∧ c ≤ 9223372036854775807) ∧ w.heap[g]? = some (.cells cs 25 (0, 0)) ∧ cs[n * 5]? = some (.int .i64 (-77))
theorem MkN.kept {w w' : World} {u : Value} (h : MkN w u) (hk : KT w w' 9) : MkN w' u := by
  obtain ⟨g, n, c, cs, e, h0, h1, h2⟩ := h
  exact ⟨g, n, c, cs, e, h0, (hk g cs h1).trans h1, h2⟩
theorem MkI.kept {w w' : World} {u : Value} (h : MkI w u) (hk : ∀ g, u.ownBlock = some g → w'.heap[g]? = w.heap[g]?) : MkI w' u := by
  obtain ⟨g, n, c, cs, e, h0, h1, h2⟩ := h
  exact ⟨g, n, c, cs, e, h0, (hk g (by rw [e]; rfl)).trans h1, h2⟩
theorem MkI.typ {w : World} {u : Value} (h : MkI w u) {g : Nat} (hg : u.ownBlock = some g) : ∃ c, w.heap[g]? = some (.cells c 25 (0, 0)) := by
  obtain ⟨g', n, c, cs, rfl, h0, h1, h2⟩ := h
  obtain rfl : g' = g := by simpa [Value.ownBlock] using hg
  exact ⟨_, h1⟩
/-- The book at gb, with its rows nv and iv; in each list behind it a marked place. -/
structure BookAt (gb B : Nat) (nv iv : Value) (nr ir : List Value) (w : World) : Prop where
  box : w.heap[gb]? = some (.cells #[nv, iv] 32 (0, 0))
  base : B ≤ gb
  nrow : w.ownsRow B 22 1 nv nr.length nr
  irow : w.ownsRow B 23 1 iv ir.length ir
  nmk : ∀ u ∈ nr, MkN w u
  imk : ∀ u ∈ ir, MkI w u
theorem BookAt.step {gb B : Nat} {nv iv : Value} {nr ir : List Value} {w w' : World} (h : BookAt gb B nv iv nr ir w) (hz : w.heap.size ≤ w'.heap.size) (hs : KT w w' 9) (hb : KT w w' 32) (h1 : KT w w' 22) (h2 : KT w w' 23)
    (hi : ∀ u ∈ ir, ∀ g, u.ownBlock = some g → w'.heap[g]? = w.heap[g]?) : BookAt gb B nv iv nr ir w' :=
  ⟨(hb _ _ h.box).trans h.box, h.base, ownsRow_keptL h.nrow hz (fun b hb => by obtain ⟨c, hc⟩ := ownsRow_typ h.nrow hb; exact h1 b c hc), ownsRow_keptL h.irow hz (fun b hb => by obtain ⟨c, hc⟩ := ownsRow_typ h.irow hb; exact h2 b c hc),
    fun u hu => (h.nmk u hu).kept hs, fun u hu => (h.imk u hu).kept (hi u hu)⟩
theorem BookAt.keptT {gb B : Nat} {nv iv : Value} {nr ir : List Value} {w w' : World} (h : BookAt gb B nv iv nr ir w) (hk : Kept (fun _ => True) w w') : BookAt gb B nv iv nr ir w' :=
  h.step hk.size (.of hk) (.of hk) (.of hk) (.of hk) fun u hu g hg => by obtain ⟨c, hc⟩ := (h.imk u hu).typ hg; exact hk.block g (Array.getElem?_eq_some_iff.1 hc).1 trivial
theorem BookAt.facts {gb B : Nat} {nv iv : Value} {nr ir : List Value} {w : World} (h : BookAt gb B nv iv nr ir w) :
    w.cell? ⟨gb, 0, none⟩ = some nv ∧ w.cell? ⟨gb, 1, none⟩ = some iv ∧ w.frozen? ⟨gb, 0, none⟩ = false ∧ w.frozen? ⟨gb, 1, none⟩ = false := by
  have hb := h.box
  refine ⟨?_, ?_, frozen_row hb 0, frozen_row hb 1⟩ <;> rw [cell_of_row w gb _ _ _ (0, 0) hb] <;> rfl
/-- Block g holds no part of a book. -/
def NB (w : World) (g : Nat) : Prop := ∀ c : Array Value, w.heap[g]? ≠ some (.cells c 22 (0, 0)) ∧ w.heap[g]? ≠ some (.cells c 23 (0, 0)) ∧ w.heap[g]? ≠ some (.cells c 32 (0, 0))
theorem NB.str {w : World} {g : Nat} {c : Array Value} (h : w.heap[g]? = some (.cells c 9 (0, 0))) : NB w g := by
  intro c'
  rw [h]
  simp
theorem NB.jot {w : World} {g : Nat} {c : Array Value} (h : w.heap[g]? = some (.cells c 25 (0, 0))) : NB w g := by
  intro c'
  rw [h]
  simp
/-- What a call that lends may write: the book alone. -/
def FB (B : Nat) (w : World) (i : Nat) : Prop := i < B ∨ NB w i
theorem KeptFB.trans {B : Nat} {a b c : World} (h : Kept (FB B a) a b) (k : Kept (FB B b) b c) : Kept (FB B a) a c :=
  h.trans k fun i hi hF => by
    rcases hF with hF | hF
    · exact .inl hF
    · exact .inr fun c => by rw [h.block i hi (.inr hF)]; exact hF c
theorem KeptFB.all {B : Nat} {a b : World} (h : Kept (fun _ => True) a b) : Kept (FB B a) a b := h.mono fun _ _ _ => trivial
theorem FB.str {B : Nat} {w : World} {g : Nat} {c : Array Value} (h : w.heap[g]? = some (.cells c 9 (0, 0))) : FB B w g := .inr (.str h)
theorem FB.jot {B : Nat} {w : World} {g : Nat} {c : Array Value} (h : w.heap[g]? = some (.cells c 25 (0, 0))) : FB B w g := .inr (.jot h)
theorem OutAt.keptFB {g : Nat} {k n : Int} {t : List UInt8} {nv iv : Value} {B : Nat} {w w' : World} (h : OutAt g k n t nv iv w) (hk : Kept (FB B w) w w') : OutAt g k n t nv iv w' := h.kept hk (.jot h)
theorem rowS_keptFB {size B B' n : Nat} {v : Value} {xs : List Value} {w w' : World} (h : w.ownsRow B 9 size v n xs) (hk : Kept (FB B' w) w w') : w'.ownsRow B 9 size v n xs :=
  ownsRow_kept h hk fun b hb => by obtain ⟨c, hc⟩ := ownsRow_typ h hb; exact .str hc
theorem rowJ_keptFB {size B B' n : Nat} {v : Value} {xs : List Value} {w w' : World} (h : w.ownsRow B 25 size v n xs) (hk : Kept (FB B' w) w w') : w'.ownsRow B 25 size v n xs :=
  ownsRow_kept h hk fun b hb => by obtain ⟨c, hc⟩ := ownsRow_typ h hb; exact .jot hc
/-- The blocks of a value are of two types. -/
theorem JOwn.typ {w : World} {x : J} {v : Value} {fp : List Nat} (h : JOwn w x v fp) : ∀ b ∈ fp, NB w b := by
  induction h with
  | mk k n t ns xs nv iv us fss hu hf hn hi _ ih =>
    intro b hb
    rw [List.mem_append, List.mem_append] at hb
    rcases hb with (hb | hb) | hb
    · obtain ⟨c, hc⟩ := ownsRow_typ hn (by simpa using hb); exact .str hc
    · obtain ⟨c, hc⟩ := ownsRow_typ hi (by simpa using hb); exact .jot hc
    · obtain ⟨fs, hfs, hb⟩ := List.mem_flatten.1 hb
      obtain ⟨j, hj, rfl⟩ := List.getElem_of_mem hfs
      have := ih j (xs[j]'(by omega)) (List.getElem?_eq_getElem _) b
      rw [List.getD_eq_getElem?_getD, List.getElem?_eq_getElem hj] at this
      exact this hb
theorem JOwn.keptFB {w w' : World} {x : J} {v : Value} {fp : List Nat} {B : Nat} (h : JOwn w x v fp) (hk : Kept (FB B w) w w') : JOwn w' x v fp := h.kept hk.size fun b hb => hk.block b (h.lt b hb) (.inr (h.typ b hb))
theorem OwnJ.keptFB {B B' : Nat} {av : Option Nat} {iv : Value} {xs : List J} {w w' : World} (h : OwnJ B av iv xs w) (hk : Kept (FB B' w) w w') : OwnJ B av iv xs w' := by
  obtain ⟨us, fss, h1, h2, h3, h4, h5, h6⟩ := h
  exact ⟨us, fss, h1, h2, rowJ_keptFB h3 hk, fun j x hx => (h4 j x hx).keptFB hk, h5, h6⟩
theorem FB.moved {B : Nat} {T : TypeId} {nv nv' : Value} {n : Nat} {xs : List Value} {w w' : World} (h : w.ownsRow B T 1 nv n xs) (hT : T = 22 ∨ T = 23) (hb : Below B w w') (hm : Moved nv nv' w w') : Kept (FB B w) w w' :=
  ⟨hb.os, hb.tape, hb.output, hb.size, fun i hi hF => hm.kept.2 i hi fun e => by
    have := (h.lt i e.symm).1
    obtain ⟨c, hc⟩ := ownsRow_typ h e.symm
    rcases hF with hF | hF
    · omega
    · rcases hT with rfl | rfl
      · exact (hF c).1 hc
      · exact (hF c).2.1 hc⟩
theorem keptFB_set {B gb : Nat} {c : Array Value} {w : World} (hb : w.heap[gb]? = some (.cells c 32 (0, 0))) (hB : B ≤ gb) (o : Nat) (u : Value) : Kept (FB B w) w (w.setCell ⟨gb, o, none⟩ u) :=
  (Kept.refl _ w).setCell (.inr fun hF => by
    rcases hF with hF | hF
    · simp only at hF; omega
    · exact (hF c).2.2 hb) u
theorem kt_moved {T U : TypeId} {B n : Nat} {nv nv' : Value} {xs : List Value} {w w' : World} (h : w.ownsRow B T 1 nv n xs) (hm : Moved nv nv' w w') (hne : U ≠ T) : KT w w' U := fun g c hg => hm.kept.2 g (Array.getElem?_eq_some_iff.1 hg).1 fun e => by
  obtain ⟨c2, hc2⟩ := ownsRow_typ h e.symm
  rw [hg] at hc2
  exact hne (by simpa using congrArg (fun o => match o with | some (.cells _ T _) => T | _ => 0) hc2)
theorem kt_moved' {T U : TypeId} {B n size : Nat} {nv nv' : Value} {xs : List Value} {w w' : World} (h : w.ownsRow B T size nv n xs) (hm : Moved nv nv' w w') (hne : U ≠ T) : KT w w' U := fun g c hg => hm.kept.2 g (Array.getElem?_eq_some_iff.1 hg).1 fun e => by
  obtain ⟨c2, hc2⟩ := ownsRow_typ h e.symm
  rw [hg] at hc2
  exact hne (by simpa using congrArg (fun o => match o with | some (.cells _ T _) => T | _ => 0) hc2)
theorem kt_set {U : TypeId} {gb : Nat} {c : Array Value} {w : World} (hb : w.heap[gb]? = some (.cells c 32 (0, 0))) (hne : U ≠ 32) (o : Nat) (u : Value) : KT w (w.setCell ⟨gb, o, none⟩ u) U := fun g c2 hg => Below.heap_setCell _ _ _ _ fun e => by
  obtain rfl : g = gb := e
  rw [hg] at hb
  exact hne (by simpa using congrArg (fun o => match o with | some (.cells _ T _) => T | _ => 0) hb)
theorem KT.trans {a b c : World} {T : TypeId} (h : KT a b T) (k : KT b c T) : KT a c T := fun g cs hg => (k g cs ((h g cs hg).trans hg)).trans (h g cs hg)
/-- One list of names more. -/
theorem BookAt.addN {gb B : Nat} {nv iv nv' u : Value} {nr ir : List Value} {w w' : World} (h : BookAt gb B nv iv nr ir w) (k1 : w'.ownsRow B 22 1 nv' (nr.length + 1) (nr ++ [u])) (k2 : Below B w w') (k3 : Moved nv nv' w w') (hu : MkN w u) :
    BookAt gb B nv' iv (nr ++ [u]) ir (w'.setCell ⟨gb, 0, none⟩ nv') ∧ Kept (FB B w) w (w'.setCell ⟨gb, 0, none⟩ nv') := by
  have kt := fun U (hU : U ≠ 22) => kt_moved (U := U) h.nrow k3 hU
  have hbox : w'.heap[gb]? = some (.cells #[nv, iv] 32 (0, 0)) := (kt _ (by decide) _ _ h.box).trans h.box
  have ks := fun U (hU : U ≠ 32) => kt_set (U := U) hbox hU 0 nv'
  have hz : w.heap.size ≤ w'.heap.size := k2.size
  have hz2 : w'.heap.size ≤ (w'.setCell ⟨gb, 0, none⟩ nv').heap.size := by simp [World.setCell]
  refine ⟨⟨(setCell_heap hbox _).trans rfl, h.base, ?_, ?_, fun v hv => ?_, fun v hv => ?_⟩, ?_⟩
  · rw [List.length_append]
    exact ownsRow_keptL k1 hz2 fun b hb => by obtain ⟨c, hc⟩ := ownsRow_typ k1 hb; exact ks _ (by decide) b c hc
  · exact ownsRow_keptL (ownsRow_keptL h.irow hz fun b hb => by obtain ⟨c, hc⟩ := ownsRow_typ h.irow hb; exact kt _ (by decide) b c hc) hz2 fun b hb => by
      obtain ⟨c, hc⟩ := ownsRow_typ h.irow hb
      exact ks _ (by decide) b c ((kt _ (by decide) b c hc).trans hc)
  · have hm : MkN w v := by
      rcases List.mem_append.1 hv with hv | hv
      · exact h.nmk v hv
      · obtain rfl : v = u := by simpa using hv
        exact hu
    exact (hm.kept (kt _ (by decide))).kept (ks _ (by decide))
  · have hm := h.imk v hv
    refine (MkI.kept (w' := w') hm fun g hg => ?_).kept fun g hg => ?_
    · obtain ⟨c, hc⟩ := hm.typ hg; exact kt _ (by decide) g c hc
    · obtain ⟨c, hc⟩ := hm.typ hg; exact ks _ (by decide) g c ((kt _ (by decide) g c hc).trans hc)
  · exact KeptFB.trans (FB.moved h.nrow (.inl rfl) k2 k3) (keptFB_set hbox h.base 0 nv')
/-- One list of items more. -/
theorem BookAt.addI {gb B : Nat} {nv iv iv' u : Value} {nr ir : List Value} {w w' : World} (h : BookAt gb B nv iv nr ir w) (k1 : w'.ownsRow B 23 1 iv' (ir.length + 1) (ir ++ [u])) (k2 : Below B w w') (k3 : Moved iv iv' w w') (hu : MkI w u) :
    BookAt gb B nv iv' nr (ir ++ [u]) (w'.setCell ⟨gb, 1, none⟩ iv') ∧ Kept (FB B w) w (w'.setCell ⟨gb, 1, none⟩ iv') := by
  have kt := fun U (hU : U ≠ 23) => kt_moved (U := U) h.irow k3 hU
  have hbox : w'.heap[gb]? = some (.cells #[nv, iv] 32 (0, 0)) := (kt _ (by decide) _ _ h.box).trans h.box
  have ks := fun U (hU : U ≠ 32) => kt_set (U := U) hbox hU 1 iv'
  have hz : w.heap.size ≤ w'.heap.size := k2.size
  have hz2 : w'.heap.size ≤ (w'.setCell ⟨gb, 1, none⟩ iv').heap.size := by simp [World.setCell]
  refine ⟨⟨(setCell_heap hbox _).trans rfl, h.base, ?_, ?_, fun v hv => ?_, fun v hv => ?_⟩, ?_⟩
  · exact ownsRow_keptL (ownsRow_keptL h.nrow hz fun b hb => by obtain ⟨c, hc⟩ := ownsRow_typ h.nrow hb; exact kt _ (by decide) b c hc) hz2 fun b hb => by
      obtain ⟨c, hc⟩ := ownsRow_typ h.nrow hb
      exact ks _ (by decide) b c ((kt _ (by decide) b c hc).trans hc)
  · rw [List.length_append]
    exact ownsRow_keptL k1 hz2 fun b hb => by obtain ⟨c, hc⟩ := ownsRow_typ k1 hb; exact ks _ (by decide) b c hc
  · exact ((h.nmk v hv).kept (kt _ (by decide))).kept (ks _ (by decide))
  · have hm : MkI w v := by
      rcases List.mem_append.1 hv with hv | hv
      · exact h.imk v hv
      · obtain rfl : v = u := by simpa using hv
        exact hu
    refine (MkI.kept (w' := w') hm fun g hg => ?_).kept fun g hg => ?_
    · obtain ⟨c, hc⟩ := hm.typ hg; exact kt _ (by decide) g c hc
    · obtain ⟨c, hc⟩ := hm.typ hg; exact ks _ (by decide) g c ((kt _ (by decide) g c hc).trans hc)
  · exact KeptFB.trans (FB.moved h.irow (.inr rfl) k2 k3) (keptFB_set hbox h.base 1 iv')
/-- All but the last of a row. -/
theorem ownsRow_pre {e : TypeId} {size B n c g : Nat} {xs ys : List Value} {w : World} (h : w.ownsRow B e size (.slice (some ⟨g, 0, none⟩) (n + 1) c) (n + 1) (xs ++ ys)) (hx : xs.length = n * size) : w.ownsRow B e size (.slice (some ⟨g, 0, none⟩) n c) n xs := by
  refine ⟨hx, ?_⟩
  rcases h.2 with ⟨_, h0⟩ | ⟨b, cap, cur, e1, h1, h2, h3, h4, h5, h6⟩
  · omega
  · obtain ⟨rfl, rfl⟩ : g = b ∧ c = cap := by simpa using e1
    refine .inr ⟨g, c, cur, rfl, h1, h2, by omega, h4, h5, ?_⟩
    have e : n * size ≤ (n + 1) * size := Nat.mul_le_mul_right _ (by omega)
    have := congrArg (List.take (n * size)) h6
    rw [List.take_take, Nat.min_eq_left e, ← hx, List.take_left] at this
    rw [← hx]
    exact this
theorem MkN.of {B n c g : Nat} {xs : List Value} {w : World} (h : w.ownsRow B 9 1 (.slice (some ⟨g, 0, none⟩) (n + 1) c) (n + 1) (xs ++ [S [126]])) (hx : xs.length = n) : MkN w (.slice (some ⟨g, 0, none⟩) (n + 1) c) := by
  rcases h.2 with ⟨_, h0⟩ | ⟨b, cap, cur, e1, h1, h2, h3, h4, h5, h6⟩
  · omega
  · obtain ⟨rfl, rfl⟩ : g = b ∧ c = cap := by simpa using e1
    refine ⟨g, n, c, cur, rfl, by unfold maxLen at h4; omega, h2, ?_⟩
    have : (cur.toList.take ((n + 1) * 1))[n]? = some (S [126]) := by rw [h6, List.getElem?_append_right (by omega), hx]; simp
    rw [List.getElem?_take, if_pos (by omega)] at this
    simpa using this
theorem MkI.of {B n c g : Nat} {xs : List Value} {w : World} (h : w.ownsRow B 25 5 (.slice (some ⟨g, 0, none⟩) (n + 1) c) (n + 1) (xs ++ (jotV (-77) 0 [] (.slice none 0 0) (.slice none 0 0)).cells.toList)) (hx : xs.length = n * 5) : MkI w (.slice (some ⟨g, 0, none⟩) (n + 1) c) := by
  rcases h.2 with ⟨_, h0⟩ | ⟨b, cap, cur, e1, h1, h2, h3, h4, h5, h6⟩
  · omega
  · obtain ⟨rfl, rfl⟩ : g = b ∧ c = cap := by simpa using e1
    refine ⟨g, n, c, cur, rfl, by unfold maxLen at h4; omega, h2, ?_⟩
    have : (cur.toList.take ((n + 1) * 5))[n * 5]? = some (.int .i64 (-77)) := by rw [h6, List.getElem?_append_right (by omega), hx]; simp [Value.cells]
    rw [List.getElem?_take, if_pos (by omega)] at this
    simpa using this
/-- What lend leaves. -/
def LendQ (w : World) (x : J) (gb B : Nat) (nr ir : List Value) (e : Ending) (w' : World) : Prop :=
  ∃ u fp mn mi, e = .returned u ∧ JOwn w' x u fp ∧ fp.Nodup ∧ (∀ b ∈ fp, w.heap.size ≤ b) ∧ (∃ nv iv, BookAt gb B nv iv (nr ++ mn) (ir ++ mi) w') ∧ mn.length ≤ partsJ x ∧ mi.length ≤ partsJ x ∧
    (∀ u ∈ mi, ∀ g, u.ownBlock = some g → w.heap.size ≤ g) ∧ Kept (FB B w) w w'
end Go.Proofs.YtmajpambfblhnaaGreatDoor
