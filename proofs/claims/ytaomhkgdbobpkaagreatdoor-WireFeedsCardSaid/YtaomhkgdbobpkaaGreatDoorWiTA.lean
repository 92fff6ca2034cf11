/- The law of layer 5, its book: its rows, marks, lists noted. -/
import Derived.Test.YtaomhkgdbobpkaaGreatDoorWiT1
namespace Go.Proofs.YtaomhkgdbobpkaaGreatDoor
open Go.RowKit

def up {α : Type} (f : Nat → α) (n : Nat) (x : α) : Nat → α := fun j => if j = n then x else f j
theorem up_same {α : Type} (f : Nat → α) (n : Nat) (x : α) : up f n x n = x := if_pos rfl
theorem up_other {α : Type} (f : Nat → α) {n j : Nat} (x : α) (h : j ≠ n) : up f n x j = f j := if_neg h
/-- The types of the book's rows' elements. -/
def bkT (i : Nat) : TypeId := if i < 4 then 48 else if i = 4 then 3 else 39
/-- The book at gb, with its eight rows. -/
structure Bk (gb B : Nat) (vs : Nat → Value) (xs : Nat → List Value) (w : World) : Prop where
  box : w.heap[gb]? = some (.cells #[vs 0, vs 1, vs 2, vs 3, vs 4, vs 5, vs 6, vs 7] 38 (0, 0))
  base : B ≤ gb
  row : ∀ i, i < 8 → w.ownsRow B (bkT i) 1 (vs i) (xs i).length (xs i)
  dis : ∀ i j b, i < 8 → j < 8 → i ≠ j → (vs i).ownBlock = some b → (vs j).ownBlock ≠ some b
/-- Block g holds no part of a book. -/
def NBk (w : World) (g : Nat) : Prop := ∀ c : Array Value, w.heap[g]? ≠ some (.cells c 48 (0, 0)) ∧ w.heap[g]? ≠ some (.cells c 3 (0, 0)) ∧ w.heap[g]? ≠ some (.cells c 39 (0, 0)) ∧ w.heap[g]? ≠ some (.cells c 38 (0, 0))
/-- What a call may leave that writes the book alone. -/
def FBk (B : Nat) (w : World) (i : Nat) : Prop := i < B ∨ NBk w i
theorem KeptFBk.trans {B : Nat} {a b c : World} (h : Kept (FBk B a) a b) (k : Kept (FBk B b) b c) : Kept (FBk B a) a c :=
  h.trans k fun i hi hF => by
    rcases hF with hF | hF
    · exact .inl hF
    · exact .inr fun c => by rw [h.block i hi (.inr hF)]; exact hF c
theorem KeptFBk.all {B : Nat} {a b : World} (h : Kept (fun _ => True) a b) : Kept (FBk B a) a b := h.mono fun _ _ _ => trivial
theorem NBk.of {w : World} {g : Nat} {T : TypeId} {c : Array Value} {fz : Nat × Nat} (h : w.heap[g]? = some (.cells c T fz)) (h1 : T ≠ 48) (h2 : T ≠ 3) (h3 : T ≠ 39) (h4 : T ≠ 38) : NBk w g := by
  have key : ∀ U, T ≠ U → ∀ c' : Array Value, w.heap[g]? ≠ some (.cells c' U (0, 0)) := fun U hU c' e => by
    rw [h] at e
    simp only [Option.some.injEq, Obj.cells.injEq] at e
    exact hU e.2.1
  exact fun c' => ⟨key _ h1 c', key _ h2 c', key _ h3 c', key _ h4 c'⟩
theorem FBk.of {B : Nat} {w : World} {g : Nat} {T : TypeId} {c : Array Value} {fz : Nat × Nat} (h : w.heap[g]? = some (.cells c T fz)) (h1 : T ≠ 48) (h2 : T ≠ 3) (h3 : T ≠ 39) (h4 : T ≠ 38) : FBk B w g := .inr (.of h h1 h2 h3 h4)
theorem bkT_ne (i : Nat) : bkT i ≠ 38 := by
  unfold bkT
  split
  · decide
  · split <;> decide
theorem bkT_of (i : Nat) : bkT i = 48 ∨ bkT i = 3 ∨ bkT i = 39 := by
  unfold bkT
  split
  · exact .inl rfl
  · split
    · exact .inr (.inl rfl)
    · exact .inr (.inr rfl)
theorem NBk.notRow {w : World} {g i : Nat} {c : Array Value} (h : NBk w g) : w.heap[g]? ≠ some (.cells c (bkT i) (0, 0)) := by
  rcases bkT_of i with e | e | e <;> rw [e]
  · exact (h c).1
  · exact (h c).2.1
  · exact (h c).2.2.1
section
variable {gb B : Nat} {vs : Nat → Value} {xs : Nat → List Value} {w w' : World}
theorem Bk.size (h : Bk gb B vs xs w) : B ≤ w.heap.size := by
  have := h.base; have := (Array.getElem?_eq_some_iff.1 h.box).1; omega
theorem Bk.lt (h : Bk gb B vs xs w) : gb < w.heap.size := (Array.getElem?_eq_some_iff.1 h.box).1
theorem Bk.keptB (h : Bk gb B vs xs w) (hz : w.heap.size ≤ w'.heap.size) (hk : ∀ (g : Nat) (c : Array Value) (T : TypeId), w.heap[g]? = some (.cells c T (0, 0)) → (T = 48 ∨ T = 3 ∨ T = 39 ∨ T = 38) → w'.heap[g]? = w.heap[g]?) : Bk gb B vs xs w' := by
  refine ⟨(hk _ _ _ h.box (.inr (.inr (.inr rfl)))).trans h.box, h.base, fun i hi => ownsRow_keptL (h.row i hi) hz fun b hb => ?_, h.dis⟩
  obtain ⟨c, hc⟩ := own_typ (h.row i hi) hb
  refine hk b c _ hc ?_
  rcases bkT_of i with e | e | e
  · exact .inl e
  · exact .inr (.inl e)
  · exact .inr (.inr (.inl e))
theorem Bk.keptT (h : Bk gb B vs xs w) (hk : Kept (fun _ => True) w w') : Bk gb B vs xs w' := h.keptB hk.size fun g _ _ hg _ => hk.block g (Array.getElem?_eq_some_iff.1 hg).1 trivial
/-- A call that leaves all blocks of the book's types. -/
theorem Bk.kept {ok : Nat → Prop} (h : Bk gb B vs xs w) (hk : Kept ok w w') (ho : ∀ (g : Nat) (c : Array Value) (T : TypeId), w.heap[g]? = some (.cells c T (0, 0)) → (T = 48 ∨ T = 3 ∨ T = 39 ∨ T = 38) → ok g) : Bk gb B vs xs w' :=
  h.keptB hk.size fun g c T hg hT => hk.block g (Array.getElem?_eq_some_iff.1 hg).1 (ho g c T hg hT)
theorem Bk.frozen (h : Bk gb B vs xs w) (o : Nat) : w.frozen? ⟨gb, o, none⟩ = false := frozen_row h.box o
theorem Bk.cell (h : Bk gb B vs xs w) (i : Nat) (hi : i < 8) : w.cell? ⟨gb, i, none⟩ = some (vs i) := by
  rw [cell_of_row w gb _ _ _ (0, 0) h.box]
  match i, hi with
  | 0, _ => rfl
  | 1, _ => rfl
  | 2, _ => rfl
  | 3, _ => rfl
  | 4, _ => rfl
  | 5, _ => rfl
  | 6, _ => rfl
  | 7, _ => rfl
theorem Bk.form (h : Bk gb B vs xs w) {i : Nat} (hi : i < 8) : ∃ a c, vs i = .slice a (xs i).length c := row_form (h.row i hi)
theorem up_box (i : Nat) (hi : i < 8) (v : Value) : (#[vs 0, vs 1, vs 2, vs 3, vs 4, vs 5, vs 6, vs 7] : Array Value).setIfInBounds i v = #[up vs i v 0, up vs i v 1, up vs i v 2, up vs i v 3, up vs i v 4, up vs i v 5, up vs i v 6, up vs i v 7] := by
  match i, hi with
  | 0, _ => rfl
  | 1, _ => rfl
  | 2, _ => rfl
  | 3, _ => rfl
  | 4, _ => rfl
  | 5, _ => rfl
  | 6, _ => rfl
  | 7, _ => rfl
/-- One element more in a row. -/
theorem Bk.push {i : Nat} {v' u : Value} (h : Bk gb B vs xs w) (hi : i < 8) (k1 : w'.ownsRow B (bkT i) 1 v' ((xs i).length + 1) (xs i ++ [u])) (k2 : Below B w w') (k3 : Moved (vs i) v' w w') :
    Bk gb B (up vs i v') (up xs i (xs i ++ [u])) (w'.setCell ⟨gb, i, none⟩ v') ∧ Kept (FBk B w) w (w'.setCell ⟨gb, i, none⟩ v') ∧ (∀ g, NBk w g → g < w.heap.size → w'.heap[g]? = w.heap[g]?) ∧ w'.heap[gb]? = w.heap[gb]? := by
  have hrow := h.row i hi
  have hgb : w'.heap[gb]? = w.heap[gb]? := k3.kept.2 gb h.lt fun e => by
    obtain ⟨c, hc⟩ := own_typ hrow e.symm
    exact bkT_ne i (typ_eq hc h.box)
  have hbox := hgb.trans h.box
  have hnb : ∀ g, NBk w g → g < w.heap.size → w'.heap[g]? = w.heap[g]? := fun g hn hg => k3.kept.2 g hg fun e => by
    obtain ⟨c, hc⟩ := own_typ hrow e.symm
    exact hn.notRow hc
  have hset := setCell_heap (o := i) hbox v'
  have hz2 : w'.heap.size ≤ (w'.setCell ⟨gb, i, none⟩ v').heap.size := by simp [World.setCell]
  have hks : ∀ g, g ≠ gb → (w'.setCell ⟨gb, i, none⟩ v').heap[g]? = w'.heap[g]? := fun g e => Below.heap_setCell _ _ _ _ e
  have hne : ∀ j {v : Value} {n : Nat} {ys : List Value} {W : World}, W.heap[gb]? = w.heap[gb]? → W.ownsRow B (bkT j) 1 v n ys → ∀ b, v.ownBlock = some b → b ≠ gb := fun j v n ys W hW ho b hb e => by
    subst e
    obtain ⟨c, hc⟩ := own_typ ho hb
    exact bkT_ne j (typ_eq hc (hW.trans h.box))
  refine ⟨⟨?_, h.base, fun j hj => ?_, fun j k b hj hk hjk hb => ?_⟩, ?_, hnb, hgb⟩
  · rw [hset, up_box i hi]
  · by_cases e : j = i
    · subst e
      rw [up_same, up_same, List.length_append]
      exact ownsRow_keptL k1 hz2 fun b hb => hks b (hne j hgb k1 b hb)
    · rw [up_other _ _ e, up_other _ _ e]
      refine ownsRow_keptL (ownsRow_keptL (h.row j hj) k2.size fun b hb => ?_) hz2 fun b hb => hks b (hne j rfl (h.row j hj) b hb)
      exact k3.kept.2 b ((h.row j hj).lt b hb).2 fun e2 => h.dis j i b hj hi e hb e2.symm
  · have new : ∀ b, v'.ownBlock = some b → ∀ k, k < 8 → k ≠ i → (vs k).ownBlock ≠ some b := fun b hb k hk hki e2 => by
      rcases k3 with ⟨e3, _⟩ | ⟨e3, _⟩
      · rw [e3] at hb
        exact h.dis i k b hi hk (Ne.symm hki) hb e2
      · have := e3 b hb
        have := ((h.row k hk).lt b e2).2
        omega
    by_cases e : j = i
    · subst e
      rw [up_same] at hb
      rw [up_other _ _ (Ne.symm hjk)]
      exact new b hb k hk (Ne.symm hjk)
    · rw [up_other _ _ e] at hb
      by_cases e2 : k = i
      · subst e2
        rw [up_same]
        exact fun e3 => new b e3 j hj e hb
      · rw [up_other _ _ e2]
        exact h.dis j k b hj hk hjk hb
  · refine ⟨k2.os, k2.tape, k2.output, Nat.le_trans k2.size hz2, fun g hg hF => ?_⟩
    have hgg : g ≠ gb := by
      rintro rfl
      rcases hF with hF | hF
      · have := h.base; omega
      · exact (hF _).2.2.2 h.box
    rw [hks g hgg]
    rcases hF with hF | hF
    · exact k2.block g hF
    · exact hnb g hF hg
theorem Bk.at2 (h : Bk gb B vs xs w) (hg : w'.heap[gb]? = w.heap[gb]?) (i : Nat) (hi : i < 8) : w'.cell? ⟨gb, i, none⟩ = some (vs i) ∧ w'.frozen? ⟨gb, i, none⟩ = false := by
  rw [World.cell?_of_block (a := ⟨gb, i, none⟩) hg, World.frozen?_of_block (a := ⟨gb, i, none⟩) hg]
  exact ⟨h.cell i hi, h.frozen i⟩
theorem Bk.next {i j : Nat} {v u : Value} {ys : List Value} (h : Bk gb B (up vs i v) (up xs i ys) w) (hj : j < 8) (hij : j ≠ i) (hu : vs j = u) : w.cell? ⟨gb, j, none⟩ = some u ∧ w.ownsRow B (bkT j) 1 u (xs j).length (xs j) ∧ B ≤ w.heap.size ∧ up vs i v j = u := by
  have e1 := h.cell j hj
  have e2 := h.row j hj
  rw [up_other _ _ hij] at e1 e2
  rw [up_other _ _ hij] at e2
  subst hu
  exact ⟨e1, e2, h.size, up_other _ _ hij⟩
end
/-- An empty book. -/
theorem Bk.new (w : World) : Bk w.heap.size w.heap.size (fun _ => .slice none 0 0) (fun _ => []) (w.alloc (.cells #[.slice none 0 0, .slice none 0 0, .slice none 0 0, .slice none 0 0, .slice none 0 0, .slice none 0 0, .slice none 0 0, .slice none 0 0] 38)) :=
  ⟨heap_alloc_new w _, Nat.le_refl _, fun _ _ => World.ownsRow_nil _ _ _ _, fun _ _ _ _ _ _ hb => (by cases hb)⟩
end Go.Proofs.YtaomhkgdbobpkaaGreatDoor

namespace Go.Proofs.YtaomhkgdbobpkaaGreatDoor
open Go.RowKit

theorem run_row_string {P : Program} {src dst e : TypeId} (hs : P.underlying src = some (.slice e)) (he : P.underlying e = some (.int .u8)) (hd : P.underlying dst = some .string) (wr : World) (bs : List UInt8) (vs : Array Value) (hvs : vs = (Lib.byteCells bs).toArray) (g n c : Nat) (hg : g = wr.heap.size) (hn : n = bs.length) :
    (convert src dst (.slice (some ⟨g, 0, none⟩) n c)).run P (wr.alloc (.cells vs e)) = .ok (S bs) (wr.alloc (.cells vs e)) := by
  subst hn hvs hg
  refine run_convert_bytes_back (P := P) _ src dst e ⟨wr.heap.size, 0, none⟩ c bs hs he hd (fun j hj => ?_)
  have hadd : (⟨wr.heap.size, 0, none⟩ : Addr).add j = ⟨wr.heap.size, j, none⟩ := by unfold Addr.add; split <;> simp_all
  rw [hadd, cell_of_row _ wr.heap.size j _ e (0, 0) (heap_alloc_new wr _)]
  simp [Lib.byteCells, hj]
/-- The text in mark(n). -/
def markS (n : Nat) : List UInt8 := [109, 97, 114, 107, (n % 256).toUInt8, (n / 256 % 256).toUInt8, (n / 65536 % 256).toUInt8]
theorem u8_mod (n : Nat) : IntKind.u8.wrap (n : Int) = ((n % 256 : Nat) : Int) := by
  unfold IntKind.wrap
  simp [IntKind.bits, IntKind.signed]
/-- A field without anything at rb. -/
def fatk (rb : Nat) (w : World) : Prop := w.heap[rb]? = some (.cells #[S [], S []] 61 (0, 0))
theorem fatk.facts {rb : Nat} {w : World} (h : fatk rb w) : w.cell? ⟨rb, 0, none⟩ = some (S []) ∧ w.cell? ⟨rb, 1, none⟩ = some (S []) ∧ ∀ o, w.frozen? ⟨rb, o, none⟩ = false := by
  unfold fatk at h
  refine ⟨?_, ?_, fun o => frozen_row h o⟩ <;> rw [cell_of_row w rb _ _ _ (0, 0) h] <;> rfl
theorem fatk.set {rb : Nat} {w : World} (h : fatk rb w) (x y : Value) : ∃ W, (w.setCell ⟨rb, 0, none⟩ x).setCell ⟨rb, 1, none⟩ y = W ∧ W.cell? ⟨rb, 0, none⟩ = some x ∧ W.cell? ⟨rb, 1, none⟩ = some y ∧ Kept (· ≠ rb) w W := by
  have h3 := setCell_heap (o := 1) (setCell_heap (o := 0) h x) y
  refine ⟨_, rfl, ?_, ?_, ((Kept.refl _ w).setCell (.inr (by simp)) _).setCell (.inr (by simp)) _⟩ <;> rw [cell_of_row _ rb _ _ _ (0, 0) h3] <;> rfl
set_option maxHeartbeats 1000000 in
set_option maxRecDepth 100000 in
theorem mark_any (n : Nat) (_hn : n < 4611686018427387904) (w : World) :
    Calls Tryz.prog 42 #[.int .i64 n] w fun e w' => e = .returned (.agg #[S [], S (markS n)]) ∧ Kept (fun _ => True) w w' := by
  have q1 : IntKind.u8.wrap (n : Int) = (n : Int) % 256 := by rw [u8_mod n]; omega
  have q2 : IntKind.u8.wrap ((n : Int) / 256) = (n : Int) / 256 % 256 := by rw [show (n : Int) / 256 = ((n / 256 : Nat) : Int) by omega, u8_mod (n / 256)]; omega
  have q3 : IntKind.u8.wrap ((n : Int) / 65536) = (n : Int) / 65536 % 256 := by rw [show (n : Int) / 65536 = ((n / 65536 : Nat) : Int) by omega, u8_mod (n / 65536)]; omega
  have hvs : (#[.int .u8 ((n : Int) % 256), .int .u8 ((n : Int) / 256 % 256), .int .u8 ((n : Int) / 65536 % 256)] : Array Value) = (Lib.byteCells [(n % 256).toUInt8, (n / 256 % 256).toUInt8, (n / 65536 % 256).toUInt8]).toArray := by
    have e1 : (((n % 256).toUInt8.toNat : Nat) : Int) = (n : Int) % 256 := by simp
    have e2 : (((n / 256 % 256).toUInt8.toNat : Nat) : Int) = (n : Int) / 256 % 256 := by simp
    have e3 : (((n / 65536 % 256).toUInt8.toNat : Nat) : Int) = (n : Int) / 65536 % 256 := by simp
    simp only [Lib.byteCells, List.map_cons, List.map_nil, e1, e2, e3]
  obtain ⟨W0, hW0⟩ : ∃ W0, w.alloc (.cells #[S [], S []] 61) = W0 := ⟨_, rfl⟩
  have hz0 : w.heap.size + 1 = W0.heap.size := by rw [← hW0]; simp
  have HC := run_row_string (P := Tryz.prog) (src := 81) (dst := 9) (e := 5) Tryz.underlying81 Tryz.underlying5 Tryz.underlying9 W0 [(n % 256).toUInt8, (n / 256 % 256).toUInt8, (n / 65536 % 256).toUInt8] #[.int .u8 ((n : Int) % 256), .int .u8 ((n : Int) / 256 % 256), .int .u8 ((n : Int) / 65536 % 256)] hvs W0.heap.size 3 3 rfl rfl
  have CT := run_cat (P := Tryz.prog) [109, 97, 114, 107] [(n % 256).toUInt8, (n / 256 % 256).toUInt8, (n / 65536 % 256).toUInt8] (markS n) rfl (by simp)
  obtain ⟨W1, hW1⟩ : ∃ W1, W0.alloc (.cells #[.int .u8 ((n : Int) % 256), .int .u8 ((n : Int) / 256 % 256), .int .u8 ((n : Int) / 65536 % 256)] 5) = W1 := ⟨_, rfl⟩
  rw [hW1] at HC
  have hk0 : Kept (fun _ => True) w W0 := by rw [← hW0]; exact (Kept.refl _ w).alloc _
  have hk1 : Kept (fun _ => True) W0 W1 := by rw [← hW1]; exact (Kept.refl _ W0).alloc _
  have hb : fatk w.heap.size W1 := (hk1.block _ (by omega) trivial).trans (by rw [← hW0]; exact heap_alloc_new w _)
  obtain ⟨c0, c1, c9⟩ := hb.facts
  have f0 := c9 0
  have f1 := c9 1
  obtain ⟨W2, hW2, d0, d1, hk2⟩ := hb.set (S []) (S (markS n))
  have HK : Hid (Kept (fun _ => True) w W2) := Lib.hid ((hk0.tr hk1).trans hk2 fun i hi _ => by omega)
  clear hvs hk0 hk1 hb c9 hk2 hz0
  go_enter Tryz.func42, Tryz.ntmps42
  go_wp2
  refine bodyPost_ret (v := .agg #[S [], S (markS n)]) (by simp [results, Tryz.results42, go_sem, d0, d1]) rfl ?_
  exact ⟨rfl, HK.out⟩
set_option maxHeartbeats 2000000 in
theorem reads_any (a : Option Addr) (n c : Nat) (m : List UInt8) (w : World) (hn : n ≤ 9223372036854775807) (h : ∀ j, j < n → ∃ b, a = some ⟨b, 0, none⟩ ∧ b < w.heap.size ∧ w.cell? ⟨b, j * 2, none⟩ = some (S []) ∧ w.cell? ⟨b, j * 2 + 1, none⟩ = some (S m)) :
    Calls Tryz.prog 43 #[.slice a n c, .agg #[S [], S m]] w fun e w' => e = .returned (.bool true) ∧ Kept (fun _ => True) w w' := by
  have HH := Lib.hid h
  have HK0 : Hid (Kept (fun _ => True) w (w.alloc (.cells #[S [], S m] 61))) := Lib.hid ((Kept.refl _ w).alloc _)
  have HB0 : Hid ((w.alloc (.cells #[S [], S m] 61)).heap[w.heap.size]? = some (.cells #[S [], S m] 61 (0, 0))) := Lib.hid (heap_alloc_new w _)
  clear h
  go_enter Tryz.func43, Tryz.ntmps43
  go_wp2_with fail
  go_loopg [5] n (fun q x wr => ∃ j : Nat, x = .int .i64 j ∧ q = n - j ∧ j ≤ n ∧ Hid (Kept (fun _ => True) w wr) ∧ Hid (wr.heap[w.heap.size]? = some (.cells #[S [], S m] 61 (0, 0))))
  case atStart => exact ⟨0, rfl, rfl, Nat.zero_le _, HK0, HB0⟩
  case round =>
    obtain ⟨j, rfl, rfl, hj, HK, HB⟩ := hrel
    by_cases hlt : j < n
    · obtain ⟨b, rfl, hb, x0, x1⟩ := HH.out j hlt
      replace x0 := (HK.out.cell hb trivial).trans x0
      replace x1 := (HK.out.cell hb trivial).trans x1
      have y0 : wr.cell? ⟨w.heap.size, 0, none⟩ = some (S []) := by rw [cell_of_row wr _ _ _ _ (0, 0) HB.out]; rfl
      have y1 : wr.cell? ⟨w.heap.size, 1, none⟩ = some (S m) := by rw [cell_of_row wr _ _ _ _ (0, 0) HB.out]; rfl
      go_wp2
      go_quiet (fail)
      go_wp2
      go_roundg (n - (j + 1))
      case rel => exact ⟨j + 1, by go_num, rfl, by omega, Lib.hid (HK.out.drewN _), HB⟩
      case measure => omega
    · obtain rfl : j = n := by omega
      go_wp2
      go_ret
      exact ⟨rfl, HK.out⟩
end Go.Proofs.YtaomhkgdbobpkaaGreatDoor

namespace Go.Proofs.YtaomhkgdbobpkaaGreatDoor
open Go.RowKit

theorem infoRowF : (Tryz.prog.info? 48).map (fun i => (i.zero, i.size, i.bytes)) = some (some (.slice none 0 0), 1, 24) := by kernel_rfl
set_option maxHeartbeats 8000000 in
set_option maxRecDepth 100000 in
theorem bookFields_any (gb B : Nat) (vs : Nat → Value) (xs : Nat → List Value) (u v : Value) (w : World) (h : Bk gb B vs xs w) (h0 : (xs 0).length + 1 ≤ 1099511627776) (h1 : (xs 1).length + 1 ≤ 1099511627776) (hu : ∃ a l c, u = .slice a l c) (hv : ∃ a l c, v = .slice a l c) :
    Calls Tryz.prog 39 #[.pointer (some ⟨gb, 0, none⟩), u, v] w fun e w' => e = .returned (.tuple #[]) ∧ (∃ vs', Bk gb B vs' (up (up xs 0 (xs 0 ++ [u])) 1 (xs 1 ++ [v])) w') ∧ Kept (FBk B w) w w' := by
  obtain ⟨ua, ul, uc, rfl⟩ := hu
  obtain ⟨va, vl, vc, rfl⟩ := hv
  obtain ⟨fa, fc, hf⟩ := h.form (i := 0) (by decide)
  obtain ⟨ga, gc, hg⟩ := h.form (i := 1) (by decide)
  have b0 := h.cell 0 (by decide)
  rw [hf] at b0
  have HB := Lib.hid h
  have hBz := h.size
  have HF := Lib.hid hf
  have HG := Lib.hid hg
  have hrow : w.ownsRow B 48 1 (.slice fa (xs 0).length fc) (xs 0).length (xs 0) := hf ▸ h.row 0 (by decide)
  have HR := Lib.hid hrow
  clear h hf hg hrow
  go_enter Tryz.func39, Tryz.ntmps39
  go_wp2_with (first
    | (at_builtin; refine wpList_pushOne' 34 48 Tryz.underlying34 infoRowF rfl (by decide) rfl _ _ rfl B (.slice fa (xs 0).length fc) (xs 0).length (xs 0) [.slice ua ul uc] w _ rfl rfl rfl (by intro u hu; simp at hu; subst hu; rfl) 1 _ rfl rfl rfl HR.out (by omega) (by decide) hBz ?_; intro nv1 w1 k1 k2 k3; obtain ⟨na, nc, rfl⟩ := row_form k1; obtain ⟨hB1, hkB1, hnb1, hgb1⟩ := HB.out.push (i := 0) (by decide) k1 k2 (by rw [HF.out]; exact k3); have x0 := Bk.at2 HB.out hgb1 0 (by decide); have HKK1 := Lib.hid (And.intro hB1 hkB1); clear k1 k2 k3 hB1 hkB1 hnb1 hgb1 b0; obtain ⟨x0, x9⟩ := x0; obtain ⟨W1, hW1⟩ : ∃ W1, w1.setCell ⟨gb, 0, none⟩ (.slice na ((xs 0).length + 1) nc) = W1 := ⟨_, rfl⟩; rw [hW1] at HKK1; obtain ⟨b1, hrow, hBz1, hg1⟩ := Bk.next HKK1.out.1 (j := 1) (by decide) (by decide) HG.out; have HR1 := Lib.hid hrow; have HG1 := Lib.hid hg1; have HB1 := Lib.hid HKK1.out.1; have HK1 := Lib.hid HKK1.out.2; clear HB HR HF HKK1 hrow hg1)
    | (at_builtin; refine wpList_pushOne' 34 48 Tryz.underlying34 infoRowF rfl (by decide) rfl _ _ rfl B (.slice ga (xs 1).length gc) (xs 1).length (xs 1) [.slice va vl vc] W1 _ rfl rfl rfl (by intro u hu; simp at hu; subst hu; rfl) 1 _ rfl rfl rfl HR1.out (by omega) (by decide) hBz1 ?_; intro nv2 w2 k1 k2 k3; obtain ⟨na2, nc2, rfl⟩ := row_form k1; obtain ⟨hB2, hkB2, hnb2, hgb2⟩ := HB1.out.push (i := 1) (by decide) k1 k2 (by rw [HG1.out]; exact k3); have x1 := Bk.at2 HB1.out hgb2 1 (by decide); have HKK2 := Lib.hid (And.intro hB2 hkB2); clear k1 k2 k3 hB2 hkB2 hnb2 hgb2 b1; obtain ⟨x1, x8⟩ := x1))
  go_end0
  exact ⟨rfl, ⟨_, HKK2.out.1⟩, KeptFBk.trans HK1.out HKK2.out.2⟩
end Go.Proofs.YtaomhkgdbobpkaaGreatDoor
