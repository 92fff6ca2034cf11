/- Lists of somebody's own that are written full and grown: each lies in blocks of its own, told apart by labels. For elements of any type; no program in sight. -/
import Derived.Test.YtaomhkgdbobpkaaGreatDoorWiKit
namespace Go.Proofs.YtaomhkgdbobpkaaGreatDoor
open Go.RowKit

theorem ownsRow_keptL {e : TypeId} {size B n : Nat} {v : Value} {xs : List Value} {w w' : World} (h : w.ownsRow B e size v n xs) (_hz : w.heap.size ≤ w'.heap.size) (hk : ∀ b, v.ownBlock = some b → w'.heap[b]? = w.heap[b]?) : w'.ownsRow B e size v n xs := by
  refine ⟨h.1, ?_⟩
  rcases h.2 with hn | ⟨g, cap, cur, rfl, hB, hgg, rest⟩
  · exact .inl hn
  · exact .inr ⟨g, cap, cur, rfl, hB, (hk g rfl).trans hgg, rest⟩
theorem ownsRow_view {e : TypeId} {size B n : Nat} {v : Value} {xs : List Value} {w : World} (h : w.ownsRow B e size v n xs) : (v = .slice none 0 0 ∧ n = 0) ∨ ∃ b cap, v = .slice (some ⟨b, 0, none⟩) n cap ∧ n ≤ cap ∧ B ≤ b ∧ b < w.heap.size ∧ ∀ (j : Nat) u, xs[j]? = some u → w.cell? ⟨b, j, none⟩ = some u := by
  rcases h.2 with h2 | ⟨b, cap, cur, e4, e5, e6, e7, e8, e9, e10⟩
  · exact .inl h2
  · refine .inr ⟨b, cap, e4, e7, e5, (Array.getElem?_eq_some_iff.1 e6).1, fun j u hu => ?_⟩
    have := h.cells (g := b) (by rw [e4]; rfl) j u hu
    rwa [show (⟨b, 0, none⟩ : Addr).add j = ⟨b, j, none⟩ from by unfold Addr.add; split <;> simp_all] at this
theorem rowCell {T : TypeId} {B n c : Nat} {a : Option Addr} {l : Nat} {xs : List Value} {w : World} (h : w.ownsRow B T 1 (.slice a l c) n xs) {j : Nat} {u : Value} (hu : xs[j]? = some u) : l = n ∧ j < n ∧ ∃ b, a = some ⟨b, 0, none⟩ ∧ w.cell? ⟨b, j, none⟩ = some u := by
  have hj : j < n := by have := (List.getElem?_eq_some_iff.1 hu).1; have := h.1; omega
  rcases ownsRow_view h with ⟨e, h0⟩ | ⟨b, cap, e, h1, h2, h3, h4⟩
  · omega
  · obtain ⟨rfl, rfl, rfl⟩ : a = some ⟨b, 0, none⟩ ∧ l = n ∧ c = cap := by simpa using e
    exact ⟨rfl, hj, b, rfl, h4 j u hu⟩
/-- k marks of the n-th list. -/
def reps (mk : Nat → List Value) (n k : Nat) : List Value := (List.replicate k (mk n)).flatten
section
variable {mk : Nat → List Value} {z : Nat}
theorem reps_zero (n : Nat) : reps mk n 0 = [] := rfl
theorem reps_cons (n k : Nat) : reps mk n (k + 1) = mk n ++ reps mk n k := by unfold reps; rw [List.replicate_succ, List.flatten_cons]
theorem reps_len (hz : ∀ n, (mk n).length = z) (n k : Nat) : (reps mk n k).length = k * z := by
  induction k with
  | zero => simp [reps]
  | succ k ih => rw [reps_cons, List.length_append, ih, hz, Nat.succ_mul]; omega
theorem reps_snoc (n k : Nat) : reps mk n k ++ mk n = reps mk n (k + 1) := by
  induction k with
  | zero => rw [reps_cons, reps_zero]; simp
  | succ k ih => rw [reps_cons, List.append_assoc, ih, reps_cons n (k + 1)]
theorem reps_at (hz : ∀ n, (mk n).length = z) {n k j t : Nat} (hj : j < k) (ht : t < z) : (reps mk n k)[j * z + t]? = (mk n)[t]? := by
  induction k generalizing j with
  | zero => omega
  | succ k ih =>
    rw [reps_cons]
    cases j with
    | zero => rw [List.getElem?_append_left (by rw [hz]; omega)]; simp
    | succ j =>
      rw [List.getElem?_append_right (by rw [hz, Nat.succ_mul]; omega), hz, show (j + 1) * z + t - z = j * z + t by rw [Nat.succ_mul]; omega]
      exact ih (by omega)
end

/-- All blocks of cells of this type stay, but 'row'. -/
def KR (T : TypeId) (row : Option Nat) (w w' : World) : Prop := w.heap.size ≤ w'.heap.size ∧ ∀ (g : Nat) (c : Array Value), w.heap[g]? = some (.cells c T (0, 0)) → some g ≠ row → w'.heap[g]? = w.heap[g]?
theorem own_typ {e : TypeId} {size B n : Nat} {v : Value} {xs : List Value} {w : World} (h : w.ownsRow B e size v n xs) {g : Nat} (hg : v.ownBlock = some g) : ∃ c, w.heap[g]? = some (.cells c e (0, 0)) := by
  rcases h.2 with ⟨rfl, _⟩ | ⟨b, cap, cur, rfl, _, hb, _⟩
  · cases hg
  · obtain rfl : b = g := by simpa [Value.ownBlock] using hg
    exact ⟨_, hb⟩
theorem typ_eq {w : World} {g : Nat} {c c' : Array Value} {T U : TypeId} (h : w.heap[g]? = some (.cells c T (0, 0))) (h' : w.heap[g]? = some (.cells c' U (0, 0))) : T = U := by
  rw [h] at h'
  simpa using congrArg (fun o => match o with | some (.cells _ T _) => T | _ => 0) h'
theorem KR.refl (T : TypeId) (row : Option Nat) (w : World) : KR T row w w := ⟨Nat.le_refl _, fun _ _ _ _ => rfl⟩
theorem KR.trans {T : TypeId} {row : Option Nat} {a b c : World} (h : KR T row a b) (k : KR T row b c) : KR T row a c :=
  ⟨Nat.le_trans h.1 k.1, fun g cs hg hr => (k.2 g cs ((h.2 g cs hg hr).trans hg) hr).trans (h.2 g cs hg hr)⟩
theorem KR.of {T : TypeId} {w w' : World} {row : Option Nat} (hk : Kept (fun _ => True) w w') : KR T row w w' := ⟨hk.size, fun _ _ h _ => hk.block _ (Array.getElem?_eq_some_iff.1 h).1 trivial⟩
theorem KR.of_below {T : TypeId} {w w' : World} {row : Option Nat} {B : Nat} (hb : Below B w w') (hB : w.heap.size ≤ B) : KR T row w w' := ⟨hb.size, fun _ _ h _ => hb.block _ (by have := (Array.getElem?_eq_some_iff.1 h).1; omega)⟩
theorem KR.moved {T : TypeId} {v v' : Value} {w w' : World} (hm : Moved v v' w w') : KR T v.ownBlock w w' := ⟨hm.kept.1, fun g _ h hr => hm.kept.2 g (Array.getElem?_eq_some_iff.1 h).1 hr⟩
theorem KR.moved_other {T U : TypeId} {v v' : Value} {w w' : World} {row : Option Nat} {B n size : Nat} {xs : List Value} (ho : w.ownsRow B U size v n xs) (hm : Moved v v' w w') (hne : T ≠ U) : KR T row w w' :=
  ⟨hm.kept.1, fun g c h _ => hm.kept.2 g (Array.getElem?_eq_some_iff.1 h).1 fun e => by
    obtain ⟨c', hc⟩ := own_typ ho e.symm
    exact hne (typ_eq h hc)⟩
theorem KR.set (T : TypeId) (w : World) (b o : Nat) (v : Value) : KR T (some b) w (w.setCell ⟨b, o, none⟩ v) := ⟨by simp [World.setCell], fun g _ _ hr => Below.heap_setCell _ _ _ _ (fun e => hr (congrArg some e))⟩
theorem KR.set_other {T U : TypeId} {w : World} {b : Nat} {c : Array Value} {row : Option Nat} (hb : w.heap[b]? = some (.cells c U (0, 0))) (hne : T ≠ U) (o : Nat) (v : Value) : KR T row w (w.setCell ⟨b, o, none⟩ v) :=
  ⟨by simp [World.setCell], fun g _ hg _ => Below.heap_setCell _ _ _ _ (fun e => by
    have e2 : g = b := e
    subst e2
    exact hne (typ_eq hg hb))⟩
theorem own_kr {T : TypeId} {size B n : Nat} {v : Value} {xs : List Value} {w w' : World} {row : Option Nat} (h : w.ownsRow B T size v n xs) (hk : KR T row w w') (hr : ∀ b, v.ownBlock = some b → some b ≠ row) : w'.ownsRow B T size v n xs :=
  ownsRow_keptL h hk.1 fun b hb => by
    obtain ⟨c, hc⟩ := own_typ h hb
    exact hk.2 b c hc (hr b hb)

/-- No two of these slices share a block. -/
def Apart (us : List Value) : Prop := ∀ (i j b : Nat) (u v : Value), us[i]? = some u → us[j]? = some v → u.ownBlock = some b → v.ownBlock = some b → i = j
/-- The j-th slice bears ks j marks at its front. -/
def Ful (T : TypeId) (z : Nat) (mk : Nat → List Value) (us : List Value) (ls ks : Nat → Nat) (w : World) : Prop := ∀ (j : Nat) u, us[j]? = some u → ∃ rest, w.ownsRow 0 T z u (ls j) (reps mk j (ks j) ++ rest)
def upd (ks : Nat → Nat) (n i : Nat) : Nat → Nat := fun j => if j = n then i else ks j
section
variable {T : TypeId} {z : Nat} {mk : Nat → List Value} {us : List Value} {ls ks : Nat → Nat} {w w' : World}
theorem Ful.kr (h : Ful T z mk us ls ks w) (hk : KR T none w w') : Ful T z mk us ls ks w' := fun j u hu => by
  obtain ⟨rest, hr⟩ := h j u hu
  exact ⟨rest, own_kr hr hk fun _ _ e => (by cases e)⟩
theorem Ful.start (h : ∀ (j : Nat) u, us[j]? = some u → ∃ xs, w.ownsRow 0 T z u (ls j) xs) : Ful T z mk us ls (fun _ => 0) w := fun j u hu => by
  obtain ⟨xs, hx⟩ := h j u hu
  exact ⟨xs, by rw [reps_zero]; exact hx⟩
theorem Ful.congr (h : Ful T z mk us ls ks w) {ks' : Nat → Nat} (he : ∀ j, j < us.length → ks' j = ks j) : Ful T z mk us ls ks' w := fun j u hu => by
  rw [he j (List.getElem?_eq_some_iff.1 hu).1]; exact h j u hu
theorem list_one {l : List Value} {n : Nat} (h : n + 1 ≤ l.length) : ∃ y r, l.drop n = y :: r := by
  cases hd : l.drop n with
  | nil => have := congrArg List.length hd; rw [List.length_drop, List.length_nil] at this; omega
  | cons y r => exact ⟨y, r, rfl⟩
theorem Ful.store1 (h : Ful T 1 mk us ls ks w) (ha : Apart us) (hz : ∀ n, (mk n).length = 1) {n i b cap : Nat} (hu : us[n]? = some (.slice (some ⟨b, 0, none⟩) (ls n) cap)) (hi : ks n = i) (hl : i < ls n) {x : Value} (hx : mk n = [x]) :
    Ful T 1 mk us ls (upd ks n (i + 1)) (w.setCell ⟨b, i, none⟩ x) := by
  intro j u hj
  by_cases e : j = n
  · subst e
    rw [hu] at hj
    cases hj
    obtain ⟨rest, hr⟩ := h j _ hu
    rw [hi] at hr
    have hlen := hr.1
    rw [List.length_append, reps_len hz] at hlen
    cases rest with
    | nil => simp at hlen; omega
    | cons y rest =>
      refine ⟨rest, ?_⟩
      have hs := (hr.stored i x).1
      have e1 : (reps mk j i ++ y :: rest).set i x = reps mk j (i + 1) ++ rest := by
        rw [List.set_append_right _ _ (by rw [reps_len hz]; omega), reps_len hz, Nat.mul_one, Nat.sub_self, List.set_cons_zero, ← reps_snoc, hx, List.append_assoc]
        rfl
      rw [e1] at hs
      have e2 : upd ks j (i + 1) j = i + 1 := if_pos rfl
      rw [e2]
      exact hs
  · obtain ⟨rest, hr⟩ := h j u hj
    have e2 : upd ks n (i + 1) j = ks j := if_neg e
    rw [e2]
    exact ⟨rest, own_kr hr (KR.set T w b i x) fun c hc ec => by
      cases ec
      exact e (ha j n b u _ hj hu hc rfl)⟩
theorem set_two {A rest : List Value} {y0 y1 x0 x1 : Value} {o : Nat} (h : A.length = o) : ((A ++ y0 :: y1 :: rest).set o x0).set (o + 1) x1 = A ++ x0 :: x1 :: rest := by
  subst h
  have s : ∀ (m : Nat) (l : List Value) (v : Value), (A ++ l).set (A.length + m) v = A ++ l.set m v := fun m l v => by
    rw [List.set_append_right _ _ (by omega), Nat.add_sub_cancel_left]
  have s0 := fun l v => s 0 l v
  simp only [Nat.add_zero] at s0
  rw [s0, s]
  rfl
theorem KR.two (T : TypeId) (w : World) (b o0 o1 : Nat) (x0 x1 : Value) : KR T (some b) w ((w.setCell ⟨b, o0, none⟩ x0).setCell ⟨b, o1, none⟩ x1) := (KR.set T w b o0 x0).trans (KR.set T _ b o1 x1)
theorem Ful.store2 (h : Ful T 2 mk us ls ks w) (ha : Apart us) (hz : ∀ n, (mk n).length = 2) {n i b cap : Nat} (hu : us[n]? = some (.slice (some ⟨b, 0, none⟩) (ls n) cap)) (hi : ks n = i) (hl : i < ls n) {x0 x1 : Value} (hx : mk n = [x0, x1]) :
    Ful T 2 mk us ls (upd ks n (i + 1)) ((w.setCell ⟨b, i * 2, none⟩ x0).setCell ⟨b, i * 2 + 1, none⟩ x1) := by
  intro j u hj
  by_cases e : j = n
  · subst e
    rw [hu] at hj
    cases hj
    obtain ⟨rest, hr⟩ := h j _ hu
    rw [hi] at hr
    have hlen := hr.1
    rw [List.length_append, reps_len hz] at hlen
    have hrl : 2 ≤ rest.length := by omega
    match rest, hrl with
    | y0 :: y1 :: rest, _ =>
      refine ⟨rest, ?_⟩
      have hs := ((hr.stored (i * 2) x0).1.stored (i * 2 + 1) x1).1
      rw [set_two (reps_len hz j i)] at hs
      have e1 : reps mk j i ++ x0 :: x1 :: rest = reps mk j (i + 1) ++ rest := by
        rw [← reps_snoc, hx, List.append_assoc]
        rfl
      rw [e1] at hs
      have e2 : upd ks j (i + 1) j = i + 1 := if_pos rfl
      rw [e2]
      exact hs
  · obtain ⟨rest, hr⟩ := h j u hj
    have e2 : upd ks n (i + 1) j = ks j := if_neg e
    rw [e2]
    exact ⟨rest, own_kr hr (KR.two T w b _ _ x0 x1) fun c hc ec => by
      cases ec
      exact e (ha j n b u _ hj hu hc rfl)⟩
theorem set_four {A rest : List Value} {y0 y1 y2 y3 x0 x1 x2 x3 : Value} {o : Nat} (h : A.length = o) : ((((A ++ y0 :: y1 :: y2 :: y3 :: rest).set o x0).set (o + 1) x1).set (o + 2) x2).set (o + 3) x3 = A ++ x0 :: x1 :: x2 :: x3 :: rest := by
  subst h
  have s : ∀ (m : Nat) (l : List Value) (v : Value), (A ++ l).set (A.length + m) v = A ++ l.set m v := fun m l v => by
    rw [List.set_append_right _ _ (by omega), Nat.add_sub_cancel_left]
  have s0 := fun l v => s 0 l v
  simp only [Nat.add_zero] at s0
  rw [s0, s, s, s]
  rfl
theorem KR.four (T : TypeId) (w : World) (b o0 o1 o2 o3 : Nat) (x0 x1 x2 x3 : Value) : KR T (some b) w ((((w.setCell ⟨b, o0, none⟩ x0).setCell ⟨b, o1, none⟩ x1).setCell ⟨b, o2, none⟩ x2).setCell ⟨b, o3, none⟩ x3) := (((KR.set T w b o0 x0).trans (KR.set T _ b o1 x1)).trans (KR.set T _ b o2 x2)).trans (KR.set T _ b o3 x3)
theorem Ful.store4 (h : Ful T 4 mk us ls ks w) (ha : Apart us) (hz : ∀ n, (mk n).length = 4) {n i b cap : Nat} (hu : us[n]? = some (.slice (some ⟨b, 0, none⟩) (ls n) cap)) (hi : ks n = i) (hl : i < ls n) {x0 x1 x2 x3 : Value} (hx : mk n = [x0, x1, x2, x3]) :
    Ful T 4 mk us ls (upd ks n (i + 1)) ((((w.setCell ⟨b, i * 4, none⟩ x0).setCell ⟨b, i * 4 + 1, none⟩ x1).setCell ⟨b, i * 4 + 2, none⟩ x2).setCell ⟨b, i * 4 + 3, none⟩ x3) := by
  intro j u hj
  by_cases e : j = n
  · subst e
    rw [hu] at hj
    cases hj
    obtain ⟨rest, hr⟩ := h j _ hu
    rw [hi] at hr
    have hlen := hr.1
    rw [List.length_append, reps_len hz] at hlen
    have hrl : 4 ≤ rest.length := by omega
    match rest, hrl with
    | y0 :: y1 :: y2 :: y3 :: rest, _ =>
      refine ⟨rest, ?_⟩
      have hs := ((((hr.stored (i * 4) x0).1.stored (i * 4 + 1) x1).1.stored (i * 4 + 2) x2).1.stored (i * 4 + 3) x3).1
      rw [set_four (reps_len hz j i)] at hs
      have e1 : reps mk j i ++ x0 :: x1 :: x2 :: x3 :: rest = reps mk j (i + 1) ++ rest := by
        rw [← reps_snoc, hx, List.append_assoc]
        rfl
      rw [e1] at hs
      have e2 : upd ks j (i + 1) j = i + 1 := if_pos rfl
      rw [e2]
      exact hs
  · obtain ⟨rest, hr⟩ := h j u hj
    have e2 : upd ks n (i + 1) j = ks j := if_neg e
    rw [e2]
    exact ⟨rest, own_kr hr (KR.four T w b _ _ _ _ x0 x1 x2 x3) fun c hc ec => by
      cases ec
      exact e (ha j n b u _ hj hu hc rfl)⟩
theorem Ful.full (h : Ful T z mk us ls ks w) (hz : ∀ n, (mk n).length = z) {j : Nat} {u : Value} (hu : us[j]? = some u) (hk : ks j = ls j) : w.ownsRow 0 T z u (ls j) (reps mk j (ls j)) := by
  obtain ⟨rest, hr⟩ := h j u hu
  have hl := hr.1
  rw [List.length_append, reps_len hz, hk] at hl
  obtain rfl : rest = [] := List.eq_nil_of_length_eq_zero (by omega)
  rw [List.append_nil, hk] at hr
  exact hr
end

def Lb (lab : Nat → Nat) (v : Value) (x : Nat) : Prop := ∀ b, v.ownBlock = some b → lab b = x
def relab (H : Nat) (lab : Nat → Nat) (x : Nat) : Nat → Nat := fun k => if k < H then lab k else x
theorem relab_old {H : Nat} {lab : Nat → Nat} {x k : Nat} (h : k < H) : relab H lab x k = lab k := if_pos h
theorem Lb.relab {lab : Nat → Nat} {v : Value} {x H y : Nat} (h : Lb lab v x) (hlt : ∀ b, v.ownBlock = some b → b < H) : Lb (relab H lab y) v x := fun b hb => (relab_old (hlt b hb)).trans (h b hb)
theorem Lb.moved {lab : Nat → Nat} {v v' : Value} {x : Nat} {w w' : World} (h : Lb lab v x) (hlt : ∀ b, v.ownBlock = some b → b < w.heap.size) (hm : Moved v v' w w') : Lb (Go.Proofs.YtaomhkgdbobpkaaGreatDoor.relab w.heap.size lab x) v' x := by
  rcases hm with ⟨e, _⟩ | ⟨e, _⟩
  · intro b hb
    rw [e] at hb
    exact h.relab hlt b hb
  · intro b hb
    have := e b hb
    exact if_neg (by omega)
/-- A label for each block: the place of the slice that lies there. -/
theorem labels (us : List Value) (ha : Apart us) : ∃ lab : Nat → Nat, ∀ (j : Nat) u, us[j]? = some u → Lb lab u j := by
  classical
  refine ⟨fun b => if h : ∃ (j : Nat) (u : Value), us[j]? = some u ∧ u.ownBlock = some b then h.choose else 0, fun j u hu b hb => ?_⟩
  have hex : ∃ (j : Nat) (u : Value), us[j]? = some u ∧ u.ownBlock = some b := ⟨j, u, hu, hb⟩
  simp only [dif_pos hex]
  obtain ⟨v, hv, hvb⟩ := hex.choose_spec
  exact ha _ _ b v u hv hu hvb hb

/-- A recorded slice: it reads as marks of i; where it lies in the current row's block it is no longer than that row. -/
def RecK (T : TypeId) (z : Nat) (mk : Nat → List Value) (lab : Nat → Nat) (cb : Option Nat) (m : Nat) (w : World) (u : Value) (i : Nat) : Prop :=
  u = .slice none 0 0 ∨ ∃ b k cap, u = .slice (some ⟨b, 0, none⟩) k cap ∧ (k ≤ cap ∧ cap ≤ maxLen) ∧ (∃ c, w.heap[b]? = some (.cells c T (0, 0))) ∧ lab b = i ∧ (cb = some b → k ≤ m) ∧
    ∀ j t, j < k → t < z → w.cell? ⟨b, j * z + t, none⟩ = (mk i)[t]?
section
variable {T : TypeId} {z : Nat} {mk : Nat → List Value} {lab : Nat → Nat} {cb : Option Nat} {m i n : Nat} {u x x' : Value} {w w' : World}
theorem cell_same {w w' : World} {b : Nat} (h : w'.heap[b]? = w.heap[b]?) (o : Nat) : w'.cell? ⟨b, o, none⟩ = w.cell? ⟨b, o, none⟩ := World.cell?_of_block (a := ⟨b, o, none⟩) h
theorem RecK.kr (h : RecK T z mk lab cb m w u i) {row : Option Nat} (hk : KR T row w w') (hr : ∀ b, row = some b → lab b ≠ i) : RecK T z mk lab cb m w' u i := by
  rcases h with h | ⟨b, k, cap, rfl, h1, ⟨c, h2⟩, h3, h4, h5⟩
  · exact .inl h
  · have hb := hk.2 b c h2 fun e => hr b e.symm h3
    exact .inr ⟨b, k, cap, rfl, h1, ⟨c, hb.trans h2⟩, h3, h4, fun j t hj ht => (cell_same hb _).trans (h5 j t hj ht)⟩
theorem RecK.relab (h : RecK T z mk lab cb m w u i) (y : Nat) {H : Nat} (hH : w.heap.size ≤ H) : RecK T z mk (relab H lab y) cb m w u i := by
  rcases h with h | ⟨b, k, cap, rfl, h1, ⟨c, h2⟩, h3, h4, h5⟩
  · exact .inl h
  · exact .inr ⟨b, k, cap, rfl, h1, ⟨c, h2⟩, (relab_old (by have := (Array.getElem?_eq_some_iff.1 h2).1; omega)).trans h3, h4, h5⟩
theorem reps_read (hz : ∀ n, (mk n).length = z) {B : Nat} (h : w.ownsRow B T z x m (reps mk n m)) : x = .slice none 0 0 ∨ ∃ b cap, x = .slice (some ⟨b, 0, none⟩) m cap ∧ (m ≤ cap ∧ cap ≤ maxLen) ∧ (∃ c, w.heap[b]? = some (.cells c T (0, 0))) ∧
    ∀ j t, j < m → t < z → w.cell? ⟨b, j * z + t, none⟩ = (mk n)[t]? := by
  have hc := fun {g : Nat} (hg : x.ownBlock = some g) => h.cells hg
  rcases h.2 with ⟨h1, _⟩ | ⟨b, cap, c0, rfl, hB, hg, h1, h2, h3, h4⟩
  · exact .inl h1
  · refine .inr ⟨b, cap, rfl, ⟨h1, h2⟩, ⟨_, hg⟩, fun j t hj ht => ?_⟩
    have hadd : ∀ k, (⟨b, 0, none⟩ : Addr).add k = ⟨b, k, none⟩ := fun k => by unfold Addr.add; split <;> simp_all
    have hl : t < (mk n).length := by rw [hz]; exact ht
    have e1 := hc (g := b) rfl (j * z + t) ((mk n)[t]'hl) (by rw [reps_at hz hj ht]; exact List.getElem?_eq_getElem hl)
    rw [hadd] at e1
    rw [e1, List.getElem?_eq_getElem hl]
theorem RecK.self (hz : ∀ n, (mk n).length = z) {B : Nat} (h : w.ownsRow B T z x m (reps mk n m)) (hl : Lb lab x n) : RecK T z mk lab x.ownBlock m w x n := by
  rcases reps_read hz h with h1 | ⟨b, cap, rfl, h1, h2, h3⟩
  · exact .inl h1
  · exact .inr ⟨b, m, cap, rfl, h1, h2, hl b rfl, fun _ => Nat.le_refl _, h3⟩
theorem RecK.push (hz : ∀ n, (mk n).length = z) (h : RecK T z mk lab x.ownBlock m w u i) (hl : Lb lab x n) (hm : Moved x x' w w') {B : Nat} (ho : w'.ownsRow B T z x' (m + 1) (reps mk n (m + 1))) : RecK T z mk lab x'.ownBlock (m + 1) w' u i := by
  rcases h with h | ⟨b, k, cap, rfl, h1, ⟨c, h2⟩, h3, h4, h5⟩
  · exact .inl h
  · have hlt := (Array.getElem?_eq_some_iff.1 h2).1
    rcases hm with ⟨e, hk⟩ | ⟨e, hk⟩
    · by_cases hb : x.ownBlock = some b
      · have hik : i = n := by have := hl b hb; omega
        subst hik
        have hmn := h4 hb
        rcases reps_read hz ho with rfl | ⟨b', cap', rfl, g1, g2, g3⟩
        · rw [hb] at e; cases e
        · rw [hb] at e
          obtain rfl : b = b' := by simpa [Value.ownBlock] using e.symm
          exact .inr ⟨b, k, cap, rfl, h1, g2, h3, fun _ => by omega, fun j t hj ht => g3 j t (by omega) ht⟩
      · have hbb := hk.2 b hlt fun e => hb e.symm
        exact .inr ⟨b, k, cap, rfl, h1, ⟨c, hbb.trans h2⟩, h3, fun e' => by rw [e] at e'; exact absurd e' hb, fun j t hj ht => (cell_same hbb _).trans (h5 j t hj ht)⟩
    · have hbb := hk.2 b hlt (by simp)
      exact .inr ⟨b, k, cap, rfl, h1, ⟨c, hbb.trans h2⟩, h3, fun e' => (by have := e b e'; omega), fun j t hj ht => (cell_same hbb _).trans (h5 j t hj ht)⟩
theorem RecK.leave (h : RecK T z mk lab cb m w u i) : RecK T z mk lab none 0 w u i := by
  rcases h with h | ⟨b, k, cap, rfl, h1, h2, h3, h4, h5⟩
  · exact .inl h
  · exact .inr ⟨b, k, cap, rfl, h1, h2, h3, fun e => (by cases e), h5⟩
theorem RecK.enter (h : RecK T z mk lab none 0 w u i) (hl : Lb lab x n) (hi : i ≠ n) : RecK T z mk lab x.ownBlock m w u i := by
  rcases h with h | ⟨b, k, cap, rfl, h1, h2, h3, h4, h5⟩
  · exact .inl h
  · exact .inr ⟨b, k, cap, rfl, h1, h2, h3, fun e => absurd ((hl b e).symm.trans h3) (Ne.symm hi), h5⟩
end

/-- Ahead of the n-th list. -/
structure OHd (T : TypeId) (z : Nat) (mk : Nat → List Value) (us : List Value) (ls : Nat → Nat) (n : Nat) (rs : List (Value × Nat)) (lab : Nat → Nat) (w : World) : Prop where
  pend : ∀ (j : Nat) u, n ≤ j → us[j]? = some u → w.ownsRow 0 T z u (ls j) (reps mk j (ls j)) ∧ Lb lab u j
  recs : ∀ r ∈ rs, r.2 < n ∧ RecK T z mk lab none 0 w r.1 r.2
/-- In the n-th list: it has m marks. -/
structure OGr (T : TypeId) (z : Nat) (mk : Nat → List Value) (us : List Value) (ls : Nat → Nat) (n : Nat) (x : Value) (m : Nat) (rs : List (Value × Nat)) (lab : Nat → Nat) (w : World) : Prop where
  pend : ∀ (j : Nat) u, n + 1 ≤ j → us[j]? = some u → w.ownsRow 0 T z u (ls j) (reps mk j (ls j)) ∧ Lb lab u j
  row : w.ownsRow 0 T z x m (reps mk n m)
  rowL : Lb lab x n
  recs : ∀ r ∈ rs, r.2 ≤ n ∧ RecK T z mk lab x.ownBlock m w r.1 r.2
section
variable {T : TypeId} {z : Nat} {mk : Nat → List Value} {us : List Value} {ls : Nat → Nat} {n m : Nat} {x x' : Value} {rs : List (Value × Nat)} {lab : Nat → Nat} {w w' : World}
theorem OHd.start (hz : ∀ n, (mk n).length = z) (ha : Apart us) (h : Ful T z mk us ls ls w) : ∃ lab, OHd T z mk us ls 0 [] lab w := by
  obtain ⟨lab, hl⟩ := labels us ha
  exact ⟨lab, fun j u _ hu => ⟨h.full hz hu rfl, hl j u hu⟩, fun r hr => (by cases hr)⟩
theorem OHd.kr (h : OHd T z mk us ls n rs lab w) (hk : KR T none w w') : OHd T z mk us ls n rs lab w' :=
  ⟨fun j u hj hu => ⟨own_kr (h.pend j u hj hu).1 hk fun _ _ e => (by cases e), (h.pend j u hj hu).2⟩, fun r hr => ⟨(h.recs r hr).1, (h.recs r hr).2.kr hk fun _ e => (by cases e)⟩⟩
theorem OGr.kr (h : OGr T z mk us ls n x m rs lab w) (hk : KR T none w w') : OGr T z mk us ls n x m rs lab w' :=
  ⟨fun j u hj hu => ⟨own_kr (h.pend j u hj hu).1 hk fun _ _ e => (by cases e), (h.pend j u hj hu).2⟩, own_kr h.row hk fun _ _ e => (by cases e), h.rowL, fun r hr => ⟨(h.recs r hr).1, (h.recs r hr).2.kr hk fun _ e => (by cases e)⟩⟩
theorem OHd.enter (h : OHd T z mk us ls n rs lab w) (hu : us[n]? = some x) : OGr T z mk us ls n x (ls n) rs lab w := by
  obtain ⟨h1, h2⟩ := h.pend n x (Nat.le_refl _) hu
  refine ⟨fun j u hj hu => h.pend j u (by omega) hu, h1, h2, fun r hr => ?_⟩
  obtain ⟨g1, g2⟩ := h.recs r hr
  exact ⟨by omega, g2.enter h2 (by omega)⟩
theorem OGr.leave (h : OGr T z mk us ls n x m rs lab w) : OHd T z mk us ls (n + 1) rs lab w :=
  ⟨h.pend, fun r hr => ⟨by have := (h.recs r hr).1; omega, (h.recs r hr).2.leave⟩⟩
theorem OGr.record (hz : ∀ n, (mk n).length = z) (h : OGr T z mk us ls n x m rs lab w) : OGr T z mk us ls n x m (rs ++ [(x, n)]) lab w :=
  ⟨h.pend, h.row, h.rowL, fun r hr => by
    rcases List.mem_append.1 hr with hr | hr
    · exact h.recs r hr
    · simp at hr
      subst hr
      exact ⟨Nat.le_refl _, RecK.self hz h.row h.rowL⟩⟩
theorem OGr.push (hz : ∀ n, (mk n).length = z) (h : OGr T z mk us ls n x m rs lab w) (hm : Moved x x' w w') (ho : w'.ownsRow 0 T z x' (m + 1) (reps mk n (m + 1))) : ∃ lab', OGr T z mk us ls n x' (m + 1) rs lab' w' := by
  have L := h.rowL.moved (fun b hb => (h.row.lt b hb).2) hm
  have hk : KR T x.ownBlock w w' := KR.moved hm
  refine ⟨_, fun j u hj hu => ?_, ho, L, fun r hr => ⟨(h.recs r hr).1, ((h.recs r hr).2.relab n (Nat.le_refl _)).push hz (h.rowL.relab fun b hb => (h.row.lt b hb).2) hm ho⟩⟩
  obtain ⟨h1, h2⟩ := h.pend j u hj hu
  exact ⟨own_kr h1 hk fun b hb e => by have := h2 b hb; have := h.rowL b e.symm; omega, h2.relab fun b hb => (h1.lt b hb).2⟩
end
/-- The blocks in which these slices lie. -/
def blks (us : List Value) : List Nat := us.filterMap Value.ownBlock
theorem blks_app (a b : List Value) : blks (a ++ b) = blks a ++ blks b := List.filterMap_append
theorem blks_one (u : Value) : blks [u] = u.ownBlock.toList := by
  unfold blks
  cases h : u.ownBlock with
  | none => simp [h]
  | some b => simp [h]
theorem apart_of (us : List Value) (h : (blks us).Nodup) : Apart us := by
  induction us with
  | nil => intro i j b u v hu; simp at hu
  | cons x r ih =>
    have hr : (blks r).Nodup ∧ ∀ b, x.ownBlock = some b → b ∉ blks r := by
      unfold blks at h ⊢
      rw [List.filterMap_cons] at h
      cases hx : x.ownBlock with
      | none => rw [hx] at h; exact ⟨h, fun b e => by cases e⟩
      | some b => rw [hx] at h; exact ⟨(List.nodup_cons.1 h).2, fun b' e => by cases e; exact (List.nodup_cons.1 h).1⟩
    have hmem : ∀ (j b : Nat) (v : Value), r[j]? = some v → v.ownBlock = some b → b ∈ blks r := fun j b v hv hb => List.mem_filterMap.2 ⟨v, List.mem_of_getElem? hv, hb⟩
    intro i j b u v hu hv hub hvb
    cases i with
    | zero =>
      cases j with
      | zero => rfl
      | succ j =>
        exfalso
        obtain rfl : x = u := by simpa using hu
        exact hr.2 b hub (hmem j b v (by simpa using hv) hvb)
    | succ i =>
      cases j with
      | zero =>
        exfalso
        obtain rfl : x = v := by simpa using hv
        exact hr.2 b hvb (hmem i b u (by simpa using hu) hub)
      | succ j => rw [ih hr.1 i j b u v (by simpa using hu) (by simpa using hv) hub hvb]

/-- The book's rows as slices of a known length. -/
theorem row_form {T : TypeId} {z B n : Nat} {v : Value} {xs : List Value} {w : World} (h : w.ownsRow B T z v n xs) : ∃ a c, v = .slice a n c := by
  rcases ownsRow_view h with ⟨rfl, rfl⟩ | ⟨b, cap, rfl, _⟩
  · exact ⟨_, _, rfl⟩
  · exact ⟨_, _, rfl⟩
/-- The place in a list where the next mark goes. -/
theorem Ful.place {T : TypeId} {z : Nat} {mk : Nat → List Value} {us : List Value} {ls ks : Nat → Nat} {w : World} (h : Ful T z mk us ls ks w) {n i : Nat} {u : Value} (hu : us[n]? = some u) (hi : i < ls n) :
    ∃ b cap, u = .slice (some ⟨b, 0, none⟩) (ls n) cap ∧ b < w.heap.size ∧ (∃ c, w.heap[b]? = some (.cells c T (0, 0))) ∧ (∀ o, w.frozen? ⟨b, o, none⟩ = false) ∧ ∀ t, t < z → ∃ y, w.cell? ⟨b, i * z + t, none⟩ = some y := by
  obtain ⟨rest, hr⟩ := h n u hu
  have hl := hr.1
  have ht := fun g hg => own_typ hr (g := g) hg
  rcases ownsRow_view hr with ⟨rfl, h0⟩ | ⟨b, cap, rfl, h1, h2, h3, h4⟩
  · omega
  · obtain ⟨c, hc⟩ := ht b rfl
    refine ⟨b, cap, rfl, h3, ⟨c, hc⟩, fun o => frozen_row hc o, fun t htz => ?_⟩
    have hlt : i * z + t < (reps mk n (ks n) ++ rest).length := by
      rw [hl]
      have : (i + 1) * z ≤ ls n * z := Nat.mul_le_mul_right _ hi
      rw [Nat.succ_mul] at this
      omega
    exact ⟨_, h4 _ _ (List.getElem?_eq_getElem hlt)⟩
theorem Ful.form {T : TypeId} {z : Nat} {mk : Nat → List Value} {us : List Value} {ls ks : Nat → Nat} {w : World} (h : Ful T z mk us ls ks w) {n : Nat} {u : Value} (hu : us[n]? = some u) : ∃ a c, u = .slice a (ls n) c := by
  obtain ⟨rest, hr⟩ := h n u hu
  exact row_form hr
def fulled (ls : Nat → Nat) (n : Nat) : Nat → Nat := fun j => if j < n then ls j else 0
theorem Ful.full0 {T : TypeId} {z : Nat} {mk : Nat → List Value} {us : List Value} {ls : Nat → Nat} {w : World} (h : Ful T z mk us ls (fun _ => 0) w) : Ful T z mk us ls (fulled ls 0) w := h.congr fun j _ => by simp [fulled]
theorem Ful.enter {T : TypeId} {z : Nat} {mk : Nat → List Value} {us : List Value} {ls : Nat → Nat} {w : World} {n : Nat} (h : Ful T z mk us ls (fulled ls n) w) : Ful T z mk us ls (upd (fulled ls n) n 0) w := h.congr fun j _ => by
  unfold upd fulled
  by_cases e : j = n
  · rw [if_pos e, if_neg (by omega)]
  · rw [if_neg e]
theorem Ful.leave {T : TypeId} {z : Nat} {mk : Nat → List Value} {us : List Value} {ls : Nat → Nat} {w : World} {n : Nat} (h : Ful T z mk us ls (upd (fulled ls n) n (ls n)) w) : Ful T z mk us ls (fulled ls (n + 1)) w := h.congr fun j _ => by
  unfold upd fulled
  by_cases e : j = n
  · rw [if_pos e, e, if_pos (by omega)]
  · rw [if_neg e]
    by_cases h : j < n
    · rw [if_pos h, if_pos (by omega)]
    · rw [if_neg h, if_neg (by omega)]
theorem Ful.all {T : TypeId} {z : Nat} {mk : Nat → List Value} {us : List Value} {ls : Nat → Nat} {w : World} (h : Ful T z mk us ls (fulled ls us.length) w) : Ful T z mk us ls ls w := h.congr fun j hj => by
  unfold fulled
  rw [if_pos hj]
theorem Ful.next2 {T : TypeId} {mk : Nat → List Value} {us : List Value} {ls f : Nat → Nat} {w : World} {n i b cap : Nat} {x0 x1 : Value} (h : Ful T 2 mk us ls (upd f n i) w) (ha : Apart us) (hz : ∀ n, (mk n).length = 2) (hu : us[n]? = some (.slice (some ⟨b, 0, none⟩) (ls n) cap)) (hl : i < ls n) (hx : mk n = [x0, x1]) :
    Ful T 2 mk us ls (upd f n (i + 1)) ((w.setCell ⟨b, i * 2, none⟩ x0).setCell ⟨b, i * 2 + 1, none⟩ x1) :=
  (h.store2 ha hz hu (if_pos rfl) hl hx).congr fun j _ => by
    unfold upd
    by_cases e : j = n
    · rw [if_pos e, if_pos e]
    · rw [if_neg e, if_neg e, if_neg e]
theorem Ful.next4 {T : TypeId} {mk : Nat → List Value} {us : List Value} {ls f : Nat → Nat} {w : World} {n i b cap : Nat} {x0 x1 x2 x3 : Value} (h : Ful T 4 mk us ls (upd f n i) w) (ha : Apart us) (hz : ∀ n, (mk n).length = 4) (hu : us[n]? = some (.slice (some ⟨b, 0, none⟩) (ls n) cap)) (hl : i < ls n) (hx : mk n = [x0, x1, x2, x3]) :
    Ful T 4 mk us ls (upd f n (i + 1)) ((((w.setCell ⟨b, i * 4, none⟩ x0).setCell ⟨b, i * 4 + 1, none⟩ x1).setCell ⟨b, i * 4 + 2, none⟩ x2).setCell ⟨b, i * 4 + 3, none⟩ x3) :=
  (h.store4 ha hz hu (if_pos rfl) hl hx).congr fun j _ => by
    unfold upd
    by_cases e : j = n
    · rw [if_pos e, if_pos e]
    · rw [if_neg e, if_neg e, if_neg e]
/-- A store into a block of one type leaves those of other types. -/
theorem KR.setC {T U : TypeId} {w : World} {b : Nat} (hb : ∃ c, w.heap[b]? = some (.cells c U (0, 0))) (hne : T ≠ U) (o : Nat) (v : Value) : KR T none w (w.setCell ⟨b, o, none⟩ v) := by
  obtain ⟨c, hc⟩ := hb
  exact KR.set_other hc hne o v
theorem typ_set {U : TypeId} {w : World} {b : Nat} (hb : ∃ c, w.heap[b]? = some (.cells c U (0, 0))) (b' o : Nat) (v : Value) : ∃ c, (w.setCell ⟨b', o, none⟩ v).heap[b]? = some (.cells c U (0, 0)) := by
  obtain ⟨c, hc⟩ := hb
  by_cases e : b = b'
  · subst e; exact ⟨_, setCell_heap hc _⟩
  · exact ⟨c, (Below.heap_setCell _ _ _ _ e).trans hc⟩
theorem mem_blks {us : List Value} {n b : Nat} {u : Value} (h : us[n]? = some u) (hb : u.ownBlock = some b) : b ∈ blks us := List.mem_filterMap.2 ⟨u, List.mem_of_getElem? h, hb⟩
/-- What was recorded reads as its marks: the k-th slice bears marks of k / 20. -/
def RdR (T : TypeId) (z : Nat) (mk : Nat → List Value) (rs : List (Value × Nat)) (lab : Nat → Nat) (w : World) : Prop := ∀ r ∈ rs, RecK T z mk lab none 0 w r.1 r.2
theorem RdR.kr {T : TypeId} {z : Nat} {mk : Nat → List Value} {rs : List (Value × Nat)} {lab : Nat → Nat} {w w' : World} (h : RdR T z mk rs lab w) (hk : KR T none w w') : RdR T z mk rs lab w' := fun r hr => (h r hr).kr hk fun _ e => (by cases e)
theorem RecK.form {T : TypeId} {z : Nat} {mk : Nat → List Value} {lab : Nat → Nat} {w : World} {u : Value} {i : Nat} (h : RecK T z mk lab none 0 w u i) : ∃ a l c, u = .slice a l c ∧ l ≤ 9223372036854775807 ∧ ∀ j, j < l → ∃ b, a = some ⟨b, 0, none⟩ ∧ b < w.heap.size ∧ ∀ t, t < z → w.cell? ⟨b, j * z + t, none⟩ = (mk i)[t]? := by
  rcases h with rfl | ⟨b, k, cap, rfl, h1, ⟨c, h2⟩, h3, h4, h5⟩
  · exact ⟨_, _, _, rfl, by omega, fun j hj => by omega⟩
  · unfold maxLen at h1
    exact ⟨_, _, _, rfl, by omega, fun j hj => ⟨b, rfl, (Array.getElem?_eq_some_iff.1 h2).1, fun t ht => h5 j t hj ht⟩⟩
end Go.Proofs.YtaomhkgdbobpkaaGreatDoor
