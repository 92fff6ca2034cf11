/- Lists of somebody's own that are written full and grown: each lies in blocks of its own, told apart by labels. For elements of any type; no program in sight. -/
import Derived.Test.YtmajpambfblhnaaGreatDoorJoOA
namespace Go.Proofs.YtmajpambfblhnaaGreatDoor
open Go.RowKit

/-- k marks of the n-th list. -/
def reps (mk : Nat → List Value) (n k : Nat) : List Value := (List.replicate k (mk n)).flatten
section
variable {mk : Nat → List Value} {z : Nat}
theorem reps_zero (n : Nat) : reps mk n 0 = [] := rfl
theorem reps_cons (n k : Nat) : reps mk n (k + 1) = mk n ++ reps mk n k := by unfold reps; rw [List.replicate_succ, List.flatten_cons]
theorem reps_len (hz : ∀ n, (mk n).length = z) (n k : Nat) : (reps mk n k).length = k * z := by
  induction k with
  | zero => simp [reps]
  | succ k ih => rw [reps_cons, List.length_append, ih, hz, Nat.succ_mul]; omega
theorem reps_snoc (n k : Nat) : reps mk n k ++ mk n = reps mk n (k + 1) := by
  induction k with
  | zero => rw [reps_cons, reps_zero]; simp
  | succ k ih => rw [reps_cons, List.append_assoc, ih, reps_cons n (k + 1)]
theorem reps_at (hz : ∀ n, (mk n).length = z) {n k j t : Nat} (hj : j < k) (ht : t < z) : (reps mk n k)[j * z + t]? = (mk n)[t]? := by
  induction k generalizing j with
  | zero => omega
  | succ k ih =>
    rw [reps_cons]
    cases j with
    | zero => rw [List.getElem?_append_left (by rw [hz]; omega)]; simp
    | succ j =>
      rw [List.getElem?_append_right (by rw [hz, Nat.succ_mul]; omega), hz, show (j + 1) * z + t - z = j * z + t by rw [Nat.succ_mul]; omega]
      exact ih (by omega)
end

/-- All blocks of cells of this type stay, but 'row'. -/
def KR (T : TypeId) (row : Option Nat) (w w' : World) : Prop := w.heap.size ≤ w'.heap.size ∧ ∀ (g : Nat) (c : Array Value), w.heap[g]? = some (.cells c T (0, 0)) → some g ≠ row → w'.heap[g]? = w.heap[g]?
theorem own_typ {e : TypeId} {size B n : Nat} {v : Value} {xs : List Value} {w : World} (h : w.ownsRow B e size v n xs) {g : Nat} (hg : v.ownBlock = some g) : ∃ c, w.heap[g]? = some (.cells c e (0, 0)) := by
  rcases h.2 with ⟨rfl, _⟩ | ⟨b, cap, cur, rfl, _, hb, _⟩
  · cases hg
  · obtain rfl : b = g := by simpa [Value.ownBlock] using hg
    exact ⟨_, hb⟩
theorem typ_eq {w : World} {g : Nat} {c c' : Array Value} {T U : TypeId} (h : w.heap[g]? = some (.cells c T (0, 0))) (h' : w.heap[g]? = some (.cells c' U (0, 0))) : T = U := by
  rw [h] at h'
  simpa using congrArg (fun o => match o with | some (.cells _ T _) => T | _ => 0) h'
theorem KR.refl (T : TypeId) (row : Option Nat) (w : World) : KR T row w w := ⟨Nat.le_refl _, fun _ _ _ _ => rfl⟩
theorem KR.trans {T : TypeId} {row : Option Nat} {a b c : World} (h : KR T row a b) (k : KR T row b c) : KR T row a c :=
  ⟨Nat.le_trans h.1 k.1, fun g cs hg hr => (k.2 g cs ((h.2 g cs hg hr).trans hg) hr).trans (h.2 g cs hg hr)⟩
theorem KR.of {T : TypeId} {w w' : World} {row : Option Nat} (hk : Kept (fun _ => True) w w') : KR T row w w' := ⟨hk.size, fun _ _ h _ => hk.block _ (Array.getElem?_eq_some_iff.1 h).1 trivial⟩
theorem KR.of_below {T : TypeId} {w w' : World} {row : Option Nat} {B : Nat} (hb : Below B w w') (hB : w.heap.size ≤ B) : KR T row w w' := ⟨hb.size, fun _ _ h _ => hb.block _ (by have := (Array.getElem?_eq_some_iff.1 h).1; omega)⟩
theorem KR.moved {T : TypeId} {v v' : Value} {w w' : World} (hm : Moved v v' w w') : KR T v.ownBlock w w' := ⟨hm.kept.1, fun g _ h hr => hm.kept.2 g (Array.getElem?_eq_some_iff.1 h).1 hr⟩
theorem KR.moved_other {T U : TypeId} {v v' : Value} {w w' : World} {row : Option Nat} {B n size : Nat} {xs : List Value} (ho : w.ownsRow B U size v n xs) (hm : Moved v v' w w') (hne : T ≠ U) : KR T row w w' :=
  ⟨hm.kept.1, fun g c h _ => hm.kept.2 g (Array.getElem?_eq_some_iff.1 h).1 fun e => by
    obtain ⟨c', hc⟩ := own_typ ho e.symm
    exact hne (typ_eq h hc)⟩
theorem KR.set (T : TypeId) (w : World) (b o : Nat) (v : Value) : KR T (some b) w (w.setCell ⟨b, o, none⟩ v) := ⟨by simp [World.setCell], fun g _ _ hr => Below.heap_setCell _ _ _ _ (fun e => hr (congrArg some e))⟩
theorem KR.set_other {T U : TypeId} {w : World} {b : Nat} {c : Array Value} {row : Option Nat} (hb : w.heap[b]? = some (.cells c U (0, 0))) (hne : T ≠ U) (o : Nat) (v : Value) : KR T row w (w.setCell ⟨b, o, none⟩ v) :=
  ⟨by simp [World.setCell], fun g _ hg _ => Below.heap_setCell _ _ _ _ (fun e => by
    have e2 : g = b := e
    subst e2
    exact hne (typ_eq hg hb))⟩
theorem own_kr {T : TypeId} {size B n : Nat} {v : Value} {xs : List Value} {w w' : World} {row : Option Nat} (h : w.ownsRow B T size v n xs) (hk : KR T row w w') (hr : ∀ b, v.ownBlock = some b → some b ≠ row) : w'.ownsRow B T size v n xs :=
  ownsRow_keptL h hk.1 fun b hb => by
    obtain ⟨c, hc⟩ := own_typ h hb
    exact hk.2 b c hc (hr b hb)

/-- No two of these slices share a block. -/
def Apart (us : List Value) : Prop := ∀ (i j b : Nat) (u v : Value), us[i]? = some u → us[j]? = some v → u.ownBlock = some b → v.ownBlock = some b → i = j
/-- The j-th slice bears ks j marks at its front. -/
def Fl (T : TypeId) (z : Nat) (mk : Nat → List Value) (us : List Value) (ls ks : Nat → Nat) (w : World) : Prop := ∀ (j : Nat) u, us[j]? = some u → ∃ rest, w.ownsRow 0 T z u (ls j) (reps mk j (ks j) ++ rest)
def upd (ks : Nat → Nat) (n i : Nat) : Nat → Nat := fun j => if j = n then i else ks j
section
variable {T : TypeId} {z : Nat} {mk : Nat → List Value} {us : List Value} {ls ks : Nat → Nat} {w w' : World}
theorem Fl.kr (h : Fl T z mk us ls ks w) (hk : KR T none w w') : Fl T z mk us ls ks w' := fun j u hu => by
  obtain ⟨rest, hr⟩ := h j u hu
  exact ⟨rest, own_kr hr hk fun _ _ e => (by cases e)⟩
theorem Fl.start (h : ∀ (j : Nat) u, us[j]? = some u → ∃ xs, w.ownsRow 0 T z u (ls j) xs) : Fl T z mk us ls (fun _ => 0) w := fun j u hu => by
  obtain ⟨xs, hx⟩ := h j u hu
  exact ⟨xs, by rw [reps_zero]; exact hx⟩
theorem Fl.congr (h : Fl T z mk us ls ks w) {ks' : Nat → Nat} (he : ∀ j, j < us.length → ks' j = ks j) : Fl T z mk us ls ks' w := fun j u hu => by
  rw [he j (List.getElem?_eq_some_iff.1 hu).1]; exact h j u hu
theorem list_one {l : List Value} {n : Nat} (h : n + 1 ≤ l.length) : ∃ y r, l.drop n = y :: r := by
  cases hd : l.drop n with
  | nil => have := congrArg List.length hd; rw [List.length_drop, List.length_nil] at this; omega
  | cons y r => exact ⟨y, r, rfl⟩
theorem Fl.store1 (h : Fl T 1 mk us ls ks w) (ha : Apart us) (hz : ∀ n, (mk n).length = 1) {n i b cap : Nat} (hu : us[n]? = some (.slice (some ⟨b, 0, none⟩) (ls n) cap)) (hi : ks n = i) (hl : i < ls n) {x : Value} (hx : mk n = [x]) :
    Fl T 1 mk us ls (upd ks n (i + 1)) (w.setCell ⟨b, i, none⟩ x) := by
  intro j u hj
  by_cases e : j = n
  · subst e
    rw [hu] at hj
    cases hj
    obtain ⟨rest, hr⟩ := h j _ hu
    rw [hi] at hr
    have hlen := hr.1
    rw [List.length_append, reps_len hz] at hlen
    cases rest with
    | nil => simp at hlen; omega
    | cons y rest =>
      refine ⟨rest, ?_⟩
      have hs := (hr.stored i x).1
      have e1 : (reps mk j i ++ y :: rest).set i x = reps mk j (i + 1) ++ rest := by
        rw [List.set_append_right _ _ (by rw [reps_len hz]; omega), reps_len hz, Nat.mul_one, Nat.sub_self, List.set_cons_zero, ← reps_snoc, hx, List.append_assoc]
        rfl
      rw [e1] at hs
      have e2 : upd ks j (i + 1) j = i + 1 := if_pos rfl
      rw [e2]
      exact hs
  · obtain ⟨rest, hr⟩ := h j u hj
    have e2 : upd ks n (i + 1) j = ks j := if_neg e
    rw [e2]
    exact ⟨rest, own_kr hr (KR.set T w b i x) fun c hc ec => by
      cases ec
      exact e (ha j n b u _ hj hu hc rfl)⟩
theorem set_five {A rest : List Value} {y0 y1 y2 y3 y4 x0 x1 x2 x3 x4 : Value} {o : Nat} (h : A.length = o) : (((((A ++ y0 :: y1 :: y2 :: y3 :: y4 :: rest).set o x0).set (o + 1) x1).set (o + 2) x2).set (o + 3) x3).set (o + 4) x4 = A ++ x0 :: x1 :: x2 :: x3 :: x4 :: rest := by
  subst h
  have s : ∀ (m : Nat) (l : List Value) (v : Value), (A ++ l).set (A.length + m) v = A ++ l.set m v := fun m l v => by
    rw [List.set_append_right _ _ (by omega), Nat.add_sub_cancel_left]
  have s0 := fun l v => s 0 l v
  simp only [Nat.add_zero] at s0
  rw [s0, s, s, s, s]
  rfl
theorem KR.five (T : TypeId) (w : World) (b o0 o1 o2 o3 o4 : Nat) (x0 x1 x2 x3 x4 : Value) : KR T (some b) w (((((w.setCell ⟨b, o0, none⟩ x0).setCell ⟨b, o1, none⟩ x1).setCell ⟨b, o2, none⟩ x2).setCell ⟨b, o3, none⟩ x3).setCell ⟨b, o4, none⟩ x4) :=
  ((((KR.set T w b o0 x0).trans (KR.set T _ b o1 x1)).trans (KR.set T _ b o2 x2)).trans (KR.set T _ b o3 x3)).trans (KR.set T _ b o4 x4)
theorem Fl.store5 (h : Fl T 5 mk us ls ks w) (ha : Apart us) (hz : ∀ n, (mk n).length = 5) {n i b cap : Nat} (hu : us[n]? = some (.slice (some ⟨b, 0, none⟩) (ls n) cap)) (hi : ks n = i) (hl : i < ls n) {x0 x1 x2 x3 x4 : Value} (hx : mk n = [x0, x1, x2, x3, x4]) :
    Fl T 5 mk us ls (upd ks n (i + 1)) (((((w.setCell ⟨b, i * 5, none⟩ x0).setCell ⟨b, i * 5 + 1, none⟩ x1).setCell ⟨b, i * 5 + 2, none⟩ x2).setCell ⟨b, i * 5 + 3, none⟩ x3).setCell ⟨b, i * 5 + 4, none⟩ x4) := by
  intro j u hj
  by_cases e : j = n
  · subst e
    rw [hu] at hj
    cases hj
    obtain ⟨rest, hr⟩ := h j _ hu
    rw [hi] at hr
    have hlen := hr.1
    rw [List.length_append, reps_len hz] at hlen
    have hrl : 5 ≤ rest.length := by omega
    match rest, hrl with
    | y0 :: y1 :: y2 :: y3 :: y4 :: rest, _ =>
      refine ⟨rest, ?_⟩
      have hs := (((((hr.stored (i * 5) x0).1.stored (i * 5 + 1) x1).1.stored (i * 5 + 2) x2).1.stored (i * 5 + 3) x3).1.stored (i * 5 + 4) x4).1
      rw [set_five (reps_len hz j i)] at hs
      have e1 : reps mk j i ++ x0 :: x1 :: x2 :: x3 :: x4 :: rest = reps mk j (i + 1) ++ rest := by
        rw [← reps_snoc, hx, List.append_assoc]
        rfl
      rw [e1] at hs
      have e2 : upd ks j (i + 1) j = i + 1 := if_pos rfl
      rw [e2]
      exact hs
  · obtain ⟨rest, hr⟩ := h j u hj
    have e2 : upd ks n (i + 1) j = ks j := if_neg e
    rw [e2]
    exact ⟨rest, own_kr hr (KR.five T w b _ _ _ _ _ x0 x1 x2 x3 x4) fun c hc ec => by
      cases ec
      exact e (ha j n b u _ hj hu hc rfl)⟩
theorem Fl.full (h : Fl T z mk us ls ks w) (hz : ∀ n, (mk n).length = z) {j : Nat} {u : Value} (hu : us[j]? = some u) (hk : ks j = ls j) : w.ownsRow 0 T z u (ls j) (reps mk j (ls j)) := by
  obtain ⟨rest, hr⟩ := h j u hu
  have hl := hr.1
  rw [List.length_append, reps_len hz, hk] at hl
  obtain rfl : rest = [] := List.eq_nil_of_length_eq_zero (by omega)
  rw [List.append_nil, hk] at hr
  exact hr
end

def Lb (lab : Nat → Nat) (v : Value) (x : Nat) : Prop := ∀ b, v.ownBlock = some b → lab b = x
def rel (H : Nat) (lab : Nat → Nat) (x : Nat) : Nat → Nat := fun k => if k < H then lab k else x
theorem rel_old {H : Nat} {lab : Nat → Nat} {x k : Nat} (h : k < H) : rel H lab x k = lab k := if_pos h
theorem Lb.rel {lab : Nat → Nat} {v : Value} {x H y : Nat} (h : Lb lab v x) (hlt : ∀ b, v.ownBlock = some b → b < H) : Lb (rel H lab y) v x := fun b hb => (rel_old (hlt b hb)).trans (h b hb)
theorem Lb.moved {lab : Nat → Nat} {v v' : Value} {x : Nat} {w w' : World} (h : Lb lab v x) (hlt : ∀ b, v.ownBlock = some b → b < w.heap.size) (hm : Moved v v' w w') : Lb (Go.Proofs.YtmajpambfblhnaaGreatDoor.rel w.heap.size lab x) v' x := by
  rcases hm with ⟨e, _⟩ | ⟨e, _⟩
  · intro b hb
    rw [e] at hb
    exact h.rel hlt b hb
  · intro b hb
    have := e b hb
    exact if_neg (by omega)
/-- A label for each block: the place of the slice that lies there. -/
theorem labels (us : List Value) (ha : Apart us) : ∃ lab : Nat → Nat, ∀ (j : Nat) u, us[j]? = some u → Lb lab u j := by
  classical
  refine ⟨fun b => if h : ∃ (j : Nat) (u : Value), us[j]? = some u ∧ u.ownBlock = some b then h.choose else 0, fun j u hu b hb => ?_⟩
  have hex : ∃ (j : Nat) (u : Value), us[j]? = some u ∧ u.ownBlock = some b := ⟨j, u, hu, hb⟩
  simp only [dif_pos hex]
  obtain ⟨v, hv, hvb⟩ := hex.choose_spec
  exact ha _ _ b v u hv hu hvb hb

/-- A recorded slice: it reads as marks of i; where it lies in the current row's block it is no longer than that row. -/
def RecK (T : TypeId) (z : Nat) (mk : Nat → List Value) (lab : Nat → Nat) (cb : Option Nat) (m : Nat) (w : World) (u : Value) (i : Nat) : Prop :=
  u = .slice none 0 0 ∨ ∃ b k cap, u = .slice (some ⟨b, 0, none⟩) k cap ∧ (k ≤ cap ∧ cap ≤ maxLen) ∧ (∃ c, w.heap[b]? = some (.cells c T (0, 0))) ∧ lab b = i ∧ (cb = some b → k ≤ m) ∧
    ∀ j t, j < k → t < z → w.cell? ⟨b, j * z + t, none⟩ = (mk i)[t]?
section
variable {T : TypeId} {z : Nat} {mk : Nat → List Value} {lab : Nat → Nat} {cb : Option Nat} {m i n : Nat} {u x x' : Value} {w w' : World}
theorem cell_same {w w' : World} {b : Nat} (h : w'.heap[b]? = w.heap[b]?) (o : Nat) : w'.cell? ⟨b, o, none⟩ = w.cell? ⟨b, o, none⟩ := World.cell?_of_block (a := ⟨b, o, none⟩) h
theorem RecK.kr (h : RecK T z mk lab cb m w u i) {row : Option Nat} (hk : KR T row w w') (hr : ∀ b, row = some b → lab b ≠ i) : RecK T z mk lab cb m w' u i := by
  rcases h with h | ⟨b, k, cap, rfl, h1, ⟨c, h2⟩, h3, h4, h5⟩
  · exact .inl h
  · have hb := hk.2 b c h2 fun e => hr b e.symm h3
    exact .inr ⟨b, k, cap, rfl, h1, ⟨c, hb.trans h2⟩, h3, h4, fun j t hj ht => (cell_same hb _).trans (h5 j t hj ht)⟩
theorem RecK.rel (h : RecK T z mk lab cb m w u i) (y : Nat) {H : Nat} (hH : w.heap.size ≤ H) : RecK T z mk (rel H lab y) cb m w u i := by
  rcases h with h | ⟨b, k, cap, rfl, h1, ⟨c, h2⟩, h3, h4, h5⟩
  · exact .inl h
  · exact .inr ⟨b, k, cap, rfl, h1, ⟨c, h2⟩, (rel_old (by have := (Array.getElem?_eq_some_iff.1 h2).1; omega)).trans h3, h4, h5⟩
theorem reps_read (hz : ∀ n, (mk n).length = z) {B : Nat} (h : w.ownsRow B T z x m (reps mk n m)) : x = .slice none 0 0 ∨ ∃ b cap, x = .slice (some ⟨b, 0, none⟩) m cap ∧ (m ≤ cap ∧ cap ≤ maxLen) ∧ (∃ c, w.heap[b]? = some (.cells c T (0, 0))) ∧
    ∀ j t, j < m → t < z → w.cell? ⟨b, j * z + t, none⟩ = (mk n)[t]? := by
  have hc := fun {g : Nat} (hg : x.ownBlock = some g) => h.cells hg
  rcases h.2 with ⟨h1, _⟩ | ⟨b, cap, c0, rfl, hB, hg, h1, h2, h3, h4⟩
  · exact .inl h1
  · refine .inr ⟨b, cap, rfl, ⟨h1, h2⟩, ⟨_, hg⟩, fun j t hj ht => ?_⟩
    have hadd : ∀ k, (⟨b, 0, none⟩ : Addr).add k = ⟨b, k, none⟩ := fun k => by unfold Addr.add; split <;> simp_all
    have hl : t < (mk n).length := by rw [hz]; exact ht
    have e1 := hc (g := b) rfl (j * z + t) ((mk n)[t]'hl) (by rw [reps_at hz hj ht]; exact List.getElem?_eq_getElem hl)
    rw [hadd] at e1
    rw [e1, List.getElem?_eq_getElem hl]
theorem RecK.self (hz : ∀ n, (mk n).length = z) {B : Nat} (h : w.ownsRow B T z x m (reps mk n m)) (hl : Lb lab x n) : RecK T z mk lab x.ownBlock m w x n := by
  rcases reps_read hz h with h1 | ⟨b, cap, rfl, h1, h2, h3⟩
  · exact .inl h1
  · exact .inr ⟨b, m, cap, rfl, h1, h2, hl b rfl, fun _ => Nat.le_refl _, h3⟩
theorem RecK.push (hz : ∀ n, (mk n).length = z) (h : RecK T z mk lab x.ownBlock m w u i) (hl : Lb lab x n) (hm : Moved x x' w w') {B : Nat} (ho : w'.ownsRow B T z x' (m + 1) (reps mk n (m + 1))) : RecK T z mk lab x'.ownBlock (m + 1) w' u i := by
  rcases h with h | ⟨b, k, cap, rfl, h1, ⟨c, h2⟩, h3, h4, h5⟩
  · exact .inl h
  · have hlt := (Array.getElem?_eq_some_iff.1 h2).1
    rcases hm with ⟨e, hk⟩ | ⟨e, hk⟩
    · by_cases hb : x.ownBlock = some b
      · have hik : i = n := by have := hl b hb; omega
        subst hik
        have hmn := h4 hb
        rcases reps_read hz ho with rfl | ⟨b', cap', rfl, g1, g2, g3⟩
        · rw [hb] at e; cases e
        · rw [hb] at e
          obtain rfl : b = b' := by simpa [Value.ownBlock] using e.symm
          exact .inr ⟨b, k, cap, rfl, h1, g2, h3, fun _ => by omega, fun j t hj ht => g3 j t (by omega) ht⟩
      · have hbb := hk.2 b hlt fun e => hb e.symm
        exact .inr ⟨b, k, cap, rfl, h1, ⟨c, hbb.trans h2⟩, h3, fun e' => by rw [e] at e'; exact absurd e' hb, fun j t hj ht => (cell_same hbb _).trans (h5 j t hj ht)⟩
    · have hbb := hk.2 b hlt (by simp)
      exact .inr ⟨b, k, cap, rfl, h1, ⟨c, hbb.trans h2⟩, h3, fun e' => (by have := e b e'; omega), fun j t hj ht => (cell_same hbb _).trans (h5 j t hj ht)⟩
theorem RecK.leave (h : RecK T z mk lab cb m w u i) : RecK T z mk lab none 0 w u i := by
  rcases h with h | ⟨b, k, cap, rfl, h1, h2, h3, h4, h5⟩
  · exact .inl h
  · exact .inr ⟨b, k, cap, rfl, h1, h2, h3, fun e => (by cases e), h5⟩
theorem RecK.enter (h : RecK T z mk lab none 0 w u i) (hl : Lb lab x n) (hi : i ≠ n) : RecK T z mk lab x.ownBlock m w u i := by
  rcases h with h | ⟨b, k, cap, rfl, h1, h2, h3, h4, h5⟩
  · exact .inl h
  · exact .inr ⟨b, k, cap, rfl, h1, h2, h3, fun e => absurd ((hl b e).symm.trans h3) (Ne.symm hi), h5⟩
end

/-- Ahead of the n-th list. -/
structure Hd (T : TypeId) (z : Nat) (mk : Nat → List Value) (us : List Value) (ls : Nat → Nat) (n : Nat) (rs : List (Value × Nat)) (lab : Nat → Nat) (w : World) : Prop where
  pend : ∀ (j : Nat) u, n ≤ j → us[j]? = some u → w.ownsRow 0 T z u (ls j) (reps mk j (ls j)) ∧ Lb lab u j
  recs : ∀ r ∈ rs, r.2 < n ∧ RecK T z mk lab none 0 w r.1 r.2
/-- In the n-th list: it has m marks. -/
structure Gr (T : TypeId) (z : Nat) (mk : Nat → List Value) (us : List Value) (ls : Nat → Nat) (n : Nat) (x : Value) (m : Nat) (rs : List (Value × Nat)) (lab : Nat → Nat) (w : World) : Prop where
  pend : ∀ (j : Nat) u, n + 1 ≤ j → us[j]? = some u → w.ownsRow 0 T z u (ls j) (reps mk j (ls j)) ∧ Lb lab u j
  row : w.ownsRow 0 T z x m (reps mk n m)
  rowL : Lb lab x n
  recs : ∀ r ∈ rs, r.2 ≤ n ∧ RecK T z mk lab x.ownBlock m w r.1 r.2
section
variable {T : TypeId} {z : Nat} {mk : Nat → List Value} {us : List Value} {ls : Nat → Nat} {n m : Nat} {x x' : Value} {rs : List (Value × Nat)} {lab : Nat → Nat} {w w' : World}
theorem Hd.start (hz : ∀ n, (mk n).length = z) (ha : Apart us) (h : Fl T z mk us ls ls w) : ∃ lab, Hd T z mk us ls 0 [] lab w := by
  obtain ⟨lab, hl⟩ := labels us ha
  exact ⟨lab, fun j u _ hu => ⟨h.full hz hu rfl, hl j u hu⟩, fun r hr => (by cases hr)⟩
theorem Hd.kr (h : Hd T z mk us ls n rs lab w) (hk : KR T none w w') : Hd T z mk us ls n rs lab w' :=
  ⟨fun j u hj hu => ⟨own_kr (h.pend j u hj hu).1 hk fun _ _ e => (by cases e), (h.pend j u hj hu).2⟩, fun r hr => ⟨(h.recs r hr).1, (h.recs r hr).2.kr hk fun _ e => (by cases e)⟩⟩
theorem Gr.kr (h : Gr T z mk us ls n x m rs lab w) (hk : KR T none w w') : Gr T z mk us ls n x m rs lab w' :=
  ⟨fun j u hj hu => ⟨own_kr (h.pend j u hj hu).1 hk fun _ _ e => (by cases e), (h.pend j u hj hu).2⟩, own_kr h.row hk fun _ _ e => (by cases e), h.rowL, fun r hr => ⟨(h.recs r hr).1, (h.recs r hr).2.kr hk fun _ e => (by cases e)⟩⟩
theorem Hd.enter (h : Hd T z mk us ls n rs lab w) (hu : us[n]? = some x) : Gr T z mk us ls n x (ls n) rs lab w := by
  obtain ⟨h1, h2⟩ := h.pend n x (Nat.le_refl _) hu
  refine ⟨fun j u hj hu => h.pend j u (by omega) hu, h1, h2, fun r hr => ?_⟩
  obtain ⟨g1, g2⟩ := h.recs r hr
  exact ⟨by omega, g2.enter h2 (by omega)⟩
theorem Gr.leave (h : Gr T z mk us ls n x m rs lab w) : Hd T z mk us ls (n + 1) rs lab w :=
  ⟨h.pend, fun r hr => ⟨by have := (h.recs r hr).1; omega, (h.recs r hr).2.leave⟩⟩
theorem Gr.record (hz : ∀ n, (mk n).length = z) (h : Gr T z mk us ls n x m rs lab w) : Gr T z mk us ls n x m (rs ++ [(x, n)]) lab w :=
  ⟨h.pend, h.row, h.rowL, fun r hr => by
    rcases List.mem_append.1 hr with hr | hr
    · exact h.recs r hr
    · simp at hr
      subst hr
      exact ⟨Nat.le_refl _, RecK.self hz h.row h.rowL⟩⟩
theorem Gr.push (hz : ∀ n, (mk n).length = z) (h : Gr T z mk us ls n x m rs lab w) (hm : Moved x x' w w') (ho : w'.ownsRow 0 T z x' (m + 1) (reps mk n (m + 1))) : ∃ lab', Gr T z mk us ls n x' (m + 1) rs lab' w' := by
  have L := h.rowL.moved (fun b hb => (h.row.lt b hb).2) hm
  have hk : KR T x.ownBlock w w' := KR.moved hm
  refine ⟨_, fun j u hj hu => ?_, ho, L, fun r hr => ⟨(h.recs r hr).1, ((h.recs r hr).2.rel n (Nat.le_refl _)).push hz (h.rowL.rel fun b hb => (h.row.lt b hb).2) hm ho⟩⟩
  obtain ⟨h1, h2⟩ := h.pend j u hj hu
  exact ⟨own_kr h1 hk fun b hb e => by have := h2 b hb; have := h.rowL b e.symm; omega, h2.rel fun b hb => (h1.lt b hb).2⟩
end
end Go.Proofs.YtmajpambfblhnaaGreatDoor
