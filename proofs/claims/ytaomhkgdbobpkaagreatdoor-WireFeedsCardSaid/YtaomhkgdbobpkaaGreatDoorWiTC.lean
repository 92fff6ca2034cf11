/- Walks of the law of layer 5: a piece comes to a reader, and to the document's reader. -/
import Derived.Test.YtaomhkgdbobpkaaGreatDoorWiTB
import Derived.Test.YtaomhkgdbobpkaaGreatDoorWiS7
import Derived.Test.YtaomhkgdbobpkaaGreatDoorWiPlainI
namespace Go.Proofs.YtaomhkgdbobpkaaGreatDoor
open Go.RowKit Wi

theorem RrAt.tyN {p : Nat} {r : R} {fp : List Nat} {w : World} (h : RrAt p r fp w) {b : Nat} {cs : Array Value} {T : TypeId} {fz : Nat × Nat} (hb : w.heap[b]? = some (.cells cs T fz)) (h0 : T ≠ 76) (h1 : T ≠ 83) (h2 : T ≠ 73) (h3 : T ≠ 5) (h4 : T ≠ 9) (h5 : T ≠ 61) : b ∉ fp := by
  obtain ⟨g, fp0, hp, hr, _, rfl⟩ := h
  intro hm
  rcases List.mem_cons.1 hm with rfl | hm
  · exact ty_ne hb hp h0 rfl
  · exact hr.ty hb h1 h2 h3 h4 h5 hm
theorem RrAt.nbk {p : Nat} {r : R} {fp : List Nat} {w : World} (h : RrAt p r fp w) : ∀ b ∈ fp, NBk w b := fun b hb c =>
  ⟨fun e => h.tyN e (by decide) (by decide) (by decide) (by decide) (by decide) (by decide) hb, fun e => h.tyN e (by decide) (by decide) (by decide) (by decide) (by decide) (by decide) hb, fun e => h.tyN e (by decide) (by decide) (by decide) (by decide) (by decide) (by decide) hb, fun e => h.tyN e (by decide) (by decide) (by decide) (by decide) (by decide) (by decide) hb⟩
theorem RrAt.keptN {p : Nat} {r : R} {fp : List Nat} {w w' : World} {ok : Nat → Prop} (h : RrAt p r fp w) (hk : Kept ok w w') (ho : ∀ b ∈ fp, ok b) : RrAt p r fp w' := by
  obtain ⟨g, fp0, hb, hr, hn, rfl⟩ := h
  exact ⟨g, fp0, (hk.block p (Array.getElem?_eq_some_iff.1 hb).1 (ho p (by simp))).trans hb, hr.kept hk fun b hm => ho b (by simp [hm]), hn, rfl⟩
theorem RrAt.pin {p : Nat} {r : R} {fp : List Nat} {w : World} (h : RrAt p r fp w) : p ∈ fp := by
  obtain ⟨g, fp0, hb, hr, hn, rfl⟩ := h
  simp
theorem RrAt.box {p : Nat} {r : R} {fp : List Nat} {w : World} (h : RrAt p r fp w) : ∃ cs, w.heap[p]? = some (.cells cs 76 (0, 0)) := by
  obtain ⟨g, fp0, hb, hr, hn, rfl⟩ := h
  exact ⟨_, hb⟩
/-- The other reader's own block. -/
theorem RrAt.other {p p' : Nat} {r : R} {fp : List Nat} {w : World} {cs : Array Value} (h : RrAt p r fp w) (hb : w.heap[p']? = some (.cells cs 76 (0, 0))) (hne : p' ≠ p) : p' ∉ fp := by
  obtain ⟨g, fp0, hp, hr, hn, rfl⟩ := h
  intro hm
  rcases List.mem_cons.1 hm with e | hm
  · exact hne e
  · exact hr.ty hb (by decide) (by decide) (by decide) (by decide) (by decide) hm
theorem OvAt.keptN {p : Nat} {w w' : World} {ok : Nat → Prop} (h : OvAt p w) (hk : Kept ok w w') (ho : ok p) : OvAt p w' := by
  obtain ⟨g, hb⟩ := h
  exact ⟨g, (hk.block p (Array.getElem?_eq_some_iff.1 hb).1 ho).trans hb⟩
/-- A reader and the document's, which were fed alike. -/
def Rk (B p q n : Nat) (fp : List Nat) (w : World) : Prop :=
  (∃ r x, RrAt p r fp w ∧ RI r ∧ r.ans = false ∧ r.cnt = x.length ∧ x.length ≤ n ∧ feedP (begin' false) x = ([], r, 0) ∧ RsAt q x false w ∧ ∀ b ∈ fp, B ≤ b) ∨ (fp = [] ∧ OvAt p w ∧ RsAt q [] true w)
theorem Rk.keptN {B p q n : Nat} {fp : List Nat} {w w' : World} {ok : Nat → Prop} (h : Rk B p q n fp w) (hk : Kept ok w w') (ho : ∀ b ∈ fp, ok b) (hp : ∀ cs, w.heap[p]? = some (.cells cs 76 (0, 0)) → ok p) (hq : ok q) : Rk B p q n fp w' := by
  rcases h with ⟨r, x, h1, h2, h3, h4, h5, h6, h7, h8⟩ | ⟨h0, h1, h2⟩
  · exact .inl ⟨r, x, h1.keptN hk ho, h2, h3, h4, h5, h6, h7.kept hk hq, h8⟩
  · obtain ⟨g, hb⟩ := h1
    exact .inr ⟨h0, OvAt.keptN ⟨g, hb⟩ hk (hp _ hb), h2.kept hk hq⟩
theorem Rk.keptT {B p q n : Nat} {fp : List Nat} {w w' : World} (h : Rk B p q n fp w) (hk : Kept (fun _ => True) w w') : Rk B p q n fp w' := h.keptN hk (fun _ _ => trivial) (fun _ _ => trivial) trivial
theorem Rk.lt {B p q n : Nat} {fp : List Nat} {w : World} (h : Rk B p q n fp w) : ∀ b ∈ fp, b < w.heap.size := by
  rcases h with ⟨r, x, h1, _⟩ | ⟨rfl, _⟩
  · exact h1.lt
  · simp
theorem Rk.lo {B p q n : Nat} {fp : List Nat} {w : World} (h : Rk B p q n fp w) : ∀ b ∈ fp, B ≤ b := by
  rcases h with ⟨r, x, _, _, _, _, _, _, _, h8⟩ | ⟨rfl, _⟩
  · exact h8
  · simp
theorem Rk.mono {B p q n n' : Nat} {fp : List Nat} {w : World} (h : Rk B p q n fp w) (hn : n ≤ n') : Rk B p q n' fp w := by
  rcases h with ⟨r, x, h1, h2, h3, h4, h5, h6⟩ | h
  · exact .inl ⟨r, x, h1, h2, h3, h4, by omega, h6⟩
  · exact .inr h
theorem Rk.pbox {B p q n : Nat} {fp : List Nat} {w : World} (h : Rk B p q n fp w) : ∃ cs, w.heap[p]? = some (.cells cs 76 (0, 0)) := by
  rcases h with ⟨r, x, h1, _⟩ | ⟨_, ⟨g, hb⟩, _⟩
  · exact h1.box
  · exact ⟨_, hb⟩
theorem Rk.qbox {B p q n : Nat} {fp : List Nat} {w : World} (h : Rk B p q n fp w) : ∃ cs, w.heap[q]? = some (.cells cs 78 (0, 0)) := by
  rcases h with ⟨r, x, _, _, _, _, _, _, h7, _⟩ | ⟨_, _, h7⟩
  · exact ⟨_, h7⟩
  · exact ⟨_, h7⟩
/-- Blocks of types that no reading has. -/
theorem Rk.tyN {B p q n : Nat} {fp : List Nat} {w : World} (h : Rk B p q n fp w) {b : Nat} {cs : Array Value} {T : TypeId} {fz : Nat × Nat} (hb : w.heap[b]? = some (.cells cs T fz)) (h0 : T ≠ 76) (h1 : T ≠ 83) (h2 : T ≠ 73) (h3 : T ≠ 5) (h4 : T ≠ 9) (h5 : T ≠ 61) : b ∉ fp := by
  rcases h with ⟨r, x, k1, _⟩ | ⟨rfl, _⟩
  · exact k1.tyN hb h0 h1 h2 h3 h4 h5
  · simp
theorem Rk.other {B p q n p' : Nat} {fp : List Nat} {w : World} {cs : Array Value} (h : Rk B p q n fp w) (hb : w.heap[p']? = some (.cells cs 76 (0, 0))) (hne : p' ≠ p) : p' ∉ fp := by
  rcases h with ⟨r, x, k1, _⟩ | ⟨rfl, _⟩
  · exact k1.other hb hne
  · simp
theorem Rk.nbk {B p q n : Nat} {fp : List Nat} {w : World} (h : Rk B p q n fp w) : ∀ b ∈ fp, NBk w b := by
  rcases h with ⟨r, x, k1, _⟩ | ⟨rfl, _⟩
  · exact k1.nbk
  · simp
/-- Between the two calls. -/
def Md (B p q n : Nat) (s : List UInt8) (fp' : List Nat) (l : List (R × Value)) (E : Int) (w1 : World) : Prop :=
  (∃ r x, RI r ∧ r.ans = false ∧ x.length ≤ n ∧ feedP (begin' false) x = ([], r, 0) ∧ RsAt q x false w1 ∧ l.map (·.1) = (feedP r s).1 ∧ E = (feedP r s).2.2 ∧ ((feedP r s).2.2 = 0 → RrAt p (feedP r s).2.1 fp' w1) ∧ ((feedP r s).2.2 ≠ 0 → OvAt p w1 ∧ fp' = []) ∧ ∀ b ∈ fp', B ≤ b) ∨ (l = [] ∧ E = 54 ∧ OvAt p w1 ∧ RsAt q [] true w1 ∧ fp' = [])
theorem Md.lt {B p q n : Nat} {s : List UInt8} {fp' : List Nat} {l : List (R × Value)} {E : Int} {w1 : World} (h : Md B p q n s fp' l E w1) : ∀ b ∈ fp', b < w1.heap.size := by
  rcases h with ⟨r, x, h1, h2, h3, h4, h5, h6, rfl, h8, h9, h10⟩ | ⟨rfl, rfl, h1, h2, rfl⟩
  · by_cases he : (feedP r s).2.2 = 0
    · exact (h8 he).lt
    · rw [(h9 he).2]; simp
  · simp
theorem Md.keptT {B p q n : Nat} {s : List UInt8} {fp' : List Nat} {l : List (R × Value)} {E : Int} {w1 w2 : World} (h : Md B p q n s fp' l E w1) (hk : Kept (fun _ => True) w1 w2) : Md B p q n s fp' l E w2 := by
  rcases h with ⟨r, x, h1, h2, h3, h4, h5, h6, h7, h8, h9, h10⟩ | ⟨h1, h2, h3, h4, h5⟩
  · exact .inl ⟨r, x, h1, h2, h3, h4, h5.kept hk trivial, h6, h7, fun e => (h8 e).kept hk, fun e => ⟨(h9 e).1.kept hk, (h9 e).2⟩, h10⟩
  · exact .inr ⟨h1, h2, h3.kept hk, h4.kept hk trivial, h5⟩
theorem feed_one {B p q n : Nat} {fp : List Nat} {s : List UInt8} {w : World} (h : Rk B p q n fp w) (hE : WE B w) (hB : B ≤ w.heap.size) (hn : n + s.length ≤ 1099511627776) :
    Calls Tryz.prog 13 #[.pointer (some ⟨p, 0, none⟩), S s] w fun e w1 => ∃ v l E fp', e = .returned (.tuple #[v, .int .i64 E]) ∧ Outs w.heap.size v l fp' w1 ∧ (∀ b ∈ fp', b ∈ fp ∨ w.heap.size ≤ b) ∧ (∀ x ∈ l, ∀ b, x.2.ownBlock = some b → b ∈ fp ∨ w.heap.size ≤ b) ∧ l.length ≤ s.length ∧ Md B p q n s fp' l E w1 ∧ Kept (· ∉ fp) w w1 := by
  rcases h with ⟨r, x, h1, h2, h3, h4, h5, h6, h7, h8⟩ | ⟨rfl, h1, h2⟩
  · refine (Feed_any p r s fp w B hE h1 h2 h3 (by omega) ⟨h8, hB⟩).mono ?_
    rintro e w1 ⟨v, l, rfl, k1, k2, ⟨fp', k3, k4, k5, k6⟩, k7, k8⟩
    have hq : RsAt q x false w1 := h7.kept k8 (h1.tyN h7 (by decide) (by decide) (by decide) (by decide) (by decide) (by decide))
    have hlen : l.length ≤ s.length := by
      have := feedP_len s r
      rw [← k1, List.length_map] at this
      exact this
    by_cases he : (feedP r s).2.2 = 0
    · refine ⟨v, l, _, fp', rfl, k3, k4, k7, hlen, .inl ⟨r, x, h2, h3, h5, h6, hq, k1, rfl, fun _ => (k5 he).1, fun h => absurd he h, fun b hb => ?_⟩, k8⟩
      rcases k4 b hb with e | e
      · exact h8 b e
      · omega
    · exact ⟨v, l, _, [], rfl, ⟨k3.row, k3.hs, k3.nodup, by simp⟩, by simp, k7, hlen, .inl ⟨r, x, h2, h3, h5, h6, hq, k1, rfl, fun h => absurd h he, fun _ => ⟨k6 he, rfl⟩, by simp⟩, k8⟩
  · refine (Feed_over p s w h1).mono ?_
    rintro e w1 ⟨rfl, hk⟩
    exact ⟨_, [], 54, [], rfl, Outs.nil _ _ _, by simp, by simp, by simp, .inr ⟨rfl, rfl, h1.kept hk, h2.kept hk trivial, rfl⟩, hk.mono fun _ _ _ => trivial⟩
theorem feed_two {B p q n : Nat} {fp' : List Nat} {s : List UInt8} {l : List (R × Value)} {E : Int} {w1 : World} (h : Md B p q n s fp' l E w1) (hn : n + s.length ≤ 1099511627776) :
    Calls Tryz.prog 14 #[.pointer (some ⟨q, 0, none⟩), S s] w1 fun e w2 => ∃ v k, e = .returned (.tuple #[v, .int .i64 E]) ∧ Outs w1.heap.size v k [] w2 ∧ (∀ x ∈ k, ∀ b, x.2.ownBlock = some b → w1.heap.size ≤ b) ∧ msO l = msO k ∧ Rk B p q (n + s.length) fp' w2 ∧ Kept (· ≠ q) w1 w2 := by
  rcases h with ⟨r, x, h1, h2, h3, h4, h5, h6, rfl, h8, h9, h10⟩ | ⟨rfl, rfl, h1, h2, rfl⟩
  · refine (refFeed_any q x s w1 h5 (by omega)).mono ?_
    rintro e w2 ⟨v, k, rfl, k1, k2, k3, k4, k5, k6⟩
    have ha : feedP (begin' false) (x ++ s) = feedP r s := by
      rw [feedP_append x (begin' false) s (by rw [h4]), h4]
      simp
    rw [ha] at k1 k4 k5 ⊢
    refine ⟨v, k, rfl, k2, k3, by rw [msO, msO, h6, k1], ?_, k6⟩
    by_cases he : (feedP r s).2.2 = 0
    · obtain ⟨y, y1, y2, y3, y4⟩ := k4 he
      obtain ⟨i1, i2⟩ := feedP_inv s r h1 h2 he
      refine .inl ⟨_, y, (h8 he).keptN k6 fun b hb e => ?_, i1, i2, y4, ?_, y3, y1, h10⟩
      · subst e
        exact (h8 he).tyN h5 (by decide) (by decide) (by decide) (by decide) (by decide) (by decide) hb
      · rw [List.length_append] at y2; omega
    · obtain ⟨o1, o2⟩ := h9 he
      refine .inr ⟨o2, o1.keptN k6 fun e => ?_, k5 he⟩
      subst e
      obtain ⟨g, hb⟩ := o1
      exact ty_ne hb h5 (by decide) rfl
  · refine (refFeed_over q [] s w1 h2).mono ?_
    rintro e w2 ⟨rfl, hk⟩
    exact ⟨_, [], rfl, Outs.nil _ _ _, by simp, rfl, .inr ⟨rfl, h1.kept hk, h2.kept hk trivial⟩, hk.mono fun _ _ _ => trivial⟩
/-- What both say that they wait for. -/
theorem Rk.waits {B p q n : Nat} {fp : List Nat} {w : World} (h : Rk B p q n fp w) : ∃ N : Int, (∀ W, Kept (fun _ => True) w W → Calls Tryz.prog 17 #[.pointer (some ⟨p, 0, none⟩)] W fun e w' => e = .returned (.int .i64 N) ∧ Kept (fun _ => True) W w') ∧
    ∀ W, Kept (fun _ => True) w W → Calls Tryz.prog 18 #[.pointer (some ⟨q, 0, none⟩)] W fun e w' => e = .returned (.int .i64 N) ∧ Kept (fun _ => True) W w' := by
  rcases h with ⟨r, x, h1, h2, h3, h4, h5, h6, h7, h8⟩ | ⟨rfl, h1, h2⟩
  · exact ⟨x.length, fun W hk => by
      have := Waiting_any p r fp W (h1.kept hk)
      rw [h4] at this
      exact this, fun W hk => refWaiting_any q x false W (h7.kept hk trivial)⟩
  · exact ⟨0, fun W hk => Waiting_over p W (h1.kept hk), fun W hk => refWaiting_any q [] true W (h2.kept hk trivial)⟩
end Go.Proofs.YtaomhkgdbobpkaaGreatDoor
