/- Lemmas on append to a row that the call itself has made, third part: where the new row lies, and that a row left behind stays. No program in sight. -/
import Derived.Test.YtldhfbdljogieaaDoorKit2
import Derived.Maps.AppendAt
namespace Go.Proofs.YtldhfbdljogieaaDoor
open Go.RowKit

/-- From v to v' in one append: in place (no other block is touched), or in a new block (none that stood is touched). -/
def Moved (v v' : Value) (w w' : World) : Prop := (v'.ownBlock = v.ownBlock ∧ KeptRow v.ownBlock w w') ∨ ((∀ b, v'.ownBlock = some b → w.heap.size ≤ b) ∧ KeptRow none w w')
theorem Moved.kept {v v' : Value} {w w' : World} (h : Moved v v' w w') : KeptRow v.ownBlock w w' := by
  rcases h with h | h
  · exact h.2
  · exact ⟨h.2.1, fun k hk _ => h.2.2 k hk (by simp)⟩

theorem run_append_moved {P : Program} (w : World) (base : Nat) (t ty e : TypeId) (i : TypeInfo) (z : Value) (size bytes : Nat) (ht : P.underlying t = some (.slice e)) (hi : P.info? e = some i) (hz : i.zero = some z)
    (hsize : i.size = size) (hby : i.bytes = bytes) (hzs : z.cells.size = size) (hsz : 0 < size)
    (v : Value) (n : Nat) (xs : List Value) (hown : w.ownsRow base e size v n xs)
    (a : Addr) (m c : Nat) (news : List Value) (hl : news.length = m * size) (hnews : ∀ j u, news[j]? = some u → w.cell? (a.add j) = some u) (h1 : ∀ u ∈ news, u.oneCell' = true)
    (hm : 0 < m) (h63 : n + m ≤ maxLen) (hbytes : (n + m) * bytes ≤ 140737488355328) (hbase : base ≤ w.heap.size) :
    ∃ v' w', (Builtin.append_ #[t, t] ty #[v, .slice (some a) m c]).run P w = .ok v' w' ∧ w'.ownsRow base e size v' (n + m) (xs ++ news) ∧ w.grownBy w' v.ownBlock ∧ Moved v v' w w' := by
  obtain ⟨v', w', hr, h2, h3, _, h5⟩ := run_append_own_at (P := P) w base t ty e i z size bytes ht hi hz hsize hby hzs hsz v n xs hown a m c news hl hnews h1 h63 hbytes hbase
  refine ⟨v', w', hr, h2, h3, ?_⟩
  subst hsize hby
  have hsmall : n + m ≤ 9223372036854775807 := by simp only [maxLen] at h63; omega
  have drawn : ∀ o : Obj, KeptRow none w (w.drew.alloc o) := fun o => ⟨by simp, fun k hk _ => Lib.alloc_old w.drew o k hk⟩
  rcases hown.2 with ⟨rfl, rfl⟩ | ⟨g, cap, cur, rfl, hbg, hg, hnc, hcm, hcs, htake⟩
  · right
    have hrn := run_append_nil (P := P) w t ty e i z ht hi hz a m c news hl hnews hm (by omega) (by have hb := hbytes; simp only [Nat.zero_add] at hb; omega)
    rw [hrn] at hr
    injection hr with hv hw
    subst hv hw
    exact ⟨fun b hb => by simp [Value.ownBlock] at hb; omega, drawn _⟩
  · by_cases hroom : n + m ≤ cap
    · left
      have hfit : n * i.size + news.length ≤ cur.size := by rw [hl, hcs, ← Nat.add_mul]; exact Nat.mul_le_mul_right _ hroom
      have hrr := run_append_room (P := P) w t ty e i ht hi g n cap cur hg a m c news hl hnews h1 hroom hfit
      rw [hrr] at hr
      injection hr with hv hw
      subst hv
      exact ⟨rfl, h3.size, h3.block⟩
    · right
      have holds : ∀ j u, xs[j]? = some u → w.cell? ((⟨g, 0, none⟩ : Addr).add j) = some u := hown.cells (g := g) rfl
      have hrg := run_append_grow (P := P) w t ty e i z ht hi hz ⟨g, 0, none⟩ n cap xs hown.1 holds a m c news hl hnews (by omega) (by omega) (growslice_fits (by omega) hbytes)
      rw [hrg] at hr
      injection hr with hv hw
      subst hv hw
      exact ⟨fun b hb => by simp [Value.ownBlock] at hb; omega, drawn _⟩

/-- append(v, one element that a block just made holds): where the new row lies. -/
theorem wpList_pushOne {P : Program} {ops : Array Oper} {rest : List Oper} {o : Oper} {a : Act} {Q : Exit → Act → World → Prop} {w : World} (t e : TypeId) (ht : P.underlying t = some (.slice e)) {z : Value} {size bytes : Nat}
    (hi : (P.info? e).map (fun i => (i.zero, i.size, i.bytes)) = some (some z, size, bytes)) (hzs : z.cells.size = size) (hsz : 0 < size)
    (hgd : o.guard = none) (s x : Operand) (ho : o.op = .call { callee := .builtin .append, args := #[s, x], argTypes := #[t, t] })
    (B : Nat) (v : Value) (n : Nat) (xs : List Value) (cells : List Value) (wr : World) (vs : Array Value) (hvs : vs = cells.toArray) (hw : w = wr.alloc (.cells vs e))
    (hcl : cells.length = size) (h1 : ∀ u ∈ cells, u.oneCell' = true)
    (c g : Nat) (hg : g = wr.heap.size) (hs : a.eval s = v) (hx : a.eval x = .slice (some ⟨g, 0, none⟩) 1 c) (hown : wr.ownsRow B e size v n xs) (hl : n + 1 ≤ 4398046511104) (hby : bytes ≤ 32) (hB : B ≤ wr.heap.size)
    (h : ∀ v' w', w'.ownsRow B e size v' (n + 1) (xs ++ cells) → Below B wr w' → Moved v v' wr w' → wpList P ops Q rest (a.put o.dst v') w') : wpList P ops Q (o :: rest) a w := by
  obtain ⟨i0, hi0, hz0, hz1, hz2⟩ := info_parts hi
  subst hg hvs hw
  have hnews : ∀ (j : Nat) u, cells[j]? = some u → (wr.alloc (.cells cells.toArray e)).cell? ((⟨wr.heap.size, 0, none⟩ : Addr).add j) = some u := by
    intro j u hj
    have hadd : (⟨wr.heap.size, 0, none⟩ : Addr).add j = ⟨wr.heap.size, j, none⟩ := by unfold Addr.add; split <;> simp_all
    rw [hadd, cell_of_row _ wr.heap.size j cells.toArray e (0, 0) (heap_alloc_new wr _)]
    simpa using hj
  have hbytes : (n + 1) * bytes ≤ 140737488355328 := by
    have : (n + 1) * bytes ≤ 4398046511104 * 32 := Nat.mul_le_mul hl hby
    omega
  obtain ⟨v', w', hr, h2, h3, h4⟩ := run_append_moved (P := P) (wr.alloc (.cells cells.toArray e)) B t o.type e i0 z size bytes ht hi0 hz0 hz1 hz2 hzs hsz v n xs (hown.alloc _) ⟨wr.heap.size, 0, none⟩ 1 c cells (by omega) hnews h1 (by decide) (by unfold maxLen; omega) hbytes (by simp; omega)
  refine wpList_plain hgd fun K hK => ?_
  unfold Oper.wp
  simp [execOp, ho, resolve, invoke, builtin, hs, hx, hr, Result.andThen]
  have hlt := hown.lt
  refine hK _ _ (h v' w' h2 ((((Below.refl B wr).alloc hB _)).grown h3 (by simp; omega) (fun k hk => (hlt k hk).1)) ?_)
  have old : ∀ k, k < wr.heap.size → (wr.alloc (.cells cells.toArray e)).heap[k]? = wr.heap[k]? := fun k hk => Lib.alloc_old wr _ k hk
  rcases h4 with ⟨e1, k1, k2⟩ | ⟨e1, k1, k2⟩
  · exact .inl ⟨e1, by simp at k1; omega, fun k hk hne => (k2 k (by simp; omega) hne).trans (old k hk)⟩
  · exact .inr ⟨fun b hb => by have := e1 b hb; simp at this; omega, by simp at k1; omega, fun k hk hne => (k2 k (by simp; omega) hne).trans (old k hk)⟩
end Go.Proofs.YtldhfbdljogieaaDoor
