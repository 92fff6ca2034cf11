/- Walk of the library's sort at jot's members (layer 4): they come into their order. -/
import Derived.Test.YtmajpambfblhnaaGreatDoorJoPC
import Derived.Test.YtmajpambfblhnaaGreatDoorShelf
import Derived.Test.YtmajpambfblhnaaGreatDoorShelf2
namespace Go.Proofs.YtmajpambfblhnaaGreatDoor
open Go.RowKit Jo Go.Sort Go.Shelf

theorem flatK_cells (es : List Mem) : (flatK memEnc 2 es.toArray).toList = memCells es := by
  apply List.ext_getElem?
  intro t
  by_cases ht : t < es.length * 2
  · have hq : t / 2 < es.length := by omega
    obtain ⟨e, he⟩ : ∃ e, es[t / 2]? = some e := ⟨es[t / 2]'hq, List.getElem?_eq_getElem hq⟩
    obtain ⟨c1, c2⟩ := memCells_at es _ e he
    have hg := get_flatK memEnc 2 es.toArray t (by simpa using ht)
    have hsz : t < (flatK memEnc 2 es.toArray).size := by simpa using ht
    have e1 : es.toArray[t / 2]! = e := by
      rw [getElem!_pos _ _ (by simpa using hq)]
      have := (List.getElem?_eq_some_iff.1 he).2
      simpa using this
    rw [Array.getElem?_toList, Array.getElem?_eq_getElem hsz]
    rw [getElem!_pos _ t hsz, e1] at hg
    rw [hg]
    rcases (by omega : t = t / 2 * 2 ∨ t = t / 2 * 2 + 1) with h | h
    · have hm : t % 2 = 0 := by omega
      rw [hm]
      rw [← h] at c1
      rw [c1]
      rfl
    · have hm : t % 2 = 1 := by omega
      rw [hm]
      rw [← h] at c2
      rw [c2]
      rfl
  · rw [List.getElem?_eq_none (by simp; omega), List.getElem?_eq_none (by rw [memCells_len]; omega)]

theorem ltOf_name (x y : Mem) : ltOf (fun x y : Mem => Lib.compareBytes x.1 y.1) x y = ltB x.1 y.1 := rfl
theorem swoName : SWO (ltOf fun x y : Mem => Lib.compareBytes x.1 y.1) where
  irrefl x := by rw [ltOf_name]; exact ltB_irrefl _
  trans x y z h1 h2 := by rw [ltOf_name] at *; exact ltB_trans h1 h2
  ntrans x y z h1 h2 := by rw [ltOf_name] at *; exact ltB_ntrans h1 h2

set_option maxHeartbeats 1000000 in
theorem closure_any (x y : Mem) (W : World) : Calls Tryz.prog 90 #[.agg #[S x.1, .iface x.2.1 x.2.2], .agg #[S y.1, .iface y.2.1 y.2.2]] W fun e w' => e = .returned (.int .i64 (Lib.compareBytes x.1 y.1)) ∧ ∃ q os', w' = grow (W.drewN q) os' := by
  have hcon := fun W' => Tryz.strings_Compare ⟨x.1.toArray⟩ ⟨y.1.toArray⟩ W'
  simp only at hcon
  generalize Lib.compareBytes x.1 y.1 = r at hcon ⊢
  go_enter Tryz.func90, Tryz.ntmps90
  go_wp2_with (go_at_call 91; refine (hcon _).mono ?_; rintro e w' ⟨rfl, rfl⟩)
  go_ret
  exact ⟨rfl, 0, _, by rw [alloc_eq_grow, alloc_eq_grow, grow_grow]; rfl⟩
theorem closure_lays (blk off size : Nat) (w : World) : Go.Proofs.CmpLays Tryz.prog 90 #[] memEnc 2 (fun x y => Lib.compareBytes x.1 y.1) blk off size w :=
  fun _ _ _ _ x y => closure_any x y _

theorem sortWorld_heap (w : World) (b n : Nat) (es : List Mem) (os : Array Obj) {cur : Array Value} {t : TypeId} (hb : w.heap[b]? = some (.cells cur t (0, 0))) (hl : es.length * 2 ≤ cur.size) :
    ∃ cur', (sortWorldK memEnc 2 w b 0 n es.toArray os).heap[b]? = some (.cells cur' t (0, 0)) ∧ cur'.size = cur.size ∧ cur'.toList.take (es.length * 2) = memCells es := by
  have hlt : b < w.heap.size := (Array.getElem?_eq_some_iff.1 hb).1
  refine ⟨putCells id 0 (flatK memEnc 2 es.toArray) cur, ?_, by simp [putCells], ?_⟩
  · unfold sortWorldK grow putRowK putRow
    simp only
    rw [Array.getElem?_append_left (by simpa [mapBlock, Sort.ahead] using hlt)]
    simp only [mapBlock, Sort.ahead, Array.getElem?_modify, if_true, hb, Option.map_some, onCells]
  · rw [← flatK_cells]
    apply List.ext_getElem?
    intro i
    by_cases hi : i < es.length * 2
    · have hc : i < cur.size := by omega
      rw [List.getElem?_take_of_lt hi]
      rw [Array.getElem?_toList, Array.getElem?_toList]
      simp only [putCells, Array.getElem?_mapIdx, Array.getElem?_eq_getElem hc, Option.map_some]
      rw [if_pos ⟨Nat.zero_le _, by simp; omega⟩]
      have hsz : i < (flatK memEnc 2 es.toArray).size := by simpa using hi
      rw [Array.getElem?_eq_getElem hsz, Nat.sub_zero, getElem!_pos _ i hsz]
      rfl
    · rw [List.getElem?_eq_none (by simp [List.length_take]; omega), List.getElem?_eq_none (by simp; omega)]
theorem sortWorld_kept (w : World) (b n : Nat) (es : List Mem) (os : Array Obj) : Kept (· ≠ b) w (sortWorldK memEnc 2 w b 0 n es.toArray os) := by
  refine ⟨rfl, rfl, rfl, ?_, fun k hk hne => ?_⟩
  · unfold sortWorldK grow putRowK putRow mapBlock Sort.ahead
    simp
  · unfold sortWorldK grow putRowK putRow
    simp only
    rw [Array.getElem?_append_left (by simpa [mapBlock, Sort.ahead] using hk)]
    simp only [mapBlock, Sort.ahead, Array.getElem?_modify]
    rw [if_neg (by omega)]

set_option maxHeartbeats 1000000 in
theorem sortFn_any (b cap : Nat) (es : List Mem) (w : World) (hH : HoldsK memEnc 2 w b 0 es.toArray) (hb : b < w.heap.size) (hl : es.length ≤ 100000) :
    Calls Tryz.prog 89 #[.slice (some ⟨b, 0, none⟩) es.length cap, .func (.func 90) #[] #[]] w fun e w' => e = .returned (.tuple #[]) ∧
      ∃ (es' : List Mem) (n : Nat) (os : Array Obj), es'.length = es.length ∧ es'.Perm es ∧ (∀ (i j : Nat) x y, i < j → es'[i]? = some x → es'[j]? = some y → ltB y.1 x.1 = false) ∧ w' = sortWorldK memEnc 2 w b 0 n es'.toArray os := by
  have eg : ∀ args w, (callFunc 90 args).run Tryz.prog w = .ok (.enter 90 args) w := enters_of Tryz.func90 (by kernel_rfl) rfl
  have hlim : Lib.bitLen es.length < 4611686018427387904 := Nat.lt_of_le_of_lt (Lib.bitLen_le es.length 62 (by omega) (by omega)) (by omega)
  have hp := AnyQ.pdqsortCmpFunc_all Tryz.pdqMem 2 Tryz.isAgg93 Tryz.sizeOf93 memEnc (fun x y => Lib.compareBytes x.1 y.1) 90 #[] swoName b 0 cap es.toArray w eg (closure_lays b 0 _ w)
    ⟨fun _ => rfl, fun x v hv => by simp [memEnc] at hv; rcases hv with rfl | rfl <;> rfl, hH, hb⟩ (es.length + 1) 0 es.length (Lib.bitLen es.length) es.toArray w (by omega) rfl (SWK.start hH) (Nat.zero_le _) (Nat.le_refl _) (by simp; omega) hlim (Or.inl rfl)
  have hlen := Tryz.bits_Len (es.length : Int) w (by omega) (by omega)
  rw [Int.toNat_natCast] at hlen
  have hsrt := pdq_sorts (ltOf fun x y : Mem => Lib.compareBytes x.1 y.1) swoName es.toArray 0 es.length (Lib.bitLen es.length) true true (Nat.zero_le _) (Nat.le_refl _) (Or.inl rfl)
  obtain ⟨d', hd'⟩ : ∃ d', pdq (ltOf fun x y : Mem => Lib.compareBytes x.1 y.1) es.toArray 0 es.length (Lib.bitLen es.length) true true = d' := ⟨_, rfl⟩
  rw [hd'] at hp hsrt
  obtain ⟨⟨s1, s2, s3⟩, s4⟩ := hsrt
  have hsz : d'.size = es.length := by simpa using s1
  have hres : ∃ (es' : List Mem), d' = es'.toArray ∧ es'.length = es.length ∧ es'.Perm es ∧ (∀ (i j : Nat) x y, i < j → es'[i]? = some x → es'[j]? = some y → ltB y.1 x.1 = false) := by
    refine ⟨d'.toList, by simp, by simpa using hsz, ?_, fun i j x y hij hx hy => ?_⟩
    · have e1 : d'.extract 0 es.length = d' := by rw [← hsz]; simp
      have e2 : es.toArray.extract 0 es.length = es.toArray := by simp
      rw [e1, e2] at s3
      exact s3
    · have hj := (List.getElem?_eq_some_iff.1 hy).1
      rw [Array.length_toList] at hj
      have h := s4 i j (Nat.zero_le _) hij (by omega)
      rw [getElem!_pos d' i (by omega), getElem!_pos d' j hj] at h
      have hx' := (List.getElem?_eq_some_iff.1 hx).2
      have hy' := (List.getElem?_eq_some_iff.1 hy).2
      rw [Array.getElem_toList] at hx' hy'
      rw [hx', hy'] at h
      exact h
  obtain ⟨es', rfl, r1, r2, r3⟩ := hres
  have HRes : Hid (es'.length = es.length ∧ es'.Perm es ∧ (∀ (i j : Nat) x y, i < j → es'[i]? = some x → es'[j]? = some y → ltB y.1 x.1 = false)) := Lib.hid ⟨r1, r2, r3⟩
  have HP := Lib.hid hp
  have HL := Lib.hid hlen
  clear hp hlen hd' s1 s2 s3 s4 hsz r1 r2 r3 hH hlim eg
  go_enter Tryz.func89, Tryz.ntmps89
  go_wp2_with fail
  refine HL.out.mono ?_
  rintro e w' ⟨rfl, rfl⟩
  go_wp2_with fail
  refine HP.out.mono ?_
  rintro e w' ⟨rfl, n, os, rfl⟩
  go_wp2
  go_end0
  exact ⟨rfl, es', n, os, HRes.out.1, HRes.out.2.1, HRes.out.2.2, rfl⟩

theorem map_names {es : List Mem} {ms : List (List UInt8 × J)} (hl : es.length = ms.length) (h : ∀ (j : Nat) m e, ms[j]? = some m → es[j]? = some e → e.1 = m.1) : es.map (·.1) = ms.map (·.1) := by
  apply List.ext_getElem?
  intro j
  rw [List.getElem?_map, List.getElem?_map]
  by_cases hj : j < es.length
  · have h1 : es[j]? = some (es[j]'hj) := List.getElem?_eq_getElem hj
    have h2 : ms[j]? = some (ms[j]'(by omega)) := List.getElem?_eq_getElem (by omega)
    rw [h1, h2, Option.map_some, Option.map_some, h j _ _ h2 h1]
  · rw [List.getElem?_eq_none (by omega), List.getElem?_eq_none (by omega)]; rfl
theorem nodup_index {l : List (List UInt8)} (h : l.Nodup) {i j : Nat} {x : List UInt8} (hi : l[i]? = some x) (hj : l[j]? = some x) : i = j := by
  obtain ⟨h1, h2⟩ := List.getElem?_eq_some_iff.1 hi
  obtain ⟨h3, h4⟩ := List.getElem?_eq_some_iff.1 hj
  rcases Nat.lt_trichotomy i j with h5 | h5 | h5
  · exact absurd (h2.trans h4.symm) (List.pairwise_iff_getElem.1 h i j h1 h3 h5)
  · exact h5
  · exact absurd (h4.trans h2.symm) (List.pairwise_iff_getElem.1 h j i h3 h1 h5)
/-- The sort's contract, as 'object' wants it. -/
theorem sort_any : SortC := by
  intro B v ms w ho hne hnd hlen
  obtain ⟨es, e1, e2, e3⟩ := ho
  rcases e2.2 with ⟨_, h0⟩ | ⟨b, cap, cur, rfl, hB, hb, hnc, hcm, hcs, htake⟩
  · exact absurd (List.eq_nil_of_length_eq_zero h0) hne
  have hbl : b < w.heap.size := (Array.getElem?_eq_some_iff.1 hb).1
  have hcells := e2.cells (g := b) rfl
  have hH : HoldsK memEnc 2 w b 0 es.toArray := by
    intro j hj
    have hj' : j < es.length * 2 := by simpa using hj
    refine ⟨?_, frozen_row hb _⟩
    have hc : (memCells es)[j]? = some ((flatK memEnc 2 es.toArray)[j]!) := by
      rw [← flatK_cells, Array.getElem?_toList, Array.getElem?_eq_getElem hj, getElem!_pos _ j hj]
    have := hcells j _ hc
    rw [show (⟨b, 0, none⟩ : Addr).add j = ⟨b, j, none⟩ from by unfold Addr.add; split <;> simp_all] at this
    rw [Nat.zero_add]
    exact this
  have hmap := map_names e1 (fun j m e hm he => (e3 j m e hm he).1)
  have hC := sortFn_any b cap es w hH hbl (by omega)
  rw [e1] at hC
  refine hC.mono ?_
  rintro e w' ⟨he, es', n, os, r1, r2, r3, rfl⟩
  have hk := sortWorld_kept w b n es' os
  refine ⟨he, ⟨es', ?_, ?_, fun j m x hm hx => ?_⟩, hk.mono fun i _ hi => by simpa [Value.ownBlock] using hi⟩
  · rw [r1, (sortM_perm ms).length_eq]
  · obtain ⟨cur', g1, g2, g3⟩ := sortWorld_heap w b n es' os hb (by rw [r1, hcs]; exact Nat.mul_le_mul_right _ hnc)
    have hlm : (sortM ms).length = ms.length := (sortM_perm ms).length_eq
    rw [hlm]
    refine ⟨by rw [memCells_len, r1], .inr ⟨b, cap, cur', rfl, hB, g1, hnc, hcm, by rw [g2, hcs], ?_⟩⟩
    rw [← g3, r1]
  · have hp1 : (es'.map (·.1)).Perm (ms.map (·.1)) := by rw [← hmap]; exact r2.map _
    have hnd' : (es'.map (·.1)).Nodup := hp1.nodup_iff.2 hnd
    have hasc : (es'.map (·.1)).Pairwise fun a b => ltB a b = true := by
      rw [List.pairwise_iff_getElem]
      intro i j hi hj hij
      rw [List.getElem_map, List.getElem_map]
      rw [List.length_map] at hi hj
      have h1 : es'[i]? = some (es'[i]'hi) := List.getElem?_eq_getElem hi
      have h2 : es'[j]? = some (es'[j]'hj) := List.getElem?_eq_getElem hj
      have h3 := r3 i j _ _ hij h1 h2
      refine ltB_total h3 fun e => ?_
      have h4 := nodup_index hnd' (i := i) (j := j) (x := (es'[i]'hi).1) (by rw [List.getElem?_map, h1]; rfl) (by rw [List.getElem?_map, h2, ← e]; rfl)
      omega
    have heq : es'.map (·.1) = (sortM ms).map (·.1) := asc_unique hasc ((List.pairwise_map).2 (sortM_asc ms hnd)) (hp1.trans ((sortM_perm ms).map _).symm)
    have hn : x.1 = m.1 := by
      have h1 : (es'.map (·.1))[j]? = some x.1 := by rw [List.getElem?_map, hx]; rfl
      have h2 : ((sortM ms).map (·.1))[j]? = some m.1 := by rw [List.getElem?_map, hm]; rfl
      rw [heq, h2] at h1
      exact (Option.some.inj h1).symm
    refine ⟨hn, ?_⟩
    obtain ⟨i, hi, hix⟩ := List.getElem_of_mem (r2.mem_iff.1 (List.mem_of_getElem? hx))
    have hxi : es[i]? = some x := by rw [List.getElem?_eq_getElem hi, hix]
    have hmi : ms[i]? = some (ms[i]'(by omega)) := List.getElem?_eq_getElem (by omega)
    obtain ⟨q1, q2⟩ := e3 i _ x hmi hxi
    obtain ⟨i', hi', him⟩ := List.getElem_of_mem ((sortM_perm ms).mem_iff.1 (List.mem_of_getElem? hm))
    have hmi' : ms[i']? = some m := by rw [List.getElem?_eq_getElem hi', him]
    have hii : i = i' := nodup_index hnd (i := i) (j := i') (x := m.1) (by rw [List.getElem?_map, hmi, Option.map_some, ← q1, hn]) (by rw [List.getElem?_map, hmi']; rfl)
    subst hii
    rw [hmi] at hmi'
    obtain rfl := Option.some.inj hmi'
    exact q2.kept hk fun b' _ hb' => by
      have := hb'.2
      simpa [Value.ownBlock] using this
end Go.Proofs.YtmajpambfblhnaaGreatDoor
