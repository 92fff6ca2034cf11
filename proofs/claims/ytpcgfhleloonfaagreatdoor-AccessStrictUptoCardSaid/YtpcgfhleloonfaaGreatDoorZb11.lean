/- What the proof of this law needs, part 11: walks of the program's functions and plain laws (texts JoQ2, Shelf3, JoQ3, JoQ4). -/
import Derived.Test.YtpcgfhleloonfaaGreatDoorZb10
import Derived.Shelf.Unicode.ValidAny
namespace Go.Proofs.YtpcgfhleloonfaaGreatDoor
open Go.RowKit Jo
theorem as_list (v : Value) (w : World) : (Instr.typeAssert (.iface 211 v) 168 211 true).run Tryz.prog w = .ok (.tuple #[v, .bool true]) w := by kernel_rfl
theorem as_object (v : Value) (w : World) : (Instr.typeAssert (.iface 213 v) 168 213 true).run Tryz.prog w = .ok (.tuple #[v, .bool true]) w := by kernel_rfl
theorem no_list {t : TypeId} (ht : t = 192 ∨ t = 193 ∨ t = 218 ∨ t = 194 ∨ t = 213) (v : Value) (w : World) : (Instr.typeAssert (.iface t v) 168 211 true).run Tryz.prog w = .ok (.tuple #[.slice none 0 0, .bool false]) w := by
  rcases ht with rfl | rfl | rfl | rfl | rfl <;> kernel_rfl
theorem no_object {t : TypeId} (ht : t = 192 ∨ t = 193 ∨ t = 218 ∨ t = 194 ∨ t = 211) (v : Value) (w : World) : (Instr.typeAssert (.iface t v) 168 213 true).run Tryz.prog w = .ok (.tuple #[.slice none 0 0, .bool false]) w := by
  rcases ht with rfl | rfl | rfl | rfl | rfl <;> kernel_rfl
/-- What depth leaves. -/
def DepQ (w : World) (d : Nat) (e : Ending) (w' : World) : Prop := e = .returned (.int .i64 (d : Int)) ∧ Kept (fun _ => True) w w'
set_option maxHeartbeats 1000000 in
theorem depth_leaf (t : TypeId) (v : Value) (w : World) (ht : t = 192 ∨ t = 193 ∨ t = 218 ∨ t = 194) : Calls Tryz.prog 264 #[.iface t v] w (DepQ w 0) := by
  have h1 := no_list (t := t) (by rcases ht with h | h | h | h <;> simp [h]) v
  have h2 := no_object (t := t) (by rcases ht with h | h | h | h <;> simp [h]) v
  clear ht
  go_enter Tryz.func264, Tryz.ntmps264
  go_wp2
  go_ret
  exact ⟨rfl, Kept.refl _ _⟩
set_option maxHeartbeats 4000000 in
theorem depth_list (ok : Nat → Prop) (xs : List J) (v : Value) (us : Nat → Value) (w : World) (hl : xs.length ≤ 1000000) (hr : Row1 ok w v xs.length us)
    (hj : ∀ (j : Nat) x, xs[j]? = some x → (∃ t a, us j = .iface t a) ∧ depthP x ≤ 1000000000 ∧ ∀ w', Kept (fun _ => True) w w' → Calls Tryz.prog 264 #[us j] w' (DepQ w' (depthP x))) (hd : deepest xs ≤ 1000000000) :
    Calls Tryz.prog 264 #[.iface 211 v] w (DepQ w (deepest xs + 1)) := by
  have HJ := Lib.hid hj
  have HD := Lib.hid hd
  have ha := as_list v
  clear hj hd
  rcases hr with ⟨rfl, h0⟩ | ⟨b, cap, rfl, h1, h2, h3, h4⟩
  · obtain rfl : xs = [] := List.eq_nil_of_length_eq_zero h0
    go_enter Tryz.func264, Tryz.ntmps264
    go_wp2
    go_loopg [3, 17] 0 (fun q d k wr => d = .int .i64 0 ∧ k = .int .i64 0 ∧ wr = w)
    case atStart => exact ⟨rfl, rfl, rfl⟩
    case round =>
      obtain ⟨rfl, rfl, rfl⟩ := hrel
      go_wp2
      refine bodyPost_ret (v := .int .i64 1) (by simp [results, Tryz.results264, go_sem]) rfl ?_
      exact ⟨rfl, Kept.refl _ _⟩
  · have H4 := Lib.hid h4
    clear h4
    go_enter Tryz.func264, Tryz.ntmps264
    go_wp2
    go_loopg [3, 17] xs.length (fun q d k wr => ∃ (j m : Nat), d = .int .i64 m ∧ k = .int .i64 j ∧ q = xs.length - j ∧ j ≤ xs.length ∧ Hid (m = deepest (xs.take j)) ∧ m ≤ 1000000000 ∧ Kept (fun _ => True) w wr)
    case atStart => exact ⟨0, 0, rfl, rfl, by omega, Nat.zero_le _, Lib.hid rfl, Nat.zero_le _, Kept.refl _ _⟩
    case round =>
      obtain ⟨j, m, rfl, rfl, rfl, hjl, hm, hmb, hk⟩ := hrel
      by_cases hlt : j < xs.length
      · obtain ⟨x, hx⟩ : ∃ x, xs[j]? = some x := ⟨xs[j]'hlt, List.getElem?_eq_getElem hlt⟩
        have hc : wr.cell? ⟨b, j, none⟩ = some (us j) := (hk.cell h3 trivial).trans (H4.out j hlt)
        obtain ⟨⟨t, a, hu⟩, hdx, hcall⟩ := HJ.out j x hx
        rw [hu] at hc hcall
        have HCALL := Lib.hid (hcall wr hk)
        have HN : Hid (deepest (xs.take (j + 1)) = max m (depthP x)) := Lib.hid (by rw [List.take_add_one, hx, hm.out]; exact deepest_snoc _ _)
        obtain ⟨dx, hdx2⟩ : ∃ dx, depthP x = dx := ⟨_, rfl⟩
        rw [hdx2] at HCALL HN hdx
        clear hu hcall hx hdx2
        go_wp2_with (refine HCALL.out.mono ?_; rintro e w2 ⟨rfl, hk2⟩)
        all_goals
          go_roundg (xs.length - (j + 1))
          case rel =>
            first
              | exact ⟨j + 1, m, rfl, by go_num, rfl, by omega, Lib.hid (by rw [HN.out]; omega), by omega, hk.tr hk2⟩
              | exact ⟨j + 1, dx, rfl, by go_num, rfl, by omega, Lib.hid (by rw [HN.out]; omega), by omega, hk.tr hk2⟩
              | exact ⟨j + 1, max m dx, by congr 1; omega, by go_num, rfl, by omega, Lib.hid (by rw [HN.out]), by omega, hk.tr hk2⟩
          case measure => omega
      · obtain rfl : j = xs.length := by omega
        have HN : Hid (m = deepest xs) := Lib.hid (by have := hm.out; rwa [List.take_of_length_le (Nat.le_refl _)] at this)
        clear hm
        go_wp2
        refine bodyPost_ret (v := .int .i64 (m + 1)) (by simp [results, Tryz.results264, go_sem]) rfl ?_
        exact ⟨by rw [← HN.out]; rfl, hk⟩
set_option maxHeartbeats 4000000 in
theorem depth_obj (ok : Nat → Prop) (ms : List (List UInt8 × J)) (v : Value) (us : Nat → Value) (w : World) (hl : ms.length ≤ 1000000) (hr : Row2 ok w v (ms.map (·.1)) us)
    (hj : ∀ (j : Nat) m, ms[j]? = some m → (∃ t a, us j = .iface t a) ∧ depthP m.2 ≤ 1000000000 ∧ ∀ w', Kept (fun _ => True) w w' → Calls Tryz.prog 264 #[us j] w' (DepQ w' (depthP m.2))) (hd : deepest (ms.map (·.2)) ≤ 1000000000) :
    Calls Tryz.prog 264 #[.iface 213 v] w (DepQ w (deepest (ms.map (·.2)) + 1)) := by
  have HJ := Lib.hid hj
  have HD := Lib.hid hd
  have ha := as_object v
  have hn := no_list (t := 213) (by simp) v
  clear hj hd
  rcases hr with ⟨rfl, h0⟩ | ⟨b, cap, rfl, h1, h2, h3, h4⟩
  · obtain rfl : ms = [] := by simpa using h0
    go_enter Tryz.func264, Tryz.ntmps264
    go_wp2
    go_loopg [3, 31] 0 (fun q d k wr => d = .int .i64 0 ∧ k = .int .i64 0 ∧ wr = w)
    case atStart => exact ⟨rfl, rfl, rfl⟩
    case round =>
      obtain ⟨rfl, rfl, rfl⟩ := hrel
      go_wp2
      refine bodyPost_ret (v := .int .i64 1) (by simp [results, Tryz.results264, go_sem]) rfl ?_
      exact ⟨rfl, Kept.refl _ _⟩
  · rw [List.length_map] at h1 ha hn ⊢
    have H4 := Lib.hid h4
    clear h4
    go_enter Tryz.func264, Tryz.ntmps264
    go_wp2
    go_loopg [3, 31] ms.length (fun q d k wr => ∃ (j m : Nat), d = .int .i64 m ∧ k = .int .i64 j ∧ q = ms.length - j ∧ j ≤ ms.length ∧ Hid (m = deepest ((ms.take j).map (·.2))) ∧ m ≤ 1000000000 ∧ Kept (fun _ => True) w wr)
    case atStart => exact ⟨0, 0, rfl, rfl, by omega, Nat.zero_le _, Lib.hid rfl, Nat.zero_le _, Kept.refl _ _⟩
    case round =>
      obtain ⟨j, m, rfl, rfl, rfl, hjl, hm, hmb, hk⟩ := hrel
      by_cases hlt : j < ms.length
      · obtain ⟨⟨n, x⟩, hx⟩ : ∃ x, ms[j]? = some x := ⟨ms[j]'hlt, List.getElem?_eq_getElem hlt⟩
        have hx' : (ms.map (·.1))[j]? = some n := by rw [List.getElem?_map, hx]; rfl
        have hc0 : wr.cell? ⟨b, j * 2, none⟩ = some (S n) := (hk.cell h3 trivial).trans (H4.out j n hx').1
        have hc : wr.cell? ⟨b, j * 2 + 1, none⟩ = some (us j) := (hk.cell h3 trivial).trans (H4.out j n hx').2
        obtain ⟨⟨t, a, hu⟩, hdx, hcall⟩ := HJ.out j (n, x) hx
        rw [hu] at hc hcall
        have hkb : Kept (fun _ => True) wr (wr.alloc (.cells #[S n, .iface t a] 215)) := (Kept.refl _ _).alloc _
        have HCALL := Lib.hid (hcall _ (hk.tr hkb))
        have HN : Hid (deepest ((ms.take (j + 1)).map (·.2)) = max m (depthP x)) := Lib.hid (by rw [List.take_add_one, hx, hm.out]; simp only [Option.toList_some, List.map_append, List.map_cons, List.map_nil]; exact deepest_snoc _ _)
        obtain ⟨dx, hdx2⟩ : ∃ dx, depthP x = dx := ⟨_, rfl⟩
        rw [hdx2] at HCALL HN hdx
        clear hu hcall hx hx' hdx2
        go_wp2_with (refine HCALL.out.mono ?_; rintro e w2 ⟨rfl, hk2⟩)
        all_goals
          go_roundg (ms.length - (j + 1))
          case rel =>
            first
              | exact ⟨j + 1, m, rfl, by go_num, rfl, by omega, Lib.hid (by rw [HN.out]; omega), by omega, (hk.tr hkb).tr hk2⟩
              | exact ⟨j + 1, dx, rfl, by go_num, rfl, by omega, Lib.hid (by rw [HN.out]; omega), by omega, (hk.tr hkb).tr hk2⟩
              | exact ⟨j + 1, max m dx, by congr 1; omega, by go_num, rfl, by omega, Lib.hid (by rw [HN.out]), by omega, (hk.tr hkb).tr hk2⟩
          case measure => omega
      · obtain rfl : j = ms.length := by omega
        have HN : Hid (m = deepest (ms.map (·.2))) := Lib.hid (by have := hm.out; rwa [List.take_of_length_le (Nat.le_refl _)] at this)
        clear hm
        go_wp2
        refine bodyPost_ret (v := .int .i64 (m + 1)) (by simp [results, Tryz.results264, go_sem]) rfl ?_
        exact ⟨by rw [← HN.out]; rfl, hk⟩
theorem depth_any : ∀ (x : J) (ok : Nat → Prop) (w : World) (u : Value), depthP x ≤ 1000000000 → VIn ok w x u → Calls Tryz.prog 264 #[u] w (DepQ w (depthP x)) := by
  apply J.ind
  intro k n t ns xs ih ok w u hd hu
  generalize hx : J.mk k n t ns xs = x at hu hd
  have hit : xs = x.items := by rw [← hx]
  subst hit
  clear hx
  cases hu with
  | null => exact depth_leaf _ _ _ (by simp)
  | fls => exact depth_leaf _ _ _ (by simp)
  | tru => exact depth_leaf _ _ _ (by simp)
  | nr n => exact depth_leaf _ _ _ (by simp)
  | tx l => exact depth_leaf _ _ _ (by simp)
  | list xs v us hl hr h =>
    rw [depthP_list] at hd ⊢
    have hdd := deepest_le (xs := xs) (k := 1000000000) (by omega)
    exact depth_list ok xs v us w hl hr (fun j y hy => ⟨(h j y hy).face, hdd y (List.mem_of_getElem? hy), fun w' hk => ih y (List.mem_of_getElem? hy) ok w' (us j) (hdd y (List.mem_of_getElem? hy)) ((h j y hy).kept' hk.size fun b hb _ => hk.block b hb trivial)⟩) (by omega)
  | obj ms v us hl hr h =>
    rw [depthP_obj] at hd ⊢
    have hdd := deepest_le (xs := ms.map (·.2)) (k := 1000000000) (by omega)
    exact depth_obj ok ms v us w hl hr (fun j m hm => ⟨(h j m hm).face, hdd m.2 (List.mem_map_of_mem (List.mem_of_getElem? hm)), fun w' hk => ih m.2 (List.mem_map_of_mem (List.mem_of_getElem? hm)) ok w' (us j) (hdd m.2 (List.mem_map_of_mem (List.mem_of_getElem? hm))) ((h j m hm).kept' hk.size fun b hb _ => hk.block b hb trivial)⟩) (by omega)
end Go.Proofs.YtpcgfhleloonfaaGreatDoor
namespace Go.Proofs
open Go.Shelf
def Tryz.laysValid_ren : Go.Shelf.Ren := ⟨fun | 196 => 268 | 259 => 274 | n => n, fun | 9 => 9 | 4 => 4 | 3 => 3 | 5 => 5 | 12 => 12 | 119 => 233 | 0 => 0 | 46 => 83 | 139 => 236 | 138 => 235 | 53 => 140 | n => n, fun | 3 => 3 | 4 => 4 | n => n⟩
theorem Tryz.laysValid : Go.Proofs.Lays.n196 Tryz.prog Tryz.laysValid_ren := {
  mixed := by kernel_rfl
  f196 := Tryz.func268.trans (congrArg some (by kernel_rfl))
  f259 := Tryz.func274.trans (congrArg some (by kernel_rfl))
  t0 := Tryz.underlying0
  a0 := Tryz.isAgg0
  z0 := Tryz.sizeOf0
  v0 := Tryz.zeroValue0
  t3 := Tryz.underlying3
  a3 := Tryz.isAgg3
  z3 := Tryz.sizeOf3
  v3 := Tryz.zeroValue3
  t4 := Tryz.underlying4
  a4 := Tryz.isAgg4
  z4 := Tryz.sizeOf4
  v4 := Tryz.zeroValue4
  t5 := Tryz.underlying5
  a5 := Tryz.isAgg5
  z5 := Tryz.sizeOf5
  v5 := Tryz.zeroValue5
  t9 := Tryz.underlying9
  a9 := Tryz.isAgg9
  z9 := Tryz.sizeOf9
  v9 := Tryz.zeroValue9
  t12 := Tryz.underlying12
  a12 := Tryz.isAgg12
  z12 := Tryz.sizeOf12
  v12 := Tryz.zeroValue12
  t46 := Tryz.underlying83
  a46 := Tryz.isAgg83
  z46 := Tryz.sizeOf83
  v46 := Tryz.zeroValue83
  t53 := Tryz.underlying140
  a53 := Tryz.isAgg140
  z53 := Tryz.sizeOf140
  v53 := Tryz.zeroValue140
  t119 := Tryz.underlying233
  a119 := Tryz.isAgg233
  z119 := Tryz.sizeOf233
  t138 := Tryz.underlying235
  a138 := Tryz.isAgg235
  z138 := Tryz.sizeOf235
  v138 := Tryz.zeroValue235
  t139 := Tryz.underlying236
  a139 := Tryz.isAgg236
  z139 := Tryz.sizeOf236
  v139 := Tryz.zeroValue236
  g3 := by kernel_rfl
  g4 := by kernel_rfl }
end Go.Proofs
namespace Go.Proofs.YtpcgfhleloonfaaGreatDoor
open Go.RowKit Jo Go.Sort Go.Shelf
/-- What the library's own variables hold, in blocks below B. -/
structure JE (B : Nat) (w : World) : Prop where
  u8 : Lib.Utf8Tabs 3 4 w
  pow : Lib.TabIs Tryz.prog w "internal/strconv.uint64pow10" .u64 Lib.pow10Tab
  h1 : 3 < B
  h2 : 4 < B
  h3 : 5 < B
theorem pow_named : Tryz.prog.globalNamed "internal/strconv.uint64pow10" = some 5 := by kernel_rfl
theorem JE.kept {B : Nat} {ok : Nat → Prop} {w w' : World} (h : JE B w) (hk : Kept ok w w') (ho : ∀ k, k < B → ok k) : JE B w' := by
  obtain ⟨⟨u1, u2⟩, p, h1, h2, h3⟩ := h
  refine ⟨⟨fun c hc => (hk.cell (cell_isLt (u1 c hc)) (ho _ h1)).trans (u1 c hc), fun i hi => ⟨(hk.cell (cell_isLt (u2 i hi).1) (ho _ h2)).trans (u2 i hi).1, (hk.cell (cell_isLt (u2 i hi).2) (ho _ h2)).trans (u2 i hi).2⟩⟩, ?_, h1, h2, h3⟩
  unfold Lib.TabIs World.var? at p ⊢
  rw [pow_named] at p ⊢
  simp only [Option.bind_some] at p ⊢
  have hlt : 5 < w.heap.size := by
    rcases Nat.lt_or_ge 5 w.heap.size with h' | h'
    · exact h'
    · rw [Array.getElem?_eq_none h'] at p; cases p
  rw [hk.block _ hlt (ho _ h3)]
  exact p
theorem JE.le {B C : Nat} {w : World} (h : JE B w) (hC : B ≤ C) : JE C w := ⟨h.u8, h.pow, Nat.lt_of_lt_of_le h.h1 hC, Nat.lt_of_lt_of_le h.h2 hC, Nat.lt_of_lt_of_le h.h3 hC⟩
theorem as_null (v : Value) (w : World) : (Instr.typeAssert (.iface 192 v) 168 192 true).run Tryz.prog w = .ok (.tuple #[v, .bool true]) w := by kernel_rfl
theorem as_truth (v : Value) (w : World) : (Instr.typeAssert (.iface 193 v) 168 193 true).run Tryz.prog w = .ok (.tuple #[v, .bool true]) w := by kernel_rfl
theorem as_number (v : Value) (w : World) : (Instr.typeAssert (.iface 218 v) 168 218 true).run Tryz.prog w = .ok (.tuple #[v, .bool true]) w := by kernel_rfl
theorem as_text (v : Value) (w : World) : (Instr.typeAssert (.iface 194 v) 168 194 true).run Tryz.prog w = .ok (.tuple #[v, .bool true]) w := by kernel_rfl
theorem no_null {t : TypeId} (ht : t = 193 ∨ t = 218 ∨ t = 194 ∨ t = 211 ∨ t = 213) (v : Value) (w : World) : (Instr.typeAssert (.iface t v) 168 192 true).run Tryz.prog w = .ok (.tuple #[.agg #[], .bool false]) w := by
  rcases ht with rfl | rfl | rfl | rfl | rfl <;> kernel_rfl
theorem no_truth {t : TypeId} (ht : t = 192 ∨ t = 218 ∨ t = 194 ∨ t = 211 ∨ t = 213) (v : Value) (w : World) : (Instr.typeAssert (.iface t v) 168 193 true).run Tryz.prog w = .ok (.tuple #[.bool false, .bool false]) w := by
  rcases ht with rfl | rfl | rfl | rfl | rfl <;> kernel_rfl
theorem no_number {t : TypeId} (ht : t = 192 ∨ t = 193 ∨ t = 194 ∨ t = 211 ∨ t = 213) (v : Value) (w : World) : (Instr.typeAssert (.iface t v) 168 218 true).run Tryz.prog w = .ok (.tuple #[.int .i64 0, .bool false]) w := by
  rcases ht with rfl | rfl | rfl | rfl | rfl <;> kernel_rfl
theorem no_text {t : TypeId} (ht : t = 192 ∨ t = 193 ∨ t = 218 ∨ t = 211 ∨ t = 213) (v : Value) (w : World) : (Instr.typeAssert (.iface t v) 168 194 true).run Tryz.prog w = .ok (.tuple #[S [], .bool false]) w := by
  rcases ht with rfl | rfl | rfl | rfl | rfl <;> kernel_rfl
/-- What lays leaves. -/
def LayQ (b : Nat) (l m : List UInt8) (w : World) (e : Ending) (w' : World) : Prop := e = .returned (.tuple #[]) ∧ Bd b (l ++ m) w' ∧ KB b w w'
def LaysC (b : Nat) (u : Value) (x : J) : Prop := ∀ (l : List UInt8) (w : World), Bd b l w → JE b w → VIn (· < b) w x u → l.length + (layP x).length ≤ 1099511627776 → Calls Tryz.prog 265 #[.pointer (some ⟨b, 0, none⟩), u] w (LayQ b l (layP x) w)
set_option maxHeartbeats 2000000 in
theorem lays_null (b : Nat) : LaysC b (.iface 192 (.agg #[])) J.null := by
  intro l w h hE hv hl
  rw [layP_null] at hl ⊢
  have ha := as_null (.agg #[])
  have HB := Lib.hid (h.alloc (.cells #[] 192))
  clear h hE hv
  go_enter Tryz.func265, Tryz.ntmps265
  go_wp2_with (refine (WriteString_any b [110, 117, 108, 108] l _ HB.out (by simpa using hl)).mono ?_; rintro e w2 ⟨⟨v, rfl⟩, hb2, hk2⟩)
  go_end0
  exact ⟨rfl, hb2, KB.trans ((Kept.refl _ _).alloc _) hk2⟩
set_option maxHeartbeats 2000000 in
theorem lays_truth (b : Nat) (q : Bool) (x : J) (hx : x = if q then J.tru else J.fls) : LaysC b (.iface 193 (.bool q)) x := by
  intro l w h hE hv hl
  have h0 := no_null (t := 193) (by simp) (.bool q)
  have ha := as_truth (.bool q)
  have HF : Hid (Lib.formatBool q = layP x) := Lib.hid (by subst hx; cases q <;> simp [layP_tru, layP_fls, Lib.formatBool] <;> decide +kernel)
  have HL := Lib.hid hl
  have HB := Lib.hid h
  clear h hE hv hx hl
  go_enter Tryz.func265, Tryz.ntmps265
  go_wp2_with (first
    | (go_at_call 271; refine (Tryz.strconv_FormatBool q _).mono ?_; rintro e w1 ⟨rfl, rfl⟩)
    | (refine (WriteString_any b (Lib.formatBool q) l _ HB.out (by rw [HF.out]; exact HL.out)).mono ?_; rintro e w2 ⟨⟨v, rfl⟩, hb2, hk2⟩))
  go_end0
  exact ⟨rfl, by rw [← HF.out]; exact hb2, hk2⟩
theorem Kept.growN {ok : Nat → Prop} (w : World) (k : Nat) (os : Array Obj) : Kept ok w (grow (w.drewN k) os) := ⟨rfl, rfl, rfl, by simp [grow], fun i hi _ => by simp only [grow, drewN_heap]; rw [Array.getElem?_append_left hi]⟩
set_option maxHeartbeats 2000000 in
theorem lays_number (b : Nat) (n : Int) (h1 : -9223372036854775808 ≤ n) (h2 : n ≤ 9223372036854775807) : LaysC b (.iface 218 (.int .i64 n)) (J.nr n) := by
  intro l w h hE hv hl
  rw [layP_nr] at hl ⊢
  have q0 := no_null (t := 218) (by simp) (.int .i64 n)
  have q1 := no_truth (t := 218) (by simp) (.int .i64 n)
  have ha := as_number (.int .i64 n)
  have HL := Lib.hid hl
  have HB := Lib.hid h
  have HE := Lib.hid hE
  have HN := Lib.hid (And.intro h1 h2)
  clear h hE hv hl h1 h2
  go_enter Tryz.func265, Tryz.ntmps265
  go_wp2_with (first
    | (go_at_call 160; refine (Tryz.strconv_Itoa n HN.out.1 HN.out.2 _ HE.out.pow).mono ?_; rintro e w1 ⟨rfl, k, os, hw1⟩; have HK1 : Hid (KB b w w1) := Lib.hid (by rw [hw1]; exact Kept.growN _ _ _); have HB1 : Hid (Bd b l w1) := Lib.hid (HB.out.kept HK1.out.size (by rw [hw1]; intro i hi _ _; exact (Kept.growN (ok := fun _ => True) w k os).block i hi trivial)); clear hw1)
    | (refine (WriteString_any b (Lib.itoa n) l _ HB1.out HL.out).mono ?_; rintro e w2 ⟨⟨v, rfl⟩, hb2, hk2⟩))
  go_end0
  exact ⟨rfl, hb2, KB.trans HK1.out hk2⟩
set_option maxHeartbeats 2000000 in
theorem lays_text (b : Nat) (t : List UInt8) : LaysC b (.iface 194 (S t)) (J.tx t) := by
  intro l w h hE hv hl
  rw [layP_tx] at hl ⊢
  have q0 := no_null (t := 194) (by simp) (S t)
  have q1 := no_truth (t := 194) (by simp) (S t)
  have q2 := no_number (t := 194) (by simp) (S t)
  have ha := as_text (S t)
  have HL := Lib.hid hl
  have HT : Hid (t.length ≤ 1099511627776) := Lib.hid (by have := quote_len t; unfold quoteP at hl; simp only [List.length_cons, List.length_append] at hl; omega)
  have HB := Lib.hid h
  clear h hE hv hl
  go_enter Tryz.func265, Tryz.ntmps265
  go_wp2_with (refine (quoted_any b t l _ HB.out HT.out HL.out).mono ?_; rintro e w2 ⟨rfl, hb2, hk2⟩)
  go_end0
  exact ⟨rfl, hb2, hk2⟩
theorem joinC_pre : ∀ (ls : List (List UInt8)) (m : Nat), (joinC (ls.take m)).length ≤ (joinC ls).length
  | [], m => by simp
  | [a], 0 => by simp [joinC]
  | [a], m + 1 => by simp
  | a :: b :: r, 0 => by simp [joinC]
  | a :: b :: r, 1 => by simp [joinC]
  | a :: b :: r, m + 2 => by
    have ih := joinC_pre (b :: r) (m + 1)
    rw [List.take_succ_cons, joinC_push _ _ (by simp), joinC_push _ _ (by simp)]
    omega
theorem joinC_next (ls : List (List UInt8)) (j : Nat) (a : List UInt8) (h : ls[j]? = some a) : joinC (ls.take (j + 1)) = joinC (ls.take j) ++ (if j = 0 then a else 44 :: a) := by
  rw [List.take_add_one, h]
  by_cases hj : j = 0
  · subst hj; simp [joinC]
  · rw [if_neg hj]
    have hlt := (List.getElem?_eq_some_iff.1 h).1
    exact joinC_snoc _ _ (fun e => by have := congrArg List.length e; rw [List.length_take, List.length_nil] at this; omega)
set_option maxHeartbeats 8000000 in
set_option maxRecDepth 100000 in
theorem lays_list (b : Nat) (xs : List J) (v : Value) (us : Nat → Value) (hj : ∀ (j : Nat) x, xs[j]? = some x → LaysC b (us j) x) (l : List UInt8) (w : World) (h : Bd b l w) (hE : JE b w) (hl0 : xs.length ≤ 1000000) (hr : Row1 (· < b) w v xs.length us)
    (hvi : ∀ (j : Nat) x, xs[j]? = some x → VIn (· < b) w x (us j)) (hl : l.length + (layP (J.list xs)).length ≤ 1099511627776) : Calls Tryz.prog 265 #[.pointer (some ⟨b, 0, none⟩), .iface 211 v] w (LayQ b l (layP (J.list xs)) w) := by
  rw [layP_list] at hl ⊢
  obtain ⟨ls, hls⟩ : ∃ ls, xs.map layP = ls := ⟨_, rfl⟩
  have HLS := Lib.hid hls
  rw [hls] at hl ⊢
  have HL : Hid (l.length + (joinC ls).length + 2 ≤ 1099511627776) := Lib.hid (by simp only [List.length_cons, List.length_append, List.length_nil] at hl; omega)
  have q0 := no_null (t := 211) (by simp) v
  have q1 := no_truth (t := 211) (by simp) v
  have q2 := no_number (t := 211) (by simp) v
  have q3 := no_text (t := 211) (by simp) v
  have ha := as_list v
  have HB := Lib.hid h
  have HE := Lib.hid hE
  have HJ := Lib.hid (And.intro hj hvi)
  have hlen : ls.length = xs.length := by rw [← hls, List.length_map]
  have HLEN := Lib.hid hlen
  clear h hE hl hls hj hvi hlen
  rcases hr with ⟨rfl, h0⟩ | ⟨g, cap, rfl, h1, h2, h3, h4⟩
  · obtain rfl : ls = [] := List.eq_nil_of_length_eq_zero (by rw [HLEN.out]; exact h0)
    rw [h0] at hl0
    clear HJ HLS HLEN
    go_enter Tryz.func265, Tryz.ntmps265
    go_wp2_with (refine (WriteByte_any b 91 l _ HB.out (by have := HL.out; simp only [joinC, List.length_nil] at this; omega)).mono ?_; rintro e w2 ⟨rfl, hb2, hk2⟩; have HB2 := Lib.hid hb2; have HK2 := Lib.hid hk2; clear hb2 hk2)
    go_loopg [47] 0 (fun q k wr => k = .int .i64 0 ∧ Hid (Bd b (l ++ [91]) wr) ∧ Hid (KB b w wr))
    case atStart => exact ⟨rfl, HB2, HK2⟩
    case round =>
      clear HB2 HK2
      obtain ⟨rfl, hb, hk⟩ := hrel
      go_wp2_with (refine (WriteByte_any b 93 (l ++ [91]) _ hb.out (by have := HL.out; simp only [joinC, List.length_nil, List.length_append, List.length_cons] at this ⊢; omega)).mono ?_; rintro e w2 ⟨rfl, hb2, hk2⟩)
      go_end0
      exact ⟨rfl, by simpa [joinC] using hb2, KB.trans hk.out hk2⟩
  · have H4 := Lib.hid h4
    have H3 := Lib.hid (And.intro h2 h3)
    clear h4 h2 h3
    go_enter Tryz.func265, Tryz.ntmps265
    go_wp2_with (refine (WriteByte_any b 91 l _ HB.out (by have := HL.out; omega)).mono ?_; rintro e w2 ⟨rfl, hb2, hk2⟩; have HB2 := Lib.hid hb2; have HK2 := Lib.hid hk2; clear hb2 hk2)
    go_loopg [47] xs.length (fun q k wr => ∃ j : Nat, k = .int .i64 j ∧ q = xs.length - j ∧ j ≤ xs.length ∧ Hid (Bd b (l ++ 91 :: joinC (ls.take j)) wr) ∧ Hid (KB b w wr))
    case atStart => exact ⟨0, rfl, by omega, Nat.zero_le _, Lib.hid (by simpa [joinC] using HB2.out), HK2⟩
    case round =>
      clear HB2 HK2
      obtain ⟨j, rfl, rfl, hjl, hb, hk⟩ := hrel
      by_cases hlt : j < xs.length
      · obtain ⟨x, hx⟩ : ∃ x, xs[j]? = some x := ⟨xs[j]'hlt, List.getElem?_eq_getElem hlt⟩
        have hc : wr.cell? ⟨g, j, none⟩ = some (us j) := (hk.out.cell H3.out.2 (.inl H3.out.1)).trans (H4.out j hlt)
        obtain ⟨t, a, hu⟩ := (HJ.out.2 j x hx).face
        have hcall := HJ.out.1 j x hx
        have hv := (HJ.out.2 j x hx).kept hk.out fun _ _ h => .inl h
        rw [hu] at hc hcall hv
        have HCALL := Lib.hid hcall
        have HV := Lib.hid hv
        have HN : Hid (joinC (ls.take (j + 1)) = joinC (ls.take j) ++ (if j = 0 then layP x else 44 :: layP x)) := Lib.hid (joinC_next ls j _ (by rw [← HLS.out, List.getElem?_map, hx]; rfl))
        have HP : Hid ((joinC (ls.take (j + 1))).length ≤ (joinC ls).length) := Lib.hid (joinC_pre ls (j + 1))
        have HEr := Lib.hid (HE.out.kept hk.out fun _ h => .inl h)
        clear hu hcall hx hv
        obtain ⟨m, hm⟩ : ∃ m, layP x = m := ⟨_, rfl⟩
        have HM := Lib.hid hm
        rw [hm] at HN
        clear hm
        by_cases hj0 : j = 0
        · have HN0 : Hid (joinC (ls.take (j + 1)) = joinC (ls.take j) ++ m) := Lib.hid (by rw [HN.out, if_pos hj0])
          have hjz : ¬ 0 < j := by omega
          obtain ⟨L, hL⟩ : ∃ L, l ++ 91 :: joinC (ls.take j) = L := ⟨_, rfl⟩
          have HLL : Hid (L.length + m.length ≤ 1099511627776) := Lib.hid (by rw [← hL]; have h1 := HL.out; have h2 := HP.out; rw [HN0.out] at h2; simp only [List.length_append, List.length_cons] at h1 h2 ⊢; omega)
          have HLN : Hid (l ++ 91 :: joinC (ls.take (j + 1)) = L ++ m) := Lib.hid (by rw [HN0.out, ← hL]; simp)
          rw [hL] at hb
          clear hL HN HN0 hj0
          go_wp2_with (go_at_call 265; refine (HCALL.out L _ hb.out HEr.out HV.out (by rw [HM.out]; exact HLL.out)).mono ?_; rintro e w3 ⟨rfl, hb3, hk3⟩; rw [HM.out] at hb3; have HB3 := Lib.hid hb3; have HK3 := Lib.hid hk3; clear hb3 hk3)
          go_roundg (xs.length - (j + 1))
          case rel => exact ⟨j + 1, by go_num, rfl, by omega, Lib.hid (by rw [HLN.out]; exact HB3.out), Lib.hid (KB.trans hk.out HK3.out)⟩
          case measure => omega
        · have HN0 : Hid (joinC (ls.take (j + 1)) = joinC (ls.take j) ++ 44 :: m) := Lib.hid (by rw [HN.out, if_neg hj0])
          have hjz : 0 < j := by omega
          obtain ⟨L, hL⟩ : ∃ L, l ++ 91 :: joinC (ls.take j) = L := ⟨_, rfl⟩
          have HLL : Hid (L.length + 1 + m.length ≤ 1099511627776) := Lib.hid (by rw [← hL]; have h1 := HL.out; have h2 := HP.out; rw [HN0.out] at h2; simp only [List.length_append, List.length_cons] at h1 h2 ⊢; omega)
          have HLN : Hid (l ++ 91 :: joinC (ls.take (j + 1)) = L ++ [44] ++ m) := Lib.hid (by rw [HN0.out, ← hL]; simp)
          rw [hL] at hb
          clear hL HN HN0 hj0
          go_wp2_with (first
            | (go_at_call 265; refine (HCALL.out (L ++ [44]) _ HB2.out (HEr.out.kept HK2.out fun _ h => .inl h) (HV.out.kept' HK2.out.size fun i hi h => HK2.out.block i hi (.inl h)) (by rw [HM.out]; have := HLL.out; simp only [List.length_append, List.length_cons, List.length_nil] at this ⊢; omega)).mono ?_; rintro e w3 ⟨rfl, hb3, hk3⟩; rw [HM.out] at hb3; have HB3 := Lib.hid hb3; have HK3 := Lib.hid hk3; clear hb3 hk3)
            | (go_at_call 273; refine (WriteByte_any b 44 L _ hb.out (by have := HLL.out; omega)).mono ?_; rintro e w2 ⟨rfl, hb2, hk2⟩; have HB2 := Lib.hid hb2; have HK2 := Lib.hid hk2; clear hb2 hk2))
          go_roundg (xs.length - (j + 1))
          case rel => exact ⟨j + 1, by go_num, rfl, by omega, Lib.hid (by rw [HLN.out]; exact HB3.out), Lib.hid (KB.trans (KB.trans hk.out HK2.out) HK3.out)⟩
          case measure => omega
      · obtain rfl : j = xs.length := by omega
        have HB2 := Lib.hid (show Bd b (l ++ 91 :: joinC ls) wr by have := hb.out; rwa [List.take_of_length_le (by rw [HLEN.out]; exact Nat.le_refl _)] at this)
        have HR : Hid ((l ++ 91 :: joinC ls).length + 1 ≤ 1099511627776) := Lib.hid (by have := HL.out; simp only [List.length_append, List.length_cons] at this ⊢; omega)
        clear hb
        go_wp2_with (refine (WriteByte_any b 93 _ _ HB2.out HR.out).mono ?_; rintro e w3 ⟨rfl, hb3, hk3⟩; have HB3 := Lib.hid hb3; have HK3 := Lib.hid hk3; clear hb3 hk3)
        go_end0
        exact ⟨rfl, by simpa using HB3.out, KB.trans hk.out HK3.out⟩
set_option maxHeartbeats 8000000 in
set_option maxRecDepth 100000 in
theorem lays_obj (b : Nat) (ms : List (List UInt8 × J)) (v : Value) (us : Nat → Value) (hj : ∀ (j : Nat) m, ms[j]? = some m → LaysC b (us j) m.2) (l : List UInt8) (w : World) (h : Bd b l w) (hE : JE b w) (hl0 : ms.length ≤ 1000000) (hr : Row2 (· < b) w v (ms.map (·.1)) us)
    (hvi : ∀ (j : Nat) m, ms[j]? = some m → VIn (· < b) w m.2 (us j)) (hl : l.length + (layP (J.obj ms)).length ≤ 1099511627776) : Calls Tryz.prog 265 #[.pointer (some ⟨b, 0, none⟩), .iface 213 v] w (LayQ b l (layP (J.obj ms)) w) := by
  rw [layP_obj] at hl ⊢
  obtain ⟨ls, hls⟩ : ∃ ls, ms.map memP = ls := ⟨_, rfl⟩
  have HLS := Lib.hid hls
  rw [hls] at hl ⊢
  have HL : Hid (l.length + (joinC ls).length + 2 ≤ 1099511627776) := Lib.hid (by simp only [List.length_cons, List.length_append, List.length_nil] at hl; omega)
  have q0 := no_null (t := 213) (by simp) v
  have q1 := no_truth (t := 213) (by simp) v
  have q2 := no_number (t := 213) (by simp) v
  have q3 := no_text (t := 213) (by simp) v
  have q4 := no_list (t := 213) (by simp) v
  have ha := as_object v
  have HB := Lib.hid h
  have HE := Lib.hid hE
  have HJ := Lib.hid (And.intro hj hvi)
  have hlen : ls.length = ms.length := by rw [← hls, List.length_map]
  have HLEN := Lib.hid hlen
  clear h hE hl hls hj hvi hlen
  rcases hr with ⟨rfl, h0⟩ | ⟨g, cap, rfl, h1, h2, h3, h4⟩
  · obtain rfl : ms = [] := by simpa using h0
    obtain rfl : ls = [] := List.eq_nil_of_length_eq_zero HLEN.out
    clear HJ HLS HLEN
    go_enter Tryz.func265, Tryz.ntmps265
    go_wp2_with (refine (WriteByte_any b 123 l _ HB.out (by have := HL.out; simp only [joinC, List.length_nil] at this; omega)).mono ?_; rintro e w2 ⟨rfl, hb2, hk2⟩; have HB2 := Lib.hid hb2; have HK2 := Lib.hid hk2; clear hb2 hk2)
    go_loopg [69] 0 (fun q k wr => k = .int .i64 0 ∧ Hid (Bd b (l ++ [123]) wr) ∧ Hid (KB b w wr))
    case atStart => exact ⟨rfl, HB2, HK2⟩
    case round =>
      clear HB2 HK2
      obtain ⟨rfl, hb, hk⟩ := hrel
      go_wp2_with (refine (WriteByte_any b 125 (l ++ [123]) _ hb.out (by have := HL.out; simp only [joinC, List.length_nil, List.length_append, List.length_cons] at this ⊢; omega)).mono ?_; rintro e w2 ⟨rfl, hb2, hk2⟩)
      go_end0
      exact ⟨rfl, by simpa [joinC] using hb2, KB.trans hk.out hk2⟩
  · rw [List.length_map] at h1 ha q0 q1 q2 q3 q4 ⊢
    have H4 := Lib.hid h4
    have H3 := Lib.hid (And.intro h2 h3)
    clear h4 h2 h3
    go_enter Tryz.func265, Tryz.ntmps265
    go_wp2_with (refine (WriteByte_any b 123 l _ HB.out (by have := HL.out; omega)).mono ?_; rintro e w2 ⟨rfl, hb2, hk2⟩; have HB2 := Lib.hid hb2; have HK2 := Lib.hid hk2; clear hb2 hk2)
    go_loopg [69] ms.length (fun q k wr => ∃ j : Nat, k = .int .i64 j ∧ q = ms.length - j ∧ j ≤ ms.length ∧ Hid (Bd b (l ++ 123 :: joinC (ls.take j)) wr) ∧ Hid (KB b w wr))
    case atStart => exact ⟨0, rfl, by omega, Nat.zero_le _, Lib.hid (by simpa [joinC] using HB2.out), HK2⟩
    case round =>
      clear HB2 HK2
      obtain ⟨j, rfl, rfl, hjl, hb, hk⟩ := hrel
      by_cases hlt : j < ms.length
      · obtain ⟨⟨n, x⟩, hx⟩ : ∃ x, ms[j]? = some x := ⟨ms[j]'hlt, List.getElem?_eq_getElem hlt⟩
        have hx' : (ms.map (·.1))[j]? = some n := by rw [List.getElem?_map, hx]; rfl
        have hc0 : wr.cell? ⟨g, j * 2, none⟩ = some (S n) := (hk.out.cell H3.out.2 (.inl H3.out.1)).trans (H4.out j n hx').1
        have hc : wr.cell? ⟨g, j * 2 + 1, none⟩ = some (us j) := (hk.out.cell H3.out.2 (.inl H3.out.1)).trans (H4.out j n hx').2
        obtain ⟨t, a, hu⟩ := (HJ.out.2 j _ hx).face
        have hcall := HJ.out.1 j _ hx
        have hv := (HJ.out.2 j _ hx).kept hk.out fun _ _ h => .inl h
        rw [hu] at hc hcall hv
        have HN : Hid (joinC (ls.take (j + 1)) = joinC (ls.take j) ++ (if j = 0 then memP (n, x) else 44 :: memP (n, x))) := Lib.hid (joinC_next ls j _ (by rw [← HLS.out, List.getElem?_map, hx]; rfl))
        have HP : Hid ((joinC (ls.take (j + 1))).length ≤ (joinC ls).length) := Lib.hid (joinC_pre ls (j + 1))
        obtain ⟨W, hW⟩ : ∃ W, wr.alloc (.cells #[S n, .iface t a] 215) = W := ⟨_, rfl⟩
        have hkW : KB b wr W := by rw [← hW]; exact (Kept.refl _ _).alloc _
        have hcW0 : W.cell? ⟨wr.heap.size, 0, none⟩ = some (S n) := by rw [← hW]; simp [go_sem]
        have hcW1 : W.cell? ⟨wr.heap.size, 1, none⟩ = some (.iface t a) := by rw [← hW]; simp [go_sem]
        have HMB : Hid (wr.heap.size < W.heap.size ∧ wr.heap.size ≠ b ∧ NotB W wr.heap.size) := Lib.hid (by
          refine ⟨by rw [← hW]; simp, by have := hb.out.lt; omega, fun c fz e => ?_⟩
          rw [← hW, heap_alloc_new] at e
          simp at e)
        have HEr := Lib.hid (HE.out.kept (KB.trans hk.out hkW) fun _ h => .inl h)
        have HCALL := Lib.hid hcall
        have HV := Lib.hid (hv.kept hkW fun _ _ h => .inl h)
        have HBW : Hid (Bd b (l ++ 123 :: joinC (ls.take j)) W) := Lib.hid (by rw [← hW]; exact hb.out.alloc _)
        have HKW := Lib.hid (KB.trans hk.out hkW)
        have HW := Lib.hid hW
        clear hu hcall hx hx' hv hkW hW
        have hmem : memP (n, x) = quoteP n ++ 58 :: layP x := rfl
        rw [hmem] at HN
        clear hmem
        obtain ⟨m, hm⟩ : ∃ m, layP x = m := ⟨_, rfl⟩
        have HM := Lib.hid hm
        rw [hm] at HN
        clear hm
        obtain ⟨k0, hk0⟩ : ∃ k0, (if j = 0 then ([] : List UInt8) else [44]) = k0 := ⟨_, rfl⟩
        have HN0 : Hid (joinC (ls.take (j + 1)) = joinC (ls.take j) ++ k0 ++ (quoteP n ++ 58 :: m)) := Lib.hid (by rw [HN.out, ← hk0]; split <;> simp)
        obtain ⟨L, hL⟩ : ∃ L, l ++ 123 :: joinC (ls.take j) = L := ⟨_, rfl⟩
        have HLL : Hid (L.length + k0.length + (quoteP n).length + 1 + m.length ≤ 1099511627776) := Lib.hid (by rw [← hL]; have h1 := HL.out; have h2 := HP.out; rw [HN0.out] at h2; simp only [List.length_append, List.length_cons] at h1 h2 ⊢; omega)
        have HLN : Hid (l ++ 123 :: joinC (ls.take (j + 1)) = L ++ k0 ++ quoteP n ++ [58] ++ m) := Lib.hid (by rw [HN0.out, ← hL]; simp)
        have HNL : Hid (n.length ≤ 1099511627776) := Lib.hid (by have h1 := HLL.out; have h2 := quote_len n; unfold quoteP at h1; simp only [List.length_cons, List.length_append] at h1; omega)
        rw [hL] at hb HBW
        clear hL HN HN0
        by_cases hj0 : j = 0
        · obtain rfl : k0 = [] := by rw [← hk0, if_pos hj0]
          have hjz : ¬ 0 < j := by omega
          clear hj0 hk0
          obtain ⟨k0, hk0⟩ : ∃ k0 : List UInt8, [] = k0 := ⟨_, rfl⟩
          have HLL : Hid (L.length + k0.length + (quoteP n).length + 1 + m.length ≤ 1099511627776) := Lib.hid (by rw [← hk0]; exact HLL.out)
          have HLN : Hid (l ++ 123 :: joinC (ls.take (j + 1)) = L ++ k0 ++ quoteP n ++ [58] ++ m) := Lib.hid (by rw [← hk0]; exact HLN.out)
          have HB2 : Hid (Bd b (L ++ k0) W) := Lib.hid (by rw [← hk0, List.append_nil]; exact HBW.out)
          have HK2 : Hid (KB b W W) := Lib.hid (KB.refl _ _)
          clear hk0
          go_wp2_with fail
          rw [HW.out]
          refine (quoted_any b n (L ++ k0) _ HB2.out HNL.out (by have := HLL.out; simp only [List.length_append] at this ⊢; omega)).mono ?_
          rintro e w3 ⟨rfl, hb3, hk3⟩
          have HB3 := Lib.hid hb3
          have HK3 := Lib.hid (KB.trans HK2.out hk3)
          clear hb3 hk3
          go_wp2_with fail
          refine (WriteByte_any b 58 (L ++ k0 ++ quoteP n) _ HB3.out (by have := HLL.out; simp only [List.length_append] at this ⊢; omega)).mono ?_
          rintro e w4 ⟨rfl, hb4, hk4⟩
          have HB4 := Lib.hid hb4
          have HK4 := Lib.hid (KB.trans HK3.out hk4)
          have hc4 : w4.cell? ⟨wr.heap.size, 1, none⟩ = some (.iface t a) := (HK4.out.cell HMB.out.1 (.inr HMB.out.2)).trans hcW1
          clear hb4 hk4
          go_wp2_with fail
          refine (HCALL.out (L ++ k0 ++ quoteP n ++ [58]) _ HB4.out (HEr.out.kept HK4.out fun _ h => .inl h) (HV.out.kept HK4.out fun _ _ h => .inl h) (by rw [HM.out]; have := HLL.out; simp only [List.length_append, List.length_cons, List.length_nil] at this ⊢; omega)).mono ?_
          rintro e w5 ⟨rfl, hb5, hk5⟩
          rw [HM.out] at hb5
          have HB5 := Lib.hid hb5
          have HK5 := Lib.hid hk5
          clear hb5 hk5
          go_wp2
          go_roundg (ms.length - (j + 1))
          case rel => exact ⟨j + 1, by go_num, rfl, by omega, Lib.hid (by rw [HLN.out]; exact HB5.out), Lib.hid (KB.trans (KB.trans HKW.out HK4.out) HK5.out)⟩
          case measure => omega
        · obtain rfl : k0 = [44] := by rw [← hk0, if_neg hj0]
          have hjz : 0 < j := by omega
          clear hj0 hk0
          obtain ⟨k0, hk0⟩ : ∃ k0 : List UInt8, [44] = k0 := ⟨_, rfl⟩
          have HLL : Hid (L.length + k0.length + (quoteP n).length + 1 + m.length ≤ 1099511627776) := Lib.hid (by rw [← hk0]; exact HLL.out)
          have HLN : Hid (l ++ 123 :: joinC (ls.take (j + 1)) = L ++ k0 ++ quoteP n ++ [58] ++ m) := Lib.hid (by rw [← hk0]; exact HLN.out)
          have HK44 := Lib.hid hk0
          clear hk0
          go_wp2_with fail
          rw [HW.out]
          refine (WriteByte_any b 44 L _ HBW.out (by have := HLL.out; rw [← HK44.out] at this; simp only [List.length_cons, List.length_nil] at this; omega)).mono ?_
          rintro e w2 ⟨rfl, hb2, hk2⟩
          have HB2 : Hid (Bd b (L ++ k0) w2) := Lib.hid (by rw [← HK44.out]; exact hb2)
          have HK2 := Lib.hid hk2
          have hc2 : w2.cell? ⟨wr.heap.size, 0, none⟩ = some (S n) := (HK2.out.cell HMB.out.1 (.inr HMB.out.2)).trans hcW0
          clear hb2 hk2
          go_wp2_with fail
          refine (quoted_any b n (L ++ k0) _ HB2.out HNL.out (by have := HLL.out; simp only [List.length_append] at this ⊢; omega)).mono ?_
          rintro e w3 ⟨rfl, hb3, hk3⟩
          have HB3 := Lib.hid hb3
          have HK3 := Lib.hid (KB.trans HK2.out hk3)
          clear hb3 hk3
          go_wp2_with fail
          refine (WriteByte_any b 58 (L ++ k0 ++ quoteP n) _ HB3.out (by have := HLL.out; simp only [List.length_append] at this ⊢; omega)).mono ?_
          rintro e w4 ⟨rfl, hb4, hk4⟩
          have HB4 := Lib.hid hb4
          have HK4 := Lib.hid (KB.trans HK3.out hk4)
          have hc4 : w4.cell? ⟨wr.heap.size, 1, none⟩ = some (.iface t a) := (HK4.out.cell HMB.out.1 (.inr HMB.out.2)).trans hcW1
          clear hb4 hk4
          go_wp2_with fail
          refine (HCALL.out (L ++ k0 ++ quoteP n ++ [58]) _ HB4.out (HEr.out.kept HK4.out fun _ h => .inl h) (HV.out.kept HK4.out fun _ _ h => .inl h) (by rw [HM.out]; have := HLL.out; simp only [List.length_append, List.length_cons, List.length_nil] at this ⊢; omega)).mono ?_
          rintro e w5 ⟨rfl, hb5, hk5⟩
          rw [HM.out] at hb5
          have HB5 := Lib.hid hb5
          have HK5 := Lib.hid hk5
          clear hb5 hk5
          go_wp2
          go_roundg (ms.length - (j + 1))
          case rel => exact ⟨j + 1, by go_num, rfl, by omega, Lib.hid (by rw [HLN.out]; exact HB5.out), Lib.hid (KB.trans (KB.trans HKW.out HK4.out) HK5.out)⟩
          case measure => omega
      · obtain rfl : j = ms.length := by omega
        have HB2 := Lib.hid (show Bd b (l ++ 123 :: joinC ls) wr by have := hb.out; rwa [List.take_of_length_le (by rw [HLEN.out]; exact Nat.le_refl _)] at this)
        have HR : Hid ((l ++ 123 :: joinC ls).length + 1 ≤ 1099511627776) := Lib.hid (by have := HL.out; simp only [List.length_append, List.length_cons] at this ⊢; omega)
        clear hb
        go_wp2_with (refine (WriteByte_any b 125 _ _ HB2.out HR.out).mono ?_; rintro e w3 ⟨rfl, hb3, hk3⟩; have HB3 := Lib.hid hb3; have HK3 := Lib.hid hk3; clear hb3 hk3)
        go_end0
        exact ⟨rfl, by simpa using HB3.out, KB.trans hk.out HK3.out⟩
theorem vin_null {ok : Nat → Prop} {w : World} {u : Value} (h : VIn ok w J.null u) : u = .iface 192 (.agg #[]) := by
  generalize hx : J.null = x at h
  cases h <;> simp_all [J.null, J.fls, J.tru, J.nr, J.tx, J.list, J.obj]
theorem vin_fls {ok : Nat → Prop} {w : World} {u : Value} (h : VIn ok w J.fls u) : u = .iface 193 (.bool false) := by
  generalize hx : J.fls = x at h
  cases h <;> simp_all [J.null, J.fls, J.tru, J.nr, J.tx, J.list, J.obj]
theorem vin_tru {ok : Nat → Prop} {w : World} {u : Value} (h : VIn ok w J.tru u) : u = .iface 193 (.bool true) := by
  generalize hx : J.tru = x at h
  cases h <;> simp_all [J.null, J.fls, J.tru, J.nr, J.tx, J.list, J.obj]
theorem vin_nr {ok : Nat → Prop} {w : World} {u : Value} {n : Int} (h : VIn ok w (J.nr n) u) : u = .iface 218 (.int .i64 n) := by
  generalize hx : J.nr n = x at h
  cases h <;> simp_all [J.null, J.fls, J.tru, J.nr, J.tx, J.list, J.obj]
theorem vin_tx {ok : Nat → Prop} {w : World} {u : Value} {t : List UInt8} (h : VIn ok w (J.tx t) u) : u = .iface 194 (S t) := by
  generalize hx : J.tx t = x at h
  cases h <;> simp_all [J.null, J.fls, J.tru, J.nr, J.tx, J.list, J.obj]
/-- A value such as may be is laid down as layP says. -/
theorem lays_any (b : Nat) {x : J} (hx : May x) : ∀ u, LaysC b u x := by
  induction hx with
  | null => intro u l w h hE hv hl; obtain rfl := vin_null hv; exact lays_null b l w h hE hv hl
  | fls => intro u l w h hE hv hl; obtain rfl := vin_fls hv; exact lays_truth b false _ rfl l w h hE hv hl
  | tru => intro u l w h hE hv hl; obtain rfl := vin_tru hv; exact lays_truth b true _ rfl l w h hE hv hl
  | nr n h1 h2 => intro u l w h hE hv hl; obtain rfl := vin_nr hv; exact lays_number b n (by omega) (by omega) l w h hE hv hl
  | tx t _ => intro u l w h hE hv hl; obtain rfl := vin_tx hv; exact lays_text b t l w h hE hv hl
  | list xs _ ih =>
    intro u l w h hE hv hl
    obtain ⟨v, us, rfl, hl0, hr, hvi⟩ := hv.list_inv xs rfl
    exact lays_list b xs v us (fun j x hx => ih x (List.mem_of_getElem? hx) (us j)) l w h hE hl0 hr hvi hl
  | obj ms _ _ _ ih =>
    intro u l w h hE hv hl
    obtain ⟨v, us, rfl, hl0, hr, hvi⟩ := hv.obj_inv ms rfl
    exact lays_obj b ms v us (fun j m hm => ih m (List.mem_of_getElem? hm) (us j)) l w h hE hl0 hr hvi hl
end Go.Proofs.YtpcgfhleloonfaaGreatDoor
namespace Go.Proofs.YtpcgfhleloonfaaGreatDoor
open Go.RowKit Jo
def bareP (a b c d : Bool) (n : Int) (t : List UInt8) (nl il : Nat) : Bool := (a || n == 0) && (b || t == []) && (c || (nl : Int) == 0) && (d || (il : Int) == 0)
set_option maxHeartbeats 4000000 in
set_option maxRecDepth 100000 in
theorem bare_any (a b c d : Bool) (k n : Int) (t : List UInt8) (na ia : Option Addr) (nl nc il ic : Nat) (w : World) :
    Calls Tryz.prog 267 #[jotV k n t (.slice na nl nc) (.slice ia il ic), .bool a, .bool b, .bool c, .bool d] w fun e w' => e = .returned (.bool (bareP a b c d n t nl il)) ∧ Kept (fun _ => True) w w' := by
  go_enter Tryz.func267, Tryz.ntmps267
  go_wp2
  all_goals
    go_ret
    exact ⟨by simp_all [bareP], (Kept.refl _ _).alloc _⟩
end Go.Proofs.YtpcgfhleloonfaaGreatDoor
namespace Go.Proofs.YtpcgfhleloonfaaGreatDoor
open Go.RowKit Jo
/-- What inside leaves. -/
def InQ (x : J) (w : World) (e : Ending) (w' : World) : Prop := (∃ u, e = .returned (.tuple #[u, .bool (mayP x)]) ∧ (mayP x = true → VIn (w.heap.size ≤ ·) w' x u)) ∧ Kept (fun _ => True) w w'
def InsideC (v : Value) (x : J) : Prop := ∀ w, JIn (fun _ => True) w x v → JE w.heap.size w → Calls Tryz.prog 263 #[v] w (InQ x w)
/-- What items leaves. -/
def ItemsQ (xs : List J) (w : World) (e : Ending) (w' : World) : Prop := (∃ v, e = .returned (.tuple #[v, .bool (mays xs)]) ∧ (mays xs = true → OwnV w.heap.size v xs w')) ∧ Kept (fun _ => True) w w'
theorem mays_take {xs : List J} {j : Nat} {x : J} (h : xs[j]? = some x) (h1 : mays (xs.take j) = true) : mays (xs.take (j + 1)) = mayP x := by
  rw [mays_all] at h1 ⊢
  rw [List.take_add_one, h, List.all_append, h1]
  simp
theorem mays_false {xs : List J} {j : Nat} {x : J} (h : xs[j]? = some x) (h1 : mayP x = false) : mays xs = false := by
  rw [mays_all, List.all_eq_false]
  exact ⟨x, List.mem_of_getElem? h, by simp [h1]⟩
theorem OwnV.slice {B : Nat} {v : Value} {xs : List J} {w : World} (h : OwnV B v xs w) : ∃ a l c, v = .slice a l c := by
  obtain ⟨us, _, h2, _⟩ := h
  exact ownsRow_slice h2
theorem OwnV.keptT {B : Nat} {v : Value} {xs : List J} {w w' : World} (h : OwnV B v xs w) (hk : Kept (fun _ => True) w w') : OwnV B v xs w' := by
  obtain ⟨us, h1, h2, h3⟩ := h
  exact ⟨us, h1, ownsRow_kept h2 hk (fun _ _ => trivial), fun j x hx => (h3 j x hx).kept' hk.size fun b hb _ => hk.block b hb trivial⟩
set_option maxHeartbeats 8000000 in
set_option maxRecDepth 100000 in
theorem items_any (xs : List J) (ia : Option Addr) (ic : Nat) (us : Nat → Value) (w : World) (hE : JE w.heap.size w) (hi : RowJ (fun _ => True) w (.slice ia xs.length ic) xs.length us) (hin : ∀ (j : Nat) x, xs[j]? = some x → JIn (fun _ => True) w x (us j))
    (hih : ∀ (j : Nat) x, xs[j]? = some x → InsideC (us j) x) (hl : xs.length ≤ 1000000) : Calls Tryz.prog 269 #[.slice ia xs.length ic] w (ItemsQ xs w) := by
  have HI := Lib.hid hi
  have HH := Lib.hid (And.intro hin hih)
  have HE := Lib.hid hE
  clear hi hin hih hE
  go_enter Tryz.func269, Tryz.ntmps269
  go_wp2
  go_loopg [4, 11] xs.length (fun q v i wr => ∃ j : Nat, i = .int .i64 j ∧ q = xs.length - j ∧ j ≤ xs.length ∧ OwnV w.heap.size v (xs.take j) wr ∧ Hid (mays (xs.take j) = true) ∧ Kept (fun _ => True) w wr)
  case atStart => exact ⟨0, rfl, by omega, Nat.zero_le _, OwnV.nil _ _, Lib.hid rfl, Kept.refl _ _⟩
  case round =>
    obtain ⟨j, rfl, rfl, hjl, ho, hm, hk⟩ := hrel
    obtain ⟨va, vl, vc, rfl⟩ := ho.slice
    have HO := Lib.hid ho
    clear ho
    by_cases hlt : j < xs.length
    · obtain ⟨b, off, rfl, hb, -, -, kx, nx, tx, nax, nlx, ncx, iax, ilx, icx, e1, c0, c1, c2, c3, c4⟩ := HI.out.at hlt
      replace c0 := (hk.cell hb trivial).trans c0
      replace c1 := (hk.cell hb trivial).trans c1
      replace c2 := (hk.cell hb trivial).trans c2
      replace c3 := (hk.cell hb trivial).trans c3
      replace c4 := (hk.cell hb trivial).trans c4
      obtain ⟨x, hx⟩ : ∃ x, xs[j]? = some x := ⟨xs[j]'hlt, List.getElem?_eq_getElem hlt⟩
      obtain ⟨W4, hW4⟩ : ∃ W4, wr.alloc (.cells #[.int .i64 kx, .int .i64 nx, S tx, .slice nax nlx ncx, .slice iax ilx icx] 72) = W4 := ⟨_, rfl⟩
      have hka : Kept (fun _ => True) wr W4 := by rw [← hW4]; exact (Kept.refl _ wr).alloc _
      have hz4 : W4.heap.size = wr.heap.size + 1 := by rw [← hW4]; simp
      have hC := (HH.out.2 j x hx) W4 ((HH.out.1 j x hx).kept (hk.tr hka) fun _ _ _ => trivial) ((HE.out.kept (hk.tr hka) fun _ _ => trivial).le (by have := hk.size; omega))
      rw [e1] at hC
      have HC := Lib.hid hC
      have HX := Lib.hid hx
      have HO4 := Lib.hid (HO.out.keptT hka)
      have hk4 := hk.tr hka
      have HW4 := Lib.hid hW4
      clear e1 hx hC HO hW4
      go_wp2_with fail
      rw [HW4.out]
      refine HC.out.mono ?_
      rintro e w2 ⟨⟨u, rfl, hu⟩, hk2⟩
      cases hmx : mayP x with
      | false =>
        have HN : Hid (mays xs = false) := Lib.hid (mays_false HX.out hmx)
        clear hmx hu
        go_wp2
        refine bodyPost_ret (v := .tuple #[.slice none 0 0, .bool false]) (by simp [results, Tryz.results269, go_sem]) rfl ?_
        exact ⟨⟨_, by rw [HN.out], fun h => by rw [HN.out] at h; cases h⟩, hk4.tr hk2⟩
      | true =>
        have hu := hu hmx
        have HN : Hid (mays (xs.take (j + 1)) = true) := Lib.hid (by rw [mays_take HX.out hm.out, hmx])
        obtain ⟨ut, uv, rfl⟩ := hu.face
        have HO5 := Lib.hid (HO4.out.keptT hk2)
        have HU : Hid (VIn (fun b => w.heap.size ≤ b ∧ some b ≠ (Value.slice va vl vc).ownBlock) w2 x (.iface ut uv)) := Lib.hid (hu.mono fun b hb hw => ⟨by have := hk4.size; omega, fun e => by
          obtain ⟨us2, _, e2, _⟩ := HO4.out
          have := (e2.lt b e.symm).2
          omega⟩)
        have hw2 : w.heap.size ≤ w2.heap.size := (hk4.tr hk2).size
        have htl : (xs.take j).length = j := by rw [List.length_take]; omega
        have HT : Hid (xs.take j ++ [x] = xs.take (j + 1)) := Lib.hid (by rw [List.take_add_one, HX.out]; rfl)
        clear hmx hu hm HO4
        obtain ⟨us2, e1, e2, e3⟩ := HO5.out
        have HE1 := Lib.hid e1
        have HE2 := Lib.hid e2
        have HE3 := Lib.hid e3
        have HTL := Lib.hid htl
        clear e1 e2 e3 htl
        go_wp2_with (at_builtin; refine wpList_pushOne 210 168 Tryz.underlying210 infoValue rfl (by decide) rfl _ _ rfl w.heap.size _ (xs.take j).length us2 [.iface ut uv] w2 _ rfl rfl rfl (by intro y hy; simp at hy; subst hy; rfl) 1 _ rfl rfl rfl HE2.out (by have := HTL.out; omega) (by decide) hw2 ?_)
        intro v' w3 k1 k2 k3
        have HO3 := Lib.hid (ownV_push HE1.out HE3.out HU.out (by rw [HTL.out]; exact k1) k3)
        have hk3 : Kept (fun _ => True) w w3 := (hk4.tr hk2).trans (ok2 := fun i => i < w.heap.size) ⟨k2.os, k2.tape, k2.output, k2.size, fun i _ h => k2.block i h⟩ (fun i hi _ => hi)
        clear k1 k2 k3
        go_wp2
        go_roundg (xs.length - (j + 1))
        case rel => exact ⟨j + 1, by go_num, rfl, by omega, by rw [← HT.out]; exact HO3.out, HN, hk3⟩
        case measure => omega
    · obtain rfl : j = xs.length := by omega
      have HN : Hid (mays xs = true) := Lib.hid (by have := hm.out; rwa [List.take_of_length_le (Nat.le_refl _)] at this)
      have HO2 := Lib.hid (show OwnV w.heap.size (.slice va vl vc) xs wr by have := HO.out; rwa [List.take_of_length_le (Nat.le_refl _)] at this)
      clear HO hm
      go_wp2
      refine bodyPost_ret (v := .tuple #[.slice va vl vc, .bool true]) (by simp [results, Tryz.results269, go_sem]) rfl ?_
      exact ⟨⟨_, by rw [HN.out], fun _ => HO2.out⟩, hk⟩
end Go.Proofs.YtpcgfhleloonfaaGreatDoor
namespace Go.Proofs.YtpcgfhleloonfaaGreatDoor
open Go.RowKit Jo Go.Shelf
def cells2 (l : List (List UInt8 × Value)) : List Value := l.flatMap fun e => [S e.1, e.2]
theorem cells2_snoc (l : List (List UInt8 × Value)) (e : List UInt8 × Value) : cells2 (l ++ [e]) = cells2 l ++ [S e.1, e.2] := by simp [cells2]
theorem cells2_at : ∀ (l : List (List UInt8 × Value)) (j : Nat) (e : List UInt8 × Value), l[j]? = some e → (cells2 l)[j * 2]? = some (S e.1) ∧ (cells2 l)[j * 2 + 1]? = some e.2 := by
  intro l
  induction l with
  | nil => intro j e h; simp at h
  | cons x r ih =>
    intro j e h
    cases j with
    | zero =>
      obtain rfl : x = e := by simpa using h
      exact ⟨rfl, rfl⟩
    | succ j =>
      have := ih j e (by simpa using h)
      rw [show (j + 1) * 2 = j * 2 + 1 + 1 by omega]
      have e2 : cells2 (x :: r) = S x.1 :: x.2 :: cells2 r := by simp [cells2]
      rw [e2]
      simpa using this
theorem namesOk_next {ns : List (List UInt8)} {j : Nat} {n : List UInt8} (hn : ns[j]? = some n) (h : namesOk (ns.take j) = true) :
    (Lib.validD n = true ∧ (∀ p, 0 < j → ns[j - 1]? = some p → ltB p n = true) → namesOk (ns.take (j + 1)) = true) ∧ (Lib.validD n = false ∨ (∃ p, 0 < j ∧ ns[j - 1]? = some p ∧ ltB p n = false) → namesOk ns = false) := by
  have hj := (List.getElem?_eq_some_iff.1 hn).1
  constructor
  · rintro ⟨h1, h2⟩
    rw [List.take_add_one, hn]
    rw [namesOk_iff] at h ⊢
    refine ⟨fun m hm => ?_, ?_⟩
    · rcases List.mem_append.1 hm with hm | hm
      · exact h.1 m hm
      · obtain rfl : m = n := by simpa using hm
        exact h1
    · refine List.pairwise_append.2 ⟨h.2, by simp, fun a ha b hb => ?_⟩
      obtain rfl : b = n := by simpa using hb
      have hj0 : 0 < j := by
        rcases Nat.eq_zero_or_pos j with e | e
        · subst e; simp at ha
        · exact e
      obtain ⟨p, hp⟩ : ∃ p, ns[j - 1]? = some p := ⟨ns[j - 1]'(by omega), List.getElem?_eq_getElem (by omega)⟩
      have hpn := h2 p hj0 hp
      obtain ⟨i, hi, rfl⟩ := List.mem_take_iff_getElem.1 ha
      by_cases e : i = j - 1
      · subst e
        have : p = ns[j - 1] := by
          rw [List.getElem?_eq_getElem (by omega)] at hp
          simpa using hp.symm
        rw [← this]
        exact hpn
      · have hlt := List.pairwise_iff_getElem.1 h.2 i (j - 1) (by rw [List.length_take]; omega) (by rw [List.length_take]; omega) (by omega)
        rw [List.getElem_take, List.getElem_take] at hlt
        have : p = ns[j - 1] := by
          rw [List.getElem?_eq_getElem (by omega)] at hp
          simpa using hp.symm
        rw [← this] at hlt
        exact ltB_trans hlt hpn
  · intro hbad
    cases hq : namesOk ns with
    | false => rfl
    | true =>
      exfalso
      rw [namesOk_iff] at hq
      rcases hbad with hv | ⟨p, hj0, hp, hl⟩
      · rw [hq.1 n (List.mem_of_getElem? hn)] at hv
        cases hv
      · have := List.pairwise_iff_getElem.1 hq.2 (j - 1) j (by omega) hj (by omega)
        rw [List.getElem?_eq_getElem (by omega)] at hp hn
        obtain rfl : ns[j - 1] = p := by simpa using hp
        obtain rfl : ns[j] = n := by simpa using hn
        rw [this] at hl
        cases hl
theorem valid_any (n : List UInt8) (w : World) (hn : n.length ≤ 9223372036854775807) (hT : Lib.Utf8Tabs 3 4 w) : Calls Tryz.prog 268 #[S n] w fun e w' => e = .returned (.bool (Lib.validD n)) ∧ Kept (fun _ => True) w w' := by
  refine (Any.utf8_ValidString Tryz.laysValid ⟨n.toArray⟩ w (by rw [size_mk]; exact hn) hT).mono ?_
  rintro e w' ⟨rfl, hb⟩
  exact ⟨by simp, ⟨hb.os, hb.tape, hb.output, hb.size, fun k hk _ => hb.block k hk⟩⟩
set_option maxHeartbeats 16000000 in
set_option maxRecDepth 100000 in
theorem insideObj_any (n : Int) (t : List UInt8) (ns : List (List UInt8)) (xs : List J) (na ia : Option Addr) (nc ic : Nat) (us : Nat → Value) (w : World) (hE : JE w.heap.size w) (hr : Rng 6 n t ns xs.length) (hn : RowS (fun _ => True) w (.slice na ns.length nc) ns) (hi : RowJ (fun _ => True) w (.slice ia xs.length ic) xs.length us)
    (hin : ∀ (j : Nat) x, xs[j]? = some x → JIn (fun _ => True) w x (us j)) (hih : ∀ (j : Nat) x, xs[j]? = some x → InsideC (us j) x) (hl : xs.length ≤ 1000000) :
    Calls Tryz.prog 270 #[jotV 6 n t (.slice na ns.length nc) (.slice ia xs.length ic)] w (InQ (.mk 6 n t ns xs) w) := by
  obtain ⟨M, hM⟩ : ∃ M, mayP (.mk 6 n t ns xs) = M := ⟨_, rfl⟩
  have HM : Hid (M = (n == 0 && t == [] && ns.length == xs.length && namesOk ns && mays xs)) := Lib.hid (by rw [← hM]; simp [mayP])
  obtain ⟨W0, hW0⟩ : ∃ W0, w.alloc (.cells #[.int .i64 6, .int .i64 n, S t, .slice na ns.length nc, .slice ia xs.length ic] 72) = W0 := ⟨_, rfl⟩
  have hk0 : Kept (fun _ => True) w W0 := by rw [← hW0]; exact (Kept.refl _ w).alloc _
  have hz0 : W0.heap.size = w.heap.size + 1 := by rw [← hW0]; simp
  have hbox : OutAt w.heap.size 6 n t (.slice na ns.length nc) (.slice ia xs.length ic) W0 := by rw [← hW0]; exact OutAt.new w 6 n t _ _
  have HIT := Lib.hid (items_any xs ia ic us W0 ((hE.kept hk0 fun _ _ => trivial).le (by omega)) (hi.kept hk0 fun _ _ _ => trivial) (fun j x hx => (hin j x hx).kept hk0 fun _ _ _ => trivial) hih hl)
  have HR := Lib.hid hr
  have HE := Lib.hid hE
  have HN := Lib.hid hn
  have HW0 := Lib.hid hW0
  have HBOX := Lib.hid hbox
  obtain ⟨o0, o1, o2, o3, o4, o5, o6⟩ := hbox.facts
  have HMM := Lib.hid hM
  clear hr hE hn hi hin hih hW0 hbox hM
  go_enter Tryz.func270, Tryz.ntmps270
  go_wp2_with fail
  rw [HW0.out]
  refine HIT.out.mono ?_
  rintro e w1 ⟨⟨lv, rfl, hlv⟩, hk1⟩
  have hk01 := hk0.tr hk1
  have hz1 := hk1.size
  have HBOX1 := Lib.hid (HBOX.out.kept hk1 trivial)
  clear o0 o1 o2 o3 o4 o5 o6 HBOX HIT
  obtain ⟨o0, o1, o2, o3, o4, o5, o6⟩ := HBOX1.out.facts
  cases hms : mays xs with
  | false =>
    have HF : Hid (M = false) := Lib.hid (by rw [HM.out, hms]; simp)
    clear hms hlv HM
    go_wp2
    refine bodyPost_ret (v := .tuple #[.iface 192 (.agg #[]), .bool false]) (by simp [results, Tryz.results270, go_sem]) rfl ?_
    exact ⟨⟨_, by rw [HMM.out, HF.out], fun h => by rw [HMM.out, HF.out] at h; cases h⟩, hk01⟩
  | true =>
    have hlv := hlv hms
    obtain ⟨la, ll, lc, rfl⟩ := hlv.slice
    have HLV := Lib.hid hlv
    clear hlv
    by_cases hlen : ns.length = xs.length
    · have BA := Lib.hid (fun w => bare_any false false true true 6 n t na ia ns.length nc xs.length ic w)
      obtain ⟨q, hq⟩ : ∃ q, bareP false false true true n t ns.length xs.length = q := ⟨_, rfl⟩
      rw [hq] at BA
      have HB : Hid (M = (q && namesOk ns)) := Lib.hid (by rw [HM.out, hms, ← hq]; simp [bareP, hlen])
      have HLEN := Lib.hid hlen
      have hne : ((ns.length : Int) != (xs.length : Int)) = false := by simp; omega
      have hnl : ns.length ≤ 1000000 := by omega
      clear hq HM hms hlen
      cases q with
      | false =>
        have HF : Hid (M = false) := Lib.hid (by rw [HB.out]; simp)
        clear HB
        go_wp2_with (refine (BA.out _).mono ?_; rintro e w2 ⟨rfl, hk2⟩)
        refine bodyPost_ret (v := .tuple #[.iface 192 (.agg #[]), .bool false]) (by simp [results, Tryz.results270, go_sem]) rfl ?_
        exact ⟨⟨_, by rw [HMM.out, HF.out], fun h => by rw [HMM.out, HF.out] at h; cases h⟩, hk01.tr hk2⟩
      | true =>
        have HQ : Hid (M = namesOk ns) := Lib.hid (by rw [HB.out]; simp)
        clear HB
        go_wp2_with fail
        refine (BA.out _).mono ?_
        rintro e w2 ⟨rfl, hk2⟩
        have hk02 := hk01.tr hk2
        obtain ⟨us2, l1, l2, l3⟩ := HLV.out.keptT hk2
        have HL2 := Lib.hid l2
        have HL3 := Lib.hid (And.intro l1 l3)
        have HBOX2 := Lib.hid (HBOX1.out.kept hk2 trivial)
        have hB1 : w.heap.size < w2.heap.size := by have := hk02.size; have := HBOX2.out.lt; omega
        clear o0 o1 o2 o3 o4 o5 o6 HBOX1 HLV l1 l2 l3
        obtain ⟨o0, o1, o2, o3, o4, o5, o6⟩ := HBOX2.out.facts
        go_wp2_with fail
        go_loopg [6, 36] ns.length (fun q v i wr => ∃ j : Nat, i = .int .i64 j ∧ q = ns.length - j ∧ j ≤ ns.length ∧ Hid (wr.ownsRow w2.heap.size 215 2 v j (cells2 ((ns.zip us2).take j))) ∧ Hid (namesOk (ns.take j) = true) ∧ Kept (· < w2.heap.size) w2 wr)
        case atStart => exact ⟨0, rfl, by omega, Nat.zero_le _, Lib.hid (World.ownsRow_nil _ _ _ _), Lib.hid rfl, Kept.refl _ _⟩
        case round =>
          clear o0 o1 o2 o3 o4 o5 o6
          obtain ⟨j, rfl, rfl, hjl, ho, hm, hk⟩ := hrel
          obtain ⟨va, vl, vc, rfl⟩ := ownsRow_slice ho.out
          have HBOXr := Lib.hid (HBOX2.out.kept hk hB1)
          obtain ⟨o0, o1, o2, o3, o4, o5, o6⟩ := HBOXr.out.facts
          have hk0r : Kept (fun _ => True) w wr := hk02.trans hk fun i hi _ => by have := hk02.size; omega
          by_cases hlt : j < ns.length
          · obtain ⟨b, off, rfl, hb, -, -, m, hm1, hc⟩ := HN.out.at hlt
            replace hc := (hk0r.cell hb trivial).trans hc
            have HM1 := Lib.hid hm1
            have hml : m.length ≤ 9223372036854775807 := HR.out.2.2.2.2.2.2.1 m (List.mem_of_getElem? hm1)
            have HV := Lib.hid (valid_any m wr hml (HE.out.kept hk0r fun _ _ => trivial).u8)
            clear hm1 hml
            cases hvd : Lib.validD m with
            | false =>
              have HF : Hid (M = false) := Lib.hid (by rw [HQ.out]; exact (namesOk_next HM1.out hm.out).2 (.inl hvd))
              rw [hvd] at HV
              clear hvd
              go_wp2_with (refine HV.out.mono ?_; rintro e w3 ⟨rfl, hk3⟩)
              refine bodyPost_ret (v := .tuple #[.iface 192 (.agg #[]), .bool false]) (by simp [results, Tryz.results270, go_sem]) rfl ?_
              exact ⟨⟨_, by rw [HMM.out, HF.out], fun h => by rw [HMM.out, HF.out] at h; cases h⟩, hk0r.tr hk3⟩
            | true =>
              rw [hvd] at HV
              have HVD := Lib.hid hvd
              clear hvd
              have hlx : j < xs.length := by have := HLEN.out; omega
              obtain ⟨x, hx⟩ : ∃ x, xs[j]? = some x := ⟨xs[j]'hlx, List.getElem?_eq_getElem hlx⟩
              rcases ownsRow_view HL2.out with ⟨_, h0⟩ | ⟨lb, lcap, el, _, _, hlb, hlc⟩
              · omega
              obtain ⟨rfl, rfl, rfl⟩ : la = some ⟨lb, 0, none⟩ ∧ ll = xs.length ∧ lc = lcap := by simpa using el
              have hju : us2[j]? = some (us2.getD j .nilIface) := by rw [List.getD_eq_getElem?_getD, List.getElem?_eq_getElem (by rw [HL3.out.1]; exact hlx)]; rfl
              obtain ⟨ut, uv, hu⟩ := (HL3.out.2 j x hx).face
              rw [hu] at hju
              have hcl : wr.cell? ⟨lb, j, none⟩ = some (.iface ut uv) := (hk.cell hlb hlb).trans (hlc j _ hju)
              have HZP : Hid ((ns.zip us2)[j]? = some (m, .iface ut uv)) := Lib.hid (by rw [List.getElem?_zip_eq_some]; exact ⟨HM1.out, hju⟩)
              clear el hu hju hx hlc
              by_cases hj0 : j = 0
              · have hjz : ¬ 0 < j := by omega
                have HNX : Hid (namesOk (ns.take (j + 1)) = true) := Lib.hid ((namesOk_next HM1.out hm.out).1 ⟨HVD.out, fun p h => absurd h hjz⟩)
                clear hj0
                go_wp2_with (first
                  | (go_at_call 268; refine HV.out.mono ?_; rintro e w3 ⟨rfl, hk3⟩; replace hcl := (hk3.cell (cell_isLt hcl) trivial).trans hcl; have HO3 := Lib.hid (ownsRow_kept ho.out hk3 (fun _ _ => trivial)); have HZ3 : Hid (w2.heap.size ≤ w3.heap.size) := Lib.hid (Nat.le_trans hk.size hk3.size))
                  | (at_builtin; refine wpList_pushOne 213 215 Tryz.underlying213 infoMember rfl (by decide) rfl _ _ rfl w2.heap.size _ (j) (cells2 ((ns.zip us2).take (j))) [S m, .iface ut uv] w3 _ rfl rfl rfl (by intro y hy; simp at hy; rcases hy with rfl | rfl <;> rfl) 1 _ rfl rfl rfl HO3.out (by omega) (by decide) HZ3.out ?_))
                intro v' w4 k1 k2 k3
                have HO4 : Hid (w4.ownsRow w2.heap.size 215 2 v' (j + 1) (cells2 ((ns.zip us2).take (j + 1)))) := Lib.hid (by rw [List.take_add_one, HZP.out]; simp only [Option.toList_some]; rw [cells2_snoc]; exact k1)
                have hk4 : Kept (· < w2.heap.size) w2 w4 := (hk.tr (hk3.mono fun _ _ _ => trivial)).trans (ok2 := fun i => i < w2.heap.size) ⟨k2.os, k2.tape, k2.output, k2.size, fun i _ h => k2.block i h⟩ (fun i _ h => h)
                clear k1 k2 k3
                go_wp2
                go_roundg (ns.length - (j + 1))
                case rel => exact ⟨j + 1, by go_num, rfl, by omega, HO4, HNX, hk4⟩
                case measure => omega
              · obtain ⟨i, rfl⟩ : ∃ i, j = i + 1 := ⟨j - 1, by omega⟩
                have hp0 : i < ns.length := by omega
                obtain ⟨b', off', e', -, -, -, p, hp, hcp⟩ := HN.out.at hp0
                obtain ⟨rfl, rfl⟩ : b = b' ∧ off = off' := by simpa using e'
                replace hcp := (hk0r.cell hb trivial).trans hcp
                have HP := Lib.hid hp
                clear hp e' hp0
                cases hlt2 : ltB p m with
                | false =>
                  have HF : Hid (M = false) := Lib.hid (by rw [HQ.out]; exact (namesOk_next HM1.out hm.out).2 (.inr ⟨p, by omega, HP.out, hlt2⟩))
                  rw [← Jo.bytesLess_eq] at hlt2
                  go_wp2_with (refine HV.out.mono ?_; rintro e w3 ⟨rfl, hk3⟩; replace hcp := (hk3.cell (cell_isLt hcp) trivial).trans hcp; have HBOX3 := Lib.hid (HBOXr.out.kept hk3 trivial); obtain ⟨r0, r1, r2, r3, r4, r5, r6⟩ := HBOX3.out.facts)
                  refine bodyPost_ret (v := .tuple #[.iface 192 (.agg #[]), .bool false]) (by simp [results, Tryz.results270, go_sem]) rfl ?_
                  exact ⟨⟨_, by rw [HMM.out, HF.out], fun h => by rw [HMM.out, HF.out] at h; cases h⟩, hk0r.tr hk3⟩
                | true =>
                have HNX : Hid (namesOk (ns.take (i + 1 + 1)) = true) := Lib.hid ((namesOk_next HM1.out hm.out).1 ⟨HVD.out, fun q _ hq => by
                  have e := HP.out
                  rw [show i + 1 - 1 = i by omega] at hq
                  rw [e] at hq
                  obtain rfl : p = q := by simpa using hq
                  exact hlt2⟩)
                rw [← Jo.bytesLess_eq] at hlt2
                go_wp2_with (first
                  | (go_at_call 268; refine HV.out.mono ?_; rintro e w3 ⟨rfl, hk3⟩; replace hcl := (hk3.cell (cell_isLt hcl) trivial).trans hcl; have HO3 := Lib.hid (ownsRow_kept ho.out hk3 (fun _ _ => trivial)); have HZ3 : Hid (w2.heap.size ≤ w3.heap.size) := Lib.hid (Nat.le_trans hk.size hk3.size); replace hcp := (hk3.cell (cell_isLt hcp) trivial).trans hcp; have HBOX3 := Lib.hid (HBOXr.out.kept hk3 trivial); obtain ⟨r0, r1, r2, r3, r4, r5, r6⟩ := HBOX3.out.facts)
                  | (at_builtin; refine wpList_pushOne 213 215 Tryz.underlying213 infoMember rfl (by decide) rfl _ _ rfl w2.heap.size _ (i + 1) (cells2 ((ns.zip us2).take (i + 1))) [S m, .iface ut uv] w3 _ rfl rfl rfl (by intro y hy; simp at hy; rcases hy with rfl | rfl <;> rfl) 1 _ rfl rfl rfl HO3.out (by omega) (by decide) HZ3.out ?_))
                intro v' w4 k1 k2 k3
                have HO4 : Hid (w4.ownsRow w2.heap.size 215 2 v' (i + 1 + 1) (cells2 ((ns.zip us2).take (i + 1 + 1)))) := Lib.hid (by rw [List.take_add_one, HZP.out]; simp only [Option.toList_some]; rw [cells2_snoc]; exact k1)
                have hk4 : Kept (· < w2.heap.size) w2 w4 := (hk.tr (hk3.mono fun _ _ _ => trivial)).trans (ok2 := fun i => i < w2.heap.size) ⟨k2.os, k2.tape, k2.output, k2.size, fun i _ h => k2.block i h⟩ (fun i _ h => h)
                clear k1 k2 k3
                go_wp2
                go_roundg (ns.length - (i + 1 + 1))
                case rel => exact ⟨i + 1 + 1, by go_num, rfl, by omega, HO4, HNX, hk4⟩
                case measure => omega
          · obtain rfl : j = ns.length := by omega
            have HF : Hid (M = true) := Lib.hid (by rw [HQ.out]; have := hm.out; rwa [List.take_of_length_le (Nat.le_refl _)] at this)
            have hz2 : (ns.zip us2).length = ns.length := by rw [List.length_zip, HL3.out.1, HLEN.out]; omega
            have HO2 := Lib.hid (show wr.ownsRow w2.heap.size 215 2 (.slice va vl vc) ns.length (cells2 (ns.zip us2)) by have := ho.out; rwa [List.take_of_length_le (by omega)] at this)
            clear ho hm
            go_wp2
            refine bodyPost_ret (v := .tuple #[.iface 213 (.slice va vl vc), .bool true]) (by simp [results, Tryz.results270, go_sem]) rfl ?_
            refine ⟨⟨_, by rw [HMM.out, HF.out], fun _ => ?_⟩, hk0r⟩
            have hx : J.mk 6 n t ns xs = J.obj (ns.zip xs) := by
              have h1 := HMM.out.trans HF.out
              simp only [mayP] at h1
              simp at h1
              obtain ⟨⟨⟨⟨rfl, rfl⟩, h2⟩, _⟩, _⟩ := h1
              unfold J.obj
              rw [zip_fst _ _ h2, zip_snd _ _ h2]
            have hzl : (ns.zip xs).length = ns.length := by rw [List.length_zip, HLEN.out]; omega
            rw [hx]
            refine .obj (ns.zip xs) _ (fun j => us2.getD j .nilIface) (by omega) ?_ (fun j m hm => ?_)
            · rw [zip_fst _ _ HLEN.out]
              rcases ownsRow_view HO2.out with ⟨e, h0⟩ | ⟨b, cap, e, q1, q2, q3, q4⟩
              · exact .inl ⟨e, List.eq_nil_of_length_eq_zero h0⟩
              · refine .inr ⟨b, cap, e, q1, by omega, q3, fun j l hl => ?_⟩
                have hj := (List.getElem?_eq_some_iff.1 hl).1
                have hju : us2[j]? = some (us2.getD j .nilIface) := by rw [List.getD_eq_getElem?_getD, List.getElem?_eq_getElem (by rw [HL3.out.1, ← HLEN.out]; exact hj)]; rfl
                have hz : (ns.zip us2)[j]? = some (l, us2.getD j .nilIface) := by rw [List.getElem?_zip_eq_some]; exact ⟨hl, hju⟩
                obtain ⟨c1, c2⟩ := cells2_at _ _ _ hz
                exact ⟨q4 _ _ c1, q4 _ _ c2⟩
            · have hmx : xs[j]? = some m.2 := by
                obtain ⟨n', x'⟩ := m
                rw [List.getElem?_zip_eq_some] at hm
                exact hm.2
              exact ((HL3.out.2 j _ hmx).kept' hk.size fun b hb h => hk.block b hb hb).mono fun b _ h => by have := h.1; omega
    · have HF : Hid (M = false) := Lib.hid (by rw [HM.out]; simp [hlen])
      have hne : ((ns.length : Int) != (xs.length : Int)) = true := by simp; omega
      clear hms HM
      go_wp2
      refine bodyPost_ret (v := .tuple #[.iface 192 (.agg #[]), .bool false]) (by simp [results, Tryz.results270, go_sem]) rfl ?_
      exact ⟨⟨_, by rw [HMM.out, HF.out], fun h => by rw [HMM.out, HF.out] at h; cases h⟩, hk01⟩
end Go.Proofs.YtpcgfhleloonfaaGreatDoor
