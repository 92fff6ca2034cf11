/- Walk of jot's depth (layer 4). -/
import Derived.Test.YtmajpambfblhnaaGreatDoorJoVA
import Derived.Test.YtmajpambfblhnaaGreatDoorJoPlainB
namespace Go.Proofs.YtmajpambfblhnaaGreatDoor
open Go.RowKit Jo

theorem as_list (v : Value) (w : World) : (Instr.typeAssert (.iface 89 v) 57 89 true).run Tryz.prog w = .ok (.tuple #[v, .bool true]) w := by kernel_rfl
theorem as_object (v : Value) (w : World) : (Instr.typeAssert (.iface 91 v) 57 91 true).run Tryz.prog w = .ok (.tuple #[v, .bool true]) w := by kernel_rfl
theorem no_list {t : TypeId} (ht : t = 81 ∨ t = 83 ∨ t = 84 ∨ t = 85 ∨ t = 91) (v : Value) (w : World) : (Instr.typeAssert (.iface t v) 57 89 true).run Tryz.prog w = .ok (.tuple #[.slice none 0 0, .bool false]) w := by
  rcases ht with rfl | rfl | rfl | rfl | rfl <;> kernel_rfl
theorem no_object {t : TypeId} (ht : t = 81 ∨ t = 83 ∨ t = 84 ∨ t = 85 ∨ t = 89) (v : Value) (w : World) : (Instr.typeAssert (.iface t v) 57 91 true).run Tryz.prog w = .ok (.tuple #[.slice none 0 0, .bool false]) w := by
  rcases ht with rfl | rfl | rfl | rfl | rfl <;> kernel_rfl

/-- What depth leaves. -/
def DepQ (w : World) (d : Nat) (e : Ending) (w' : World) : Prop := e = .returned (.int .i64 (d : Int)) ∧ Kept (fun _ => True) w w'
set_option maxHeartbeats 1000000 in
theorem depth_leaf (t : TypeId) (v : Value) (w : World) (ht : t = 81 ∨ t = 83 ∨ t = 84 ∨ t = 85) : Calls Tryz.prog 31 #[.iface t v] w (DepQ w 0) := by
  have h1 := no_list (t := t) (by rcases ht with h | h | h | h <;> simp [h]) v
  have h2 := no_object (t := t) (by rcases ht with h | h | h | h <;> simp [h]) v
  clear ht
  go_enter Tryz.func31, Tryz.ntmps31
  go_wp2
  go_ret
  exact ⟨rfl, Kept.refl _ _⟩
set_option maxHeartbeats 4000000 in
theorem depth_list (ok : Nat → Prop) (xs : List J) (v : Value) (us : Nat → Value) (w : World) (hl : xs.length ≤ 1000000) (hr : Row1 ok w v xs.length us)
    (hj : ∀ (j : Nat) x, xs[j]? = some x → (∃ t a, us j = .iface t a) ∧ depthP x ≤ 1000000000 ∧ ∀ w', Kept (fun _ => True) w w' → Calls Tryz.prog 31 #[us j] w' (DepQ w' (depthP x))) (hd : deepest xs ≤ 1000000000) :
    Calls Tryz.prog 31 #[.iface 89 v] w (DepQ w (deepest xs + 1)) := by
  have HJ := Lib.hid hj
  have HD := Lib.hid hd
  have ha := as_list v
  clear hj hd
  rcases hr with ⟨rfl, h0⟩ | ⟨b, cap, rfl, h1, h2, h3, h4⟩
  · obtain rfl : xs = [] := List.eq_nil_of_length_eq_zero h0
    go_enter Tryz.func31, Tryz.ntmps31
    go_wp2
    go_loopg [3, 17] 0 (fun q d k wr => d = .int .i64 0 ∧ k = .int .i64 0 ∧ wr = w)
    case atStart => exact ⟨rfl, rfl, rfl⟩
    case round =>
      obtain ⟨rfl, rfl, rfl⟩ := hrel
      go_wp2
      refine bodyPost_ret (v := .int .i64 1) (by simp [results, Tryz.results31, go_sem]) rfl ?_
      exact ⟨rfl, Kept.refl _ _⟩
  · have H4 := Lib.hid h4
    clear h4
    go_enter Tryz.func31, Tryz.ntmps31
    go_wp2
    go_loopg [3, 17] xs.length (fun q d k wr => ∃ (j m : Nat), d = .int .i64 m ∧ k = .int .i64 j ∧ q = xs.length - j ∧ j ≤ xs.length ∧ Hid (m = deepest (xs.take j)) ∧ m ≤ 1000000000 ∧ Kept (fun _ => True) w wr)
    case atStart => exact ⟨0, 0, rfl, rfl, by omega, Nat.zero_le _, Lib.hid rfl, Nat.zero_le _, Kept.refl _ _⟩
    case round =>
      obtain ⟨j, m, rfl, rfl, rfl, hjl, hm, hmb, hk⟩ := hrel
      by_cases hlt : j < xs.length
      · obtain ⟨x, hx⟩ : ∃ x, xs[j]? = some x := ⟨xs[j]'hlt, List.getElem?_eq_getElem hlt⟩
        have hc : wr.cell? ⟨b, j, none⟩ = some (us j) := (hk.cell h3 trivial).trans (H4.out j hlt)
        obtain ⟨⟨t, a, hu⟩, hdx, hcall⟩ := HJ.out j x hx
        rw [hu] at hc hcall
        have HCALL := Lib.hid (hcall wr hk)
        have HN : Hid (deepest (xs.take (j + 1)) = max m (depthP x)) := Lib.hid (by rw [List.take_add_one, hx, hm.out]; exact deepest_snoc _ _)
        obtain ⟨dx, hdx2⟩ : ∃ dx, depthP x = dx := ⟨_, rfl⟩
        rw [hdx2] at HCALL HN hdx
        clear hu hcall hx hdx2
        go_wp2_with (refine HCALL.out.mono ?_; rintro e w2 ⟨rfl, hk2⟩)
        all_goals
          go_roundg (xs.length - (j + 1))
          case rel =>
            first
              | exact ⟨j + 1, m, rfl, by go_num, rfl, by omega, Lib.hid (by rw [HN.out]; omega), by omega, hk.tr hk2⟩
              | exact ⟨j + 1, dx, rfl, by go_num, rfl, by omega, Lib.hid (by rw [HN.out]; omega), by omega, hk.tr hk2⟩
          case measure => omega
      · obtain rfl : j = xs.length := by omega
        have HN : Hid (m = deepest xs) := Lib.hid (by have := hm.out; rwa [List.take_of_length_le (Nat.le_refl _)] at this)
        clear hm
        go_wp2
        refine bodyPost_ret (v := .int .i64 (m + 1)) (by simp [results, Tryz.results31, go_sem]) rfl ?_
        exact ⟨by rw [← HN.out]; rfl, hk⟩
set_option maxHeartbeats 4000000 in
theorem depth_obj (ok : Nat → Prop) (ms : List (List UInt8 × J)) (v : Value) (us : Nat → Value) (w : World) (hl : ms.length ≤ 1000000) (hr : Row2 ok w v (ms.map (·.1)) us)
    (hj : ∀ (j : Nat) m, ms[j]? = some m → (∃ t a, us j = .iface t a) ∧ depthP m.2 ≤ 1000000000 ∧ ∀ w', Kept (fun _ => True) w w' → Calls Tryz.prog 31 #[us j] w' (DepQ w' (depthP m.2))) (hd : deepest (ms.map (·.2)) ≤ 1000000000) :
    Calls Tryz.prog 31 #[.iface 91 v] w (DepQ w (deepest (ms.map (·.2)) + 1)) := by
  have HJ := Lib.hid hj
  have HD := Lib.hid hd
  have ha := as_object v
  have hn := no_list (t := 91) (by simp) v
  clear hj hd
  rcases hr with ⟨rfl, h0⟩ | ⟨b, cap, rfl, h1, h2, h3, h4⟩
  · obtain rfl : ms = [] := by simpa using h0
    go_enter Tryz.func31, Tryz.ntmps31
    go_wp2
    go_loopg [3, 31] 0 (fun q d k wr => d = .int .i64 0 ∧ k = .int .i64 0 ∧ wr = w)
    case atStart => exact ⟨rfl, rfl, rfl⟩
    case round =>
      obtain ⟨rfl, rfl, rfl⟩ := hrel
      go_wp2
      refine bodyPost_ret (v := .int .i64 1) (by simp [results, Tryz.results31, go_sem]) rfl ?_
      exact ⟨rfl, Kept.refl _ _⟩
  · rw [List.length_map] at h1 ha hn ⊢
    have H4 := Lib.hid h4
    clear h4
    go_enter Tryz.func31, Tryz.ntmps31
    go_wp2
    go_loopg [3, 31] ms.length (fun q d k wr => ∃ (j m : Nat), d = .int .i64 m ∧ k = .int .i64 j ∧ q = ms.length - j ∧ j ≤ ms.length ∧ Hid (m = deepest ((ms.take j).map (·.2))) ∧ m ≤ 1000000000 ∧ Kept (fun _ => True) w wr)
    case atStart => exact ⟨0, 0, rfl, rfl, by omega, Nat.zero_le _, Lib.hid rfl, Nat.zero_le _, Kept.refl _ _⟩
    case round =>
      obtain ⟨j, m, rfl, rfl, rfl, hjl, hm, hmb, hk⟩ := hrel
      by_cases hlt : j < ms.length
      · obtain ⟨⟨n, x⟩, hx⟩ : ∃ x, ms[j]? = some x := ⟨ms[j]'hlt, List.getElem?_eq_getElem hlt⟩
        have hx' : (ms.map (·.1))[j]? = some n := by rw [List.getElem?_map, hx]; rfl
        have hc0 : wr.cell? ⟨b, j * 2, none⟩ = some (S n) := (hk.cell h3 trivial).trans (H4.out j n hx').1
        have hc : wr.cell? ⟨b, j * 2 + 1, none⟩ = some (us j) := (hk.cell h3 trivial).trans (H4.out j n hx').2
        obtain ⟨⟨t, a, hu⟩, hdx, hcall⟩ := HJ.out j (n, x) hx
        rw [hu] at hc hcall
        have hkb : Kept (fun _ => True) wr (wr.alloc (.cells #[S n, .iface t a] 93)) := (Kept.refl _ _).alloc _
        have HCALL := Lib.hid (hcall _ (hk.tr hkb))
        have HN : Hid (deepest ((ms.take (j + 1)).map (·.2)) = max m (depthP x)) := Lib.hid (by rw [List.take_add_one, hx, hm.out]; simp only [Option.toList_some, List.map_append, List.map_cons, List.map_nil]; exact deepest_snoc _ _)
        obtain ⟨dx, hdx2⟩ : ∃ dx, depthP x = dx := ⟨_, rfl⟩
        rw [hdx2] at HCALL HN hdx
        clear hu hcall hx hx' hdx2
        go_wp2_with (refine HCALL.out.mono ?_; rintro e w2 ⟨rfl, hk2⟩)
        all_goals
          go_roundg (ms.length - (j + 1))
          case rel =>
            first
              | exact ⟨j + 1, m, rfl, by go_num, rfl, by omega, Lib.hid (by rw [HN.out]; omega), by omega, (hk.tr hkb).tr hk2⟩
              | exact ⟨j + 1, dx, rfl, by go_num, rfl, by omega, Lib.hid (by rw [HN.out]; omega), by omega, (hk.tr hkb).tr hk2⟩
          case measure => omega
      · obtain rfl : j = ms.length := by omega
        have HN : Hid (m = deepest (ms.map (·.2))) := Lib.hid (by have := hm.out; rwa [List.take_of_length_le (Nat.le_refl _)] at this)
        clear hm
        go_wp2
        refine bodyPost_ret (v := .int .i64 (m + 1)) (by simp [results, Tryz.results31, go_sem]) rfl ?_
        exact ⟨by rw [← HN.out]; rfl, hk⟩

theorem depth_any : ∀ (x : J) (ok : Nat → Prop) (w : World) (u : Value), depthP x ≤ 1000000000 → VIn ok w x u → Calls Tryz.prog 31 #[u] w (DepQ w (depthP x)) := by
  apply J.ind
  intro k n t ns xs ih ok w u hd hu
  generalize hx : J.mk k n t ns xs = x at hu hd
  have hit : xs = x.items := by rw [← hx]
  subst hit
  clear hx
  cases hu with
  | null => exact depth_leaf _ _ _ (by simp)
  | fls => exact depth_leaf _ _ _ (by simp)
  | tru => exact depth_leaf _ _ _ (by simp)
  | nr n => exact depth_leaf _ _ _ (by simp)
  | tx l => exact depth_leaf _ _ _ (by simp)
  | list xs v us hl hr h =>
    rw [depthP_list] at hd ⊢
    have hdd := deepest_le (xs := xs) (k := 1000000000) (by omega)
    exact depth_list ok xs v us w hl hr (fun j y hy => ⟨(h j y hy).face, hdd y (List.mem_of_getElem? hy), fun w' hk => ih y (List.mem_of_getElem? hy) ok w' (us j) (hdd y (List.mem_of_getElem? hy)) ((h j y hy).kept' hk.size fun b hb _ => hk.block b hb trivial)⟩) (by omega)
  | obj ms v us hl hr h =>
    rw [depthP_obj] at hd ⊢
    have hdd := deepest_le (xs := ms.map (·.2)) (k := 1000000000) (by omega)
    exact depth_obj ok ms v us w hl hr (fun j m hm => ⟨(h j m hm).face, hdd m.2 (List.mem_map_of_mem (List.mem_of_getElem? hm)), fun w' hk => ih m.2 (List.mem_map_of_mem (List.mem_of_getElem? hm)) ok w' (us j) (hdd m.2 (List.mem_map_of_mem (List.mem_of_getElem? hm))) ((h j m hm).kept' hk.size fun b hb _ => hk.block b hb trivial)⟩) (by omega)
end Go.Proofs.YtmajpambfblhnaaGreatDoor
