/- Walk of the law's marked (layer 4). -/
import Derived.Test.YtmajpambfblhnaaGreatDoorJoM2
import Derived.BigQuiet
namespace Go.Proofs.YtmajpambfblhnaaGreatDoor
open Go.RowKit Jo

theorem rowCell {T : TypeId} {B n c : Nat} {a : Option Addr} {l : Nat} {xs : List Value} {w : World} (h : w.ownsRow B T 1 (.slice a l c) n xs) {j : Nat} {u : Value} (hu : xs[j]? = some u) : l = n ∧ j < n ∧ ∃ b, a = some ⟨b, 0, none⟩ ∧ w.cell? ⟨b, j, none⟩ = some u := by
  have hj : j < n := by have := (List.getElem?_eq_some_iff.1 hu).1; have := h.1; omega
  rcases ownsRow_view h with ⟨e, h0⟩ | ⟨b, cap, e, h1, h2, h3, h4⟩
  · omega
  · obtain ⟨rfl, rfl, rfl⟩ : a = some ⟨b, 0, none⟩ ∧ l = n ∧ c = cap := by simpa using e
    exact ⟨rfl, hj, b, rfl, h4 j u hu⟩


set_option maxHeartbeats 8000000 in
set_option maxRecDepth 100000 in
theorem marked_any (gb B : Nat) (nr ir : List Value) (nv iv : Value) (w : World) (hB : BookAt gb B nv iv nr ir w) (h1 : nr.length ≤ 1000000000) (h2 : ir.length ≤ 1000000000) :
    Calls Tryz.prog 14 #[.pointer (some ⟨gb, 0, none⟩)] w fun e w' => e = .returned (.bool true) ∧ Kept (fun _ => True) w w' := by
  obtain ⟨b0, b1, b2, b3⟩ := hB.facts
  obtain ⟨na, nl, nc, rfl⟩ := ownsRow_slice hB.nrow
  obtain ⟨ia, il, ic, rfl⟩ := ownsRow_slice hB.irow
  have hnl : nl = nr.length := by rcases ownsRow_view hB.nrow with ⟨e, h0⟩ | ⟨b, cap, e, -⟩ <;> simp at e <;> omega
  have hil : il = ir.length := by rcases ownsRow_view hB.irow with ⟨e, h0⟩ | ⟨b, cap, e, -⟩ <;> simp at e <;> omega
  have HB := Lib.hid hB
  have HE := Lib.hid (And.intro hnl hil)
  have hnl1 : nl ≤ 1000000000 := by omega
  have hil1 : il ≤ 1000000000 := by omega
  clear hB hnl hil h1 h2
  go_enter Tryz.func14, Tryz.ntmps14
  go_wp2
  go_loopg [3] nl (fun q i wr => ∃ j : Nat, i = .int .i64 j ∧ q = nl - j ∧ j ≤ nl ∧ ∃ m, wr = w.drewN m)
  case atStart => exact ⟨0, rfl, by omega, Nat.zero_le _, 0, rfl⟩
  case round =>
    obtain ⟨j, rfl, rfl, hjl, m, rfl⟩ := hrel
    by_cases hlt : j < nl
    · obtain ⟨u, hu⟩ : ∃ u, nr[j]? = some u := ⟨nr[j]'(by have := HE.out.1; omega), List.getElem?_eq_getElem _⟩
      obtain ⟨g, n, c, cs, rfl, hnc, hg, hcs⟩ := HB.out.nmk u (List.mem_of_getElem? hu)
      obtain ⟨-, -, b, rfl, hcell⟩ := rowCell HB.out.nrow hu
      have hmark : w.cell? ⟨g, n, none⟩ = some (S [126]) := by rw [cell_of_row w g n cs _ (0, 0) hg]; exact hcs
      have hn9 : n + 1 ≤ 9223372036854775807 := by omega
      clear hg hcs hu
      go_wp2
      go_quiet (fail)
      go_wp2
      go_roundg (nl - (j + 1))
      case rel => exact ⟨j + 1, by go_num, rfl, by omega, _, rfl⟩
      case measure => omega
    · obtain rfl : j = nl := by omega
      go_wp2
      go_loopg [4] il (fun q i wr => ∃ j : Nat, i = .int .i64 j ∧ q = il - j ∧ j ≤ il ∧ ∃ m, wr = w.drewN m)
      case atStart => exact ⟨0, rfl, by omega, Nat.zero_le _, m, rfl⟩
      case round =>
        clear hlt
        obtain ⟨i, rfl, rfl, hjl, m, rfl⟩ := hrel
        by_cases hlt : i < il
        · obtain ⟨u, hu⟩ : ∃ u, ir[i]? = some u := ⟨ir[i]'(by have := HE.out.2; omega), List.getElem?_eq_getElem _⟩
          obtain ⟨g, n, c, cs, rfl, hnc, hg, hcs⟩ := HB.out.imk u (List.mem_of_getElem? hu)
          obtain ⟨-, -, b, rfl, hcell⟩ := rowCell HB.out.irow hu
          have hmark : w.cell? ⟨g, n * 5, none⟩ = some (.int .i64 (-77)) := by rw [cell_of_row w g (n * 5) cs _ (0, 0) hg]; exact hcs
          have hn9 : n + 1 ≤ 9223372036854775807 := by omega
          clear hg hcs hu
          go_wp2
          go_quiet (fail)
          go_wp2
          go_roundg (il - (i + 1))
          case rel => exact ⟨i + 1, by go_num, rfl, by omega, _, rfl⟩
          case measure => omega
        · obtain rfl : i = il := by omega
          go_wp2
          go_ret
          exact ⟨rfl, (Kept.refl _ w).drewN _⟩
end Go.Proofs.YtmajpambfblhnaaGreatDoor
