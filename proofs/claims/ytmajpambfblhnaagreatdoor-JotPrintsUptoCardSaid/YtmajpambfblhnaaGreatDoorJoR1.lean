/- Walks of the reference's reader (layer 4), first part: the small methods. -/
import Derived.Test.YtmajpambfblhnaaGreatDoorJoPA
namespace Go.Proofs.YtmajpambfblhnaaGreatDoor
open Go.RowKit Jo

/-- The reference's reader at block g: its text, its place, what is wrong, how deep it stands. -/
def RA (g : Nat) (s : List UInt8) (i : Nat) (e : Int) (d : Nat) (w : World) : Prop := w.heap[g]? = some (.cells #[S s, .int .i64 i, .int .i64 e, .int .i64 d] 104 (0, 0))
theorem RA.lt {g : Nat} {s : List UInt8} {i : Nat} {e : Int} {d : Nat} {w : World} (h : RA g s i e d w) : g < w.heap.size := (Array.getElem?_eq_some_iff.1 h).1
theorem RA.facts {g : Nat} {s : List UInt8} {i : Nat} {e : Int} {d : Nat} {w : World} (h : RA g s i e d w) :
    w.cell? ⟨g, 0, none⟩ = some (S s) ∧ w.cell? ⟨g, 1, none⟩ = some (.int .i64 i) ∧ w.cell? ⟨g, 2, none⟩ = some (.int .i64 e) ∧ w.cell? ⟨g, 3, none⟩ = some (.int .i64 d) ∧ w.frozen? ⟨g, 1, none⟩ = false ∧ w.frozen? ⟨g, 2, none⟩ = false ∧ w.frozen? ⟨g, 3, none⟩ = false := by
  unfold RA at h
  refine ⟨?_, ?_, ?_, ?_, frozen_row h 1, frozen_row h 2, frozen_row h 3⟩ <;> rw [cell_of_row w g _ _ _ (0, 0) h] <;> rfl
theorem RA.kept {g : Nat} {s : List UInt8} {i : Nat} {e : Int} {d : Nat} {w w' : World} {ok : Nat → Prop} (h : RA g s i e d w) (hk : Kept ok w w') (ho : ok g) : RA g s i e d w' := (hk.block g h.lt ho).trans h
theorem RA.drewN {g : Nat} {s : List UInt8} {i : Nat} {e : Int} {d : Nat} {w : World} (h : RA g s i e d w) (n : Nat) : RA g s i e d (w.drewN n) := h
theorem RA.setAt {g : Nat} {s : List UInt8} {i : Nat} {e : Int} {d : Nat} {w : World} (h : RA g s i e d w) (j : Nat) (v : Value) (hv : v = .int .i64 j) : RA g s j e d (w.setCell ⟨g, 1, none⟩ v) := by
  subst hv; exact (setCell_heap h _).trans rfl
theorem RA.setE {g : Nat} {s : List UInt8} {i : Nat} {e : Int} {d : Nat} {w : World} (h : RA g s i e d w) (x : Int) : RA g s i x d (w.setCell ⟨g, 2, none⟩ (.int .i64 x)) := (setCell_heap h _).trans rfl
theorem RA.setDeep {g : Nat} {s : List UInt8} {i : Nat} {e : Int} {d : Nat} {w : World} (h : RA g s i e d w) (j : Nat) (v : Value) (hv : v = .int .i64 j) : RA g s i e j (w.setCell ⟨g, 3, none⟩ v) := by
  subst hv; exact (setCell_heap h _).trans rfl

/-- What a method of the reference's reader leaves: what the plain reader says; where something is wrong: F of what comes back, the error and its place in the reader's block. -/
def RRd {α : Type} (g : Nat) (s : List UInt8) (d : Nat) (w : World) (r : PR α) (Q : α → Ending → World → Prop) (F : Ending → Prop) (e : Ending) (w' : World) : Prop :=
  match r with
  | .ok a i => Q a e w' ∧ RA g s i 0 d w' ∧ i ≤ s.length ∧ Kept (· ≠ g) w w'
  | .bad x i => F e ∧ (∃ d', RA g s i x d' w') ∧ i ≤ s.length ∧ Kept (· ≠ g) w w'
theorem RRd.bad {α : Type} {g : Nat} {s : List UInt8} {d : Nat} {w wm : World} {R : PR α} {Q : α → Ending → World → Prop} {F : Ending → Prop} {x : Int} {i : Nat} {e : Ending} {w' : World} (hR : R = .bad x i) (hF : F e) (hr : ∃ d', RA g s i x d' w') (hi : i ≤ s.length) (hk : Kept (· ≠ g) w wm) (hk' : Kept (· ≠ g) wm w') :
    RRd g s d w R Q F e w' := by rw [hR]; exact ⟨hF, hr, hi, hk.tr hk'⟩

set_option maxHeartbeats 400000 in
theorem refwrong_any (g : Nat) (s : List UInt8) (i d : Nat) (e0 e : Int) (w : World) (hp : RA g s i e0 d w) :
    Calls Tryz.prog 82 #[.pointer (some ⟨g, 0, none⟩), .int .i64 e] w fun x w' => x = .returned (.bool false) ∧ RA g s i e d w' ∧ Kept (· ≠ g) w w' := by
  obtain ⟨h0, h1, h2, h3, h4, h5, h6⟩ := hp.facts
  have HP := Lib.hid hp
  clear hp
  go_enter Tryz.func82, Tryz.ntmps82
  go_wp2
  go_ret
  exact ⟨rfl, HP.out.setE e, (Kept.refl _ w).setCell (.inr (by simp)) _⟩

set_option maxHeartbeats 1000000 in
set_option maxRecDepth 100000 in
theorem refis_some (g : Nat) (s : List UInt8) (i d : Nat) (e0 : Int) (c b : UInt8) (w : World) (hp : RA g s i e0 d w) (hc : s[i]? = some b) (_hl : s.length ≤ 1000000) :
    Calls Tryz.prog 99 #[.pointer (some ⟨g, 0, none⟩), .int .u8 c.toNat] w fun x w' => x = .returned (.bool (decide (b = c))) ∧ ∃ n, w' = w.drewN n := by
  obtain ⟨h0, h1, h2, h3, h4, h5, h6⟩ := hp.facts
  obtain ⟨hi, hci⟩ := List.getElem?_eq_some_iff.1 hc
  have hsz := size_mk s
  have hix := run_index_str (P := Tryz.prog) Tryz.underlying9 ⟨s.toArray⟩ i i rfl (by rw [hsz]; exact hi) b hci
  have q : ((b.toNat : Int) == (c.toNat : Int)) = decide (b = c) := byte_is' b c
  clear hp hc hci hsz
  obtain ⟨D, hD⟩ : ∃ D, decide (b = c) = D := ⟨_, rfl⟩
  rw [hD] at q ⊢
  clear hD
  go_enter Tryz.func99, Tryz.ntmps99
  go_wp2
  go_quiet (fail)
  go_wp2
  go_ret
  exact ⟨rfl, _, rfl⟩
set_option maxHeartbeats 1000000 in
set_option maxRecDepth 100000 in
theorem refis_none (g : Nat) (s : List UInt8) (i d : Nat) (e0 : Int) (c : UInt8) (w : World) (hp : RA g s i e0 d w) (hc : s[i]? = none) (hi : i ≤ s.length) (_hl : s.length ≤ 1000000) :
    Calls Tryz.prog 99 #[.pointer (some ⟨g, 0, none⟩), .int .u8 c.toNat] w fun x w' => x = .returned (.bool false) ∧ ∃ n, w' = w.drewN n := by
  obtain ⟨h0, h1, h2, h3, h4, h5, h6⟩ := hp.facts
  obtain rfl : i = s.length := by rw [List.getElem?_eq_none_iff] at hc; omega
  have hd : decide (s.length < s.length) = false := by simp
  clear hp hc
  go_enter Tryz.func99, Tryz.ntmps99
  go_wp2
  go_quiet (fail)
  go_wp2
  go_ret
  exact ⟨rfl, _, rfl⟩
/-- is: does this byte stand at the place? -/
theorem refis_any (g : Nat) (s : List UInt8) (i d : Nat) (e0 : Int) (c : UInt8) (w : World) (hp : RA g s i e0 d w) (hi : i ≤ s.length) (hl : s.length ≤ 1000000) :
    Calls Tryz.prog 99 #[.pointer (some ⟨g, 0, none⟩), .int .u8 c.toNat] w fun x w' => x = .returned (.bool (decide (s[i]? = some c))) ∧ ∃ n, w' = w.drewN n := by
  cases hc : s[i]? with
  | none =>
    have : decide ((none : Option UInt8) = some c) = false := by simp
    rw [this]
    exact refis_none g s i d e0 c w hp hc hi hl
  | some b =>
    have : decide (some b = some c) = decide (b = c) := by simp
    rw [this]
    exact refis_some g s i d e0 c b w hp hc hl

set_option maxHeartbeats 400000 in
theorem reftakes_any (g : Nat) (s : List UInt8) (i d : Nat) (c : UInt8) (w : World) (hp : RA g s i 0 d w) (hi : i ≤ s.length) (hl : s.length ≤ 1000000) :
    Calls Tryz.prog 98 #[.pointer (some ⟨g, 0, none⟩), .int .u8 c.toNat] w (RRd g s d w (wantP s c i) (fun _ e _ => e = .returned (.bool true)) (fun e => e = .returned (.bool false))) := by
  have C := Lib.hid (refis_any g s i d 0 c w hp hi hl)
  have HP := Lib.hid hp
  obtain ⟨h0, h1, h2, h3, h4, h5, h6⟩ := hp.facts
  clear hp
  by_cases h : s[i]? = some c
  · have hW : wantP s c i = .ok () (i + 1) := by unfold wantP; rw [if_pos h]
    rw [hW]
    have hi1 : i + 1 ≤ s.length := (List.getElem?_eq_some_iff.1 h).1
    rw [decide_eq_true h] at C
    clear h hW
    go_enter Tryz.func98, Tryz.ntmps98
    go_wp2_with fail
    refine C.out.mono ?_
    rintro x w' ⟨rfl, n, rfl⟩
    go_wp2
    go_ret
    exact ⟨rfl, (HP.out.drewN n).setAt _ _ rfl, hi1, ((Kept.refl _ w).drewN n).setCell (.inr (by simp)) _⟩
  · have hW : wantP s c i = .bad 40 i := by unfold wantP; rw [if_neg h]
    rw [hW]
    rw [decide_eq_false h] at C
    clear h hW
    go_enter Tryz.func98, Tryz.ntmps98
    go_wp2_with fail
    refine C.out.mono ?_
    rintro x w' ⟨rfl, n, rfl⟩
    go_wp2_with fail
    refine (refwrong_any _ _ _ _ _ _ _ (HP.out.drewN n)).mono ?_
    rintro x w' ⟨rfl, hp', hk⟩
    go_wp2
    go_ret
    exact ⟨rfl, ⟨d, hp'⟩, hi, ((Kept.refl _ w).drewN n).tr hk⟩

set_option maxHeartbeats 1000000 in
theorem refword_any (g : Nat) (s t : List UInt8) (i d : Nat) (w : World) (hp : RA g s i 0 d w) (hl : s.length ≤ 1000000) (ht : t.length ≤ 4000) (hi : i ≤ s.length) :
    Calls Tryz.prog 77 #[.pointer (some ⟨g, 0, none⟩), S t] w (RRd g s d w (wordP s t i) (fun _ e _ => e = .returned (.bool true)) (fun e => e = .returned (.bool false))) := by
  have hsz : (⟨t.toArray⟩ : ByteArray).size = t.length := size_mk t
  obtain ⟨R, hR⟩ : ∃ R, wordP s t i = R := ⟨_, rfl⟩
  have HR := Lib.hid hR
  rw [hR]
  clear hR
  go_enter Tryz.func77, Tryz.ntmps77
  go_wp2
  go_loopw [5] (fun k wr => ∃ j : Nat, k = .int .i64 j ∧ j ≤ t.length ∧ RA g s (i + j) 0 d wr ∧ i + j ≤ s.length ∧ Kept (· ≠ g) w wr ∧ Hid (wordP s (t.drop j) (i + j) = R)) (fun k _ => t.length - (intOf k).toNat)
  case atStart => exact ⟨0, rfl, Nat.zero_le _, hp, hi, Kept.refl _ _, HR⟩
  case round =>
    obtain ⟨j, rfl, hj, hpj, hij, hkj, hRj⟩ := hrel
    have HP := Lib.hid hpj
    clear hpj
    by_cases hlt : j < t.length
    · obtain ⟨c, hc⟩ : ∃ c, t[j]? = some c := ⟨t[j]'hlt, List.getElem?_eq_getElem hlt⟩
      have hd := drop_cons hc
      have hix := run_index_str (P := Tryz.prog) Tryz.underlying9 ⟨t.toArray⟩ j j rfl (by rw [hsz]; exact hlt) c (List.getElem?_eq_some_iff.1 hc).2
      rw [hd] at hRj
      have C := Lib.hid (reftakes_any g s (i + j) d c wr HP.out hij hl)
      clear hc hd
      by_cases h : s[i + j]? = some c
      · have hW : wantP s c (i + j) = .ok () (i + j + 1) := by unfold wantP; rw [if_pos h]
        have HN : Hid (wordP s (t.drop (j + 1)) (i + j + 1) = R) := Lib.hid (by rw [← hRj.out, wordP, if_pos h])
        rw [hW] at C
        clear hW h hRj
        go_wp2_with fail
        refine C.out.mono ?_
        rintro x w' ⟨rfl, hp', hi', hk'⟩
        have HP' := Lib.hid hp'
        clear hp'
        go_wp2
        go_roundw
        case rel => exact ⟨j + 1, by go_num, by omega, HP'.out, hi', hkj.tr hk', HN⟩
        case measure => simp [intOf]; omega
      · have hW : wantP s c (i + j) = .bad 40 (i + j) := by unfold wantP; rw [if_neg h]
        have HN : Hid (R = .bad 40 (i + j)) := Lib.hid (by rw [← hRj.out, wordP, if_neg h])
        rw [hW] at C
        clear hW h hRj
        go_wp2_with fail
        refine C.out.mono ?_
        rintro x w' ⟨rfl, hr, hi', hk'⟩
        go_wp2
        go_ret
        exact RRd.bad HN.out rfl hr hi' hkj hk'
    · have HN : Hid (R = .ok () (i + j)) := Lib.hid (by rw [← hRj.out, List.drop_of_length_le (by omega)]; rfl)
      go_wp2
      go_ret
      rw [HN.out]
      exact ⟨rfl, HP.out, hij, hkj⟩
end Go.Proofs.YtmajpambfblhnaaGreatDoor
