/- Walks of the reference's reader (layer 4), first part: the small methods. -/
import Derived.Test.YtmajpambfblhnaaGreatDoorJoPA
import Derived.Test.YtmajpambfblhnaaGreatDoorJoPB
namespace Go.Proofs.YtmajpambfblhnaaGreatDoor
open Go.RowKit Jo

/-- The reference's reader at block g: its text, its place, what is wrong, how deep it stands. -/
def RA (g : Nat) (s : List UInt8) (i : Nat) (e : Int) (d : Nat) (w : World) : Prop := w.heap[g]? = some (.cells #[S s, .int .i64 i, .int .i64 e, .int .i64 d] 104 (0, 0))
theorem RA.lt {g : Nat} {s : List UInt8} {i : Nat} {e : Int} {d : Nat} {w : World} (h : RA g s i e d w) : g < w.heap.size := (Array.getElem?_eq_some_iff.1 h).1
theorem RA.facts {g : Nat} {s : List UInt8} {i : Nat} {e : Int} {d : Nat} {w : World} (h : RA g s i e d w) :
    w.cell? ⟨g, 0, none⟩ = some (S s) ∧ w.cell? ⟨g, 1, none⟩ = some (.int .i64 i) ∧ w.cell? ⟨g, 2, none⟩ = some (.int .i64 e) ∧ w.cell? ⟨g, 3, none⟩ = some (.int .i64 d) ∧ w.frozen? ⟨g, 1, none⟩ = false ∧ w.frozen? ⟨g, 2, none⟩ = false ∧ w.frozen? ⟨g, 3, none⟩ = false := by
  unfold RA at h
  refine ⟨?_, ?_, ?_, ?_, frozen_row h 1, frozen_row h 2, frozen_row h 3⟩ <;> rw [cell_of_row w g _ _ _ (0, 0) h] <;> rfl
theorem RA.kept {g : Nat} {s : List UInt8} {i : Nat} {e : Int} {d : Nat} {w w' : World} {ok : Nat → Prop} (h : RA g s i e d w) (hk : Kept ok w w') (ho : ok g) : RA g s i e d w' := (hk.block g h.lt ho).trans h
theorem RA.drewN {g : Nat} {s : List UInt8} {i : Nat} {e : Int} {d : Nat} {w : World} (h : RA g s i e d w) (n : Nat) : RA g s i e d (w.drewN n) := h
theorem RA.setAt {g : Nat} {s : List UInt8} {i : Nat} {e : Int} {d : Nat} {w : World} (h : RA g s i e d w) (j : Nat) (v : Value) (hv : v = .int .i64 j) : RA g s j e d (w.setCell ⟨g, 1, none⟩ v) := by
  subst hv; exact (setCell_heap h _).trans rfl
theorem RA.setE {g : Nat} {s : List UInt8} {i : Nat} {e : Int} {d : Nat} {w : World} (h : RA g s i e d w) (x : Int) : RA g s i x d (w.setCell ⟨g, 2, none⟩ (.int .i64 x)) := (setCell_heap h _).trans rfl
theorem RA.setDeep {g : Nat} {s : List UInt8} {i : Nat} {e : Int} {d : Nat} {w : World} (h : RA g s i e d w) (j : Nat) (v : Value) (hv : v = .int .i64 j) : RA g s i e j (w.setCell ⟨g, 3, none⟩ v) := by
  subst hv; exact (setCell_heap h _).trans rfl

/-- What a method of the reference's reader leaves: what the plain reader says; where something is wrong: F of what comes back, the error and its place in the reader's block. -/
def RRd {α : Type} (g : Nat) (s : List UInt8) (d : Nat) (w : World) (r : PR α) (Q : α → Ending → World → Prop) (F : Ending → Prop) (e : Ending) (w' : World) : Prop :=
  match r with
  | .ok a i => Q a e w' ∧ RA g s i 0 d w' ∧ i ≤ s.length ∧ Kept (· ≠ g) w w'
  | .bad x i => F e ∧ (∃ d', RA g s i x d' w') ∧ i ≤ s.length ∧ Kept (· ≠ g) w w'
theorem RRd.bad {α : Type} {g : Nat} {s : List UInt8} {d : Nat} {w wm : World} {R : PR α} {Q : α → Ending → World → Prop} {F : Ending → Prop} {x : Int} {i : Nat} {e : Ending} {w' : World} (hR : R = .bad x i) (hF : F e) (hr : ∃ d', RA g s i x d' w') (hi : i ≤ s.length) (hk : Kept (· ≠ g) w wm) (hk' : Kept (· ≠ g) wm w') :
    RRd g s d w R Q F e w' := by rw [hR]; exact ⟨hF, hr, hi, hk.tr hk'⟩

set_option maxHeartbeats 400000 in
theorem refwrong_any (g : Nat) (s : List UInt8) (i d : Nat) (e0 e : Int) (w : World) (hp : RA g s i e0 d w) :
    Calls Tryz.prog 82 #[.pointer (some ⟨g, 0, none⟩), .int .i64 e] w fun x w' => x = .returned (.bool false) ∧ RA g s i e d w' ∧ Kept (· ≠ g) w w' := by
  obtain ⟨h0, h1, h2, h3, h4, h5, h6⟩ := hp.facts
  have HP := Lib.hid hp
  clear hp
  go_enter Tryz.func82, Tryz.ntmps82
  go_wp2
  go_ret
  exact ⟨rfl, HP.out.setE e, (Kept.refl _ w).setCell (.inr (by simp)) _⟩

set_option maxHeartbeats 1000000 in
set_option maxRecDepth 100000 in
theorem refis_some (g : Nat) (s : List UInt8) (i d : Nat) (e0 : Int) (c b : UInt8) (w : World) (hp : RA g s i e0 d w) (hc : s[i]? = some b) (_hl : s.length ≤ 1000000) :
    Calls Tryz.prog 99 #[.pointer (some ⟨g, 0, none⟩), .int .u8 c.toNat] w fun x w' => x = .returned (.bool (decide (b = c))) ∧ ∃ n, w' = w.drewN n := by
  obtain ⟨h0, h1, h2, h3, h4, h5, h6⟩ := hp.facts
  obtain ⟨hi, hci⟩ := List.getElem?_eq_some_iff.1 hc
  have hsz := size_mk s
  have hix := run_index_str (P := Tryz.prog) Tryz.underlying9 ⟨s.toArray⟩ i i rfl (by rw [hsz]; exact hi) b hci
  have q : ((b.toNat : Int) == (c.toNat : Int)) = decide (b = c) := byte_is' b c
  clear hp hc hci hsz
  obtain ⟨D, hD⟩ : ∃ D, decide (b = c) = D := ⟨_, rfl⟩
  rw [hD] at q ⊢
  clear hD
  go_enter Tryz.func99, Tryz.ntmps99
  go_wp2
  go_quiet (fail)
  go_wp2
  go_ret
  exact ⟨rfl, _, rfl⟩
set_option maxHeartbeats 1000000 in
set_option maxRecDepth 100000 in
theorem refis_none (g : Nat) (s : List UInt8) (i d : Nat) (e0 : Int) (c : UInt8) (w : World) (hp : RA g s i e0 d w) (hc : s[i]? = none) (hi : i ≤ s.length) (_hl : s.length ≤ 1000000) :
    Calls Tryz.prog 99 #[.pointer (some ⟨g, 0, none⟩), .int .u8 c.toNat] w fun x w' => x = .returned (.bool false) ∧ ∃ n, w' = w.drewN n := by
  obtain ⟨h0, h1, h2, h3, h4, h5, h6⟩ := hp.facts
  obtain rfl : i = s.length := by rw [List.getElem?_eq_none_iff] at hc; omega
  have hd : decide (s.length < s.length) = false := by simp
  clear hp hc
  go_enter Tryz.func99, Tryz.ntmps99
  go_wp2
  go_quiet (fail)
  go_wp2
  go_ret
  exact ⟨rfl, _, rfl⟩
/-- is: does this byte stand at the place? -/
theorem refis_any (g : Nat) (s : List UInt8) (i d : Nat) (e0 : Int) (c : UInt8) (w : World) (hp : RA g s i e0 d w) (hi : i ≤ s.length) (hl : s.length ≤ 1000000) :
    Calls Tryz.prog 99 #[.pointer (some ⟨g, 0, none⟩), .int .u8 c.toNat] w fun x w' => x = .returned (.bool (decide (s[i]? = some c))) ∧ ∃ n, w' = w.drewN n := by
  cases hc : s[i]? with
  | none =>
    have : decide ((none : Option UInt8) = some c) = false := by simp
    rw [this]
    exact refis_none g s i d e0 c w hp hc hi hl
  | some b =>
    have : decide (some b = some c) = decide (b = c) := by simp
    rw [this]
    exact refis_some g s i d e0 c b w hp hc hl

set_option maxHeartbeats 400000 in
theorem reftakes_any (g : Nat) (s : List UInt8) (i d : Nat) (c : UInt8) (w : World) (hp : RA g s i 0 d w) (hi : i ≤ s.length) (hl : s.length ≤ 1000000) :
    Calls Tryz.prog 98 #[.pointer (some ⟨g, 0, none⟩), .int .u8 c.toNat] w (RRd g s d w (wantP s c i) (fun _ e _ => e = .returned (.bool true)) (fun e => e = .returned (.bool false))) := by
  have C := Lib.hid (refis_any g s i d 0 c w hp hi hl)
  have HP := Lib.hid hp
  obtain ⟨h0, h1, h2, h3, h4, h5, h6⟩ := hp.facts
  clear hp
  by_cases h : s[i]? = some c
  · have hW : wantP s c i = .ok () (i + 1) := by unfold wantP; rw [if_pos h]
    rw [hW]
    have hi1 : i + 1 ≤ s.length := (List.getElem?_eq_some_iff.1 h).1
    rw [decide_eq_true h] at C
    clear h hW
    go_enter Tryz.func98, Tryz.ntmps98
    go_wp2_with fail
    refine C.out.mono ?_
    rintro x w' ⟨rfl, n, rfl⟩
    go_wp2
    go_ret
    exact ⟨rfl, (HP.out.drewN n).setAt _ _ rfl, hi1, ((Kept.refl _ w).drewN n).setCell (.inr (by simp)) _⟩
  · have hW : wantP s c i = .bad 40 i := by unfold wantP; rw [if_neg h]
    rw [hW]
    rw [decide_eq_false h] at C
    clear h hW
    go_enter Tryz.func98, Tryz.ntmps98
    go_wp2_with fail
    refine C.out.mono ?_
    rintro x w' ⟨rfl, n, rfl⟩
    go_wp2_with fail
    refine (refwrong_any _ _ _ _ _ _ _ (HP.out.drewN n)).mono ?_
    rintro x w' ⟨rfl, hp', hk⟩
    go_wp2
    go_ret
    exact ⟨rfl, ⟨d, hp'⟩, hi, ((Kept.refl _ w).drewN n).tr hk⟩

set_option maxHeartbeats 1000000 in
theorem refword_any (g : Nat) (s t : List UInt8) (i d : Nat) (w : World) (hp : RA g s i 0 d w) (hl : s.length ≤ 1000000) (ht : t.length ≤ 4000) (hi : i ≤ s.length) :
    Calls Tryz.prog 77 #[.pointer (some ⟨g, 0, none⟩), S t] w (RRd g s d w (wordP s t i) (fun _ e _ => e = .returned (.bool true)) (fun e => e = .returned (.bool false))) := by
  have hsz : (⟨t.toArray⟩ : ByteArray).size = t.length := size_mk t
  obtain ⟨R, hR⟩ : ∃ R, wordP s t i = R := ⟨_, rfl⟩
  have HR := Lib.hid hR
  rw [hR]
  clear hR
  go_enter Tryz.func77, Tryz.ntmps77
  go_wp2
  go_loopw [5] (fun k wr => ∃ j : Nat, k = .int .i64 j ∧ j ≤ t.length ∧ RA g s (i + j) 0 d wr ∧ i + j ≤ s.length ∧ Kept (· ≠ g) w wr ∧ Hid (wordP s (t.drop j) (i + j) = R)) (fun k _ => t.length - (intOf k).toNat)
  case atStart => exact ⟨0, rfl, Nat.zero_le _, hp, hi, Kept.refl _ _, HR⟩
  case round =>
    obtain ⟨j, rfl, hj, hpj, hij, hkj, hRj⟩ := hrel
    have HP := Lib.hid hpj
    clear hpj
    by_cases hlt : j < t.length
    · obtain ⟨c, hc⟩ : ∃ c, t[j]? = some c := ⟨t[j]'hlt, List.getElem?_eq_getElem hlt⟩
      have hd := drop_cons hc
      have hix := run_index_str (P := Tryz.prog) Tryz.underlying9 ⟨t.toArray⟩ j j rfl (by rw [hsz]; exact hlt) c (List.getElem?_eq_some_iff.1 hc).2
      rw [hd] at hRj
      have C := Lib.hid (reftakes_any g s (i + j) d c wr HP.out hij hl)
      clear hc hd
      by_cases h : s[i + j]? = some c
      · have hW : wantP s c (i + j) = .ok () (i + j + 1) := by unfold wantP; rw [if_pos h]
        have HN : Hid (wordP s (t.drop (j + 1)) (i + j + 1) = R) := Lib.hid (by rw [← hRj.out, wordP, if_pos h])
        rw [hW] at C
        clear hW h hRj
        go_wp2_with fail
        refine C.out.mono ?_
        rintro x w' ⟨rfl, hp', hi', hk'⟩
        have HP' := Lib.hid hp'
        clear hp'
        go_wp2
        go_roundw
        case rel => exact ⟨j + 1, by go_num, by omega, HP'.out, hi', hkj.tr hk', HN⟩
        case measure => simp [intOf]; omega
      · have hW : wantP s c (i + j) = .bad 40 (i + j) := by unfold wantP; rw [if_neg h]
        have HN : Hid (R = .bad 40 (i + j)) := Lib.hid (by rw [← hRj.out, wordP, if_neg h])
        rw [hW] at C
        clear hW h hRj
        go_wp2_with fail
        refine C.out.mono ?_
        rintro x w' ⟨rfl, hr, hi', hk'⟩
        go_wp2
        go_ret
        exact RRd.bad HN.out rfl hr hi' hkj hk'
    · have HN : Hid (R = .ok () (i + j)) := Lib.hid (by rw [← hRj.out, List.drop_of_length_le (by omega)]; rfl)
      go_wp2
      go_ret
      rw [HN.out]
      exact ⟨rfl, HP.out, hij, hkj⟩
end Go.Proofs.YtmajpambfblhnaaGreatDoor

namespace Go.Proofs.YtmajpambfblhnaaGreatDoor
open Go.RowKit Jo

set_option maxHeartbeats 4000000 in
set_option maxRecDepth 100000 in
theorem refblanks_any (g : Nat) (s : List UInt8) (i d : Nat) (w : World) (hp : RA g s i 0 d w) (hl : s.length ≤ 1000000) (hi : i ≤ s.length) :
    Calls Tryz.prog 58 #[.pointer (some ⟨g, 0, none⟩)] w fun e w' => e = .returned (.tuple #[]) ∧ RA g s (bl s i) 0 d w' ∧ bl s i ≤ s.length ∧ Kept (· ≠ g) w w' := by
  have hsz : (⟨s.toArray⟩ : ByteArray).size = s.length := size_mk s
  obtain ⟨R, hR⟩ : ∃ R, bl s i = R := ⟨_, rfl⟩
  have HR := Lib.hid hR
  rw [hR]
  clear hR
  go_enter Tryz.func58, Tryz.ntmps58
  go_wp2
  go_loopg [59] (s.length - i) (fun m _ wr => ∃ j : Nat, m = s.length - j ∧ j ≤ s.length ∧ RA g s j 0 d wr ∧ Kept (· ≠ g) w wr ∧ Hid (bl s j = R))
  case atStart => exact ⟨i, rfl, hi, hp, Kept.refl _ _, HR⟩
  case round =>
    obtain ⟨j, rfl, hj, hpj, hkj, hRj⟩ := hrel
    obtain ⟨h0, h1, h2, h3, h4, h5, h6⟩ := hpj.facts
    have HP := Lib.hid hpj
    clear hpj
    by_cases hlt : j < s.length
    · obtain ⟨c, hc⟩ : ∃ c, s[j]? = some c := ⟨s[j]'hlt, List.getElem?_eq_getElem hlt⟩
      have hix := run_index_str (P := Tryz.prog) Tryz.underlying9 ⟨s.toArray⟩ j j rfl (by rw [hsz]; exact hlt) c (List.getElem?_eq_some_iff.1 hc).2
      have HC : Hid (s[j]? = some c) := Lib.hid hc
      have q32 := byte_is c 32 32 rfl
      have q9 := byte_is c 9 9 rfl
      have q10 := byte_is c 10 10 rfl
      have q13 := byte_is c 13 13 rfl
      clear hc
      by_cases hbl : c = 32 ∨ c = 9 ∨ c = 10 ∨ c = 13
      · have HN : Hid (bl s (j + 1) = R) := Lib.hid ((bl_yes s j c HC.out (by rcases hbl with rfl | rfl | rfl | rfl <;> rfl)).symm.trans hRj.out)
        clear hRj HC
        rcases hbl with e | e | e | e
        all_goals
          rw [e] at q32 q9 q10 q13 hix
          simp only [decide_true] at q32 q9 q10 q13
          go_wp2
          go_quiet (fail)
          go_wp2
          go_roundg (s.length - (j + 1))
          case rel => exact ⟨j + 1, rfl, by omega, (HP.out.drewN _).setAt _ _ rfl, (hkj.drewN _).setCell (.inr (by simp)) _, HN⟩
          case measure => omega
      · have HN : Hid (R = j) := Lib.hid (hRj.out.symm.trans (bl_no s j c HC.out (by unfold isBl; simp; refine ⟨⟨⟨?_, ?_⟩, ?_⟩, ?_⟩ <;> intro e <;> exact hbl (by simp [e]))))
        rw [decide_eq_false (fun e => hbl (.inl e))] at q32
        rw [decide_eq_false (fun e => hbl (.inr (.inl e)))] at q9
        rw [decide_eq_false (fun e => hbl (.inr (.inr (.inl e))))] at q10
        rw [decide_eq_false (fun e => hbl (.inr (.inr (.inr e))))] at q13
        clear hbl hRj HC
        go_wp2
        go_quiet (fail)
        go_wp2
        go_end0
        rw [HN.out]
        exact ⟨rfl, HP.out.drewN _, hj, hkj.drewN _⟩
    · have HN : Hid (R = j) := Lib.hid (hRj.out.symm.trans (bl_end s j (by omega)))
      have hd : decide (j < s.length) = false := by simpa using hlt
      go_wp2
      go_quiet (fail)
      go_wp2
      go_end0
      rw [HN.out]
      exact ⟨rfl, HP.out.drewN _, hj, hkj.drewN _⟩

theorem ret_nib {a b : Int} (h : a = b) : Ending.returned (.int .i64 a) = .returned (.int .i64 b) := by rw [h]
set_option maxHeartbeats 4000000 in
set_option maxRecDepth 100000 in
theorem nibble_any (c : UInt8) (w : World) : Calls Tryz.prog 141 #[.int .u8 c.toNat] w fun e w' => e = .returned (.int .i64 (hexZ c)) ∧ w' = w := by
  obtain ⟨z, HZ, hcls⟩ := hex_class c c.toNat rfl
  rw [HZ.out]
  clear HZ
  rcases hcls with ⟨a1, a2, a3, a4⟩ | ⟨a1, a2, a3, a4⟩ | ⟨a1, a2, a3, a4⟩ | ⟨a1, a2, a3, a4⟩ | ⟨a1, a2, a3, a4⟩ | ⟨a1, a2, a3, a4⟩ | ⟨a1, a2, a3, a4⟩
  all_goals
    go_enter Tryz.func141, Tryz.ntmps141
    go_wp2
    go_ret
    exact ⟨ret_int (by omega), rfl⟩

/-- Of UTF-8's table, as the reference has it. -/
def folZ (c : Int) : Int × Int × Int := if c < 128 then (0, 0, 0) else if (behindZ c).2.2 = 0 then (-1, 0, 0) else ((behindZ c).2.2, (behindZ c).1, (behindZ c).2.1)
theorem ret_fol {R : Int × Int × Int} {a b m : Int} (h : R = (a, b, m)) : Ending.returned (.tuple #[.int .i64 a, .int .i64 b, .int .i64 m]) = Ending.returned (.tuple #[.int .i64 R.1, .int .i64 R.2.1, .int .i64 R.2.2]) := by rw [h]
theorem fol_a : ∀ x : Fin 256, x.val < 128 → folZ x.val = (0, 0, 0) := by decide +kernel
theorem fol_b : ∀ x : Fin 256, 128 ≤ x.val ∧ x.val < 194 → folZ x.val = (-1, 0, 0) := by decide +kernel
theorem fol_c : ∀ x : Fin 256, 194 ≤ x.val ∧ x.val < 224 → folZ x.val = (1, 128, 191) := by decide +kernel
theorem fol_d : ∀ x : Fin 256, 224 < x.val ∧ x.val < 240 ∧ x.val ≠ 237 → folZ x.val = (2, 128, 191) := by decide +kernel
theorem fol_e : ∀ x : Fin 256, 240 < x.val ∧ x.val < 244 → folZ x.val = (3, 128, 191) := by decide +kernel
theorem fol_f : ∀ x : Fin 256, 244 < x.val → folZ x.val = (-1, 0, 0) := by decide +kernel
theorem fol_at {c : Int} (h0 : 0 ≤ c) (h1 : c ≤ 255) {r : Int × Int × Int} {p : Nat → Prop} (h : ∀ x : Fin 256, p x.val → folZ x.val = r) (hp : p c.toNat) : folZ c = r := by
  have := h ⟨c.toNat, by omega⟩ hp
  simpa [Int.toNat_of_nonneg h0] using this
set_option maxHeartbeats 4000000 in
theorem follows_any (c : Int) (h0 : 0 ≤ c) (h1 : c ≤ 255) (w : World) :
    Calls Tryz.prog 94 #[.int .i64 c] w fun e w' => e = .returned (.tuple #[.int .i64 (folZ c).1, .int .i64 (folZ c).2.1, .int .i64 (folZ c).2.2]) ∧ w' = w := by
  by_cases hq : c = 224 ∨ c = 237 ∨ c = 240 ∨ c = 244
  · rcases hq with rfl | rfl | rfl | rfl
    all_goals
      go_enter Tryz.func94, Tryz.ntmps94
      go_wp2
      go_ret3
      exact ⟨rfl, rfl⟩
  · have e1 : (c == 224) = false := by simp; omega
    have e2 : (c == 237) = false := by simp; omega
    have e3 : (c == 240) = false := by simp; omega
    have e4 : (c == 244) = false := by simp; omega
    have hcls : (c < 128 ∧ folZ c = (0, 0, 0)) ∨ ((128 ≤ c ∧ c < 194) ∧ folZ c = (-1, 0, 0)) ∨ ((194 ≤ c ∧ c < 224) ∧ folZ c = (1, 128, 191)) ∨ ((224 ≤ c ∧ c < 240) ∧ folZ c = (2, 128, 191)) ∨ ((240 ≤ c ∧ c < 244) ∧ folZ c = (3, 128, 191)) ∨ (244 < c ∧ folZ c = (-1, 0, 0)) := by
      simp at e1 e2 e3 e4
      rcases (by omega : c < 128 ∨ (128 ≤ c ∧ c < 194) ∨ (194 ≤ c ∧ c < 224) ∨ (224 ≤ c ∧ c < 240) ∨ (240 ≤ c ∧ c < 244) ∨ 244 < c) with h | h | h | h | h | h
      · exact .inl ⟨h, fol_at (p := fun n => n < 128) h0 h1 fol_a (by show c.toNat < 128; omega)⟩
      · exact .inr (.inl ⟨h, fol_at (p := fun n => 128 ≤ n ∧ n < 194) h0 h1 fol_b (by show 128 ≤ c.toNat ∧ c.toNat < 194; omega)⟩)
      · exact .inr (.inr (.inl ⟨h, fol_at (p := fun n => 194 ≤ n ∧ n < 224) h0 h1 fol_c (by show 194 ≤ c.toNat ∧ c.toNat < 224; omega)⟩))
      · exact .inr (.inr (.inr (.inl ⟨h, fol_at (p := fun n => 224 < n ∧ n < 240 ∧ n ≠ 237) h0 h1 fol_d (by show 224 < c.toNat ∧ c.toNat < 240 ∧ c.toNat ≠ 237; omega)⟩)))
      · exact .inr (.inr (.inr (.inr (.inl ⟨h, fol_at (p := fun n => 240 < n ∧ n < 244) h0 h1 fol_e (by show 240 < c.toNat ∧ c.toNat < 244; omega)⟩))))
      · exact .inr (.inr (.inr (.inr (.inr ⟨h, fol_at (p := fun n => 244 < n) h0 h1 fol_f (by show 244 < c.toNat; omega)⟩))))
    obtain ⟨z, HZ⟩ : ∃ z, folZ c = z := ⟨_, rfl⟩
    rw [HZ] at hcls ⊢
    clear HZ
    rcases hcls with ⟨h, e⟩ | ⟨⟨h, h'⟩, e⟩ | ⟨⟨h, h'⟩, e⟩ | ⟨⟨h, h'⟩, e⟩ | ⟨⟨h, h'⟩, e⟩ | ⟨h, e⟩
    all_goals
      clear hq
      rw [e]
      clear e
      go_enter Tryz.func94, Tryz.ntmps94
      go_wp2
      go_ret3
      exact ⟨rfl, rfl⟩
end Go.Proofs.YtmajpambfblhnaaGreatDoor
