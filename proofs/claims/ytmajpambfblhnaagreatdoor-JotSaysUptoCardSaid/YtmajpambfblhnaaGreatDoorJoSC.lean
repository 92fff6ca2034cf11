/- Layer 4 in plain Lean: what a value may say, and that it is read as that value. No program in sight. -/
import Derived.Test.YtmajpambfblhnaaGreatDoorJoSA
import Derived.Test.YtmajpambfblhnaaGreatDoorJoPlainC
namespace Go.Proofs.YtmajpambfblhnaaGreatDoor
open Go.RowKit Jo

mutual
/-- A value between blanks. -/
inductive SayJ : J → List UInt8 → Prop
  | mk (x : J) (a s b : List UInt8) (ha : Bls a) (h : SayC x s) (hb : Bls b) : SayJ x (a ++ (s ++ b))
/-- A value as it may stand. -/
inductive SayC : J → List UInt8 → Prop
  | null : SayC J.null [110, 117, 108, 108]
  | fls : SayC J.fls [102, 97, 108, 115, 101]
  | tru : SayC J.tru [116, 114, 117, 101]
  | nr (n : Int) : SayC (J.nr n) (Lib.itoa n)
  | nr0 : SayC (J.nr 0) [45, 48]
  | tx (t o : List UInt8) (h : TxS t o) : SayC (J.tx t) (34 :: (o ++ [34]))
  | list (xs : List J) (T : Nat → List UInt8) (bl : List UInt8) (h : ∀ (j : Nat) x, xs[j]? = some x → SayJ x (T j)) (hb : Bls bl) (hn : xs ≠ [] → bl = []) : SayC (J.list xs) (91 :: (joinC ((List.range xs.length).map T) ++ (bl ++ [93])))
  | obj (ms ms' : List (List UInt8 × J)) (A O B T : Nat → List UInt8) (bl : List UInt8) (hp : ms'.Perm ms) (ha : ∀ j, Bls (A j)) (ho : ∀ (j : Nat) m, ms'[j]? = some m → TxS m.1 (O j)) (hb : ∀ j, Bls (B j)) (h : ∀ (j : Nat) m, ms'[j]? = some m → SayJ m.2 (T j)) (hbl : Bls bl) (hn : ms ≠ [] → bl = []) :
      SayC (J.obj ms) (123 :: (joinC ((List.range ms.length).map fun j => A j ++ (34 :: (O j ++ (34 :: (B j ++ (58 :: T j)))))) ++ (bl ++ [125])))
end

theorem Bls.app {a b : List UInt8} (ha : Bls a) (hb : Bls b) : Bls (a ++ b) := fun c hc => (List.mem_append.1 hc).elim (ha c) (hb c)
/-- Blanks are passed over. -/
theorem bl_over (s : List UInt8) : ∀ (a r : List UInt8) (i : Nat), Bls a → s.drop i = a ++ r → bl s i = bl s (i + a.length) := by
  intro a
  induction a with
  | nil => intro r i _ _; simp
  | cons c a ih =>
    intro r i hb h
    have hc : s[i]? = some c := by
      have := congrArg (fun l => l[0]?) h
      simpa using this
    have hd : s.drop (i + 1) = a ++ r := by
      have := congrArg (List.drop 1) h
      rw [List.drop_drop] at this
      simpa using this
    rw [bl_yes s i c hc (hb c (by simp)), ih r (i + 1) (fun x hx => hb x (by simp [hx])) hd]
    congr 1
    simp only [List.length_cons]
    omega
/-- A text at a place, and what is behind it. -/
theorem drop_step {s a r : List UInt8} {i : Nat} (h : s.drop i = a ++ r) : s.drop (i + a.length) = r := by
  have := congrArg (List.drop a.length) h
  rw [List.drop_drop] at this
  simpa using this
end Go.Proofs.YtmajpambfblhnaaGreatDoor

namespace Go.Proofs.YtmajpambfblhnaaGreatDoor
open Go.RowKit Jo

theorem byte_of {n : Int} {x : UInt8} (h : n = (x.toNat : Int)) : n.toNat.toUInt8 = x := by
  subst h
  simp
theorem follow_one {lo hi : UInt8} {r : List UInt8} (h : followW 1 lo hi r = true) (hl : r.length = 1) : ∃ x, r = [x] ∧ lo.toNat ≤ x.toNat ∧ x.toNat ≤ hi.toNat := by
  match r, hl with
  | [x], _ =>
    simp [followW, UInt8.le_iff_toNat_le] at h
    exact ⟨x, rfl, h.1, h.2⟩
theorem follow_two {lo hi : UInt8} {r : List UInt8} (h : followW 2 lo hi r = true) (hl : r.length = 2) : ∃ x y, r = [x, y] ∧ lo.toNat ≤ x.toNat ∧ x.toNat ≤ hi.toNat ∧ 128 ≤ y.toNat ∧ y.toNat ≤ 191 := by
  match r, hl with
  | [x, y], _ =>
    simp [followW, UInt8.le_iff_toNat_le] at h
    exact ⟨x, y, rfl, h.1.1, h.1.2, h.2.1, h.2.2⟩
theorem follow_three {lo hi : UInt8} {r : List UInt8} (h : followW 3 lo hi r = true) (hl : r.length = 3) : ∃ x y z, r = [x, y, z] ∧ lo.toNat ≤ x.toNat ∧ x.toNat ≤ hi.toNat ∧ 128 ≤ y.toNat ∧ y.toNat ≤ 191 ∧ 128 ≤ z.toNat ∧ z.toNat ≤ 191 := by
  match r, hl with
  | [x, y, z], _ =>
    simp [followW, UInt8.le_iff_toNat_le] at h
    exact ⟨x, y, z, rfl, h.1.1, h.1.2, h.2.1.1, h.2.1.2, h.2.2.1, h.2.2.2⟩
/-- A letter and its number. -/
theorem letter_code {c : UInt8} {r : List UInt8} (h : Letter (c :: r)) : (codeAt c r < 55296 ∨ (57343 < codeAt c r ∧ codeAt c r ≤ 1114111)) ∧ Lib.encodeRune (codeAt c r : Int) = c :: r ∧ ((r = [] ∧ codeAt c r = c.toNat ∧ c.toNat < 128) ∨ (128 ≤ c.toNat ∧ 128 ≤ codeAt c r)) := by
  have hct := c.toNat_lt
  have hN := letW_fst h
  unfold Letter at h
  rw [letW_cons] at h
  simp only [List.length_cons] at hN
  have hbn := behind_nat c
  split at h
  · rename_i h1
    rw [UInt8.lt_iff_toNat_lt] at h1
    have k128 : (128 : UInt8).toNat = 128 := rfl
    obtain rfl : r = [] := by
      have := Option.some.inj h
      simp only [List.length_cons] at this
      exact List.eq_nil_of_length_eq_zero (by omega)
    have e : codeAt c [] = c.toNat := by
      unfold codeAt fstF fstC
      rw [if_neg (by omega), if_neg (by omega), if_neg (by omega)]
      simp
    rw [e]
    exact ⟨.inl (by omega), enc_low c (by omega), .inl ⟨rfl, rfl, by omega⟩⟩
  · rename_i h1
    have h1' : 128 ≤ c.toNat := by
      rw [UInt8.lt_iff_toNat_lt] at h1
      have k128 : (128 : UInt8).toNat = 128 := rfl
      omega
    split at h
    · cases h
    · rename_i h2
      split at h
      · rename_i h3
        have hm := Option.some.inj h
        simp only [List.length_cons] at hm
        have hc2 : (194 ≤ c.toNat ∧ c.toNat ≤ 223) ∨ (224 ≤ c.toNat ∧ c.toNat ≤ 239) ∨ (240 ≤ c.toNat ∧ c.toNat ≤ 244) := by
          rw [hbn] at h2
          simp only at h2
          by_cases a1 : 194 ≤ c.toNat ∧ c.toNat ≤ 223
          · exact .inl a1
          · by_cases a2 : 224 ≤ c.toNat ∧ c.toNat ≤ 239
            · exact .inr (.inl a2)
            · by_cases a3 : 240 ≤ c.toNat ∧ c.toNat ≤ 244
              · exact .inr (.inr a3)
              · rw [if_neg a1, if_neg a2, if_neg a3] at h2
                exact absurd rfl h2
        rcases hc2 with a | a | a
        · have e2 : (behindP c).2.2 = 1 := by rw [hbn]; simp only; rw [if_pos a]
          have e1 : (behindP c).1 = 128 := by rw [hbn]; simp only; rw [if_neg (by omega), if_neg (by omega)]
          have e3 : (behindP c).2.1 = 191 := by rw [hbn]; simp only; rw [if_neg (by omega), if_neg (by omega)]
          rw [e2, e1, e3] at h3
          obtain ⟨x, rfl, b1, b2⟩ := follow_one h3 (by omega)
          have k1 : (128 : UInt8).toNat = 128 := rfl
          have k2 : (191 : UInt8).toNat = 191 := rfl
          have e : codeAt c [x] = 64 * (c.toNat % 32) + x.toNat % 64 := by
            unfold codeAt
            rw [hN]
            unfold fstF fstC
            rw [if_neg (by omega), if_neg (by omega), if_pos (by omega)]
            simp
          rw [e]
          refine ⟨.inl (by omega), ?_, .inr ⟨h1', by omega⟩⟩
          unfold Lib.encodeRune
          rw [Lib.encodeRuneZ_two (by omega) (by omega)]
          simp only [List.map_cons, List.map_nil]
          rw [byte_of (x := c) (by omega), byte_of (x := x) (by omega)]
        · have e2 : (behindP c).2.2 = 2 := by rw [hbn]; simp only; rw [if_neg (by omega), if_pos a]
          rw [e2] at h3
          obtain ⟨x, y, rfl, b1, b2, b3, b4⟩ := follow_two h3 (by omega)
          have hlo : (c.toNat = 224 → 160 ≤ x.toNat) ∧ 128 ≤ x.toNat ∧ x.toNat ≤ 191 ∧ (c.toNat = 237 → x.toNat ≤ 159) := by
            rw [hbn] at b1 b2
            simp only at b1 b2
            have k1 : (128 : UInt8).toNat = 128 := rfl
            have k2 : (191 : UInt8).toNat = 191 := rfl
            have k3 : (160 : UInt8).toNat = 160 := rfl
            have k4 : (159 : UInt8).toNat = 159 := rfl
            by_cases q : c.toNat = 224
            · rw [if_pos q] at b1
              rw [if_neg (by omega), if_neg (by omega)] at b2
              omega
            · rw [if_neg q, if_neg (by omega)] at b1
              by_cases q2 : c.toNat = 237
              · rw [if_pos q2] at b2
                omega
              · rw [if_neg q2, if_neg (by omega)] at b2
                omega
          have e : codeAt c [x, y] = 64 * (64 * (c.toNat % 16) + x.toNat % 64) + y.toNat % 64 := by
            unfold codeAt
            rw [hN]
            unfold fstF fstC
            rw [if_neg (by omega), if_pos (by omega)]
            simp
          rw [e]
          refine ⟨by omega, ?_, .inr ⟨h1', by omega⟩⟩
          unfold Lib.encodeRune
          rw [Lib.encodeRuneZ_three (by omega)]
          simp only [List.map_cons, List.map_nil]
          rw [byte_of (x := c) (by omega), byte_of (x := x) (by omega), byte_of (x := y) (by omega)]
        · have e2 : (behindP c).2.2 = 3 := by rw [hbn]; simp only; rw [if_neg (by omega), if_neg (by omega), if_pos a]
          rw [e2] at h3
          obtain ⟨x, y, z, rfl, b1, b2, b3, b4, b5, b6⟩ := follow_three h3 (by omega)
          have hlo : (c.toNat = 240 → 144 ≤ x.toNat) ∧ 128 ≤ x.toNat ∧ x.toNat ≤ 191 ∧ (c.toNat = 244 → x.toNat ≤ 143) := by
            rw [hbn] at b1 b2
            simp only at b1 b2
            have k1 : (128 : UInt8).toNat = 128 := rfl
            have k2 : (191 : UInt8).toNat = 191 := rfl
            have k3 : (144 : UInt8).toNat = 144 := rfl
            have k4 : (143 : UInt8).toNat = 143 := rfl
            rw [if_neg (by omega)] at b1 b2
            by_cases q : c.toNat = 240
            · rw [if_pos q] at b1
              rw [if_neg (by omega)] at b2
              omega
            · rw [if_neg q] at b1
              by_cases q2 : c.toNat = 244
              · rw [if_pos q2] at b2
                omega
              · rw [if_neg q2] at b2
                omega
          have e : codeAt c [x, y, z] = 64 * (64 * (64 * (c.toNat % 8) + x.toNat % 64) + y.toNat % 64) + z.toNat % 64 := by
            unfold codeAt
            rw [hN]
            unfold fstF fstC
            rw [if_pos (by omega)]
            simp
          rw [e]
          refine ⟨by omega, ?_, .inr ⟨h1', by omega⟩⟩
          unfold Lib.encodeRune
          rw [Lib.encodeRuneZ_four (by omega) (by omega)]
          simp only [List.map_cons, List.map_nil]
          rw [byte_of (x := c) (by omega), byte_of (x := x) (by omega), byte_of (x := y) (by omega), byte_of (x := z) (by omega)]
      · cases h
end Go.Proofs.YtmajpambfblhnaaGreatDoor

namespace Go.Proofs.YtmajpambfblhnaaGreatDoor
open Go.RowKit Jo

theorem hexP_at {s r : List UInt8} {c : UInt8} {i : Nat} {lo hi : Int} (h : s.drop i = c :: r) (h1 : lo ≤ hexZ c) (h2 : hexZ c ≤ hi) : hexP s lo hi i = .ok (hexZ c) (i + 1) := by
  have h0 : s[i]? = some c := by
    have := congrArg (fun l => l[0]?) h
    simpa using this
  unfold hexP
  rw [h0]
  simp only
  rw [if_neg (by omega)]
theorem drop_one {s r : List UInt8} {c : UInt8} {i : Nat} (h : s.drop i = c :: r) : s.drop (i + 1) = r ∧ s[i]? = some c := by
  refine ⟨?_, ?_⟩
  · have := congrArg (List.drop 1) h
    rw [List.drop_drop] at this
    simpa using this
  · have := congrArg (fun l => l[0]?) h
    simpa using this
/-- Digits of a letter's number are read as it. -/
theorem pointP_coded {s l r : List UInt8} {n i : Nat} (hn : n < 55296 ∨ (57343 < n ∧ n ≤ 1114111)) (hl : Coded n (92 :: 117 :: l)) (h : s.drop i = l ++ r) : pointP s i = .ok (n : Int) (i + l.length) := by
  rcases hl with ⟨hn2, a, b, c, d, e, ha, hb, hc, hd⟩ | ⟨hn2, l1, l2, e, ⟨a, b, c, d, e1, ha, hb, hc, hd⟩, ⟨a', b', c', d', e2, ha', hb', hc', hd'⟩⟩
  · obtain rfl : l = [a, b, c, d] := by simpa using e
    have d0 := h
    have d1 := (drop_one (c := a) (r := b :: c :: d :: r) d0).1
    have d2 := (drop_one (c := b) (r := c :: d :: r) d1).1
    have d3 := (drop_one (c := c) (r := d :: r) d2).1
    unfold pointP
    rw [hexP_at (c := a) (r := b :: c :: d :: r) d0 (by omega) (by omega)]
    simp only [PR.bind_ok]
    rw [hexP_at (c := b) (r := c :: d :: r) d1 (by omega) (by split <;> omega)]
    simp only [PR.bind_ok]
    rw [hexP_at (c := c) (r := d :: r) d2 (by omega) (by omega)]
    simp only [PR.bind_ok]
    rw [hexP_at (c := d) (r := r) d3 (by omega) (by omega)]
    simp only [PR.bind_ok]
    have hv : ((hexZ a * 16 + hexZ b) * 16 + hexZ c) * 16 + hexZ d = (n : Int) := by omega
    rw [hv, if_pos (by omega)]
    simp
  · subst e1 e2
    obtain rfl : l = [a, b, c, d, 92, 117, a', b', c', d'] := by simpa using e
    have d0 := h
    have d1 := (drop_one (c := a) (r := b :: c :: d :: 92 :: 117 :: a' :: b' :: c' :: d' :: r) d0).1
    have d2 := (drop_one (c := b) (r := c :: d :: 92 :: 117 :: a' :: b' :: c' :: d' :: r) d1).1
    have d3 := (drop_one (c := c) (r := d :: 92 :: 117 :: a' :: b' :: c' :: d' :: r) d2).1
    have d4 := (drop_one (c := d) (r := 92 :: 117 :: a' :: b' :: c' :: d' :: r) d3).1
    have d5 := drop_one (c := 92) (r := 117 :: a' :: b' :: c' :: d' :: r) d4
    have d6 := drop_one (c := 117) (r := a' :: b' :: c' :: d' :: r) d5.1
    have d7 := (drop_one (c := a') (r := b' :: c' :: d' :: r) d6.1).1
    have d8 := (drop_one (c := b') (r := c' :: d' :: r) d7).1
    have d9 := (drop_one (c := c') (r := d' :: r) d8).1
    unfold pointP
    rw [hexP_at (c := a) (r := b :: c :: d :: 92 :: 117 :: a' :: b' :: c' :: d' :: r) d0 (by omega) (by omega)]
    simp only [PR.bind_ok]
    rw [hexP_at (c := b) (r := c :: d :: 92 :: 117 :: a' :: b' :: c' :: d' :: r) d1 (by omega) (by split <;> omega)]
    simp only [PR.bind_ok]
    rw [hexP_at (c := c) (r := d :: 92 :: 117 :: a' :: b' :: c' :: d' :: r) d2 (by omega) (by omega)]
    simp only [PR.bind_ok]
    rw [hexP_at (c := d) (r := 92 :: 117 :: a' :: b' :: c' :: d' :: r) d3 (by omega) (by omega)]
    simp only [PR.bind_ok]
    rw [if_neg (by omega)]
    have hw : wordP s [92, 117] (i + 1 + 1 + 1 + 1) = .ok () (i + 1 + 1 + 1 + 1 + 1 + 1) := by
      simp only [wordP]
      rw [if_pos d5.2, if_pos d6.2]
    rw [hw]
    simp only [PR.bind_ok]
    rw [hexP_at (c := a') (r := b' :: c' :: d' :: r) d6.1 (by omega) (by omega)]
    simp only [PR.bind_ok]
    rw [hexP_at (c := b') (r := c' :: d' :: r) d7 (by omega) (by omega)]
    simp only [PR.bind_ok]
    rw [hexP_at (c := c') (r := d' :: r) d8 (by omega) (by omega)]
    simp only [PR.bind_ok]
    rw [hexP_at (c := d') (r := r) d9 (by omega) (by omega)]
    simp only [PR.bind_ok]
    congr 1
    omega
end Go.Proofs.YtmajpambfblhnaaGreatDoor

namespace Go.Proofs.YtmajpambfblhnaaGreatDoor
open Go.RowKit Jo

theorem short_inv {n : Nat} (h : shortP n ≠ []) : ∃ k : UInt8, shortP n = [k] ∧ ((n = 34 ∧ k = 34) ∨ (n = 92 ∧ k = 92) ∨ (n = 47 ∧ k = 47) ∨ (n = 8 ∧ k = 98) ∨ (n = 12 ∧ k = 102) ∨ (n = 10 ∧ k = 110) ∨ (n = 13 ∧ k = 114) ∨ (n = 9 ∧ k = 116)) := by
  unfold shortP at h ⊢
  by_cases h1 : n = 34
  · exact ⟨34, by rw [if_pos h1], .inl ⟨h1, rfl⟩⟩
  rw [if_neg h1] at h ⊢
  by_cases h2 : n = 92
  · exact ⟨92, by rw [if_pos h2], .inr (.inl ⟨h2, rfl⟩)⟩
  rw [if_neg h2] at h ⊢
  by_cases h3 : n = 47
  · exact ⟨47, by rw [if_pos h3], .inr (.inr (.inl ⟨h3, rfl⟩))⟩
  rw [if_neg h3] at h ⊢
  by_cases h4 : n = 8
  · exact ⟨98, by rw [if_pos h4], .inr (.inr (.inr (.inl ⟨h4, rfl⟩)))⟩
  rw [if_neg h4] at h ⊢
  by_cases h5 : n = 12
  · exact ⟨102, by rw [if_pos h5], .inr (.inr (.inr (.inr (.inl ⟨h5, rfl⟩))))⟩
  rw [if_neg h5] at h ⊢
  by_cases h6 : n = 10
  · exact ⟨110, by rw [if_pos h6], .inr (.inr (.inr (.inr (.inr (.inl ⟨h6, rfl⟩)))))⟩
  rw [if_neg h6] at h ⊢
  by_cases h7 : n = 13
  · exact ⟨114, by rw [if_pos h7], .inr (.inr (.inr (.inr (.inr (.inr (.inl ⟨h7, rfl⟩))))))⟩
  rw [if_neg h7] at h ⊢
  by_cases h8 : n = 9
  · exact ⟨116, by rw [if_pos h8], .inr (.inr (.inr (.inr (.inr (.inr (.inr ⟨h8, rfl⟩))))))⟩
  rw [if_neg h8] at h
  exact absurd rfl h
theorem coded_front {n : Nat} {l : List UInt8} (h : Coded n l) : ∃ l', l = 92 :: 117 :: l' := by
  rcases h with ⟨_, a, b, c, d, rfl, _⟩ | ⟨_, l1, l2, rfl, ⟨a, b, c, d, rfl, _⟩, _⟩
  · exact ⟨_, rfl⟩
  · exact ⟨_, rfl⟩
theorem textL_let {s r u b acc : List UInt8} {seen : List (List UInt8)} {f i : Nat} (hb : LetS u b) (hu : Letter u) (h : s.drop i = b ++ r) : textL s seen (f + 1) acc i = textL s seen f (acc ++ u) (i + b.length) := by
  cases hb with
  | raw c q hc =>
    obtain ⟨-, -, hl⟩ := letter_code hu
    have h0 := (drop_one (c := c) (r := q ++ r) h).2
    have hn : c ≠ 34 ∧ c ≠ 92 ∧ ¬ c < 32 := by
      rcases hl with ⟨_, e1, e2⟩ | ⟨e1, _⟩
      · rw [e1] at hc
        refine ⟨fun e => ?_, fun e => ?_, fun e => ?_⟩
        · rw [e] at hc; exact hc.2.1 rfl
        · rw [e] at hc; exact hc.2.2 rfl
        · rw [UInt8.lt_iff_toNat_lt] at e
          have : (32 : UInt8).toNat = 32 := rfl
          omega
      · refine ⟨fun e => ?_, fun e => ?_, fun e => ?_⟩
        · rw [e] at e1; have : (34 : UInt8).toNat = 34 := rfl; omega
        · rw [e] at e1; have : (92 : UInt8).toNat = 92 := rfl; omega
        · rw [UInt8.lt_iff_toNat_lt] at e
          have : (32 : UInt8).toNat = 32 := rfl
          omega
    have hw : letW (s.drop i) = some (c :: q).length := by rw [h]; exact letW_app _ hu
    conv => lhs; unfold textL
    rw [h0]
    simp only [if_neg hn.1, if_neg hn.2.1, if_neg hn.2.2]
    rcases letterP_eq (s := s) (i := i) rfl with ⟨k', e1, e2⟩ | ⟨e1, _⟩
    · rw [hw] at e1
      obtain rfl : (c :: q).length = k' := Option.some.inj e1
      rw [e2]
      simp only [PR.bind_ok]
      have e3 : (s.drop i).take (i + (c :: q).length - i) = c :: q := by
        rw [show i + (c :: q).length - i = (c :: q).length by omega, h, List.take_left']
        rfl
      rw [e3]
    · rw [hw] at e1; cases e1
  | back c q hc =>
    obtain ⟨k, hk, hcs⟩ := short_inv hc
    obtain ⟨-, -, hl⟩ := letter_code hu
    have hlow : codeAt c q < 128 := by omega
    obtain ⟨rfl, e1, -⟩ : q = [] ∧ codeAt c q = c.toNat ∧ c.toNat < 128 := by
      rcases hl with h | h
      · exact h
      · omega
    rw [e1] at hk hcs
    rw [e1, hk] at h ⊢
    have d0 := drop_one (c := 92) (r := k :: r) h
    have d1 := drop_one (c := k) (r := r) d0.1
    conv => lhs; unfold textL
    rw [d0.2]
    simp only
    rw [if_neg (by decide), if_pos trivial]
    have hE : escP s (i + 1) = .ok [c] (i + 1 + 1) := by
      unfold escP
      rw [d1.2]
      simp only
      have hcc : ∀ m : UInt8, c.toNat = m.toNat → c = m := fun m h => UInt8.toNat_inj.1 h
      rcases hcs with ⟨a, rfl⟩ | ⟨a, rfl⟩ | ⟨a, rfl⟩ | ⟨a, rfl⟩ | ⟨a, rfl⟩ | ⟨a, rfl⟩ | ⟨a, rfl⟩ | ⟨a, rfl⟩
      · rw [hcc 34 a]; rfl
      · rw [hcc 92 a]; rfl
      · rw [hcc 47 a]; rfl
      · rw [hcc 8 a]; rfl
      · rw [hcc 12 a]; rfl
      · rw [hcc 10 a]; rfl
      · rw [hcc 13 a]; rfl
      · rw [hcc 9 a]; rfl
    rw [hE]
    rfl
  | code c q l hc =>
    obtain ⟨l', rfl⟩ := coded_front hc
    obtain ⟨hn, he, -⟩ := letter_code hu
    have d0 := drop_one (c := 92) (r := 117 :: (l' ++ r)) h
    have d1 := drop_one (c := 117) (r := l' ++ r) d0.1
    conv => lhs; unfold textL
    rw [d0.2]
    simp only
    rw [if_neg (by decide), if_pos trivial]
    have hE : escP s (i + 1) = .ok (c :: q) (i + 1 + 1 + l'.length) := by
      unfold escP
      rw [d1.2]
      simp only
      rw [if_neg (by decide), if_neg (by decide), if_neg (by decide), if_neg (by decide), if_neg (by decide), if_neg (by decide), if_pos trivial, pointP_coded hn hc d1.1]
      simp only [PR.bind_ok]
      rw [he]
    rw [hE]
    simp only [PR.bind_ok, List.length_cons]
    congr 1
    omega
end Go.Proofs.YtmajpambfblhnaaGreatDoor

namespace Go.Proofs.YtmajpambfblhnaaGreatDoor
open Go.RowKit Jo

theorem letS_pos {u b : List UInt8} (h : LetS u b) : 1 ≤ b.length := by
  cases h with
  | raw c r h => simp
  | back c r h => simp
  | code c r l h => obtain ⟨l', rfl⟩ := coded_front h; simp
theorem textL_tx (s : List UInt8) (seen : List (List UInt8)) : ∀ (L : List (List UInt8 × List UInt8)) (acc r : List UInt8) (i f : Nat), L.length < f → (∀ p ∈ L, LetS p.1 p.2 ∧ Letter p.1) → acc ++ (L.map (·.1)).flatten ∉ seen → s.drop i = (L.map (·.2)).flatten ++ 34 :: r →
    textL s seen f acc i = .ok (acc ++ (L.map (·.1)).flatten) (i + (L.map (·.2)).flatten.length + 1) := by
  intro L
  induction L with
  | nil =>
    intro acc r i f hf _ hm h
    obtain ⟨f, rfl⟩ : ∃ g, f = g + 1 := ⟨f - 1, by simp at hf; omega⟩
    have h0 := (drop_one (c := 34) (r := r) (by simpa using h)).2
    unfold textL
    rw [h0]
    simp only [List.map_nil, List.flatten_nil, List.append_nil] at hm ⊢
    simp [hm]
  | cons p L ih =>
    intro acc r i f hf hL hm h
    obtain ⟨f, rfl⟩ : ∃ g, f = g + 1 := ⟨f - 1, by simp at hf; omega⟩
    have hp := hL p (by simp)
    have h' : s.drop i = p.2 ++ ((L.map (·.2)).flatten ++ 34 :: r) := by rw [h]; simp
    rw [textL_let hp.1 hp.2 h']
    have hm' : (acc ++ p.1) ++ (L.map (·.1)).flatten ∉ seen := by simpa using hm
    rw [ih (acc ++ p.1) r (i + p.2.length) f (by simp at hf; omega) (fun q hq => hL q (by simp [hq])) hm' (drop_step h')]
    simp only [List.map_cons, List.flatten_cons, List.append_assoc, List.length_append]
    congr 1
    omega
theorem flat_lenS : ∀ (L : List (List UInt8 × List UInt8)), (∀ p ∈ L, LetS p.1 p.2 ∧ Letter p.1) → L.length ≤ (L.map (·.2)).flatten.length := by
  intro L
  induction L with
  | nil => intro _; simp
  | cons p L ih =>
    intro h
    have h1 := letS_pos (h p (by simp)).1
    have h2 := ih fun q hq => h q (by simp [hq])
    simp only [List.map_cons, List.flatten_cons, List.length_append, List.length_cons]
    omega
theorem textP_tx {s r t o : List UInt8} {seen : List (List UInt8)} {i : Nat} (hx : TxS t o) (hm : t ∉ seen) (h : s.drop i = 34 :: (o ++ 34 :: r)) : textP s seen i = .ok t (i + (o.length + 2)) := by
  obtain ⟨L, rfl, rfl, hL⟩ := hx
  have d := drop_one (c := 34) h
  have hl := flat_lenS L hL
  have hs : (L.map (·.2)).flatten.length ≤ s.length := by
    have := congrArg List.length d.1
    simp only [List.length_drop, List.length_append, List.length_cons] at this
    omega
  unfold textP wantP
  rw [d.2, if_pos rfl]
  simp only [PR.bind_ok]
  rw [textL_tx s seen L [] r (i + 1) (s.length + 1) (by omega) hL (by simpa using hm) d.1]
  simp only [List.nil_append]
  congr 1
  omega
end Go.Proofs.YtmajpambfblhnaaGreatDoor

namespace Go.Proofs.YtmajpambfblhnaaGreatDoor
open Go.RowKit Jo

/-- The value that stands at a place, with blanks, is read as it; the blanks behind it may be left. -/
def RdS (s : List UInt8) (val : Nat → PR J) (x : J) (l : List UInt8) : Prop := ∀ (i : Nat) (r : List UInt8), noDig r → s.drop i = l ++ r → ∃ j, val i = .ok x j ∧ bl s j = bl s (i + l.length)
theorem range_cons {α : Type} (T : Nat → α) (n : Nat) : (List.range (n + 1)).map T = T 0 :: (List.range n).map fun j => T (j + 1) := by
  rw [List.range_succ_eq_map, List.map_cons, List.map_map]
  rfl
theorem listL_say (s : List UInt8) (val : Nat → PR J) : ∀ (xs : List J) (T : Nat → List UInt8) (acc : List J) (i f : Nat) (r : List UInt8), xs ≠ [] → xs.length ≤ f → (∀ (j : Nat) x, xs[j]? = some x → RdS s val x (T j)) → s.drop i = joinC ((List.range xs.length).map T) ++ 93 :: r →
    listL s val f acc i = .ok (acc ++ xs) (i + (joinC ((List.range xs.length).map T)).length + 1)
  | [], _, _, _, _, _, h, _, _, _ => absurd rfl h
  | [x], T, acc, i, f, r, _, hf, hv, h => by
    obtain ⟨f, rfl⟩ : ∃ g, f = g + 1 := ⟨f - 1, by simp at hf; omega⟩
    have hj : joinC ((List.range [x].length).map T) = T 0 := rfl
    rw [hj] at h ⊢
    unfold listL
    obtain ⟨j, e1, e2⟩ := hv 0 x rfl i (93 :: r) (noDig_cons _ rfl) h
    rw [e1]
    simp only [PR.bind_ok]
    have h2 := drop_app h
    rw [e2, bl_app h2 rfl, at0 h2]
    simp
  | x :: y :: xs, T, acc, i, f, r, _, hf, hv, h => by
    obtain ⟨f, rfl⟩ : ∃ g, f = g + 1 := ⟨f - 1, by simp at hf; omega⟩
    have hj : joinC ((List.range (x :: y :: xs).length).map T) = T 0 ++ 44 :: joinC ((List.range (y :: xs).length).map fun j => T (j + 1)) := by
      rw [List.length_cons, range_cons, List.length_cons, range_cons, joinC_cons2]
    rw [hj] at h ⊢
    rw [List.append_assoc, List.cons_append] at h
    unfold listL
    obtain ⟨j, e1, e2⟩ := hv 0 x rfl i _ (noDig_cons _ rfl) h
    rw [e1]
    simp only [PR.bind_ok]
    have h2 := drop_app h
    rw [e2, bl_app h2 rfl, at0 h2]
    simp only [if_true]
    rw [listL_say s val (y :: xs) (fun j => T (j + 1)) (acc ++ [x]) _ f r (by simp) (by simp at hf ⊢; omega) (fun j z hz => hv (j + 1) z (by simpa using hz)) (drop_tl h2)]
    simp only [List.append_assoc, List.cons_append, List.nil_append, List.length_append, List.length_cons]
    congr 1
    omega
/-- A member, with its blanks. -/
def memT (a o b t : List UInt8) : List UInt8 := a ++ (34 :: (o ++ (34 :: (b ++ (58 :: t)))))
theorem mem_step {s r : List UInt8} {val : Nat → PR J} {n a o b t : List UInt8} {x : J} {seen : List (List UInt8)} {i : Nat} (ha : Bls a) (ho : TxS n o) (hb : Bls b) (hv : RdS s val x t) (hn : n ∉ seen) (hr : noDig r) (h : s.drop i = memT a o b t ++ r) :
    ∃ k j m, textP s seen (bl s i) = .ok n k ∧ wantP s 58 (bl s k) = .ok () m ∧ val m = .ok x j ∧ bl s j = bl s (i + (memT a o b t).length) := by
  have h0 : s.drop i = a ++ (34 :: (o ++ 34 :: (b ++ 58 :: (t ++ r)))) := by rw [h]; simp [memT]
  have h1 := drop_app h0
  have e1 : bl s i = i + a.length := by rw [bl_over s a _ i ha h0, bl_app h1 rfl]
  have e2 := textP_tx (seen := seen) ho hn h1
  have h2 : s.drop (i + a.length + (o.length + 2)) = b ++ 58 :: (t ++ r) := by
    have := drop_app (drop_tl h1)
    have := drop_tl this
    rw [← this]
    congr 1
    omega
  have h3 := drop_app h2
  have e3 : bl s (i + a.length + (o.length + 2)) = i + a.length + (o.length + 2) + b.length := by rw [bl_over s b _ _ hb h2, bl_app h3 rfl]
  have h4 := drop_tl h3
  obtain ⟨j, e4, e5⟩ := hv _ r hr h4
  refine ⟨_, j, _, by rw [e1]; exact e2, ?_, e4, ?_⟩
  · rw [e3]
    unfold wantP
    rw [if_pos (at0 h3)]
  · rw [e5]
    congr 1
    simp only [memT, List.length_append, List.length_cons]
    omega
theorem objL_say (s : List UInt8) (val : Nat → PR J) : ∀ (ms : List (List UInt8 × J)) (A O B T : Nat → List UInt8) (acc : List (List UInt8 × J)) (i f : Nat) (r : List UInt8), ms ≠ [] → ms.length ≤ f → (∀ j, Bls (A j)) → (∀ (j : Nat) m, ms[j]? = some m → TxS m.1 (O j)) → (∀ j, Bls (B j)) → (∀ (j : Nat) m, ms[j]? = some m → RdS s val m.2 (T j)) → ((acc ++ ms).map (·.1)).Nodup →
    s.drop i = joinC ((List.range ms.length).map fun j => memT (A j) (O j) (B j) (T j)) ++ 125 :: r → objL s val f acc i = .ok (acc ++ ms) (i + (joinC ((List.range ms.length).map fun j => memT (A j) (O j) (B j) (T j))).length + 1)
  | [], _, _, _, _, _, _, _, _, h, _, _, _, _, _, _, _ => absurd rfl h
  | [m], A, O, B, T, acc, i, f, r, _, hf, ha, ho, hb, hv, hn, h => by
    obtain ⟨f, rfl⟩ : ∃ g, f = g + 1 := ⟨f - 1, by simp at hf; omega⟩
    have hj : joinC ((List.range [m].length).map fun j => memT (A j) (O j) (B j) (T j)) = memT (A 0) (O 0) (B 0) (T 0) := rfl
    rw [hj] at h ⊢
    obtain ⟨k, j, q, e1, e2, e3, e4⟩ := mem_step (ha 0) (ho 0 m rfl) (hb 0) (hv 0 m rfl) (nodup_last hn) (noDig_cons _ rfl) h
    unfold objL
    rw [e1]
    simp only [PR.bind_ok]
    rw [e2]
    simp only [PR.bind_ok]
    rw [e3]
    simp only [PR.bind_ok]
    have h2 := drop_app h
    rw [e4, bl_app h2 rfl, at0 h2]
    simp
  | m :: m2 :: ms, A, O, B, T, acc, i, f, r, _, hf, ha, ho, hb, hv, hn, h => by
    obtain ⟨f, rfl⟩ : ∃ g, f = g + 1 := ⟨f - 1, by simp at hf; omega⟩
    have hj : joinC ((List.range (m :: m2 :: ms).length).map fun j => memT (A j) (O j) (B j) (T j)) = memT (A 0) (O 0) (B 0) (T 0) ++ 44 :: joinC ((List.range (m2 :: ms).length).map fun j => memT (A (j + 1)) (O (j + 1)) (B (j + 1)) (T (j + 1))) := by
      rw [List.length_cons, range_cons, List.length_cons, range_cons, joinC_cons2]
    rw [hj] at h ⊢
    rw [List.append_assoc, List.cons_append] at h
    obtain ⟨k, j, q, e1, e2, e3, e4⟩ := mem_step (ha 0) (ho 0 m rfl) (hb 0) (hv 0 m rfl) (nodup_last hn) (noDig_cons _ rfl) h
    unfold objL
    rw [e1]
    simp only [PR.bind_ok]
    rw [e2]
    simp only [PR.bind_ok]
    rw [e3]
    simp only [PR.bind_ok]
    have h2 := drop_app h
    rw [e4, bl_app h2 rfl, at0 h2]
    simp only [if_true]
    rw [objL_say s val (m2 :: ms) (fun j => A (j + 1)) (fun j => O (j + 1)) (fun j => B (j + 1)) (fun j => T (j + 1)) (acc ++ [m]) _ f r (by simp) (by simp at hf ⊢; omega) (fun j => ha (j + 1)) (fun j z hz => ho (j + 1) z (by simpa using hz)) (fun j => hb (j + 1)) (fun j z hz => hv (j + 1) z (by simpa using hz)) (by simpa using hn) (drop_tl h2)]
    simp only [List.append_assoc, List.cons_append, List.nil_append, List.length_append, List.length_cons]
    congr 1
    omega
end Go.Proofs.YtmajpambfblhnaaGreatDoor

namespace Go.Proofs.YtmajpambfblhnaaGreatDoor
open Go.RowKit Jo

theorem objInj : ∀ {a b : List (List UInt8 × J)}, J.obj a = J.obj b → a = b := by
  intro a b h
  simp only [J.obj, J.mk.injEq, true_and] at h
  have ha : a = (a.map (·.1)).zip (a.map (·.2)) := by rw [List.zip_map']; simp
  have hb : b = (b.map (·.1)).zip (b.map (·.2)) := by rw [List.zip_map']; simp
  rw [ha, hb, h.1, h.2]
theorem say_null {x : J} {o : List UInt8} (h : SayC x o) (e : x = J.null) : o = [110, 117, 108, 108] := by
  cases h <;> first | rfl | simp [J.null, J.fls, J.tru, J.nr, J.tx, J.list, J.obj] at e
theorem say_fls {x : J} {o : List UInt8} (h : SayC x o) (e : x = J.fls) : o = [102, 97, 108, 115, 101] := by
  cases h <;> first | rfl | simp [J.null, J.fls, J.tru, J.nr, J.tx, J.list, J.obj] at e
theorem say_tru {x : J} {o : List UInt8} (h : SayC x o) (e : x = J.tru) : o = [116, 114, 117, 101] := by
  cases h <;> first | rfl | simp [J.null, J.fls, J.tru, J.nr, J.tx, J.list, J.obj] at e
theorem say_nr {x : J} {o : List UInt8} {n : Int} (h : SayC x o) (e : x = J.nr n) : o = Lib.itoa n ∨ (n = 0 ∧ o = [45, 48]) := by
  cases h
  case nr m => simp [J.nr] at e; exact .inl (by rw [e])
  case nr0 => simp [J.nr] at e; exact .inr ⟨e.symm, rfl⟩
  all_goals simp [J.null, J.fls, J.tru, J.nr, J.tx, J.list, J.obj] at e
theorem say_tx {x : J} {o t : List UInt8} (h : SayC x o) (e : x = J.tx t) : ∃ q, TxS t q ∧ o = 34 :: (q ++ [34]) := by
  cases h
  case tx t' q hq => simp [J.tx] at e; subst e; exact ⟨q, hq, rfl⟩
  all_goals simp [J.null, J.fls, J.tru, J.nr, J.tx, J.list, J.obj] at e
theorem say_list {x : J} {o : List UInt8} {xs : List J} (h : SayC x o) (e : x = J.list xs) : ∃ (T : Nat → List UInt8) (b : List UInt8), (∀ (j : Nat) x, xs[j]? = some x → SayJ x (T j)) ∧ Bls b ∧ (xs ≠ [] → b = []) ∧ o = 91 :: (joinC ((List.range xs.length).map T) ++ (b ++ [93])) := by
  cases h
  case list ys T b h1 h2 h3 => simp [J.list] at e; subst e; exact ⟨T, b, h1, h2, h3, rfl⟩
  all_goals simp [J.null, J.fls, J.tru, J.nr, J.tx, J.list, J.obj] at e
theorem say_obj {x : J} {o : List UInt8} {ms : List (List UInt8 × J)} (h : SayC x o) (e : x = J.obj ms) : ∃ (ms' : List (List UInt8 × J)) (A O B T : Nat → List UInt8) (b : List UInt8), ms'.Perm ms ∧ (∀ j, Bls (A j)) ∧ (∀ (j : Nat) m, ms'[j]? = some m → TxS m.1 (O j)) ∧ (∀ j, Bls (B j)) ∧ (∀ (j : Nat) m, ms'[j]? = some m → SayJ m.2 (T j)) ∧ Bls b ∧ (ms ≠ [] → b = []) ∧
    o = 123 :: (joinC ((List.range ms.length).map fun j => memT (A j) (O j) (B j) (T j)) ++ (b ++ [125])) := by
  cases h
  case obj ms1 ms' A O B T b h1 h2 h3 h4 h5 h6 h7 => obtain rfl := objInj e; exact ⟨ms', A, O, B, T, b, h1, h2, h3, h4, h5, h6, h7, rfl⟩
  all_goals simp [J.null, J.fls, J.tru, J.nr, J.tx, J.list, J.obj] at e
theorem sortM_of {a l : List (List UInt8 × J)} (h : a.Perm l) (ha : Asc l) : sortM a = l := by
  have hn : (a.map (·.1)).Nodup := ((h.map (·.1)).nodup_iff).2 (asc_nodup (by rw [List.pairwise_map]; exact ha))
  refine ((sortM_perm a).trans h).eq_of_pairwise (fun x y _ _ h k => absurd k (by rw [ltB_asymm h]; simp)) (sortM_asc a hn) ha
theorem valP_blB (s : List UInt8) (k : Nat) {i j : Nat} (h : bl s i = bl s j) : valP s k i = valP s k j := by
  cases k with
  | zero => unfold valP; rw [h]
  | succ k => unfold valP; rw [h]
theorem sayC_front {x : J} {o : List UInt8} (hx : May x) (h : SayC x o) : ∃ c l, o = c :: l ∧ isBl c = false ∧ c ≠ 93 := by
  cases hx with
  | null => exact ⟨_, _, say_null h rfl, rfl, by decide⟩
  | fls => exact ⟨_, _, say_fls h rfl, rfl, by decide⟩
  | tru => exact ⟨_, _, say_tru h rfl, rfl, by decide⟩
  | nr n h1 h2 =>
    rcases say_nr h rfl with e | ⟨_, e⟩
    · rw [← layP_nr] at e
      rw [e]
      exact layP_front (.nr n h1 h2)
    · exact ⟨_, _, e, rfl, by decide⟩
  | tx t _ => obtain ⟨q, _, e⟩ := say_tx h rfl; exact ⟨_, _, e, rfl, by decide⟩
  | list xs _ => obtain ⟨T, b, _, _, _, e⟩ := say_list h rfl; exact ⟨_, _, e, rfl, by decide⟩
  | obj ms _ _ _ => obtain ⟨_, _, _, _, _, b, _, _, _, _, _, _, _, e⟩ := say_obj h rfl; exact ⟨_, _, e, rfl, by decide⟩
theorem noDig_bls {b r : List UInt8} (hb : Bls b) (hr : noDig r) : noDig (b ++ r) := by
  cases b with
  | nil => exact hr
  | cons c b =>
    refine noDig_cons _ ?_
    have := hb c (by simp)
    revert this
    have ht : ∀ c : Fin 256, isBl (UInt8.ofNat c.val) = true → isDig (UInt8.ofNat c.val) = false := by decide +kernel
    have := ht ⟨c.toNat, c.toNat_lt⟩
    simp only [UInt8.ofNat_toNat] at this
    exact this
/-- A value between blanks, where the value alone is read. -/
theorem sayJ_rd {s : List UInt8} {k : Nat} {x : J} {o : List UInt8} (hx : May x) (hc : ∀ q, SayC x q → Jo.Rd s (valP s k) x q) (h : SayJ x o) : RdS s (valP s k) x o := by
  obtain ⟨_, a, q, b, ha, hq, hb⟩ := h
  intro i r hr hs
  obtain ⟨c, l, e, hcb, _⟩ := sayC_front hx hq
  have h0 : s.drop i = a ++ (q ++ (b ++ r)) := by rw [hs]; simp
  have h1 := drop_app h0
  have h2 : s.drop (i + a.length) = c :: (l ++ (b ++ r)) := by rw [h1, e]; rfl
  have h3 := drop_app h1
  refine ⟨i + a.length + q.length, ?_, ?_⟩
  · rw [valP_blB s k (bl_over s a _ i ha h0)]
    exact hc q hq _ _ (noDig_bls hb hr) h1
  · rw [bl_over s b r _ hb h3]
    congr 1
    simp only [List.length_append]
    omega
theorem sayJ_pos {x : J} {o : List UInt8} (hx : May x) (h : SayJ x o) : ∃ c l, o = c :: l ∧ 1 ≤ o.length := by
  obtain ⟨_, a, q, b, ha, hq, hb⟩ := h
  obtain ⟨c, l, e, _, _⟩ := sayC_front hx hq
  subst e
  cases a with
  | nil => exact ⟨_, _, rfl, by simp⟩
  | cons d a => exact ⟨_, _, rfl, by simp⟩
end Go.Proofs.YtmajpambfblhnaaGreatDoor

namespace Go.Proofs.YtmajpambfblhnaaGreatDoor
open Go.RowKit Jo

theorem numP_nr0 {s r : List UInt8} {i : Nat} (h : s.drop i = [45, 48] ++ r) : numP s i = .ok 0 (i + 2) := by
  have h1 : s.drop i = 45 :: 48 :: r := h
  unfold numP
  rw [if_pos (at0 h1)]
  unfold numQ
  rw [at0 (drop_tl h1)]
  simp only
  rw [if_neg (by decide)]
  simp
theorem joinC_front (T : Nat → List UInt8) (n : Nat) (h : 0 < n) : ∃ q, joinC ((List.range n).map T) = T 0 ++ q := by
  obtain ⟨n, rfl⟩ : ∃ m, n = m + 1 := ⟨n - 1, by omega⟩
  rw [range_cons]
  cases n with
  | zero => exact ⟨[], by simp [joinC]⟩
  | succ n => exact ⟨_, by rw [range_cons, joinC_cons2]⟩
theorem joinC_ge (T : Nat → List UInt8) (n : Nat) : n ≤ (joinC ((List.range n).map T)).length + 1 := by
  by_cases h : n = 0
  · omega
  · have := joinC_len ((List.range n).map T) (by simpa using h)
    rw [List.length_map, List.length_range] at this
    omega
theorem listP_say {s r b : List UInt8} {k i : Nat} {xs : List J} {T : Nat → List UInt8} (hx : ∀ x ∈ xs, May x) (hT : ∀ (j : Nat) x, xs[j]? = some x → SayJ x (T j)) (hb : Bls b) (hbn : xs ≠ [] → b = []) (hR : ∀ (j : Nat) x, xs[j]? = some x → RdS s (valP s k) x (T j))
    (h1 : s.drop (i + 1) = (joinC ((List.range xs.length).map T) ++ (b ++ [93])) ++ r) : listP s (valP s k) i = .ok xs (i + (91 :: (joinC ((List.range xs.length).map T) ++ (b ++ [93]))).length) := by
  unfold listP
  cases hxs : xs with
  | nil =>
    rw [hxs] at h1
    have h2 : s.drop (i + 1) = b ++ 93 :: r := by rw [h1]; simp [joinC]
    have h3 := drop_app h2
    rw [bl_over s b _ _ hb h2, bl_app h3 rfl, at0 h3]
    simp [joinC]
    omega
  | cons y ys =>
    rw [← hxs]
    obtain rfl := hbn (by simp [hxs])
    have h2 : s.drop (i + 1) = joinC ((List.range xs.length).map T) ++ 93 :: r := by rw [h1]; simp
    have hy : xs[0]? = some y := by rw [hxs]; rfl
    obtain ⟨p, hp⟩ := joinC_front T xs.length (by rw [hxs]; simp)
    have hs0 := hT 0 y hy
    revert hp hs0
    generalize T 0 = t0
    intro hp hs0
    obtain ⟨_, a, q, b2, ha, hq, hb2⟩ := hs0
    obtain ⟨c, l, e, hcb, hc⟩ := sayC_front (hx y (List.mem_of_getElem? hy)) hq
    have h3 : s.drop (i + 1) = a ++ (c :: (l ++ (b2 ++ (p ++ 93 :: r)))) := by rw [h2, hp, e]; simp
    have h4 := drop_app h3
    have e2 : bl s (i + 1) = i + 1 + a.length := by rw [bl_over s a _ _ ha h3, bl_app h4 hcb]
    have e3 : s[bl s (i + 1)]? = some c := by rw [e2]; exact at0 h4
    rw [e3]
    simp only [if_neg hc]
    have hg := joinC_ge T xs.length
    have hl := drop_len h2
    rw [List.length_append] at hl
    rw [listL, valP_blB s k (bl_idem s (i + 1)), ← listL, listL_say s (valP s k) xs T [] (i + 1) (s.length + 1) r (by simp [hxs]) (by omega) hR h2]
    simp
    omega
theorem objP_say {s r b : List UInt8} {k i : Nat} {ms : List (List UInt8 × J)} {A O B T : Nat → List UInt8} (ha : ∀ j, Bls (A j)) (ho : ∀ (j : Nat) m, ms[j]? = some m → TxS m.1 (O j)) (hb' : ∀ j, Bls (B j)) (hb : Bls b) (hbn : ms ≠ [] → b = []) (hn : (ms.map (·.1)).Nodup) (hR : ∀ (j : Nat) m, ms[j]? = some m → RdS s (valP s k) m.2 (T j))
    (h1 : s.drop (i + 1) = (joinC ((List.range ms.length).map fun j => memT (A j) (O j) (B j) (T j)) ++ (b ++ [125])) ++ r) : objP s (valP s k) i = .ok ms (i + (123 :: (joinC ((List.range ms.length).map fun j => memT (A j) (O j) (B j) (T j)) ++ (b ++ [125]))).length) := by
  unfold objP
  cases hxs : ms with
  | nil =>
    rw [hxs] at h1
    have h2 : s.drop (i + 1) = b ++ 125 :: r := by rw [h1]; simp [joinC]
    have h3 := drop_app h2
    rw [bl_over s b _ _ hb h2, bl_app h3 rfl, at0 h3]
    simp [joinC]
    omega
  | cons y ys =>
    rw [← hxs]
    obtain rfl := hbn (by simp [hxs])
    have h2 : s.drop (i + 1) = joinC ((List.range ms.length).map fun j => memT (A j) (O j) (B j) (T j)) ++ 125 :: r := by rw [h1]; simp
    obtain ⟨p, hp⟩ := joinC_front (fun j => memT (A j) (O j) (B j) (T j)) ms.length (by rw [hxs]; simp)
    have h3 : s.drop (i + 1) = A 0 ++ (34 :: (O 0 ++ (34 :: (B 0 ++ (58 :: (T 0 ++ (p ++ 125 :: r))))))) := by rw [h2, hp]; simp [memT]
    have h4 := drop_app h3
    have e2 : bl s (i + 1) = i + 1 + (A 0).length := by rw [bl_over s (A 0) _ _ (ha 0) h3, bl_app h4 rfl]
    have e3 : s[bl s (i + 1)]? = some 34 := by rw [e2]; exact at0 h4
    rw [e3]
    simp only [show ¬ (34 : UInt8) = 125 by decide, if_false]
    have hg := joinC_ge (fun j => memT (A j) (O j) (B j) (T j)) ms.length
    have hl := drop_len h2
    rw [List.length_append] at hl
    rw [objL_bl, objL_say s (valP s k) ms A O B T [] (i + 1) (s.length + 1) r (by simp [hxs]) (by omega) ha ho hb' hR (by simpa using hn) h2]
    simp
    omega
theorem valP_say {x : J} (hx : May x) : ∀ (s : List UInt8) (k : Nat) (o : List UInt8), depthP x ≤ k → SayC x o → Jo.Rd s (valP s k) x o := by
  induction hx with
  | null =>
    intro s k o _ hs i r _ h
    obtain ⟨li, ob, e⟩ := valP_same s k i
    obtain rfl := say_null hs rfl
    rw [e, bl_app h rfl]
    unfold valQ
    rw [at0 h]
    simp only [if_true]
    rw [wordP_app _ _ h]
    rfl
  | fls =>
    intro s k o _ hs i r _ h
    obtain ⟨li, ob, e⟩ := valP_same s k i
    obtain rfl := say_fls hs rfl
    rw [e, bl_app h rfl]
    unfold valQ
    rw [at0 h]
    simp only [show ¬ (102 : UInt8) = 110 by decide, if_true, if_false]
    rw [wordP_app _ _ h]
    rfl
  | tru =>
    intro s k o _ hs i r _ h
    obtain ⟨li, ob, e⟩ := valP_same s k i
    obtain rfl := say_tru hs rfl
    rw [e, bl_app h rfl]
    unfold valQ
    rw [at0 h]
    simp only [show ¬ (116 : UInt8) = 110 by decide, show ¬ (116 : UInt8) = 102 by decide, if_true, if_false]
    rw [wordP_app _ _ h]
    rfl
  | nr n h1 h2 =>
    intro s k o hk hs i r hr h
    rcases say_nr hs rfl with e1 | ⟨e0, e1⟩
    · have := valP_lay (.nr n h1 h2) s k hk
      rw [layP_nr, ← e1] at this
      exact this i r hr h
    · obtain ⟨li, ob, e⟩ := valP_same s k i
      subst e0 e1
      rw [e, bl_app h rfl]
      unfold valQ
      rw [at0 h]
      simp only [show ¬ (45 : UInt8) = 110 by decide, show ¬ (45 : UInt8) = 102 by decide, show ¬ (45 : UInt8) = 116 by decide, show ¬ (45 : UInt8) = 34 by decide, show ¬ (45 : UInt8) = 91 by decide, show ¬ (45 : UInt8) = 123 by decide, if_false]
      rw [numP_nr0 h]
      rfl
  | tx t hv =>
    intro s k o _ hs i r _ h
    obtain ⟨li, ob, e⟩ := valP_same s k i
    obtain ⟨q, hq, rfl⟩ := say_tx hs rfl
    have h0 : s.drop i = 34 :: (q ++ 34 :: r) := by rw [h]; simp
    rw [e, bl_app h0 rfl]
    unfold valQ
    rw [at0 h0]
    simp only [show ¬ (34 : UInt8) = 110 by decide, show ¬ (34 : UInt8) = 102 by decide, show ¬ (34 : UInt8) = 116 by decide, if_true, if_false]
    rw [textP_tx hq (by simp) h0]
    simp
  | list xs hxs ih =>
    intro s k o hk hs i r _ h
    rw [depthP_list] at hk
    obtain ⟨k, rfl⟩ : ∃ j, k = j + 1 := ⟨k - 1, by omega⟩
    have hd := deepest_le (xs := xs) (k := k) (by omega)
    obtain ⟨T, b, hT, hb, hbn, rfl⟩ := say_list hs rfl
    rw [List.cons_append, List.append_assoc] at h
    unfold valP
    rw [bl_app h rfl]
    unfold valQ
    rw [at0 h]
    simp only [show ¬ (91 : UInt8) = 110 by decide, show ¬ (91 : UInt8) = 102 by decide, show ¬ (91 : UInt8) = 116 by decide, show ¬ (91 : UInt8) = 34 by decide, if_true, if_false]
    have h1 := drop_tl h
    have hR : ∀ (j : Nat) x, xs[j]? = some x → RdS s (valP s k) x (T j) := fun j x hj => sayJ_rd (hxs x (List.mem_of_getElem? hj)) (fun q hq => ih x (List.mem_of_getElem? hj) s k q (hd x (List.mem_of_getElem? hj)) hq) (hT j x hj)
    rw [listP_say (r := r) hxs hT hb hbn hR (by rw [h1]; simp)]
    rfl
  | obj ms hv ha hms ih =>
    intro s k o hk hs i r _ h
    rw [depthP_obj] at hk
    obtain ⟨k, rfl⟩ : ∃ j, k = j + 1 := ⟨k - 1, by omega⟩
    have hd := deepest_le (xs := ms.map (·.2)) (k := k) (by omega)
    obtain ⟨ms', A, O, B, T, b, hp, hA, hO, hB, hT, hb, hbn, rfl⟩ := say_obj hs rfl
    rw [List.cons_append, List.append_assoc] at h
    unfold valP
    rw [bl_app h rfl]
    unfold valQ
    rw [at0 h]
    simp only [show ¬ (123 : UInt8) = 110 by decide, show ¬ (123 : UInt8) = 102 by decide, show ¬ (123 : UInt8) = 116 by decide, show ¬ (123 : UInt8) = 34 by decide, show ¬ (123 : UInt8) = 91 by decide, if_true, if_false]
    have h1 := drop_tl h
    have hmem : ∀ (j : Nat) m, ms'[j]? = some m → m ∈ ms := fun j m hj => hp.mem_iff.1 (List.mem_of_getElem? hj)
    have hR : ∀ (j : Nat) m, ms'[j]? = some m → RdS s (valP s k) m.2 (T j) := fun j m hj => sayJ_rd (hms m (hmem j m hj)) (fun q hq => ih m (hmem j m hj) s k q (hd m.2 (List.mem_map_of_mem (hmem j m hj))) hq) (hT j m hj)
    have hn : (ms'.map (·.1)).Nodup := ((hp.map (·.1)).nodup_iff).2 (asc_nodup (by rw [List.pairwise_map]; exact ha))
    rw [← hp.length_eq] at h1 ⊢
    rw [objP_say (r := r) hA hO hB hb (fun e => hbn fun e2 => e (by rw [e2] at hp; exact hp.eq_nil)) hn hR (by rw [h1]; simp)]
    simp only [PR.bind_ok, sortM_of hp ha]
theorem parse_say {x : J} {s : List UInt8} (h : mayP x = true) (hd : depthP x ≤ 16) (hs : SayJ x s) (hl : s.length ≤ 4000) : parseP s = (x, 0, 0) := by
  have hx := may_of x h
  obtain ⟨j, e1, e2⟩ := sayJ_rd (s := s) (k := 16) hx (fun q hq => valP_say hx s 16 q hd hq) hs 0 [] (fun c hc => by simp at hc) (by simp)
  unfold parseP
  rw [if_neg (by omega)]
  unfold readP
  rw [e1]
  simp only
  rw [e2]
  have : s.length ≤ bl s (0 + s.length) := by have := bl_le s (0 + s.length); omega
  rw [if_neg (by omega)]
end Go.Proofs.YtmajpambfblhnaaGreatDoor

namespace Go.Proofs.YtmajpambfblhnaaGreatDoor
open Go.RowKit Jo

theorem range_getD (Ts : List (List UInt8)) : (List.range Ts.length).map (fun i => Ts.getD i []) = Ts := by
  apply List.ext_getElem
  · simp
  · intro i h1 h2
    simp [List.getD_eq_getElem?_getD, List.getElem?_eq_getElem h2]
theorem joinC_le (Ts : List (List UInt8)) : (joinC Ts).length ≤ (Ts.map fun t => t.length + 1).sum := by
  induction Ts with
  | nil => simp [joinC]
  | cons a r ih =>
    cases r with
    | nil => simp [joinC]
    | cons b q =>
      simp only [joinC, List.length_append, List.length_cons, List.map_cons, List.sum_cons] at ih ⊢
      omega
/-- A further part behind a comma. -/
theorem joinC_more (Ts : List (List UInt8)) (t : List UInt8) : joinC (Ts ++ [t]) = (joinC Ts ++ if Ts.length = 0 then [] else [44]) ++ t := by
  cases Ts with
  | nil => simp [joinC]
  | cons a r =>
    rw [joinC_snoc _ _ (by simp), if_neg (by simp)]
    simp
/-- What the values of a list say, one by one. -/
def Parts (xs : List J) (Ts : List (List UInt8)) : Prop := ∀ (i : Nat) t, Ts[i]? = some t → ∃ x, xs[i]? = some x ∧ SayJ x t
theorem Parts.nil (xs : List J) : Parts xs [] := fun i t h => by simp at h
theorem Parts.snoc {xs : List J} {Ts : List (List UInt8)} {j : Nat} {x : J} {t : List UInt8} (h : Parts xs Ts) (hl : Ts.length = j) (hx : xs[j]? = some x) (ht : SayJ x t) : Parts xs (Ts ++ [t]) := fun i u hu => by
  rcases Nat.lt_or_ge i Ts.length with hi | hi
  · rw [List.getElem?_append_left hi] at hu
    exact h i u hu
  · rw [List.getElem?_append_right hi] at hu
    have hi0 : i - Ts.length = 0 := by
      have := (List.getElem?_eq_some_iff.1 hu).1
      simpa using this
    rw [hi0] at hu
    obtain rfl : t = u := by simpa using hu
    obtain rfl : i = j := by omega
    exact ⟨x, hx, ht⟩
theorem Parts.say {xs : List J} {Ts : List (List UInt8)} {bl : List UInt8} (h : Parts xs Ts) (hl : Ts.length = xs.length) (hb : Bls bl) (hn : xs ≠ [] → bl = []) : SayC (J.list xs) (91 :: (joinC Ts ++ (bl ++ [93]))) := by
  have := SayC.list xs (fun i => Ts.getD i []) bl (fun j x hx => by
    have hj : j < Ts.length := by rw [hl]; exact (List.getElem?_eq_some_iff.1 hx).1
    obtain ⟨y, hy, hs⟩ := h j _ (List.getElem?_eq_getElem hj)
    obtain rfl : x = y := by rw [hx] at hy; exact Option.some.inj hy
    rw [List.getD_eq_getElem?_getD, List.getElem?_eq_getElem hj]
    exact hs) hb hn
  rw [← hl, range_getD] at this
  exact this
/-- What a member says. -/
def MemS (n : List UInt8) (x : J) (M : List UInt8) : Prop := ∃ A O B T, Bls A ∧ TxS n O ∧ Bls B ∧ SayJ x T ∧ M = A ++ 34 :: (O ++ (34 :: (B ++ 58 :: T)))
def Mems (ns : List (List UInt8)) (xs : List J) (ps : List Nat) (Ms : List (List UInt8)) : Prop := ∀ (i : Nat) M, Ms[i]? = some M → ∃ p n x, ps[i]? = some p ∧ ns[p]? = some n ∧ xs[p]? = some x ∧ MemS n x M
theorem Mems.nil (ns : List (List UInt8)) (xs : List J) (ps : List Nat) : Mems ns xs ps [] := fun i t h => by simp at h
theorem Mems.snoc {ns : List (List UInt8)} {xs : List J} {ps : List Nat} {Ms : List (List UInt8)} {j p : Nat} {n : List UInt8} {x : J} {M : List UInt8} (h : Mems ns xs ps Ms) (hl : Ms.length = j) (hp : ps[j]? = some p) (hn : ns[p]? = some n) (hx : xs[p]? = some x) (ht : MemS n x M) : Mems ns xs ps (Ms ++ [M]) := fun i u hu => by
  rcases Nat.lt_or_ge i Ms.length with hi | hi
  · rw [List.getElem?_append_left hi] at hu
    exact h i u hu
  · rw [List.getElem?_append_right hi] at hu
    have hi0 : i - Ms.length = 0 := by
      have := (List.getElem?_eq_some_iff.1 hu).1
      simpa using this
    rw [hi0] at hu
    obtain rfl : M = u := by simpa using hu
    obtain rfl : i = j := by omega
    exact ⟨p, n, x, hp, hn, hx, ht⟩
theorem zip_range (ns : List (List UInt8)) (xs : List J) (hl : ns.length = xs.length) : (List.range ns.length).map (fun p => (ns.getD p [], xs.getD p J.null)) = ns.zip xs := by
  apply List.ext_getElem
  · simp [hl]
  · intro i h1 h2
    have h3 : i < ns.length := by simpa using h1
    have h4 : i < xs.length := by omega
    simp [List.getD_eq_getElem?_getD, List.getElem?_eq_getElem h3, List.getElem?_eq_getElem h4]
theorem Mems.say {ns : List (List UInt8)} {xs : List J} {ps : List Nat} {Ms : List (List UInt8)} {bl : List UInt8} (h : Mems ns xs ps Ms) (hp : ps.Perm (List.range ns.length)) (hl : ns.length = xs.length) (hm : Ms.length = ns.length) (hb : Bls bl) (hn : ns ≠ [] → bl = []) :
    SayC (.mk 6 0 [] ns xs) (123 :: (joinC Ms ++ (bl ++ [125]))) := by
  have e : J.mk 6 0 [] ns xs = J.obj (ns.zip xs) := by
    unfold J.obj
    rw [zip_fst _ _ hl, zip_snd _ _ hl]
  have hzl : (ns.zip xs).length = ns.length := by simp [hl]
  have hpl : ps.length = ns.length := by rw [hp.length_eq, List.length_range]
  have key : ∀ i : Nat, ∃ A O B T, Bls A ∧ Bls B ∧ (i < ns.length → TxS (ns.getD (ps.getD i 0) []) O ∧ SayJ (xs.getD (ps.getD i 0) J.null) T ∧ Ms.getD i [] = A ++ 34 :: (O ++ (34 :: (B ++ 58 :: T)))) := by
    intro i
    by_cases hi : i < ns.length
    · obtain ⟨p, n, x, h1, h2, h3, A, O, B, T, hA, hO, hB, hT, hM⟩ := h i _ (List.getElem?_eq_getElem (by omega : i < Ms.length))
      refine ⟨A, O, B, T, hA, hB, fun _ => ?_⟩
      simp only [List.getD_eq_getElem?_getD, h1, h2, h3, Option.getD_some]
      refine ⟨hO, hT, ?_⟩
      rw [List.getElem?_eq_getElem (by omega : i < Ms.length)]
      exact hM
    · exact ⟨[], [], [], [], Bls.nil, Bls.nil, fun h => absurd h hi⟩
  obtain ⟨A, key⟩ := Classical.axiomOfChoice key
  obtain ⟨O, key⟩ := Classical.axiomOfChoice key
  obtain ⟨B, key⟩ := Classical.axiomOfChoice key
  obtain ⟨T, key⟩ := Classical.axiomOfChoice key
  have hget : ∀ (j : Nat) m, (ps.map fun p => (ns.getD p [], xs.getD p J.null))[j]? = some m → j < ns.length ∧ m = (ns.getD (ps.getD j 0) [], xs.getD (ps.getD j 0) J.null) := by
    intro j m hj
    have hjl : j < ps.length := by
      have := (List.getElem?_eq_some_iff.1 hj).1
      simpa using this
    refine ⟨by omega, ?_⟩
    rw [List.getElem?_map, List.getElem?_eq_getElem hjl] at hj
    rw [List.getD_eq_getElem?_getD (l := ps), List.getElem?_eq_getElem hjl]
    exact (Option.some.inj hj).symm
  have hz := SayC.obj (ns.zip xs) (ps.map fun p => (ns.getD p [], xs.getD p J.null)) A O B T bl (by rw [← zip_range ns xs hl]; exact hp.map _) (fun j => (key j).1)
    (fun j m hj => by obtain ⟨h1, rfl⟩ := hget j m hj; exact ((key j).2.2 h1).1) (fun j => (key j).2.1) (fun j m hj => by obtain ⟨h1, rfl⟩ := hget j m hj; exact ((key j).2.2 h1).2.1) hb (fun hne => hn fun e => hne (by rw [e]; rfl))
  rw [e]
  have hj : (List.range (ns.zip xs).length).map (fun j => A j ++ (34 :: (O j ++ (34 :: (B j ++ (58 :: T j)))))) = Ms := by
    rw [hzl, ← hm]
    conv => rhs; rw [← range_getD Ms]
    apply List.map_congr_left
    intro j hj
    exact ((key j).2.2 (by have := List.mem_range.1 hj; omega)).2.2.symm
  rw [hj] at hz
  exact hz
/-- How much a member takes, at most. -/
def memB (ns : List (List UInt8)) (xs : List J) (p : Nat) : Nat := (ns.getD p []).length + 1 + bulkJ (xs.getD p J.null)
theorem zip_sum : ∀ (ns : List (List UInt8)) (xs : List J), ns.length = xs.length → ((ns.zip xs).map fun m => m.1.length + 1 + bulkJ m.2).sum = (ns.map fun l => l.length + 1).sum + bulkAll xs
  | [], [], _ => by simp [bulkAll]
  | [], y :: xs, h => by simp at h
  | n :: ns, [], h => by simp at h
  | n :: ns, x :: xs, h => by
    have := zip_sum ns xs (by simpa using h)
    simp only [List.zip_cons_cons, List.map_cons, List.sum_cons, bulkAll, this]
    omega
theorem memB_sum {ns : List (List UInt8)} {xs : List J} {ps : List Nat} (hp : ps.Perm (List.range ns.length)) (hl : ns.length = xs.length) : (ps.map (memB ns xs)).sum = (ns.map fun l => l.length + 1).sum + bulkAll xs := by
  rw [(hp.map (memB ns xs)).sum_nat, ← zip_sum ns xs hl, ← zip_range ns xs hl, List.map_map]
  rfl
theorem sum_take_le (f : Nat → Nat) (ps : List Nat) (i : Nat) : ((ps.take i).map f).sum ≤ (ps.map f).sum := by
  conv => rhs; rw [← List.take_append_drop i ps]
  rw [List.map_append, List.sum_append]
  omega
theorem bulkAll_snoc (xs : List J) (x : J) : bulkAll (xs ++ [x]) = bulkAll xs + bulkJ x := by
  rw [bulkAll_map, bulkAll_map, List.map_append, List.sum_append]
  simp
theorem bulkAll_take (xs : List J) (j : Nat) : bulkAll (xs.take j) ≤ bulkAll xs := by
  conv => rhs; rw [← List.take_append_drop j xs]
  rw [bulkAll_map, bulkAll_map, List.map_append, List.sum_append]
  omega
theorem bulkAll_take_one {xs : List J} {j : Nat} {x : J} (h : xs[j]? = some x) : bulkAll (xs.take (j + 1)) = bulkAll (xs.take j) + bulkJ x := by
  rw [List.take_add_one, h]
  exact bulkAll_snoc _ _
theorem bulkAll_mem {xs : List J} {x : J} (h : x ∈ xs) : bulkJ x ≤ bulkAll xs := by
  induction xs with
  | nil => cases h
  | cons y ys ih =>
    simp only [bulkAll]
    rcases List.mem_cons.1 h with rfl | h
    · omega
    · have := ih h; omega
end Go.Proofs.YtmajpambfblhnaaGreatDoor
