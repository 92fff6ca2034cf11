/- Layer 4 in plain Lean: the reference's reader, step by step, is the plain reader; its texts, numbers, members. No program in sight. -/
import Derived.Test.YtmajpambfblhnaaGreatDoorJoPlainB
namespace Go.Proofs.YtmajpambfblhnaaGreatDoor
namespace Jo

/-- Four hexadecimal digits, as the reference reads them; m are left. -/
def fourL (s : List UInt8) (lower : Bool) : Nat → Int → Nat → PR Int
  | 0, n, i => .ok n i
  | m + 1, n, i => match s[i]? with
    | none => .bad 40 i
    | some c => if hexZ c < 0 ∨ (lower = true ∧ m = 3 ∧ hexZ c ≠ 13) ∨ (m = 2 ∧ n = 13 ∧ lower ≠ decide (12 ≤ hexZ c)) then .bad 40 i else fourL s lower m (16 * n + hexZ c) (i + 1)
theorem hexZ_le (c : UInt8) : -1 ≤ hexZ c ∧ hexZ c ≤ 15 := by
  have hc := c.toNat_lt
  unfold hexZ
  simp only [UInt8.le_iff_toNat_le]
  rw [show (48 : UInt8).toNat = 48 from rfl, show (57 : UInt8).toNat = 57 from rfl, show (97 : UInt8).toNat = 97 from rfl, show (102 : UInt8).toNat = 102 from rfl, show (65 : UInt8).toNat = 65 from rfl, show (70 : UInt8).toNat = 70 from rfl]
  split
  · omega
  · split
    · omega
    · split <;> omega
theorem fourL_hex {s : List UInt8} {lower : Bool} {m : Nat} {n lo hi : Int} {i : Nat} (h : ∀ c, s[i]? = some c → ((hexZ c < 0 ∨ (lower = true ∧ m = 3 ∧ hexZ c ≠ 13) ∨ (m = 2 ∧ n = 13 ∧ lower ≠ decide (12 ≤ hexZ c))) ↔ (hexZ c < lo ∨ hi < hexZ c))) :
    fourL s lower (m + 1) n i = (hexP s lo hi i).bind fun d j => fourL s lower m (16 * n + d) j := by
  rw [fourL, hexP]
  cases hc : s[i]? with
  | none => rfl
  | some c =>
    have := h c hc
    by_cases hb : hexZ c < lo ∨ hi < hexZ c
    · simp only [if_pos hb, if_pos (this.2 hb)]; rfl
    · have hb2 := fun e => hb (this.1 e)
      simp only [if_neg hb, if_neg hb2]; rfl
theorem four_first (s : List UInt8) (i : Nat) : fourL s false 4 0 i = (hexP s 0 15 i).bind fun a i => (hexP s 0 (if a = 13 then 11 else 15) i).bind fun b i => (hexP s 0 15 i).bind fun c i => (hexP s 0 15 i).bind fun d i => .ok (((a * 16 + b) * 16 + c) * 16 + d) i := by
  rw [fourL_hex (lo := 0) (hi := 15) (fun c _ => by have := hexZ_le c; simp; omega)]
  congr 1
  funext a i
  rw [fourL_hex (lo := 0) (hi := if a = 13 then 11 else 15) (fun c _ => by
    have := hexZ_le c
    by_cases ha : a = 13
    · subst ha; simp; omega
    · simp [ha]; omega)]
  congr 1
  funext b i
  rw [fourL_hex (lo := 0) (hi := 15) (fun c _ => by have := hexZ_le c; simp; omega)]
  congr 1
  funext c i
  rw [fourL_hex (lo := 0) (hi := 15) (fun c _ => by have := hexZ_le c; simp; omega)]
  congr 1
  funext d i
  rw [fourL]
  congr 1
  omega
theorem four_second (s : List UInt8) (i : Nat) : fourL s true 4 0 i = (hexP s 13 13 i).bind fun a i => (hexP s 12 15 i).bind fun b i => (hexP s 0 15 i).bind fun c i => (hexP s 0 15 i).bind fun d i => .ok (((a * 16 + b) * 16 + c) * 16 + d) i := by
  rw [fourL_hex (lo := 13) (hi := 13) (fun c _ => by have := hexZ_le c; simp; omega)]
  rw [hexP]
  cases hc : s[i]? with
  | none => rfl
  | some c =>
    by_cases hb : hexZ c < 13 ∨ 13 < hexZ c
    · simp only [if_pos hb]; rfl
    · simp only [if_neg hb, PR.bind_ok]
      obtain hz : hexZ c = 13 := by omega
      rw [hz]
      rw [fourL_hex (lo := 12) (hi := 15) (fun c _ => by have := hexZ_le c; simp; omega)]
      congr 1
      funext b i
      rw [fourL_hex (lo := 0) (hi := 15) (fun c _ => by have := hexZ_le c; simp; omega)]
      congr 1
      funext c i
      rw [fourL_hex (lo := 0) (hi := 15) (fun c _ => by have := hexZ_le c; simp; omega)]
      congr 1
      funext d i
      rw [fourL]
      congr 1
      omega
theorem fourL_rng {s : List UInt8} {lower : Bool} : ∀ {m : Nat} {n : Int} {i : Nat} {r : Int} {j : Nat}, fourL s lower m n i = .ok r j → 0 ≤ n → 0 ≤ r ∧ r < (n + 1) * 16 ^ m := by
  intro m
  induction m with
  | zero => intro n i r j h hn; rw [fourL] at h; cases h; simp; omega
  | succ m ih =>
    intro n i r j h hn
    rw [fourL] at h
    cases hc : s[i]? with
    | none => rw [hc] at h; cases h
    | some c =>
      rw [hc] at h
      simp only at h
      have hz := hexZ_le c
      split at h
      · cases h
      · rename_i hb
        have h0 : 0 ≤ hexZ c := by omega
        have := ih h (by omega)
        refine ⟨this.1, Int.lt_of_lt_of_le this.2 ?_⟩
        rw [Int.pow_succ, ← Int.mul_assoc, Int.mul_assoc _ (16 ^ m) 16, Int.mul_comm (16 ^ m) 16, ← Int.mul_assoc]
        exact Int.mul_le_mul_of_nonneg_right (by omega) (Int.pow_nonneg (by omega))
theorem bind_bind {α β γ : Type} (x : PR α) (f : α → Nat → PR β) (g : β → Nat → PR γ) : (x.bind f).bind g = x.bind fun a i => (f a i).bind g := by cases x <;> rfl
theorem word2 (s : List UInt8) (i : Nat) : wordP s [92, 117] i = (wantP s 92 i).bind fun _ j => wantP s 117 j := by
  unfold wordP wantP
  by_cases h : s[i]? = some 92
  · simp only [if_pos h, PR.bind_ok]
    unfold wordP
    by_cases h2 : s[i + 1]? = some 117
    · simp only [if_pos h2]; rfl
    · simp only [if_neg h2]
  · simp only [if_neg h]; rfl
/-- The number of a letter, as the reference reads it. -/
theorem point_four (s : List UInt8) (i : Nat) : pointP s i = (fourL s false 4 0 i).bind fun n j => if n < 55296 ∨ 56319 < n then .ok n j else (wantP s 92 j).bind fun _ j => (wantP s 117 j).bind fun _ j => (fourL s true 4 0 j).bind fun m j => .ok (65536 + 1024 * (n - 55296) + m - 56320) j := by
  rw [four_first, pointP]
  simp only [bind_bind, PR.bind_ok]
  congr 1; funext a i
  congr 1; funext b i
  congr 1; funext c i
  congr 1; funext d i
  split
  · rfl
  · rw [word2]
    simp only [bind_bind, four_second, PR.bind_ok]
    congr 1; funext _ i
    congr 1; funext _ i
    congr 1; funext e i
    congr 1; funext f i
    congr 1; funext g i
    congr 1; funext h i
    congr 1
    omega
end Jo
end Go.Proofs.YtmajpambfblhnaaGreatDoor

namespace Go.Proofs.YtmajpambfblhnaaGreatDoor
namespace Jo

/-- A name that was seen ahead is wrong at its closing quote. -/
def seenR (seen : List (List UInt8)) (l : List UInt8) (j : Nat) : PR (List UInt8) := if l ∈ seen then .bad 42 (j - 1) else .ok l j
theorem textL_seen (s : List UInt8) (seen : List (List UInt8)) : ∀ (f : Nat) (acc : List UInt8) (i : Nat), textL s seen f acc i = (textL s [] f acc i).bind (seenR seen) := by
  intro f
  induction f with
  | zero => intro acc i; rfl
  | succ f ih =>
    intro acc i
    rw [textL, textL]
    cases s[i]? with
    | none => rfl
    | some c =>
      simp only
      by_cases h34 : c = 34
      · rw [if_pos h34, if_pos h34]
        simp [seenR]
      · rw [if_neg h34, if_neg h34]
        by_cases h92 : c = 92
        · rw [if_pos h92, if_pos h92, bind_bind]
          congr 1; funext x j; exact ih _ _
        · rw [if_neg h92, if_neg h92]
          by_cases h32 : c < 32
          · rw [if_pos h32, if_pos h32]; rfl
          · rw [if_neg h32, if_neg h32, bind_bind]
            congr 1; funext x j; exact ih _ _
theorem textP_seen (s : List UInt8) (seen : List (List UInt8)) (i : Nat) : textP s seen i = (textP s [] i).bind (seenR seen) := by
  unfold textP
  rw [bind_bind]
  congr 1; funext x j; exact textL_seen _ _ _ _ _

/-- How many of some names stand ahead of a new one. -/
def aheadN (ns : List (List UInt8)) (n : List UInt8) : Nat := (ns.takeWhile fun x => ltB x n).length
theorem aheadN_le (ns : List (List UInt8)) (n : List UInt8) : aheadN ns n ≤ ns.length := (List.takeWhile_sublist _).length_le
theorem aheadN_cons (x : List UInt8) (ns : List (List UInt8)) (n : List UInt8) : aheadN (x :: ns) n = if ltB x n = true then aheadN ns n + 1 else 0 := by
  unfold aheadN
  rw [List.takeWhile_cons]
  by_cases h : ltB x n = true
  · rw [if_pos h, if_pos h]; rfl
  · rw [if_neg h, if_neg h]; rfl
theorem insM_at (m : List UInt8 × J) : ∀ l : List (List UInt8 × J), insM m l = l.take (aheadN (l.map (·.1)) m.1) ++ m :: l.drop (aheadN (l.map (·.1)) m.1)
  | [] => rfl
  | x :: r => by
    rw [insM, List.map_cons, aheadN_cons]
    by_cases h : ltB x.1 m.1 = true
    · rw [if_pos h, if_pos h, insM_at m r]; rfl
    · rw [if_neg h, if_neg h]; rfl
theorem aheadN_lt : ∀ (ns : List (List UInt8)) (n : List UInt8) (j : Nat), j < aheadN ns n → ∃ l, ns[j]? = some l ∧ ltB l n = true := by
  intro ns n
  induction ns with
  | nil => intro j h; simp [aheadN] at h
  | cons x r ih =>
    intro j h
    rw [aheadN_cons] at h
    by_cases hx : ltB x n = true
    · rw [if_pos hx] at h
      cases j with
      | zero => exact ⟨x, rfl, hx⟩
      | succ j => obtain ⟨l, h1, h2⟩ := ih j (by omega); exact ⟨l, by simpa using h1, h2⟩
    · rw [if_neg hx] at h; omega
theorem aheadN_stop : ∀ (ns : List (List UInt8)) (n : List UInt8) (l : List UInt8), ns[aheadN ns n]? = some l → ltB l n = false := by
  intro ns n
  induction ns with
  | nil => intro l h; simp at h
  | cons x r ih =>
    intro l h
    rw [aheadN_cons] at h
    by_cases hx : ltB x n = true
    · rw [if_pos hx] at h
      exact ih l (by simpa using h)
    · rw [if_neg hx] at h
      obtain rfl : x = l := by simpa using h
      simpa using hx
/-- In an ascending row a name stands there, or it stands nowhere. -/
theorem aheadN_mem (n : List UInt8) : ∀ ns : List (List UInt8), (ns.Pairwise fun a b => ltB a b = true) → (n ∈ ns ↔ ns[aheadN ns n]? = some n)
  | [], _ => by simp
  | x :: r, h => by
    rw [aheadN_cons]
    have hr := (List.pairwise_cons.1 h)
    by_cases hx : ltB x n = true
    · rw [if_pos hx]
      have hne : n ≠ x := fun e => by rw [e, ltB_irrefl] at hx; cases hx
      rw [List.mem_cons, List.getElem?_cons_succ, ← aheadN_mem n r hr.2]
      exact ⟨fun h => h.resolve_left hne, .inr⟩
    · rw [if_neg hx, List.mem_cons]
      simp only [List.getElem?_cons_zero, Option.some.injEq]
      refine ⟨fun h => ?_, fun h => .inl h.symm⟩
      rcases h with h | h
      · exact h.symm
      · exact absurd (hr.1 n h) hx

-- numbers
theorem digP_none (n : Int) (s : List UInt8) (i : Nat) (h : ∀ c, s[i]? = some c → isDig c = false) : digP n (s.drop i) i = .ok n i := by
  cases hc : s[i]? with
  | none => rw [List.drop_of_length_le (List.getElem?_eq_none_iff.1 hc)]; rfl
  | some c =>
    obtain ⟨hi, rfl⟩ := List.getElem?_eq_some_iff.1 hc
    rw [List.drop_eq_getElem_cons hi, digP, if_neg (by simp [h _ hc])]
theorem digP_some (n : Int) (s : List UInt8) (i : Nat) (c : UInt8) (hc : s[i]? = some c) (hd : isDig c = true) :
    digP n (s.drop i) i = if 10 * n + ((c.toNat : Int) - 48) > 9007199254740991 then .bad 43 i else digP (10 * n + ((c.toNat : Int) - 48)) (s.drop (i + 1)) (i + 1) := by
  obtain ⟨hi, rfl⟩ := List.getElem?_eq_some_iff.1 hc
  rw [List.drop_eq_getElem_cons hi, digP, if_pos hd]
/-- A number, as the reference reads it. -/
theorem numQ_ref (s : List UInt8) (sg : Int) (i : Nat) : numQ s sg i = if s[i]? = some 48 then .ok 0 (i + 1) else (digP 0 (s.drop i) i).bind fun n j => if j = i then .bad 40 i else .ok (sg * n) j := by
  unfold numQ
  cases hc : s[i]? with
  | none =>
    rw [if_neg (by simp), digP_none 0 s i (fun c h => by rw [hc] at h; cases h)]
    simp
  | some c =>
    simp only [Option.some.injEq]
    by_cases hd : isDig c = false
    · have h48 : c ≠ 48 := fun e => by rw [e] at hd; cases hd
      rw [if_pos hd, if_neg h48, digP_none 0 s i (fun c' h => by rw [hc] at h; cases h; exact hd)]
      simp
    · have hd' : isDig c = true := by simpa using hd
      rw [if_neg hd]
      by_cases h48 : c = 48
      · rw [if_pos h48, if_pos h48]
      · rw [if_neg h48, if_neg h48, digP_some 0 s i c hc hd']
        split
        · rfl
        · have hle := fun m j => @digP_le (s.drop (i + 1)) (10 * 0 + ((c.toNat : Int) - 48)) (i + 1) m j
          cases hdp : digP (10 * 0 + ((c.toNat : Int) - 48)) (s.drop (i + 1)) (i + 1) with
          | bad e j => rfl
          | ok m j =>
            have := hle m j hdp
            simp only [PR.bind_ok]
            rw [if_neg (by omega)]
/-- A value from a place on, where no blanks are passed over. -/
def valA (s : List UInt8) : Nat → Nat → PR J
  | 0, i => valQ s (fun i => .bad 41 i) (fun i => .bad 41 i) i
  | k + 1, i => valQ s (listP s (valP s k)) (objP s (valP s k)) i
theorem valP_valA (s : List UInt8) (k i : Nat) : valP s k i = valA s k (bl s i) := by cases k <;> rfl
theorem followP_bad {s : List UInt8} : ∀ {m : Nat} {lo hi : UInt8} {i : Nat} {e : Int} {j : Nat}, followP s m lo hi i = .bad e j → i ≤ s.length → e = 40 ∧ j ≤ s.length := by
  intro m
  induction m with
  | zero => intro lo hi i e j h; simp [followP] at h
  | succ m ih =>
    intro lo hi i e j h hi'
    rw [followP] at h
    cases hc : s[i]? with
    | none => rw [hc] at h; cases h; exact ⟨rfl, hi'⟩
    | some c =>
      rw [hc] at h
      simp only at h
      split at h
      · cases h; exact ⟨rfl, hi'⟩
      · exact ih h (List.getElem?_eq_some_iff.1 hc).1
theorem letterP_bad {s : List UInt8} {i : Nat} {e : Int} {j : Nat} (h : letterP s i = .bad e j) (hi : i ≤ s.length) : e = 40 ∧ j ≤ s.length := by
  rw [letterP] at h
  cases hc : s[i]? with
  | none => rw [hc] at h; cases h; exact ⟨rfl, hi⟩
  | some c =>
    rw [hc] at h
    simp only at h
    split at h
    · cases h
    · split at h
      · cases h; exact ⟨rfl, hi⟩
      · exact followP_bad h (List.getElem?_eq_some_iff.1 hc).1
theorem bl_idem (s : List UInt8) (i : Nat) : bl s (bl s i) = bl s i := by
  cases h : s[bl s i]? with
  | none => exact bl_end s _ (List.getElem?_eq_none_iff.1 h)
  | some c => exact bl_no s _ c h (bl_at s i c h)
theorem valP_bl (s : List UInt8) (k i : Nat) : valP s k (bl s i) = valP s k i := by rw [valP_valA, valP_valA, bl_idem]
theorem valA_none (s : List UInt8) (k i : Nat) (h : s[i]? = none) : valA s k i = .bad 40 i := by cases k <;> (rw [valA, valQ, h])
theorem listL_bl (s : List UInt8) (k f : Nat) (acc : List J) (i : Nat) : listL s (valP s k) (f + 1) acc (bl s i) = listL s (valP s k) (f + 1) acc i := by rw [listL, listL, valP_bl]
/-- A list, as the reference reads it. -/
theorem listP_ref (s : List UInt8) (k i : Nat) : listP s (valP s k) i = if s[bl s (i + 1)]? = some 93 then .ok [] (bl s (i + 1) + 1) else listL s (valP s k) (s.length + 1) [] (bl s (i + 1)) := by
  unfold listP
  cases h : s[bl s (i + 1)]? with
  | none => rw [if_neg (by simp), listL, valP_valA, bl_idem, valA_none _ _ _ h]; rfl
  | some c =>
    simp only [Option.some.injEq]
theorem objL_bl (s : List UInt8) (k f : Nat) (acc : List (List UInt8 × J)) (i : Nat) : objL s (valP s k) (f + 1) acc (bl s i) = objL s (valP s k) (f + 1) acc i := by rw [objL, objL, bl_idem]
theorem textP_none (s : List UInt8) (seen : List (List UInt8)) (i : Nat) (h : s[i]? = none) : textP s seen i = .bad 40 i := by
  unfold textP wantP
  rw [if_neg (by rw [h]; simp)]; rfl
theorem objP_ref (s : List UInt8) (k i : Nat) : objP s (valP s k) i = if s[bl s (i + 1)]? = some 125 then .ok [] (bl s (i + 1) + 1) else objL s (valP s k) (s.length + 1) [] (bl s (i + 1)) := by
  unfold objP
  cases h : s[bl s (i + 1)]? with
  | none => rw [if_neg (by simp), objL, bl_idem, textP_none _ _ _ h]; rfl
  | some c =>
    simp only [Option.some.injEq]
end Jo
end Go.Proofs.YtmajpambfblhnaaGreatDoor

namespace Go.Proofs.YtmajpambfblhnaaGreatDoor
namespace Jo

/-- A member of an object whose members so far, in their order, are ms. -/
def memR (s : List UInt8) (k : Nat) (ms : List (List UInt8 × J)) (i : Nat) : PR (List UInt8 × J) :=
  (textP s [] i).bind fun n j => (seenR (ms.map (·.1)) n j).bind fun n j => (wantP s 58 (bl s j)).bind fun _ j => (valP s k j).bind fun x j => .ok (n, x) j
theorem seenR_same {a b : List (List UInt8)} (h : ∀ n, n ∈ a ↔ n ∈ b) (n : List UInt8) (j : Nat) : seenR a n j = seenR b n j := by
  unfold seenR
  by_cases hn : n ∈ a
  · rw [if_pos hn, if_pos ((h n).1 hn)]
  · rw [if_neg hn, if_neg (fun e => hn ((h n).2 e))]
theorem sortM_mem (acc : List (List UInt8 × J)) (n : List UInt8) : n ∈ (sortM acc).map (·.1) ↔ n ∈ acc.map (·.1) := ((sortM_perm acc).map _).mem_iff
theorem objL_ref (s : List UInt8) (k f : Nat) (acc : List (List UInt8 × J)) (i : Nat) : objL s (valP s k) (f + 1) acc i = (memR s k (sortM acc) (bl s i)).bind fun m i => match s[bl s i]? with
    | none => .bad 40 (bl s i)
    | some c => if c = 44 then objL s (valP s k) f (acc ++ [m]) (bl s i + 1) else if c = 125 then .ok (acc ++ [m]) (bl s i + 1) else .bad 40 (bl s i) := by
  rw [objL, textP_seen, memR]
  simp only [bind_bind, PR.bind_ok]
  congr 1; funext n j
  rw [seenR_same (sortM_mem acc)]
  congr 1
theorem memR_le {s : List UInt8} {k : Nat} {ms : List (List UInt8 × J)} {i : Nat} {m : List UInt8 × J} {j : Nat} (h : memR s k ms i = .ok m j) : i < j ∧ m.1 ∉ ms.map (·.1) ∧ m.1.length ≤ 4 * j := by
  unfold memR at h
  obtain ⟨n, j1, h1, h⟩ := PR.bind_eq_ok h
  obtain ⟨n2, j2, h2, h⟩ := PR.bind_eq_ok h
  obtain ⟨u, j3, h3, h⟩ := PR.bind_eq_ok h
  obtain ⟨x, j4, h4, h⟩ := PR.bind_eq_ok h
  cases h
  have a1 := textP_le h1
  have a3 := wantP_ok h3
  have a4 := valP_le h4
  have a5 := bl_le s j2
  unfold seenR at h2
  split at h2
  · cases h2
  · rename_i hn
    cases h2
    refine ⟨by omega, hn, ?_⟩
    show n.length ≤ 4 * j
    have := a1.2.2
    omega
end Jo
end Go.Proofs.YtmajpambfblhnaaGreatDoor
