/- Plain mathematics of forms (layer 3), third part: what is printed is read as it was; where a form is wrong. -/
import Derived.Test.YtldhfbdljogieaaDoorQuPlain2
namespace Go.Proofs.YtldhfbdljogieaaDoor.Qu

theorem hexV_up : ∀ x : Fin 16, hexV (hexUp x.val) = x.val := by decide
theorem toNat_inj {a b : UInt8} (h : a.toNat = b.toNat) : a = b := UInt8.toNat_inj.1 h
/-- Unescape of Escape is the text. -/
theorem rd_esc (s : List UInt8) : ∀ (out : List UInt8) (p : Nat), rd out p (esc s) = (out ++ s, 0, 0) := by
  induction s with
  | nil => intro out p; simp [esc, rd]
  | cons c s ih =>
    intro out p
    have e0 : esc (c :: s) = escB c ++ esc s := by simp [esc]
    have hc := c.toNat_lt
    rw [e0]
    unfold escB
    split
    · rename_i h
      rw [List.singleton_append, rd_plus _ _ _ _ (by decide), ih]
      have : c = 32 := toNat_inj (by rw [h]; rfl)
      rw [this]; simp
    · rename_i h0
      split
      · rename_i h
        have hs : (97 ≤ c.toNat ∧ c.toNat ≤ 122) ∨ (65 ≤ c.toNat ∧ c.toNat ≤ 90) ∨ (48 ≤ c.toNat ∧ c.toNat ≤ 57) ∨ c.toNat = 45 ∨ c.toNat = 46 ∨ c.toNat = 95 ∨ c.toNat = 42 := by
          unfold stayI at h
          have := of_decide_eq_true h
          omega
        rw [List.singleton_append, rd_self _ _ _ _ (by omega) (by omega) (by omega), ih]
        simp
      · unfold pct
        have h1 := hexV_up ⟨c.toNat / 16, by omega⟩
        have h2 := hexV_up ⟨c.toNat % 16, by omega⟩
        simp only at h1 h2
        rw [List.cons_append, List.cons_append, List.cons_append, List.nil_append, rd_hex _ _ _ _ _ _ (by decide) (by rw [h1, h2]; omega), ih, h1, h2]
        have : (16 * ((c.toNat / 16 : Nat) : Int) + ((c.toNat % 16 : Nat) : Int)).toNat = c.toNat := by omega
        rw [this]
        simp
theorem esc_clean (s : List UInt8) : (38 : UInt8) ∉ esc s ∧ (61 : UInt8) ∉ esc s := by
  have h : ∀ x : Fin 16, hexUp x.val ≠ 38 ∧ hexUp x.val ≠ 61 := by decide
  have hb : ∀ c : UInt8, (38 : UInt8) ∉ escB c ∧ (61 : UInt8) ∉ escB c := by
    intro c
    unfold escB
    split
    · decide
    · split
      · rename_i h
        constructor
        · intro hm
          obtain rfl : 38 = c := by simpa using hm
          revert h; decide
        · intro hm
          obtain rfl : 61 = c := by simpa using hm
          revert h; decide
      · have hc := c.toNat_lt
        have h1 := h ⟨c.toNat / 16, by omega⟩
        have h2 := h ⟨c.toNat % 16, by omega⟩
        simp only at h1 h2
        simp only [pct, List.mem_cons, List.not_mem_nil, or_false, not_or]
        exact ⟨⟨by decide, Ne.symm h1.1, Ne.symm h2.1⟩, ⟨by decide, Ne.symm h1.2, Ne.symm h2.2⟩⟩
  constructor
  · intro hm
    obtain ⟨c, _, hc⟩ := List.mem_flatMap.1 hm
    exact (hb c).1 hc
  · intro hm
    obtain ⟨c, _, hc⟩ := List.mem_flatMap.1 hm
    exact (hb c).2 hc
theorem fldP_eq (f : Fld) : fldP f = esc f.1 ++ 61 :: esc f.2 := by simp [fldP]
theorem fieldP_fldP (f : Fld) : fieldP (fldP f) = (f, 0, 0) := by
  obtain ⟨h1, h2⟩ := tw_split (esc f.1) (esc f.2) (esc_clean f.1).2
  unfold fieldP
  rw [fldP_eq, h1, h2, rd_esc, rd_esc]
  simp
theorem fldP_clean (f : Fld) : (38 : UInt8) ∉ fldP f := by
  rw [fldP_eq]
  simp [(esc_clean f.1).1, (esc_clean f.2).1]
theorem fldP_ne (f : Fld) : fldP f ≠ [] := by rw [fldP_eq]; simp
theorem pieces_print : ∀ (l : List Fld), l ≠ [] → pieces (printP l) = l.map fldP
  | [], h => absurd rfl h
  | [f], _ => by rw [printP_one, pieces_none _ (fldP_clean f)]; rfl
  | f :: g :: r, _ => by
    have e : printP (f :: g :: r) = fldP f ++ 38 :: printP (g :: r) := by
      unfold printP
      rw [List.map_cons, List.map_cons, Lib.join_cons, Lib.join_cons]
      simp [Lib.joinTail]
    rw [e, pieces_split _ _ (fldP_clean f), pieces_print (g :: r) (by simp)]
    rfl
theorem printP_ne (l : List Fld) (h : l ≠ []) : printP l ≠ [] := by
  match l, h with
  | f :: r, _ =>
    unfold printP
    rw [List.map_cons, Lib.join_cons]
    intro e
    exact fldP_ne f (List.append_eq_nil_iff.1 e).1
theorem parseGo_print : ∀ (l acc : List Fld) (a : Nat), acc.length + l.length ≤ 32 → parseGo acc a (l.map fldP) = (acc ++ l, 0, 0)
  | [], acc, a, _ => by simp [parseGo]
  | f :: r, acc, a, h => by
    rw [List.length_cons] at h
    rw [List.map_cons, parseGo_ok _ _ _ _ (by omega) (fldP_ne f) (by rw [fieldP_fldP]; simp), fieldP_fldP, parseGo_print r _ _ (by simp; omega)]
    simp
/-- Parse of what Print says of at most 32 fields is those fields. -/
theorem parse_print (l : List Fld) (h : l.length ≤ 32) : parse (printP l) = (l, 0, 0) := by
  by_cases hl : l = []
  · subst hl; rfl
  · unfold parse
    rw [if_neg (printP_ne l hl), pieces_print l hl, parseGo_print l [] 0 (by simpa using h)]
    rfl
theorem parseGo_le : ∀ (ps : List (List UInt8)) (acc : List Fld) (a : Nat), acc.length ≤ 32 → (parseGo acc a ps).1.length ≤ 32
  | [], acc, a, h => by simpa [parseGo] using h
  | p :: r, acc, a, h => by
    unfold parseGo
    split
    · simp
    · split
      · simp
      · split
        · simp
        · exact parseGo_le r _ _ (by simp; omega)
theorem parse_le (l : List UInt8) : (parse l).1.length ≤ 32 := by
  unfold parse
  split
  · simp
  · exact parseGo_le _ _ _ (by simp)
theorem fieldP_len (p : List UInt8) : (fieldP p).1.1.length + (fieldP p).1.2.length ≤ p.length := by
  have h0 := congrArg List.length (List.takeWhile_append_dropWhile (p := fun c : UInt8 => decide (c ≠ 61)) (l := p))
  rw [List.length_append] at h0
  have h1 := rd_len (tw p)
  have h2 := rd_len (dw p)
  have h3 : (dw p).length ≤ (p.dropWhile fun c => decide (c ≠ 61)).length := by unfold dw; rw [List.length_tail]; omega
  unfold fieldP
  split
  · simp
  · split
    · simp
    · simp only
      unfold tw at h1 ⊢
      omega
theorem parseGo_wt : ∀ (ps : List (List UInt8)) (acc : List Fld) (a : Nat), wt (parseGo acc a ps).1 ≤ wt acc + psum ps
  | [], acc, a => by simp [parseGo]
  | p :: r, acc, a => by
    have hf := fieldP_len p
    rw [psum_cons]
    unfold parseGo
    split
    · simp [wt]
    · split
      · simp [wt]
      · split
        · simp [wt]
        · have := parseGo_wt r (acc ++ [(fieldP p).1]) (a + p.length + 1)
          rw [wt_snoc] at this
          omega
theorem parse_wt (l : List UInt8) : wt (parse l).1 ≤ l.length + 1 := by
  unfold parse
  split
  · simp [wt]
  · have := parseGo_wt (pieces l) [] 0
    rw [pieces_sum] at this
    simpa [wt] using this

/-! ### Where a form is wrong -/
theorem rd_cut : ∀ (n : Nat) (l : List UInt8), l.length ≤ n → ∀ (out : List UInt8) (p : Nat), (rd out p l).2.1 ≠ 0 → p ≤ (rd out p l).2.2 ∧ (rd out p (l.take ((rd out p l).2.2 - p) ++ [120])).2.1 = 0 := by
  intro n
  have hx : ∀ out p, (rd out p [120]).2.1 = 0 := by
    intro out p
    rw [rd_self _ _ _ _ (by decide) (by decide) (by decide)]
    rfl
  induction n with
  | zero =>
    intro l hl out p
    obtain rfl : l = [] := List.eq_nil_of_length_eq_zero (by omega)
    simp [rd]
  | succ n ih =>
    intro l hl out p
    match l, hl with
    | [], _ => simp [rd]
    | c :: r, hl =>
      rw [List.length_cons] at hl
      by_cases h1 : c.toNat = 43
      · rw [rd_plus _ _ _ _ h1]
        intro he
        obtain ⟨g1, g2⟩ := ih r (by omega) (out ++ [32]) (p + 1) he
        refine ⟨by omega, ?_⟩
        generalize (rd (out ++ [32]) (p + 1) r).2.2 = q at *
        rw [show q - p = (q - (p + 1)) + 1 from by omega, List.take_succ_cons, List.cons_append, rd_plus _ _ _ _ h1]
        exact g2
      · by_cases h2 : c.toNat = 37
        · by_cases hs : r.length < 2
          · rw [rd_short _ _ _ _ h2 hs]
            intro _
            exact ⟨Nat.le_refl _, by simpa using hx out p⟩
          · match r, hs, hl with
            | a :: b :: r', _, hl =>
              simp only [List.length_cons] at hl
              by_cases hxx : hexV a < 0 ∨ hexV b < 0
              · rw [rd_none _ _ _ _ _ _ h2 hxx]
                intro _
                exact ⟨Nat.le_refl _, by simpa using hx out p⟩
              · rw [rd_hex _ _ _ _ _ _ h2 hxx]
                intro he
                obtain ⟨g1, g2⟩ := ih r' (by omega) (out ++ [(16 * hexV a + hexV b).toNat.toUInt8]) (p + 3) he
                refine ⟨by omega, ?_⟩
                generalize (rd (out ++ [(16 * hexV a + hexV b).toNat.toUInt8]) (p + 3) r').2.2 = q at *
                rw [show q - p = (q - (p + 3)) + 1 + 1 + 1 from by omega, List.take_succ_cons, List.take_succ_cons, List.take_succ_cons, List.cons_append, List.cons_append, List.cons_append, rd_hex _ _ _ _ _ _ h2 hxx]
                exact g2
            | [], hs, _ => simp at hs
            | [_], hs, _ => simp at hs
        · by_cases h3 : c.toNat < 33 ∨ 126 < c.toNat ∨ c.toNat = 38 ∨ c.toNat = 61
          · rw [rd_bad _ _ _ _ h1 h2 h3]
            intro _
            exact ⟨Nat.le_refl _, by simpa using hx out p⟩
          · rw [rd_self _ _ _ _ h1 h2 h3]
            intro he
            obtain ⟨g1, g2⟩ := ih r (by omega) (out ++ [c]) (p + 1) he
            refine ⟨by omega, ?_⟩
            generalize (rd (out ++ [c]) (p + 1) r).2.2 = q at *
            rw [show q - p = (q - (p + 1)) + 1 from by omega, List.take_succ_cons, List.cons_append, rd_self _ _ _ _ h1 h2 h3]
            exact g2
theorem rd_cut0 (l : List UInt8) (h : (rd [] 0 l).2.1 ≠ 0) : (rd [] 0 (l.take (rd [] 0 l).2.2 ++ [120])).2.1 = 0 := by
  have := (rd_cut l.length l (Nat.le_refl _) [] 0 h).2
  simpa using this
theorem tw_mem (p : List UInt8) : (61 : UInt8) ∉ tw p := by
  induction p with
  | nil => simp [tw]
  | cons c p ih =>
    unfold tw at ih ⊢
    by_cases hc : c = 61
    · rw [List.takeWhile_cons_of_neg (by simpa using hc)]; simp
    · rw [List.takeWhile_cons_of_pos (by simpa using hc)]
      intro hm
      rcases List.mem_cons.1 hm with h | h
      · exact hc h.symm
      · exact ih h
/-- The parts of a piece. -/
theorem tw_parts (p : List UInt8) : (p = tw p ∧ dw p = []) ∨ p = tw p ++ 61 :: dw p := by
  have h := List.takeWhile_append_dropWhile (p := fun c : UInt8 => decide (c ≠ 61)) (l := p)
  match hd : p.dropWhile (fun c : UInt8 => decide (c ≠ 61)) with
  | [] =>
    left
    rw [hd, List.append_nil] at h
    exact ⟨h.symm, by unfold dw; rw [hd]; rfl⟩
  | c :: r =>
    right
    have hc : c = 61 := by
      have := List.head?_dropWhile_not (fun c : UInt8 => decide (c ≠ 61)) p
      rw [hd] at this
      simpa using this
    rw [hd, hc] at h
    have e : dw p = r := by unfold dw; rw [hd]; rfl
    rw [e]
    exact h.symm
theorem fieldP_cut (p : List UInt8) (h : (fieldP p).2.1 ≠ 0) : (fieldP p).2.2 ≤ p.length ∧ (fieldP (p.take (fieldP p).2.2 ++ [120])).2.1 = 0 ∧ ((fieldP p).2.1 = 30 ∨ (fieldP p).2.1 = 31) := by
  have e1 := rd_err (tw p)
  have e2 := rd_err (dw p)
  have hl0 := congrArg List.length (List.takeWhile_append_dropWhile (p := fun c : UInt8 => decide (c ≠ 61)) (l := p))
  rw [List.length_append] at hl0
  have a1 := rd_at (tw p)
  have a2 := rd_at (dw p)
  have c1 := rd_cut0 (tw p)
  have c2 := rd_cut0 (dw p)
  have hp := tw_parts p
  have hm := tw_mem p
  by_cases h1 : (rd [] 0 (tw p)).2.1 ≠ 0
  · have hF : fieldP p = (([], []), (rd [] 0 (tw p)).2.1, (rd [] 0 (tw p)).2.2) := by unfold fieldP; rw [if_pos h1]
    rw [hF] at h ⊢
    simp only at h ⊢
    have hlen : (tw p).length ≤ p.length := by unfold tw; omega
    have ht : p.take (rd [] 0 (tw p)).2.2 = (tw p).take (rd [] 0 (tw p)).2.2 := by
      rcases hp with ⟨hp, _⟩ | hp
      · exact congrArg (List.take _) hp
      · conv => lhs; arg 2; rw [hp]
        rw [List.take_append_of_le_length a1]
    refine ⟨by omega, ?_, by rcases e1 with e | e; exact absurd e h1; exact e⟩
    rw [ht]
    have hn : (61 : UInt8) ∉ (tw p).take (rd [] 0 (tw p)).2.2 ++ [120] := by
      intro hm2
      rcases List.mem_append.1 hm2 with hm2 | hm2
      · exact hm (List.mem_of_mem_take hm2)
      · simp at hm2
    obtain ⟨t1, t2⟩ := tw_none _ hn
    unfold fieldP
    rw [t1, t2, if_neg (by rw [c1 h1]; simp), if_neg (by simp [rd])]
  · have hok : (rd [] 0 (tw p)).2.1 = 0 := by omega
    by_cases h2 : (rd [] 0 (dw p)).2.1 ≠ 0
    · have hF : fieldP p = (([], []), (rd [] 0 (dw p)).2.1, (tw p).length + 1 + (rd [] 0 (dw p)).2.2) := by unfold fieldP; rw [if_neg h1, if_pos h2]
      rw [hF] at h ⊢
      simp only at h ⊢
      have hp2 : p = tw p ++ 61 :: dw p := by
        rcases hp with ⟨_, hd⟩ | hp
        · rw [hd] at h2; simp [rd] at h2
        · exact hp
      have hlen : p.length = (tw p).length + 1 + (dw p).length := by have := congrArg List.length hp2; rw [List.length_append, List.length_cons] at this; omega
      have ht : p.take ((tw p).length + 1 + (rd [] 0 (dw p)).2.2) = tw p ++ 61 :: (dw p).take (rd [] 0 (dw p)).2.2 := by
        conv => lhs; arg 2; rw [hp2]
        rw [Nat.add_assoc, List.take_length_add_append, Nat.add_comm 1, List.take_succ_cons]
      refine ⟨by omega, ?_, by rcases e2 with e | e; exact absurd e h2; exact e⟩
      rw [ht, List.append_assoc, List.cons_append]
      obtain ⟨t1, t2⟩ := tw_split (tw p) ((dw p).take (rd [] 0 (dw p)).2.2 ++ [120]) hm
      unfold fieldP
      rw [t1, t2, if_neg h1, if_neg (by rw [c2 h2]; simp)]
    · exfalso
      apply h
      unfold fieldP
      rw [if_neg h1, if_neg h2]
/-- What the pieces are pieces of. -/
def glue : List (List UInt8) → List UInt8
  | [] => []
  | [p] => p
  | p :: q :: r => p ++ 38 :: glue (q :: r)
theorem glue_cons (p : List UInt8) (r : List (List UInt8)) (h : r ≠ []) : glue (p :: r) = p ++ 38 :: glue r := by
  match r, h with
  | _ :: _, _ => rfl
theorem glue_pieces : ∀ l : List UInt8, glue (pieces l) = l
  | [] => rfl
  | c :: r => by
    have ih := glue_pieces r
    have hne := pieces_ne r
    unfold pieces
    split
    · rename_i h
      rw [glue_cons _ _ hne, ih, h]; rfl
    · match hp : pieces r, hne with
      | [p], _ =>
        rw [hp] at ih
        simp only [glue] at ih
        simp [glue, ih]
      | p :: q :: t, _ =>
        rw [hp] at ih
        simp only [glue] at ih
        simp only [List.headD_cons, List.tail_cons, glue, List.cons_append]
        rw [ih]
theorem pieces_clean : ∀ l : List UInt8, ∀ p ∈ pieces l, (38 : UInt8) ∉ p
  | [], p, hp => by simp [pieces] at hp; subst hp; simp
  | c :: r, p, hp => by
    have ih := pieces_clean r
    have hne := pieces_ne r
    unfold pieces at hp
    split at hp
    · rcases List.mem_cons.1 hp with rfl | hp
      · simp
      · exact ih p hp
    · rename_i hc
      match hq : pieces r, hne with
      | q :: t, _ =>
        rw [hq] at hp ih
        simp only [List.headD_cons, List.tail_cons] at hp
        rcases List.mem_cons.1 hp with rfl | hp
        · intro hm
          rcases List.mem_cons.1 hm with h | h
          · exact hc h.symm
          · exact ih q (by simp) h
        · exact ih p (by simp [hp])
theorem parseGo_cut : ∀ (ps : List (List UInt8)), (∀ p ∈ ps, (38 : UInt8) ∉ p) → ∀ (acc : List Fld) (a : Nat), (parseGo acc a ps).2.1 ≠ 0 →
    ∃ n, (parseGo acc a ps).2.2 = a + n ∧ n ≤ (glue ps).length ∧ (parseGo acc a ps).1 = [] ∧
      (((parseGo acc a ps).2.1 = 32 ∧ parseGo acc a (pieces ((glue ps).take n ++ [120])) = ([], 32, a + n)) ∨
       (((parseGo acc a ps).2.1 = 30 ∨ (parseGo acc a ps).2.1 = 31) ∧ (parseGo acc a (pieces ((glue ps).take n ++ [120]))).2.1 = 0 ∧ (parseGo acc a (pieces ((glue ps).take n ++ [120]))).1 ≠ []))
  | [], _, acc, a, h => by simp [parseGo] at h
  | p :: r, hcl, acc, a, h => by
    have h120 : pieces [120] = [[120]] := by decide
    have hf120 : (fieldP [120]).2.1 = 0 := by decide
    have hpc := hcl p (by simp)
    by_cases h32 : acc.length = 32
    · rw [parseGo_many _ _ _ _ h32]
      refine ⟨0, rfl, Nat.zero_le _, rfl, .inl ⟨rfl, ?_⟩⟩
      rw [List.take_zero, List.nil_append, h120, parseGo_many _ _ _ _ h32]
      rfl
    · by_cases hp : p = []
      · subst hp
        rw [parseGo_empty _ _ _ h32]
        refine ⟨0, rfl, Nat.zero_le _, rfl, .inr ⟨.inr rfl, ?_⟩⟩
        rw [List.take_zero, List.nil_append, h120, parseGo_ok _ _ _ _ h32 (by simp) (by rw [hf120]; simp)]
        simp [parseGo]
      · by_cases he : (fieldP p).2.1 ≠ 0
        · rw [parseGo_bad _ _ _ _ h32 hp he]
          obtain ⟨c1, c2, c3⟩ := fieldP_cut p he
          have hg : ∃ t, glue (p :: r) = p ++ t := by
            cases r with
            | nil => exact ⟨[], by simp [glue]⟩
            | cons q t => exact ⟨_, rfl⟩
          obtain ⟨t, hg⟩ := hg
          refine ⟨(fieldP p).2.2, rfl, by rw [hg, List.length_append]; omega, rfl, .inr ⟨c3, ?_⟩⟩
          rw [hg, List.take_append_of_le_length c1, pieces_none]
          · rw [parseGo_ok _ _ _ _ h32 (by simp) (by rw [c2]; simp)]
            simp [parseGo]
          · intro hm
            rcases List.mem_append.1 hm with hm | hm
            · exact hpc (List.mem_of_mem_take hm)
            · simp at hm
        · rw [parseGo_ok _ _ _ _ h32 hp he] at h ⊢
          have hr : r ≠ [] := by
            rintro rfl
            simp [parseGo] at h
          obtain ⟨n, g1, g2, g3, g4⟩ := parseGo_cut r (fun q hq => hcl q (by simp [hq])) (acc ++ [(fieldP p).1]) (a + p.length + 1) h
          have hcut : (glue (p :: r)).take (p.length + 1 + n) ++ [120] = p ++ 38 :: ((glue r).take n ++ [120]) := by
            rw [glue_cons p r hr, Nat.add_assoc, List.take_length_add_append, Nat.add_comm 1, List.take_succ_cons]
            simp
          refine ⟨p.length + 1 + n, by rw [g1]; omega, by rw [glue_cons p r hr, List.length_append, List.length_cons]; omega, g3, ?_⟩
          rw [hcut, pieces_split _ _ hpc, parseGo_ok _ _ _ _ h32 hp he]
          rcases g4 with ⟨q1, q2⟩ | q
          · exact .inl ⟨q1, by rw [q2, ← Nat.add_assoc, ← Nat.add_assoc]⟩
          · exact .inr q
theorem parse_cut (l : List UInt8) (h : (parse l).2.1 ≠ 0) : (parse l).2.2 ≤ l.length ∧ (parse l).1 = [] ∧
    (((parse l).2.1 = 32 ∧ (parse (l.take (parse l).2.2 ++ [120])).2 = (32, (parse l).2.2)) ∨
     (((parse l).2.1 = 30 ∨ (parse l).2.1 = 31) ∧ (parse (l.take (parse l).2.2 ++ [120])).2.1 = 0 ∧ (parse (l.take (parse l).2.2 ++ [120])).1 ≠ [])) := by
  have hl : l ≠ [] := by rintro rfl; simp [parse] at h
  have hp : parse l = parseGo [] 0 (pieces l) := by unfold parse; rw [if_neg hl]
  have hq : ∀ n, parse (l.take n ++ [120]) = parseGo [] 0 (pieces (l.take n ++ [120])) := fun n => by unfold parse; rw [if_neg (by simp)]
  rw [hp] at h ⊢
  obtain ⟨n, g1, g2, g3, g4⟩ := parseGo_cut (pieces l) (pieces_clean l) [] 0 h
  rw [glue_pieces] at g2 g4
  rw [Nat.zero_add] at g1
  rw [g1, hq]
  refine ⟨g2, g3, ?_⟩
  rcases g4 with ⟨q1, q2⟩ | q
  · exact .inl ⟨q1, by rw [q2, Nat.zero_add]⟩
  · exact .inr q
theorem parse_ok_at (l : List UInt8) (h : (parse l).2.1 = 0) : (parse l).2.2 = 0 := by
  have hgo : ∀ (ps : List (List UInt8)) (acc : List Fld) (a : Nat), (parseGo acc a ps).2.1 = 0 → (parseGo acc a ps).2.2 = 0 := by
    intro ps
    induction ps with
    | nil => intro acc a _; rfl
    | cons p r ih =>
      intro acc a
      unfold parseGo
      split
      · simp
      · split
        · simp
        · split
          · rename_i he
            intro h0
            exact absurd h0 he
          · exact ih _ _
  unfold parse at h ⊢
  split
  · rfl
  · rename_i hl
    rw [if_neg hl] at h
    exact hgo _ _ _ h
end Go.Proofs.YtldhfbdljogieaaDoor.Qu
