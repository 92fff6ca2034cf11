/- What the proof of this law needs, part 14: walks of the program's functions and plain laws (texts AcA9, AcAA). -/
import Derived.Test.YtpcgfhleloonfaaGreatDoorZb13
namespace Go.Proofs.YtpcgfhleloonfaaGreatDoor
open Go.RowKit Jo Ac
def kidN (s : List UInt8) : Int := match Lib.atoiAll s with | .ok v => v | .range => Lib.atoiSat s | _ => 0
theorem atoi_any (s : List UInt8) (w : World) (hE : AE w) (hs : s.length ≤ 16777216) : Calls Tryz.prog 79 #[S s] w fun e w' => (∃ ev, e = .returned (.tuple #[.int .i64 (kidN s), ev])) ∧ Kept (fun _ => True) w w' := by
  have hsz : (⟨s.toArray⟩ : ByteArray).size = s.length := size_mk s
  cases h : Lib.atoiAll s with
  | ok v =>
    have hv : kidN s = v := by unfold kidN; rw [h]
    refine (Tryz.strconv_Atoi_ok ⟨s.toArray⟩ (by rw [hsz]; omega) v (by simpa using h) w).mono ?_
    rintro e w' ⟨rfl, hw⟩
    refine ⟨⟨_, by rw [hv]⟩, ?_⟩
    rcases hw with rfl | ⟨t, rfl⟩
    · exact Kept.refl _ _
    · exact ⟨rfl, rfl, rfl, by rw [Lib.bytesWorld_size]; omega, fun k hk _ => Lib.bytesWorld_at_old w _ t k hk⟩
  | range =>
    have hv : kidN s = Lib.atoiSat s := by unfold kidN; rw [h]
    obtain ⟨te, pe, he⟩ := hE.er
    refine (Tryz.strconv_Atoi_range ⟨s.toArray⟩ (by rw [hsz]; omega) (by simpa using h) _ w he (.inr ⟨te, pe, rfl⟩)).mono ?_
    rintro e w' ⟨N, rfl, h1, h2, h3⟩
    exact ⟨⟨_, by rw [hv]⟩, Kept.of_below h3 (Nat.le_refl _)⟩
  | _ =>
    have hv : kidN s = 0 := by unfold kidN; rw [h]
    obtain ⟨te, pe, he⟩ := hE.es
    refine (Tryz.strconv_Atoi_syntax ⟨s.toArray⟩ (by rw [hsz]; omega) (by simp [h]) _ w he (.inr ⟨te, pe, rfl⟩)).mono ?_
    rintro e w' ⟨N, rfl, h1, h2, h3⟩
    exact ⟨⟨_, by rw [hv]⟩, Kept.of_below h3 (Nat.le_refl _)⟩
/-- The claims that a value tells. -/
def cOf (v : J) : Cl := ⟨gotT v [99, 108, 105, 101, 110, 116, 95, 105, 100], gotT v [115, 117, 98], (parseS (gotT v [115, 99, 111, 112, 101])).1, gotN v [102, 97, 109], gotN v [106, 116, 105], gotN v [105, 97, 116], gotN v [101, 120, 112]⟩
/-- What a token of three parts says: number, claims, what was signed, the signature. -/
def tok3 (is a b m : List UInt8) : Option (Int × Cl × List UInt8 × List UInt8) :=
  match unb64 m with
  | none => none
  | some x => if (decide (x.length = 32) && decide (1 ≤ kidN (gotT (objJ a) [107, 105, 100])) && decide (kidN (gotT (objJ a) [107, 105, 100]) ≤ 1073741824) && claimP (cOf (objJ b)) && (bodyP (kidN (gotT (objJ a) [107, 105, 100])) is (cOf (objJ b)) == a ++ 46 :: b)) = true then some (kidN (gotT (objJ a) [107, 105, 100]), cOf (objJ b), a ++ 46 :: b, x) else none
def tokL (is : List UInt8) (ps : List (List UInt8)) : Option (Int × Cl × List UInt8 × List UInt8) := match ps with | [a, b, m] => if nameP is = true then tok3 is a b m else none | _ => none
def tokP (is s : List UInt8) : Option (Int × Cl × List UInt8 × List UInt8) := tokL is (spl 46 s)
theorem tokL_ne (is : List UInt8) {ps : List (List UInt8)} (h : ps.length ≠ 3) : tokL is ps = none := by
  match ps, h with
  | [], _ => rfl
  | [_], _ => rfl
  | [_, _], _ => rfl
  | [_, _, _], h => exact absurd rfl h
  | _ :: _ :: _ :: _ :: _, _ => rfl
theorem three {ps : List (List UInt8)} (h : ps.length = 3) : ∃ a b m, ps = [a, b, m] := by
  match ps, h with
  | [a, b, m], _ => exact ⟨a, b, m, rfl⟩
abbrev tokVs (n : Int) (is : List UInt8) (c : Cl) (sv : Value) (sg si : List UInt8) : List Value := [.int .i64 n, S is, S c.client, S c.subject, sv, .int .i64 c.family, .int .i64 c.number, .int .i64 c.issued, .int .i64 c.till, S sg, S si]
def ParQ (is s : List UInt8) (w : World) (e : Ending) (w' : World) : Prop :=
  (∃ n is' c sa sn sc sg si, e = .returned (.tuple #[.agg (tokVs n is' c (.slice sa sn sc) sg si).toArray, .bool (tokP is s).isSome]) ∧ ∀ r, tokP is s = some r → r = (n, c, sg, si) ∧ is' = is ∧ OwnS w.heap.size (.slice sa sn sc) c.scope w') ∧ Kept (fun _ => True) w w'
theorem ParQ.none {is s : List UInt8} {w w' : World} (h : tokP is s = none) (hk : Kept (fun _ => True) w w') : ParQ is s w (.returned (.tuple #[.agg (tokVs 0 [] ⟨[], [], [], 0, 0, 0, 0⟩ (.slice none 0 0) [] []).toArray, .bool false])) w' :=
  ⟨⟨_, _, _, _, _, _, _, _, by rw [h]; rfl, fun r hr => by rw [h] at hr; cases hr⟩, hk⟩
def isJ (x : J) : Rel := fun ok v w => JIn ok w x v
theorem isJ_last (x : J) : Last1 (isJ x) := ⟨fun _ok _v _w _w' h hk => JIn.kept h hk fun _ _ h => h, fun _ok _ok2 _v _w h hm => JIn.mono h hm⟩
def anyV : Rel := fun _ _ _ => True
theorem anyV_last : Last1 anyV := ⟨fun _ _ _ _ _ _ => trivial, fun _ _ _ _ _ _ => trivial⟩
def rel4 (pb off pc : Nat) (a b : List UInt8) : List Rel := [isV (.slice (some ⟨pb, off, none⟩) 3 pc), isV (.pointer (some ⟨pb, off, none⟩)), isV (S a), isJ (objJ a), isV (.slice (some ⟨pb, off, none⟩) 3 pc), isV (.pointer (some ⟨pb, off + 1, none⟩)), isV (S b), isJ (objJ b), anyV, anyV, isV undef, isV undef]
theorem rel4_last (pb off pc : Nat) (a b : List UInt8) : Lasts (relOf (rel4 pb off pc a b)) := lasts_of _ (by
  intro r hr
  simp only [rel4, List.mem_cons, List.not_mem_nil, or_false] at hr
  obtain rfl | rfl | rfl | rfl | rfl | rfl | rfl | rfl | rfl | rfl | rfl | rfl := hr <;> first | exact isV_last _ | exact isJ_last _ | exact anyV_last)
def tgs : List Tgt := [⟨some 8, 0, 10, 3, 72, 5⟩, ⟨some 9, 0, 11, 7, 72, 5⟩]
def rel9 (gb : Nat) (k n : Int) (t : List UInt8) (nv iv sv : Value) (c : Cl) : List Rel := [isV (.func (.func 76) #[] #[]), isV (jotV k n t nv iv), isV (S c.client), isV (.func (.func 76) #[] #[]), isV (jotV k n t nv iv), isV (S c.subject), isV sv, isV (.func (.func 78) #[] #[.pointer (some ⟨gb, 0, none⟩)]), isV (.int .i64 c.family), isV (.func (.func 78) #[] #[.pointer (some ⟨gb, 0, none⟩)]), isV (.int .i64 c.number), isV (.func (.func 78) #[] #[.pointer (some ⟨gb, 0, none⟩)]), isV (.int .i64 c.issued), isV (.func (.func 78) #[] #[.pointer (some ⟨gb, 0, none⟩)]), isV (.int .i64 c.till), isV (.agg (c.vs sv).toArray), anyV, isV undef]
theorem rel9_last (gb : Nat) (k n : Int) (t : List UInt8) (nv iv sv : Value) (c : Cl) : Lasts (relOf (rel9 gb k n t nv iv sv c)) := lasts_of _ (by
  intro r hr
  simp only [rel9, List.mem_cons, List.not_mem_nil, or_false] at hr
  obtain rfl | rfl | rfl | rfl | rfl | rfl | rfl | rfl | rfl | rfl | rfl | rfl | rfl | rfl | rfl | rfl | rfl | rfl := hr <;> first | exact isV_last _ | exact anyV_last)
def tgs9 : List Tgt := [⟨some 16, 0, 17, 15, 26, 7⟩]
def rel10 (n : Int) (is : List UInt8) (c : Cl) (sv : Value) (pb off pc : Nat) (a b : List UInt8) : List Rel := [isV (.int .i64 n), isV (.agg #[.int .i64 n]), isV (S is), isV (.agg (c.vs sv).toArray), isV (.agg (saidVs is c sv).toArray), isV (.slice (some ⟨pb, off, none⟩) 3 pc), isV (.pointer (some ⟨pb, off, none⟩)), isV (S a), isV (S (a ++ [46])), isV (.slice (some ⟨pb, off, none⟩) 3 pc), isV (.pointer (some ⟨pb, off + 1, none⟩)), isV (S b), isV (S (a ++ [46] ++ b)), isV (.agg (tokVs n is c sv (a ++ [46] ++ b) []).toArray), anyV, isV undef]
theorem rel10_last (n : Int) (is : List UInt8) (c : Cl) (sv : Value) (pb off pc : Nat) (a b : List UInt8) : Lasts (relOf (rel10 n is c sv pb off pc a b)) := lasts_of _ (by
  intro r hr
  simp only [rel10, List.mem_cons, List.not_mem_nil, or_false] at hr
  obtain rfl | rfl | rfl | rfl | rfl | rfl | rfl | rfl | rfl | rfl | rfl | rfl | rfl | rfl | rfl | rfl := hr <;> first | exact isV_last _ | exact anyV_last)
def tgs10 : List Tgt := [⟨some 14, 0, 15, 13, 80, 11⟩]
def relT (gt : Nat) (n : Int) (is : List UInt8) (c : Cl) (sv : Value) (sg si : List UInt8) : List Rel := [isV (.agg (tokVs n is c sv sg si).toArray), isV (.bool true), isV (.bool true), isV (.pointer (some ⟨gt, 0, none⟩)), isV (.agg #[.int .i64 n]), isV (headV n), isV (.pointer (some ⟨gt, 1, none⟩)), isV (.agg (saidVs is c sv).toArray), isV (saidV is c sv), isRow 100 2 [headV n, saidV is c sv], isV (S (bodyP n is c)), isV (.pointer (some ⟨gt, 9, none⟩)), isV (S sg), isV (.bool (bodyP n is c == sg)), isV (.bool (bodyP n is c == sg)), isV undef, isV (.bool (bodyP n is c == sg))]
theorem relT_last (gt : Nat) (n : Int) (is : List UInt8) (c : Cl) (sv : Value) (sg si : List UInt8) : Lasts (relOf (relT gt n is c sv sg si)) := lasts_of _ (by
  intro r hr
  simp only [relT, List.mem_cons, List.not_mem_nil, or_false] at hr
  obtain rfl | rfl | rfl | rfl | rfl | rfl | rfl | rfl | rfl | rfl | rfl | rfl | rfl | rfl | rfl | rfl | rfl := hr <;> first | exact isV_last _ | exact isRow_last _ _ _)
def relF (_gt : Nat) (n : Int) (is : List UInt8) (c : Cl) (sv : Value) (sg si : List UInt8) : List Rel := [isV (.agg (tokVs n is c sv sg si).toArray), isV (.bool false), isV (.bool false), isV undef, isV undef, isV undef, isV undef, isV undef, isV undef, isV undef, isV undef, isV undef, isV undef, isV undef, isV (.bool false), isV undef, isV (.bool false)]
theorem relF_last (gt : Nat) (n : Int) (is : List UInt8) (c : Cl) (sv : Value) (sg si : List UInt8) : Lasts (relOf (relF gt n is c sv sg si)) := lasts_of _ (by
  intro r hr
  simp only [relF, List.mem_cons, List.not_mem_nil, or_false] at hr
  obtain rfl | rfl | rfl | rfl | rfl | rfl | rfl | rfl | rfl | rfl | rfl | rfl | rfl | rfl | rfl | rfl | rfl := hr <;> first | exact isV_last _ | exact isRow_last _ _ _)
def tgsE (B : Nat) : List Tgt := [⟨none, B, 15, 0, 80, 11⟩]
theorem parseS_small (s : List UInt8) : (parseS s).1.length ≤ 8 ∧ ∀ x ∈ (parseS s).1, x.length ≤ 16 := by
  unfold parseS
  split
  · exact ⟨by simp, by simp⟩
  · rcases parF_all (spl 32 s) [] List.Pairwise.nil with ⟨h1, L, h2, -, h4⟩ | ⟨-, h2⟩
    · rw [h2]
      simp only
      by_cases hf : fitsP L = true
      · rw [if_pos hf]
        refine ⟨?_, fun x hx => ?_⟩
        · unfold fitsP at hf
          simp only [Bool.and_eq_true, decide_eq_true_eq] at hf
          exact hf.1
        · have := (h4 x).1 hx
          exact (name_len (List.all_eq_true.1 h1 x (this.resolve_left (by simp)))).2
      · rw [if_neg hf]
        exact ⟨by simp, by simp⟩
    · rw [h2]
      exact ⟨by simp, by simp⟩
theorem cOf_ok (b : List UInt8) : ClOk (cOf (objJ b)) := by
  have hs := parseS_small (gotT (objJ b) [115, 99, 111, 112, 101])
  have g := fun n => got_small b n
  exact ⟨by have := (g [99, 108, 105, 101, 110, 116, 95, 105, 100]).1; show (gotT (objJ b) _).length ≤ _; omega, by have := (g [115, 117, 98]).1; show (gotT (objJ b) _).length ≤ _; omega, Nat.le_trans hs.1 (by decide), fun x hx => Nat.le_trans (hs.2 x hx) (by decide),
    by have := (g [102, 97, 109]).2; show _ ≤ gotN (objJ b) _ ∧ gotN (objJ b) _ ≤ _; omega, by have := (g [106, 116, 105]).2; show _ ≤ gotN (objJ b) _ ∧ gotN (objJ b) _ ≤ _; omega, by have := (g [105, 97, 116]).2; show _ ≤ gotN (objJ b) _ ∧ gotN (objJ b) _ ≤ _; omega, by have := (g [101, 120, 112]).2; show _ ≤ gotN (objJ b) _ ∧ gotN (objJ b) _ ≤ _; omega⟩
set_option maxRecDepth 100000 in
set_option maxHeartbeats 8000000 in
theorem parse_any (is s : List UInt8) (w : World) (hE : AE w) (his : is.length ≤ 16777216) (hs : s.length ≤ 8388608) : Calls Tryz.prog 43 #[S is, S s] w (ParQ is s w) := by
  have CN := Lib.hid (fun w => isName_any is w his)
  have hle := spl_le 46 s
  go_enter Tryz.func43, Tryz.ntmps43
  obtain ⟨W, hW⟩ : ∃ W, w.alloc (.cells (tokVs 0 [] ⟨[], [], [], 0, 0, 0, 0⟩ (.slice none 0 0) [] []).toArray 80) = W := ⟨_, rfl⟩
  have hk0 : Kept (fun _ => True) w W := by rw [← hW]; exact (Kept.refl _ _).alloc _
  have HA0 : Hid (RowW w.heap.size 80 (tokVs 0 [] ⟨[], [], [], 0, 0, 0, 0⟩ (.slice none 0 0) [] []) W) := Lib.hid (by rw [← hW]; exact heap_alloc_new w _)
  have CS := split_any s 46 W (by omega) (hE.kept hk0).ml
  have HEW := Lib.hid hE
  have HE0 := Lib.hid (hE.kept hk0)
  have HK0 := Lib.hid hk0
  have HI := Lib.hid his
  obtain ⟨B, hB⟩ : ∃ B, w.heap.size = B := ⟨_, rfl⟩
  have HB := Lib.hid hB
  rw [hB] at HA0
  go_wp2_with fail
  refine CS.mono ?_
  rintro e W1 ⟨v1, rfl, hs1, hk1⟩
  obtain ⟨ps, hps⟩ : ∃ ps, spl 46 s = ps := ⟨_, rfl⟩
  rw [hps] at hs1 hle
  have HP : Hid (tokP is s = tokL is ps) := Lib.hid (by rw [tokP, hps])
  have HLE : Hid (∀ x ∈ ps, x.length ≤ 8388608) := Lib.hid fun x hx => by have := hle x hx; omega
  obtain ⟨pa, pc, rfl, hpc, hcell⟩ := hs1
  have HCC := Lib.hid hcell
  have HK1 := Lib.hid (HK0.out.tr hk1)
  have HE1 := Lib.hid (HE0.out.kept hk1)
  have HA1 := Lib.hid (HA0.out.kept hk1 trivial)
  obtain ⟨N, hN⟩ : ∃ N, ps.length = N := ⟨_, rfl⟩
  have HN := Lib.hid hN
  rw [hN]
  clear hk0 hk1 hcell hpc hN hle hps hW hB CS hE hs his HK0 HE0 HA0
  by_cases h3 : N = 3
  · subst h3
    obtain ⟨a, b, m, rfl⟩ := three HN.out
    have CN1 := CN.out W1
    go_wp2_with fail
    refine CN1.mono ?_
    rintro e W2 ⟨rfl, hk2⟩
    have HK2 := Lib.hid (HK1.out.tr hk2)
    have HX2 := Lib.hid hk2
    have HE2 := Lib.hid (HE1.out.kept hk2)
    have HA2 := Lib.hid (HA1.out.kept hk2 trivial)
    clear hk2 HK1 HE1 HA1 CN CN1
    cases hnm : nameP is with
    | false =>
      have HF : Hid (tokP is s = none) := Lib.hid (by rw [HP.out, tokL, hnm]; rfl)
      clear hnm
      go_wp2_with (first | (refine wpList_storeRow rfl 80 80 _ _ rfl B _ (tokVs 0 [] ⟨[], [], [], 0, 0, 0, 0⟩ (.slice none 0 0) [] []).toArray rfl rfl HA2.out rfl (by kernel_rfl) rfl ?_; refine Hid.out ?_))
      refine Lib.hid ?_
      intro W3 hr3 hk3
      have g0 := hr3.at' 0 _ rfl
      have g1 := hr3.at' 1 _ rfl
      have g2 := hr3.at' 2 _ rfl
      have g3 := hr3.at' 3 _ rfl
      have g4 := hr3.at' 4 _ rfl
      have g5 := hr3.at' 5 _ rfl
      have g6 := hr3.at' 6 _ rfl
      have g7 := hr3.at' 7 _ rfl
      have g8 := hr3.at' 8 _ rfl
      have g9 := hr3.at' 9 _ rfl
      have g10 := hr3.at' 10 _ rfl
      have HK3 : Hid (Kept (fun _ => True) w W3) := Lib.hid (HK2.out.trans hk3 fun i hi _ => by rw [HB.out] at hi; omega)
      clear hr3 hk3
      go_wp2
      refine bodyPost_ret (v := .tuple #[.agg (tokVs 0 [] ⟨[], [], [], 0, 0, 0, 0⟩ (.slice none 0 0) [] []).toArray, .bool false]) (by simp [results, Tryz.results43, go_sem, g0, g1, g2, g3, g4, g5, g6, g7, g8, g9, g10]) rfl ?_
      exact ParQ.none HF.out HK3.out
    | true =>
      have HF : Hid (tokP is s = tok3 is a b m) := Lib.hid (by rw [HP.out, tokL, hnm]; rfl)
      obtain ⟨pb, off, rfl, hpb, -⟩ := HCC.out 0 a rfl
      have HL : Hid (∀ (j : Nat) x, [a, b, m][j]? = some x → W2.cell? ⟨pb, off + j, none⟩ = some (S x)) := Lib.hid fun j x hj => by
        obtain ⟨b', off', e1, e2, e3⟩ := HCC.out j x hj
        cases e1
        exact (HX2.out.cell e2 trivial).trans e3
      have HPB : Hid (pb < W2.heap.size) := Lib.hid (Nat.lt_of_lt_of_le hpb HX2.out.size)
      clear hnm hpb HCC HX2 HP HN
      go_wp2_with fail
      refine wp_flow2 rfl [some 31, some 32, some 33, some 34, some 35, some 36, some 37, some 38, some 7, some 8, none, none] rfl (by decide) (by kernel_rfl) (by kernel_rfl) (WIs W2 (relOf (rel4 pb off pc a b)) tgs) ?_ ?_ ?_
      · intro vs
        exact WIs.start (fun k t h e => by have := List.mem_of_getElem? h; simp only [tgs, List.mem_cons, List.not_mem_nil, or_false] at this; obtain rfl | rfl := this <;> cases e) (fun k l t u h1 h2 h3 e1 e2 => by have := List.mem_of_getElem? h1; simp only [tgs, List.mem_cons, List.not_mem_nil, or_false] at this; obtain rfl | rfl := this <;> cases e1)
      · intro i o L vs x w1 p h
        have hi : i < 12 := p.lt
        have hR := rel4_last pb off pc a b
        have hk := h.kept fun t ht => by simp only [tgs, List.mem_cons, List.not_mem_nil, or_false] at ht; obtain rfl | rfl := ht <;> simp
        obtain rfl | rfl | rfl | rfl | rfl | rfl | rfl | rfl | rfl | rfl | rfl | rfl : i = 0 ∨ i = 1 ∨ i = 2 ∨ i = 3 ∨ i = 4 ∨ i = 5 ∨ i = 6 ∨ i = 7 ∨ i = 8 ∨ i = 9 ∨ i = 10 ∨ i = 11 := by omega
        · obtain rfl : _ = o := Option.some.inj p.isAt
          exact flow_mv p rfl h hR (tok_of tgs 0 rfl L) rfl rfl ((p.old 6 rfl).trans rfl)
        · obtain rfl : _ = o := Option.some.inj p.isAt
          have e1 := p.isv h 0 31 rfl rfl rfl
          simp only [Act.eval, Array.getD_eq_getD_getElem?] at e1
          exact flow_is p rfl h hR (tok_of tgs 1 rfl L) rfl (by simp [execOp, go_sem, e1])
        · obtain rfl : _ = o := Option.some.inj p.isAt
          have c0 : w1.cell? ⟨pb, off, none⟩ = some (S a) := (hk.cell HPB.out trivial).trans (HL.out 0 _ rfl)
          exact flow_load p rfl h hR (tok_of tgs 2 rfl L) rfl rfl (p.isv h 1 32 rfl rfl rfl) (by simp [go_sem, c0])
        · obtain rfl : _ = o := Option.some.inj p.isAt
          refine flow_call1 p rfl h hR (tok_src tgs 3 rfl fun t ht e => ?_) rfl (fun w => by kernel_rfl) (p.isv h 2 33 rfl rfl rfl) (accObject_any a w1 (HLE.out _ (by simp))) ?_
          · simp only [tgs, List.mem_cons, List.not_mem_nil, or_false] at ht
            obtain rfl | rfl := ht
            · exact p.notyet 10 rfl rfl
            · cases e
          · rintro e w' ⟨v, rfl, hj, hk'⟩
            exact ⟨_, rfl, hk', fun ok hok => JIn.mono hj fun b _ hb => hok b hb⟩
        · obtain rfl : _ = o := Option.some.inj p.isAt
          exact flow_mv p rfl h hR (tok_of tgs 4 rfl L) rfl rfl ((p.old 6 rfl).trans rfl)
        · obtain rfl : _ = o := Option.some.inj p.isAt
          have e1 := p.isv h 4 35 rfl rfl rfl
          simp only [Act.eval, Array.getD_eq_getD_getElem?] at e1
          exact flow_is p rfl h hR (tok_of tgs 5 rfl L) rfl (by simp [execOp, go_sem, e1])
        · obtain rfl : _ = o := Option.some.inj p.isAt
          have c0 := (hk.cell HPB.out trivial).trans (HL.out 1 _ rfl)
          exact flow_load p rfl h hR (tok_of tgs 6 rfl L) rfl rfl (p.isv h 5 36 rfl rfl rfl) (by simp [go_sem, c0])
        · obtain rfl : _ = o := Option.some.inj p.isAt
          refine flow_call1 p rfl h hR (tok_src tgs 7 rfl fun t ht e => ?_) rfl (fun w => by kernel_rfl) (p.isv h 6 37 rfl rfl rfl) (accObject_any b w1 (HLE.out _ (by simp))) ?_
          · simp only [tgs, List.mem_cons, List.not_mem_nil, or_false] at ht
            obtain rfl | rfl := ht
            · cases e
            · exact p.notyet 11 rfl rfl
          · rintro e w' ⟨v, rfl, hj, hk'⟩
            exact ⟨_, rfl, hk', fun ok hok => JIn.mono hj fun b _ hb => hok b hb⟩
        · obtain rfl : _ = o := Option.some.inj p.isAt
          exact flow_alloc p rfl h hR 0 rfl rfl rfl (p.notyet 10 rfl rfl) (cs := #[.int .i64 0, .int .i64 0, S [], .slice none 0 0, .slice none 0 0]) rfl rfl (fun w => by kernel_rfl) fun _ _ _ => trivial
        · obtain rfl : _ = o := Option.some.inj p.isAt
          exact flow_alloc p rfl h hR 1 rfl rfl rfl (p.notyet 11 rfl rfl) (cs := #[.int .i64 0, .int .i64 0, S [], .slice none 0 0, .slice none 0 0]) rfl rfl (fun w => by kernel_rfl) fun _ _ _ => trivial
        · obtain rfl : _ = o := Option.some.inj p.isAt
          obtain ⟨ok, e2, hj⟩ := p.get h 3 34 rfl rfl
          obtain ⟨na, nc, ia, ic, us, hv, -⟩ := JIn.inv hj
          have e1 := p.val 8 7 rfl (p.dep 8 rfl)
          exact flow_store p rfl h hR 0 rfl rfl (fun j hj => by cases hj; exact p.dep 8 rfl) rfl (fun _ _ => rfl) rfl (fun g hg _ => e1.trans (hg 8 rfl)) _ hv e2 rfl (by kernel_rfl) rfl
        · obtain rfl : _ = o := Option.some.inj p.isAt
          obtain ⟨ok, e2, hj⟩ := p.get h 7 38 rfl rfl
          obtain ⟨na, nc, ia, ic, us, hv, -⟩ := JIn.inv hj
          have e1 := p.val 9 8 rfl (p.dep 9 rfl)
          exact flow_store p rfl h hR 1 rfl rfl (fun j hj => by cases hj; exact p.dep 9 rfl) rfl (fun _ _ => rfl) rfl (fun g hg _ => e1.trans (hg 9 rfl)) _ hv e2 rfl (by kernel_rfl) rfl
      · intro vs w1 L hL h
        have HK3 := Lib.hid (HK2.out.tr (h.kept fun t ht => by simp only [tgs, List.mem_cons, List.not_mem_nil, or_false] at ht; obtain rfl | rfl := ht <;> simp))
        have HX3 := Lib.hid (h.kept fun t ht => by simp only [tgs, List.mem_cons, List.not_mem_nil, or_false] at ht; obtain rfl | rfl := ht <;> simp)
        obtain ⟨ok, G, -, -, -, h3, h4, -⟩ := h
        have j3 : JIn ok w1 (objJ a) (vs 3) := h3 3 (hL 3 (by decide))
        have j7 : JIn ok w1 (objJ b) (vs 7) := h3 7 (hL 7 (by decide))
        obtain ⟨-, p2, -, cs1, p4, -, p6⟩ := h4 0 _ rfl fun j hj => by cases hj; exact hL 8 (by decide)
        obtain ⟨-, q2, -, cs2, q4, -, q6⟩ := h4 1 _ rfl fun j hj => by cases hj; exact hL 9 (by decide)
        have e8 := (p2 8 rfl).1
        have e9 := (q2 9 rfl).1
        obtain rfl := p6 (hL 10 (by decide))
        obtain rfl := q6 (hL 11 (by decide))
        obtain ⟨va, hva⟩ : ∃ va, vs 3 = va := ⟨_, rfl⟩
        obtain ⟨vb, hvb⟩ : ∃ vb, vs 7 = vb := ⟨_, rfl⟩
        have p4' : w1.heap[G 0]? = some (.cells va.cells 72 (0, 0)) := by rw [← hva]; exact p4
        have q4' : w1.heap[G 1]? = some (.cells vb.cells 72 (0, 0)) := by rw [← hvb]; exact q4
        rw [hva] at j3
        rw [hvb] at j7
        obtain ⟨ga, hga⟩ : ∃ ga, G 0 = ga := ⟨_, rfl⟩
        obtain ⟨gb, hgb⟩ : ∃ gb, G 1 = gb := ⟨_, rfl⟩
        rw [hga] at p4' e8
        rw [hgb] at q4' e9
        clear p2 q2 p4 q4 p6 q6 h4 hga hgb
        obtain ⟨na, nc, ia, ic, us, rfl, -⟩ := j3.inv
        obtain ⟨nb, nd, ib, id, us2, rfl, -⟩ := j7.inv
        simp only [putAll, Act.put, List.setIfInBounds_toArray, List.set_cons_zero, List.set_cons_succ, Nat.zero_add, Nat.reduceAdd, e8, e9, hva, hvb]
        clear h3 hL e8 e9 hva hvb
        generalize vs 0 = x0
        generalize vs 1 = x1
        generalize vs 2 = x2
        generalize vs 4 = x4
        generalize vs 5 = x5
        generalize vs 6 = x6
        have JA := Lib.hid (j3.mono (ok2 := fun _ => True) fun _ _ _ => trivial)
        have JB := Lib.hid (j7.mono (ok2 := fun _ => True) fun _ _ _ => trivial)
        have RA : Hid (RowW ga 72 [.int .i64 (objJ a).kind, .int .i64 (objJ a).num, S (objJ a).text, .slice na (objJ a).names.length nc, .slice ia (objJ a).items.length ic] w1) := Lib.hid p4'
        have RB : Hid (RowW gb 72 [.int .i64 (objJ b).kind, .int .i64 (objJ b).num, S (objJ b).text, .slice nb (objJ b).names.length nd, .slice ib (objJ b).items.length id] w1) := Lib.hid q4'
        clear j3 j7 p4' q4'
        have a0 := RA.out.at' 0 _ rfl
        have a1 := RA.out.at' 1 _ rfl
        have a2 := RA.out.at' 2 _ rfl
        have a3 := RA.out.at' 3 _ rfl
        have a4 := RA.out.at' 4 _ rfl
        have CT := Lib.hid (gotText_any (objJ a) _ [107, 105, 100] w1 JA.out (objJ_fine a).2)
        obtain ⟨kd, hkd⟩ : ∃ kd, gotT (objJ a) [107, 105, 100] = kd := ⟨_, rfl⟩
        have HKD := Lib.hid hkd
        have HKL : Hid (kd.length ≤ 16777216) := Lib.hid (by rw [← hkd]; have := (got_small a [107, 105, 100]).1; omega)
        rw [hkd] at CT
        clear hkd
        go_wp2_with fail
        refine CT.out.mono ?_
        rintro e w2 ⟨rfl, hk2⟩
        have HX4 := Lib.hid (HX3.out.tr hk2)
        have HK4 := Lib.hid (HK3.out.tr hk2)
        have RB2 := Lib.hid (RB.out.kept hk2 trivial)
        have JB2 := Lib.hid (JB.out.kept hk2 fun _ _ _ => trivial)
        have CA := Lib.hid (atoi_any kd w2 (HE2.out.kept HX4.out) HKL.out)
        clear a0 a1 a2 a3 a4 hk2 CT HX3 HK3 RB JB
        go_wp2_with fail
        refine CA.out.mono ?_
        rintro e w3 ⟨⟨ev, rfl⟩, hk3⟩
        obtain ⟨n, hn⟩ : ∃ n, kidN kd = n := ⟨_, rfl⟩
        have HNN : Hid (kidN (gotT (objJ a) [107, 105, 100]) = n) := Lib.hid (by rw [HKD.out]; exact hn)
        rw [hn]
        have HX5 := Lib.hid (HX4.out.tr hk3)
        have HK5 := Lib.hid (HK4.out.tr hk3)
        have RB3 := Lib.hid (RB2.out.kept hk3 trivial)
        have JB3 := Lib.hid (JB2.out.kept hk3 fun _ _ _ => trivial)
        clear hk3 hn CA RB2 JB2 HX4 HK4 HKD HKL
        have a0 := RB3.out.at' 0 _ rfl
        have a1 := RB3.out.at' 1 _ rfl
        have a2 := RB3.out.at' 2 _ rfl
        have a3 := RB3.out.at' 3 _ rfl
        have a4 := RB3.out.at' 4 _ rfl
        have CT := Lib.hid (gotText_any (objJ b) _ [115, 99, 111, 112, 101] w3 JB3.out (objJ_fine b).2)
        obtain ⟨st, hst⟩ : ∃ st, gotT (objJ b) [115, 99, 111, 112, 101] = st := ⟨_, rfl⟩
        have HST := Lib.hid hst
        have HSL : Hid (st.length ≤ 16777215) := Lib.hid (by rw [← hst]; have := (got_small b [115, 99, 111, 112, 101]).1; omega)
        rw [hst] at CT
        clear hst
        go_wp2_with fail
        refine CT.out.mono ?_
        rintro e w4 ⟨rfl, hk4⟩
        have HX6 := Lib.hid (HX5.out.tr hk4)
        have HK6 := Lib.hid (HK5.out.tr hk4)
        have RB4 := Lib.hid (RB3.out.kept hk4 trivial)
        have JB4 := Lib.hid (JB3.out.kept hk4 fun _ _ _ => trivial)
        have CP := Lib.hid (scopeParse_any st w4 HSL.out (HE2.out.kept HX6.out).ml)
        clear a0 a1 a2 a3 a4 hk4 CT HX5 HK5 RB3 JB3
        go_wp2_with fail
        refine CP.out.mono ?_
        rintro e w5 ⟨sv, rfl, ho5, hk5⟩
        obtain ⟨sa, sc, rfl⟩ := row_slice ho5
        obtain ⟨sl, hsl⟩ : ∃ sl, (parseS st).1 = sl := ⟨_, rfl⟩
        have HSC : Hid ((parseS (gotT (objJ b) [115, 99, 111, 112, 101])).1 = sl) := Lib.hid (by rw [HST.out]; exact hsl)
        rw [hsl] at ho5 ⊢
        obtain ⟨sn, hsn⟩ : ∃ sn, sl.length = sn := ⟨_, rfl⟩
        have HO5 : Hid (OwnS (w.heap.size + 1) (.slice sa sn sc) sl w5) := Lib.hid (by rw [← hsn]; exact ownsRow_base ho5 (by have h1 := HA2.out.lt; have h2 := HX6.out.size; have h3 := HB.out; omega))
        have HOB5 : Hid (∀ q, (Value.slice sa sn sc).ownBlock = some q → w.heap.size + 1 ≤ q ∧ q < w5.heap.size) := Lib.hid fun q hq => HO5.out.lt q hq
        rw [hsn]
        have HX7 := Lib.hid (HX6.out.tr hk5)
        have HK7 := Lib.hid (HK6.out.tr hk5)
        have RB5 := Lib.hid (RB4.out.kept hk5 trivial)
        have JB5 := Lib.hid (JB4.out.kept hk5 fun _ _ _ => trivial)
        clear hk5 CP HX6 HK6 RB4 JB4 HSL ho5 hsl hsn HST
        obtain ⟨er, her⟩ : ∃ er, (parseS st).2 = er := ⟨_, rfl⟩
        rw [her]
        clear her
        go_wp2_with fail
        refine wp_flow2 rfl [some 54, some 55, some 56, some 57, some 58, some 59, some 60, some 61, some 62, some 63, some 64, some 65, some 66, some 67, some 68, some 69, some 15, none] rfl (by decide) (by kernel_rfl) (by kernel_rfl) (WIs w5 (relOf (rel9 gb (objJ b).kind (objJ b).num (objJ b).text (.slice nb (objJ b).names.length nd) (.slice ib (objJ b).items.length id) (.slice sa sn sc) (cOf (objJ b)))) tgs9) ?_ ?_ ?_
        · intro vs
          exact WIs.start (fun k t h e => by obtain rfl := List.mem_singleton.1 (List.mem_of_getElem? h); cases e) (fun k l t u h1 h2 h3 e1 e2 => by obtain rfl := List.mem_singleton.1 (List.mem_of_getElem? h1); cases e1)
        · intro i o L vs x w1 p h
          have hi : i < 18 := p.lt
          have hR := rel9_last gb (objJ b).kind (objJ b).num (objJ b).text (.slice nb (objJ b).names.length nd) (.slice ib (objJ b).items.length id) (.slice sa sn sc) (cOf (objJ b))
          have hk := h.kept fun t ht => by obtain rfl := List.mem_singleton.1 ht; simp
          obtain rfl | rfl | rfl | rfl | rfl | rfl | rfl | rfl | rfl | rfl | rfl | rfl | rfl | rfl | rfl | rfl | rfl | rfl : i = 0 ∨ i = 1 ∨ i = 2 ∨ i = 3 ∨ i = 4 ∨ i = 5 ∨ i = 6 ∨ i = 7 ∨ i = 8 ∨ i = 9 ∨ i = 10 ∨ i = 11 ∨ i = 12 ∨ i = 13 ∨ i = 14 ∨ i = 15 ∨ i = 16 ∨ i = 17 := by omega
          · obtain rfl : _ = o := Option.some.inj p.isAt
            exact flow_mv p rfl h hR (tok_of tgs9 0 rfl L) rfl rfl ((p.old 9 rfl).trans rfl)
          · obtain rfl : _ = o := Option.some.inj p.isAt
            have c0 := (RB5.out.kept hk trivial).at' 0 _ rfl
            have c1 := (RB5.out.kept hk trivial).at' 1 _ rfl
            have c2 := (RB5.out.kept hk trivial).at' 2 _ rfl
            have c3 := (RB5.out.kept hk trivial).at' 3 _ rfl
            have c4 := (RB5.out.kept hk trivial).at' 4 _ rfl
            exact flow_load p rfl h hR (tok_of tgs9 1 rfl L) rfl rfl ((p.old 8 rfl).trans rfl) (by simp [go_sem, c0, c1, c2, c3, c4])
          · obtain rfl : _ = o := Option.some.inj p.isAt
            refine flow_callv2 p rfl h hR (tok_of tgs9 2 rfl L) rfl (fun w => by kernel_rfl) (p.isv h 0 54 rfl rfl rfl) (p.isv h 1 55 rfl rfl rfl) rfl (gotText_any (objJ b) _ [99, 108, 105, 101, 110, 116, 95, 105, 100] w1 (JB5.out.kept hk fun _ _ _ => trivial) (objJ_fine b).2) ?_
            rintro e w' ⟨rfl, hk'⟩
            exact ⟨_, rfl, hk', fun ok _ => rfl⟩
          · obtain rfl : _ = o := Option.some.inj p.isAt
            exact flow_mv p rfl h hR (tok_of tgs9 3 rfl L) rfl rfl ((p.old 9 rfl).trans rfl)
          · obtain rfl : _ = o := Option.some.inj p.isAt
            have c0 := (RB5.out.kept hk trivial).at' 0 _ rfl
            have c1 := (RB5.out.kept hk trivial).at' 1 _ rfl
            have c2 := (RB5.out.kept hk trivial).at' 2 _ rfl
            have c3 := (RB5.out.kept hk trivial).at' 3 _ rfl
            have c4 := (RB5.out.kept hk trivial).at' 4 _ rfl
            exact flow_load p rfl h hR (tok_of tgs9 4 rfl L) rfl rfl ((p.old 8 rfl).trans rfl) (by simp [go_sem, c0, c1, c2, c3, c4])
          · obtain rfl : _ = o := Option.some.inj p.isAt
            refine flow_callv2 p rfl h hR (tok_of tgs9 5 rfl L) rfl (fun w => by kernel_rfl) (p.isv h 3 57 rfl rfl rfl) (p.isv h 4 58 rfl rfl rfl) rfl (gotText_any (objJ b) _ [115, 117, 98] w1 (JB5.out.kept hk fun _ _ _ => trivial) (objJ_fine b).2) ?_
            rintro e w' ⟨rfl, hk'⟩
            exact ⟨_, rfl, hk', fun ok _ => rfl⟩
          · obtain rfl : _ = o := Option.some.inj p.isAt
            exact flow_mv p rfl h hR (tok_of tgs9 6 rfl L) rfl rfl ((p.old 13 rfl).trans rfl)
          · obtain rfl : _ = o := Option.some.inj p.isAt
            exact flow_mv p rfl h hR (tok_of tgs9 7 rfl L) rfl rfl ((p.old 10 rfl).trans rfl)
          · obtain rfl : _ = o := Option.some.inj p.isAt
            refine flow_callv1 p rfl h hR (tok_of tgs9 8 rfl L) rfl (fun w => by kernel_rfl) (p.isv h 7 61 rfl rfl rfl) rfl (gotNum_any (objJ b) _ _ _ _ _ [102, 97, 109] gb w1 (JB5.out.kept hk fun _ _ _ => trivial) (objJ_fine b).2 (RB5.out.kept hk trivial)) ?_
            rintro e w' ⟨rfl, hk'⟩
            exact ⟨_, rfl, hk', fun ok _ => rfl⟩
          · obtain rfl : _ = o := Option.some.inj p.isAt
            exact flow_mv p rfl h hR (tok_of tgs9 9 rfl L) rfl rfl ((p.old 10 rfl).trans rfl)
          · obtain rfl : _ = o := Option.some.inj p.isAt
            refine flow_callv1 p rfl h hR (tok_of tgs9 10 rfl L) rfl (fun w => by kernel_rfl) (p.isv h 9 63 rfl rfl rfl) rfl (gotNum_any (objJ b) _ _ _ _ _ [106, 116, 105] gb w1 (JB5.out.kept hk fun _ _ _ => trivial) (objJ_fine b).2 (RB5.out.kept hk trivial)) ?_
            rintro e w' ⟨rfl, hk'⟩
            exact ⟨_, rfl, hk', fun ok _ => rfl⟩
          · obtain rfl : _ = o := Option.some.inj p.isAt
            exact flow_mv p rfl h hR (tok_of tgs9 11 rfl L) rfl rfl ((p.old 10 rfl).trans rfl)
          · obtain rfl : _ = o := Option.some.inj p.isAt
            refine flow_callv1 p rfl h hR (tok_of tgs9 12 rfl L) rfl (fun w => by kernel_rfl) (p.isv h 11 65 rfl rfl rfl) rfl (gotNum_any (objJ b) _ _ _ _ _ [105, 97, 116] gb w1 (JB5.out.kept hk fun _ _ _ => trivial) (objJ_fine b).2 (RB5.out.kept hk trivial)) ?_
            rintro e w' ⟨rfl, hk'⟩
            exact ⟨_, rfl, hk', fun ok _ => rfl⟩
          · obtain rfl : _ = o := Option.some.inj p.isAt
            exact flow_mv p rfl h hR (tok_of tgs9 13 rfl L) rfl rfl ((p.old 10 rfl).trans rfl)
          · obtain rfl : _ = o := Option.some.inj p.isAt
            refine flow_callv1 p rfl h hR (tok_of tgs9 14 rfl L) rfl (fun w => by kernel_rfl) (p.isv h 13 67 rfl rfl rfl) rfl (gotNum_any (objJ b) _ _ _ _ _ [101, 120, 112] gb w1 (JB5.out.kept hk fun _ _ _ => trivial) (objJ_fine b).2 (RB5.out.kept hk trivial)) ?_
            rintro e w' ⟨rfl, hk'⟩
            exact ⟨_, rfl, hk', fun ok _ => rfl⟩
          · obtain rfl : _ = o := Option.some.inj p.isAt
            have e56 := p.isv h 2 56 rfl rfl rfl
            have e59 := p.isv h 5 59 rfl rfl rfl
            have e60 := p.isv h 6 60 rfl rfl rfl
            have e62 := p.isv h 8 62 rfl rfl rfl
            have e64 := p.isv h 10 64 rfl rfl rfl
            have e66 := p.isv h 12 66 rfl rfl rfl
            have e68 := p.isv h 14 68 rfl rfl rfl
            simp only [Act.eval, Array.getD_eq_getD_getElem?] at e56 e59 e60 e62 e64 e66 e68
            refine flow_is p rfl h hR (tok_src tgs9 15 rfl fun t ht e => ?_) (c := .agg ((cOf (objJ b)).vs (.slice sa sn sc)).toArray) rfl (by simp [execOp, go_sem, e56, e59, e60, e62, e64, e66, e68])
            obtain rfl := List.mem_singleton.1 ht
            exact p.notyet 17 rfl rfl
          · obtain rfl : _ = o := Option.some.inj p.isAt
            exact flow_alloc p rfl h hR 0 rfl rfl rfl (p.notyet 17 rfl rfl) (cs := #[S [], S [], .slice none 0 0, .int .i64 0, .int .i64 0, .int .i64 0, .int .i64 0]) rfl rfl (fun w => by kernel_rfl) fun _ _ _ => trivial
          · obtain rfl : _ = o := Option.some.inj p.isAt
            obtain ⟨ok, e2, hj⟩ := p.get h 15 69 rfl rfl
            have e1 := p.val 16 15 rfl (p.dep 16 rfl)
            exact flow_store p rfl h hR 0 rfl rfl (fun j hj => by cases hj; exact p.dep 16 rfl) rfl (fun _ _ => rfl) rfl (fun g hg _ => e1.trans (hg 16 rfl)) _ hj e2 rfl (by kernel_rfl) rfl
        · intro vs w6 L hL h
          have hkk := h.kept fun t ht => by obtain rfl := List.mem_singleton.1 ht; simp
          have HX8 := Lib.hid (HX7.out.tr hkk)
          have HK8 := Lib.hid (HK7.out.tr hkk)
          have HO8 := Lib.hid (HO5.out.kept hkk)
          have HOB6 : Hid (∀ q, (Value.slice sa sn sc).ownBlock = some q → w.heap.size + 1 ≤ q ∧ q < w6.heap.size) := Lib.hid fun q hq => ⟨(HOB5.out q hq).1, Nat.lt_of_lt_of_le (HOB5.out q hq).2 hkk.size⟩
          obtain ⟨ok, G, -, -, -, h3, h4, -⟩ := h
          have j15 : vs 15 = .agg ((cOf (objJ b)).vs (.slice sa sn sc)).toArray := h3 15 (hL 15 (by decide))
          obtain ⟨-, p2, -, cs1, p4, -, p6⟩ := h4 0 _ rfl fun j hj => by cases hj; exact hL 16 (by decide)
          have e16 := (p2 16 rfl).1
          obtain rfl := p6 (hL 17 (by decide))
          obtain ⟨C, hC⟩ : ∃ C, cOf (objJ b) = C := ⟨_, rfl⟩
          have HCC := Lib.hid hC
          rw [hC] at j15
          obtain ⟨gc, hgc⟩ : ∃ gc, G 0 = gc := ⟨_, rfl⟩
          rw [hgc] at e16 p4
          have RC : Hid (RowW gc 26 (C.vs (.slice sa sn sc)) w6) := Lib.hid (by
            have q : w6.heap[gc]? = some (.cells (vs 15).cells 26 (0, 0)) := p4
            rw [j15] at q
            exact q)
          simp only [putAll, Act.put, List.setIfInBounds_toArray, List.set_cons_zero, List.set_cons_succ, Nat.zero_add, Nat.reduceAdd, e16]
          clear p2 p4 p6 h4 h3 hL e16 hgc j15 hC hkk HX7 HK7 HO5 RB5 JB5 HOB5
          generalize vs 0 = y0
          generalize vs 1 = y1
          generalize vs 2 = y2
          generalize vs 3 = y3
          generalize vs 4 = y4
          generalize vs 5 = y5
          generalize vs 6 = y6
          generalize vs 7 = y7
          generalize vs 8 = y8
          generalize vs 9 = y9
          generalize vs 10 = y10
          generalize vs 11 = y11
          generalize vs 12 = y12
          generalize vs 13 = y13
          generalize vs 14 = y14
          generalize vs 15 = y15
          have HL2 : Hid (∀ (j : Nat) x, [a, b, m][j]? = some x → w6.cell? ⟨pb, off + j, none⟩ = some (S x)) := Lib.hid fun j x hj => (HX8.out.cell HPB.out trivial).trans (HL.out j x hj)
          have HPB2 : Hid (pb < w6.heap.size) := Lib.hid (Nat.lt_of_lt_of_le HPB.out HX8.out.size)
          have CT1 := Lib.hid (run_cat (P := Tryz.prog) a [46] _ rfl (by have := HLE.out a (by simp); simp only [List.length_cons, List.length_nil]; omega))
          have CT2 := Lib.hid (run_cat (P := Tryz.prog) (a ++ [46]) b _ rfl (by have := HLE.out a (by simp); have := HLE.out b (by simp); simp only [List.length_append, List.length_cons, List.length_nil]; omega))
          go_wp2_with fail
          refine wp_flow2 rfl [some 70, some 71, some 72, some 73, some 74, some 75, some 76, some 77, some 78, some 79, some 80, some 81, some 82, some 83, some 16, none] rfl (by decide) (by kernel_rfl) (by kernel_rfl) (WIs w6 (relOf (rel10 n is C (.slice sa sn sc) pb off pc a b)) tgs10) ?_ ?_ ?_
          · intro vs
            exact WIs.start (fun k t h e => by obtain rfl := List.mem_singleton.1 (List.mem_of_getElem? h); cases e) (fun k l t u h1 h2 h3 e1 e2 => by obtain rfl := List.mem_singleton.1 (List.mem_of_getElem? h1); cases e1)
          · intro i o L vs x w1 p h
            have hi : i < 16 := p.lt
            have hR := rel10_last n is C (.slice sa sn sc) pb off pc a b
            have hk := h.kept fun t ht => by obtain rfl := List.mem_singleton.1 ht; simp
            obtain rfl | rfl | rfl | rfl | rfl | rfl | rfl | rfl | rfl | rfl | rfl | rfl | rfl | rfl | rfl | rfl : i = 0 ∨ i = 1 ∨ i = 2 ∨ i = 3 ∨ i = 4 ∨ i = 5 ∨ i = 6 ∨ i = 7 ∨ i = 8 ∨ i = 9 ∨ i = 10 ∨ i = 11 ∨ i = 12 ∨ i = 13 ∨ i = 14 ∨ i = 15 := by omega
            · obtain rfl : _ = o := Option.some.inj p.isAt
              exact flow_mv p rfl h hR (tok_of tgs10 0 rfl L) rfl rfl ((p.old 11 rfl).trans rfl)
            · obtain rfl : _ = o := Option.some.inj p.isAt
              have e70 := p.isv h 0 70 rfl rfl rfl
              simp only [Act.eval, Array.getD_eq_getD_getElem?] at e70
              exact flow_is p rfl h hR (tok_of tgs10 1 rfl L) rfl (by simp [execOp, go_sem, e70])
            · obtain rfl : _ = o := Option.some.inj p.isAt
              exact flow_mv p rfl h hR (tok_of tgs10 2 rfl L) rfl rfl ((p.old 0 rfl).trans rfl)
            · obtain rfl : _ = o := Option.some.inj p.isAt
              have c0 := (RC.out.kept hk trivial).at' 0 _ rfl
              have c1 := (RC.out.kept hk trivial).at' 1 _ rfl
              have c2 := (RC.out.kept hk trivial).at' 2 _ rfl
              have c3 := (RC.out.kept hk trivial).at' 3 _ rfl
              have c4 := (RC.out.kept hk trivial).at' 4 _ rfl
              have c5 := (RC.out.kept hk trivial).at' 5 _ rfl
              have c6 := (RC.out.kept hk trivial).at' 6 _ rfl
              exact flow_load p rfl h hR (tok_of tgs10 3 rfl L) rfl rfl ((p.old 15 rfl).trans rfl) (by simp [go_sem, c0, c1, c2, c3, c4, c5, c6])
            · obtain rfl : _ = o := Option.some.inj p.isAt
              have e72 := p.isv h 2 72 rfl rfl rfl
              have e73 := p.isv h 3 73 rfl rfl rfl
              simp only [Act.eval, Array.getD_eq_getD_getElem?] at e72 e73
              exact flow_is p rfl h hR (tok_of tgs10 4 rfl L) rfl (by simp [execOp, go_sem, e72, e73])
            · obtain rfl : _ = o := Option.some.inj p.isAt
              exact flow_mv p rfl h hR (tok_of tgs10 5 rfl L) rfl rfl ((p.old 6 rfl).trans rfl)
            · obtain rfl : _ = o := Option.some.inj p.isAt
              have e75 := p.isv h 5 75 rfl rfl rfl
              simp only [Act.eval, Array.getD_eq_getD_getElem?] at e75
              exact flow_is p rfl h hR (tok_of tgs10 6 rfl L) rfl (by simp [execOp, go_sem, e75])
            · obtain rfl : _ = o := Option.some.inj p.isAt
              have c0 : w1.cell? ⟨pb, off, none⟩ = some (S a) := (hk.cell HPB2.out trivial).trans (HL2.out 0 _ rfl)
              exact flow_load p rfl h hR (tok_of tgs10 7 rfl L) rfl rfl (p.isv h 6 76 rfl rfl rfl) (by simp [go_sem, c0])
            · obtain rfl : _ = o := Option.some.inj p.isAt
              have e77 := p.isv h 7 77 rfl rfl rfl
              simp only [Act.eval, Array.getD_eq_getD_getElem?] at e77
              exact flow_is p rfl h hR (tok_of tgs10 8 rfl L) rfl (by simp [execOp, go_sem, e77, CT1.out])
            · obtain rfl : _ = o := Option.some.inj p.isAt
              exact flow_mv p rfl h hR (tok_of tgs10 9 rfl L) rfl rfl ((p.old 6 rfl).trans rfl)
            · obtain rfl : _ = o := Option.some.inj p.isAt
              have e79 := p.isv h 9 79 rfl rfl rfl
              simp only [Act.eval, Array.getD_eq_getD_getElem?] at e79
              exact flow_is p rfl h hR (tok_of tgs10 10 rfl L) rfl (by simp [execOp, go_sem, e79])
            · obtain rfl : _ = o := Option.some.inj p.isAt
              have c0 := (hk.cell HPB2.out trivial).trans (HL2.out 1 _ rfl)
              exact flow_load p rfl h hR (tok_of tgs10 11 rfl L) rfl rfl (p.isv h 10 80 rfl rfl rfl) (by simp [go_sem, c0])
            · obtain rfl : _ = o := Option.some.inj p.isAt
              have e78 := p.isv h 8 78 rfl rfl rfl
              have e81 := p.isv h 11 81 rfl rfl rfl
              simp only [Act.eval, Array.getD_eq_getD_getElem?] at e78 e81
              exact flow_is p rfl h hR (tok_of tgs10 12 rfl L) rfl (by simp [execOp, go_sem, e78, e81, CT2.out])
            · obtain rfl : _ = o := Option.some.inj p.isAt
              have e71 := p.isv h 1 71 rfl rfl rfl
              have e74 := p.isv h 4 74 rfl rfl rfl
              have e82 := p.isv h 12 82 rfl rfl rfl
              simp only [Act.eval, Array.getD_eq_getD_getElem?] at e71 e74 e82
              refine flow_is p rfl h hR (tok_src tgs10 13 rfl fun t ht e => ?_) (c := .agg (tokVs n is C (.slice sa sn sc) (a ++ [46] ++ b) []).toArray) rfl (by simp [execOp, go_sem, e71, e74, e82])
              obtain rfl := List.mem_singleton.1 ht
              exact p.notyet 15 rfl rfl
            · obtain rfl : _ = o := Option.some.inj p.isAt
              exact flow_alloc p rfl h hR 0 rfl rfl rfl (p.notyet 15 rfl rfl) (cs := (tokVs 0 [] ⟨[], [], [], 0, 0, 0, 0⟩ (.slice none 0 0) [] []).toArray) rfl rfl (fun w => by kernel_rfl) fun _ _ _ => trivial
            · obtain rfl : _ = o := Option.some.inj p.isAt
              obtain ⟨ok, e2, hj⟩ := p.get h 13 83 rfl rfl
              have e1 := p.val 14 16 rfl (p.dep 14 rfl)
              exact flow_store p rfl h hR 0 rfl rfl (fun j hj => by cases hj; exact p.dep 14 rfl) rfl (fun _ _ => rfl) rfl (fun g hg _ => e1.trans (hg 14 rfl)) _ hj e2 rfl (by kernel_rfl) rfl
          · intro vs w7 L hL h
            have hkk := h.kept fun t ht => by obtain rfl := List.mem_singleton.1 ht; simp
            have HX9 := Lib.hid (HX8.out.tr hkk)
            have HK9 := Lib.hid (HK8.out.tr hkk)
            have HO9 := Lib.hid (HO8.out.kept hkk)
            have RC9 := Lib.hid (RC.out.kept hkk trivial)
            have HL9 : Hid (w7.cell? ⟨pb, off + 2, none⟩ = some (S m)) := Lib.hid ((hkk.cell HPB2.out trivial).trans (HL2.out 2 m rfl))
            obtain ⟨ok, G, -, -, -, h3, h4, -⟩ := h
            have j13 : vs 13 = .agg (tokVs n is C (.slice sa sn sc) (a ++ [46] ++ b) []).toArray := h3 13 (hL 13 (by decide))
            obtain ⟨-, p2, -, cs1, p4, -, p6⟩ := h4 0 _ rfl fun j hj => by cases hj; exact hL 14 (by decide)
            have e14 := (p2 14 rfl).1
            have hgw := (p2 14 rfl).2
            obtain rfl := p6 (hL 15 (by decide))
            obtain ⟨gt, hgt⟩ : ∃ gt, G 0 = gt := ⟨_, rfl⟩
            rw [hgt] at e14 p4 hgw
            have HGT : Hid (gc ≠ gt ∧ w.heap.size ≤ gt ∧ B ≠ gt) := Lib.hid ⟨fun e => by have := RC.out.lt; omega, by have := HK8.out.size; omega, fun e => by have := HK8.out.size; have := HA2.out.lt; have := HX8.out.size; omega⟩
            have HGTO : Hid (∀ q, (Value.slice sa sn sc).ownBlock = some q → q ≠ gt ∧ q ≠ B) := Lib.hid fun q hq => by
              obtain ⟨q1, q2⟩ := HOB6.out q hq
              have := HB.out
              exact ⟨by omega, by omega⟩
            obtain ⟨sg, hsg⟩ : ∃ sg, a ++ [46] ++ b = sg := ⟨_, rfl⟩
            have HSG : Hid (a ++ 46 :: b = sg) := Lib.hid (by rw [← hsg]; simp)
            rw [hsg] at j13
            have RT : Hid (RowW gt 80 (tokVs n is C (.slice sa sn sc) sg []) w7) := Lib.hid (by
              have q : w7.heap[gt]? = some (.cells (vs 13).cells 80 (0, 0)) := p4
              rw [j13] at q
              exact q)
            simp only [putAll, Act.put, List.setIfInBounds_toArray, List.set_cons_zero, List.set_cons_succ, Nat.zero_add, Nat.reduceAdd, e14]
            clear p2 p4 p6 h4 h3 hL e14 hgt j13 hkk hgw hsg HX8 HK8 HO8 RC CT1 CT2 HL2 HPB2
            generalize vs 0 = z0
            generalize vs 1 = z1
            generalize vs 2 = z2
            generalize vs 3 = z3
            generalize vs 4 = z4
            generalize vs 5 = z5
            generalize vs 6 = z6
            generalize vs 7 = z7
            generalize vs 8 = z8
            generalize vs 9 = z9
            generalize vs 10 = z10
            generalize vs 11 = z11
            generalize vs 12 = z12
            generalize vs 13 = z13
            have c0 : w7.cell? ⟨pb, off + 2, none⟩ = some (S m) := HL9.out
            have CF := Lib.hid (FromBase64_any m w7 (HLE.out m (by simp)))
            go_wp2_with fail
            refine CF.out.mono ?_
            rintro e w8 ⟨rfl, hk8⟩
            obtain ⟨si, er2, hfb, hun⟩ : ∃ si er2, fbV m = .tuple #[S si, .int .i64 er2] ∧ ((unb64 m = some si ∧ er2 = 0) ∨ (unb64 m = none ∧ er2 = 24 ∧ si = [])) := by
              unfold fbV
              cases hu : unb64 m with
              | none => exact ⟨_, _, rfl, .inr ⟨rfl, rfl, rfl⟩⟩
              | some x => exact ⟨_, _, rfl, .inl ⟨rfl, rfl⟩⟩
            rw [hfb]
            have HUN := Lib.hid hun
            have HX10 := Lib.hid (HX9.out.tr hk8)
            have HK10 := Lib.hid (HK9.out.tr hk8)
            have HO10 := Lib.hid (HO9.out.kept hk8)
            have RC10 := Lib.hid (RC9.out.kept hk8 trivial)
            have RT10 := Lib.hid (RT.out.kept hk8 trivial)
            clear hfb hun hk8 CF c0 HL9 HX9 HK9 HO9 RC9 RT
            have d10 := RT10.out.at' 10 _ rfl
            have f10 := frozen_row RT10.out 10
            go_upto_region 13 with fail
            obtain ⟨W9, hW9⟩ : ∃ W9, w8.setCell ⟨gt, 10, none⟩ (.string ⟨si.toArray⟩) = W9 := ⟨_, rfl⟩
            have hk9 : Kept (fun b => b ≠ gt) w8 W9 := by rw [← hW9]; exact (Kept.refl _ _).setCell (.inr fun h => h rfl) _
            have RT11 : Hid (RowW gt 80 (tokVs n is C (.slice sa sn sc) sg si) W9) := Lib.hid (by rw [← hW9]; exact setCell_heap (o := 10) RT10.out (S si))
            have RC11 : Hid (RowW gc 26 (C.vs (.slice sa sn sc)) W9) := Lib.hid (RC10.out.kept hk9 HGT.out.1)
            have HK11 : Hid (Kept (fun _ => True) w W9) := Lib.hid (HK10.out.trans hk9 fun i hi _ => by have := HGT.out.2.1; omega)
            have HX11 : Hid (Kept (fun b => b ≠ gt) W2 W9) := Lib.hid ((HX10.out.mono fun _ _ _ => trivial).tr hk9)
            have HO11 : Hid (OwnS (w.heap.size + 1) (.slice sa sn sc) C.scope W9) := Lib.hid (ownsRow_kept (by have := HO10.out; unfold OwnS at this; rw [← HCC.out]; show World.ownsRow _ _ _ _ _ ((parseS (gotT (objJ b) [115, 99, 111, 112, 101])).1.length) ((parseS (gotT (objJ b) [115, 99, 111, 112, 101])).1.map S); rw [HSC.out]; exact this) hk9 fun b hb => (HGTO.out b hb).1)
            have HCO : Hid (ClOk C) := Lib.hid (by rw [← HCC.out]; exact cOf_ok b)
            rw [hW9]
            clear hW9 hk9 RT10 RC10 HK10 HX10 HO10 d10 f10
            obtain ⟨N, hN⟩ : ∃ N, si.length = N := ⟨_, rfl⟩
            have hsz : (⟨si.toArray⟩ : ByteArray).size = N := by rw [size_mk, hN]
            have hN2 : N ≤ 8388608 := by
              rcases HUN.out with ⟨h, -⟩ | ⟨-, -, h⟩
              · have := unb64_le h
                have := HLE.out m (by simp)
                omega
              · have h2 : si.length = 0 := by rw [h]; rfl
                omega
            have HNL := Lib.hid hN
            clear hN
            obtain ⟨Q, hQ⟩ : ∃ Q, (decide (er2 = 0) && decide (N = 32) && decide (1 ≤ n) && decide (n ≤ 1073741824) && claimP C) = Q := ⟨_, rfl⟩
            have HQ := Lib.hid hQ
            have CC := Lib.hid (claimed_any C (.slice sa sn sc) W9 HO11.out.sl HCO.out.client HCO.out.subject HCO.out.scn HCO.out.scl)
            have c0 := RC11.out.at' 0 _ rfl
            have c1 := RC11.out.at' 1 _ rfl
            have c2 := RC11.out.at' 2 _ rfl
            have c3 := RC11.out.at' 3 _ rfl
            have c4 := RC11.out.at' 4 _ rfl
            have c5 := RC11.out.at' 5 _ rfl
            have c6 := RC11.out.at' 6 _ rfl
            clear hQ
            go_cut [19] (fun v wx => v = .bool Q ∧ Hid (Kept (fun _ => True) W9 wx))
            case first =>
              by_cases h0 : er2 = 0
              · subst h0
                by_cases h32 : N = 32
                · have h32' : ((N : Int) == 32) = true := by simp; omega
                  by_cases h1 : 1 ≤ n
                  · by_cases h2 : n ≤ 1073741824
                    · go_wp2_with fail
                      refine CC.out.mono ?_
                      rintro e w10 ⟨rfl, hk10⟩
                      have HF : Hid (Q = claimP C) := Lib.hid (by rw [← HQ.out]; simp [h32, h1, h2])
                      have HK10 := Lib.hid hk10
                      clear hk10
                      cases hc : claimP C with
                      | true =>
                        rw [hc] at HF
                        clear hc
                        go_wp2
                        go_meet
                        exact ⟨by rw [HF.out], HK10⟩
                      | false =>
                        rw [hc] at HF
                        clear hc
                        go_wp2
                        go_meet
                        exact ⟨by rw [HF.out], HK10⟩
                    · have HF : Hid (Q = false) := Lib.hid (by rw [← HQ.out]; simp [h2])
                      go_wp2
                      go_meet
                      exact ⟨by rw [HF.out], Lib.hid (Kept.refl _ _)⟩
                  · have HF : Hid (Q = false) := Lib.hid (by rw [← HQ.out]; simp [h1])
                    go_wp2
                    go_meet
                    exact ⟨by rw [HF.out], Lib.hid (Kept.refl _ _)⟩
                · have h32' : ((N : Int) == 32) = false := by simp; omega
                  have HF : Hid (Q = false) := Lib.hid (by rw [← HQ.out]; simp [h32])
                  go_wp2
                  go_meet
                  exact ⟨by rw [HF.out], Lib.hid (Kept.refl _ _)⟩
              · have HF : Hid (Q = false) := Lib.hid (by rw [← HQ.out]; simp [h0])
                have h0' : (er2 == 0) = false := by simpa using h0
                go_wp2
                go_meet
                exact ⟨by rw [HF.out], Lib.hid (Kept.refl _ _)⟩
            case rest =>
              obtain ⟨rfl, HKc⟩ := hcut
              have RT : Hid (RowW gt 80 (tokVs n is C (.slice sa sn sc) sg si) wc) := Lib.hid (RT11.out.kept HKc.out trivial)
              have HAC : Hid (RowW B 80 (tokVs 0 [] ⟨[], [], [], 0, 0, 0, 0⟩ (.slice none 0 0) [] []) wc) := Lib.hid ((HA2.out.kept HX11.out HGT.out.2.2).kept HKc.out trivial)
              have HKC : Hid (Kept (fun _ => True) w wc) := Lib.hid (HK11.out.tr HKc.out)
              have HOC : Hid (OwnS w.heap.size (.slice sa sn sc) C.scope wc) := Lib.hid (ownsRow_base (HO11.out.kept HKc.out) (Nat.le_succ _))
              have HGB : Hid (gt ≠ B) := Lib.hid (Ne.symm HGT.out.2.2)
              have HOB : Hid (∀ q, (Value.slice sa sn sc).ownBlock = some q → q ≠ B) := Lib.hid fun q hq => (HGTO.out q hq).2
              have HTK : Hid (tokP is s = if (Q && (bodyP n is C == sg)) = true then some (n, C, sg, si) else none) := Lib.hid (by
                rw [HF.out, tok3]
                rcases HUN.out with ⟨h, h2⟩ | ⟨h, h2, -⟩
                · rw [h]
                  simp only [HNN.out, HCC.out, HSG.out, HNL.out, ← HQ.out, h2, decide_true, Bool.true_and]
                · have : Q = false := by rw [← HQ.out, h2]; rfl
                  rw [h, this]
                  rfl)
              clear RT11 RC11 HK11 HX11 HO11 HKc CC HGT HGTO HUN HF
              cases hq : Q with
              | true =>
                have HN1 : Hid (1 ≤ n ∧ n ≤ 1073741824) := Lib.hid (by
                  have := HQ.out.trans hq
                  simp only [Bool.and_eq_true, decide_eq_true_eq] at this
                  exact ⟨this.1.1.2, this.1.2⟩)
                have HT2 : Hid (tokP is s = if (bodyP n is C == sg) = true then some (n, C, sg, si) else none) := Lib.hid (by rw [HTK.out, hq]; rfl)
                clear hq HTK HQ
                go_wp2_with fail
                refine wp_flow2 rfl [some 112, some 113, some 114, some 115, some 116, some 117, some 118, some 119, some 120, some 121, some 122, some 123, some 124, some 125, some 126, none, some 5] rfl (by decide) (by kernel_rfl) (by kernel_rfl) (WIs wc (relOf (relT gt n is C (.slice sa sn sc) sg si)) (tgsE B)) ?_ ?_ ?_
                · intro vs
                  exact WIs.start (fun k t h e => by obtain rfl := List.mem_singleton.1 (List.mem_of_getElem? h); exact ⟨_, HAC.out, rfl⟩) (fun k l t u h1 h2 h3 e1 e2 => by
                    have l1 := (List.getElem?_eq_some_iff.1 h1).1
                    have l2 := (List.getElem?_eq_some_iff.1 h2).1
                    simp only [tgsE, List.length_singleton] at l1 l2
                    omega)
                · intro i o L vs x w1 p h
                  have hi : i < 17 := p.lt
                  have hR := relT_last gt n is C (.slice sa sn sc) sg si
                  have hk := h.keptB
                  obtain rfl | rfl | rfl | rfl | rfl | rfl | rfl | rfl | rfl | rfl | rfl | rfl | rfl | rfl | rfl | rfl | rfl : i = 0 ∨ i = 1 ∨ i = 2 ∨ i = 3 ∨ i = 4 ∨ i = 5 ∨ i = 6 ∨ i = 7 ∨ i = 8 ∨ i = 9 ∨ i = 10 ∨ i = 11 ∨ i = 12 ∨ i = 13 ∨ i = 14 ∨ i = 15 ∨ i = 16 := by omega
                  · obtain rfl : _ = o := Option.some.inj p.isAt
                    have c0 := (RT.out.kept hk (fun t ht _ => by obtain rfl := List.mem_singleton.1 ht; exact HGB.out)).at' 0 _ rfl
                    have c1 := (RT.out.kept hk (fun t ht _ => by obtain rfl := List.mem_singleton.1 ht; exact HGB.out)).at' 1 _ rfl
                    have c2 := (RT.out.kept hk (fun t ht _ => by obtain rfl := List.mem_singleton.1 ht; exact HGB.out)).at' 2 _ rfl
                    have c3 := (RT.out.kept hk (fun t ht _ => by obtain rfl := List.mem_singleton.1 ht; exact HGB.out)).at' 3 _ rfl
                    have c4 := (RT.out.kept hk (fun t ht _ => by obtain rfl := List.mem_singleton.1 ht; exact HGB.out)).at' 4 _ rfl
                    have c5 := (RT.out.kept hk (fun t ht _ => by obtain rfl := List.mem_singleton.1 ht; exact HGB.out)).at' 5 _ rfl
                    have c6 := (RT.out.kept hk (fun t ht _ => by obtain rfl := List.mem_singleton.1 ht; exact HGB.out)).at' 6 _ rfl
                    have c7 := (RT.out.kept hk (fun t ht _ => by obtain rfl := List.mem_singleton.1 ht; exact HGB.out)).at' 7 _ rfl
                    have c8 := (RT.out.kept hk (fun t ht _ => by obtain rfl := List.mem_singleton.1 ht; exact HGB.out)).at' 8 _ rfl
                    have c9 := (RT.out.kept hk (fun t ht _ => by obtain rfl := List.mem_singleton.1 ht; exact HGB.out)).at' 9 _ rfl
                    have c10 := (RT.out.kept hk (fun t ht _ => by obtain rfl := List.mem_singleton.1 ht; exact HGB.out)).at' 10 _ rfl
                    exact flow_load p rfl h hR (tok_src (tgsE B) 0 rfl fun t ht e => by obtain rfl := List.mem_singleton.1 ht; exact p.notyet 15 rfl rfl) rfl rfl ((p.old 16 rfl).trans rfl) (by simp [go_sem, c0, c1, c2, c3, c4, c5, c6, c7, c8, c9, c10])
                  · obtain rfl : _ = o := Option.some.inj p.isAt
                    exact flow_mv p rfl h hR (tok_of (tgsE B) 1 rfl L) rfl rfl ((p.old 19 rfl).trans rfl)
                  · obtain rfl : _ = o := Option.some.inj p.isAt
                    exact flow_mv p rfl h hR (tok_of (tgsE B) 2 rfl L) rfl rfl (p.isv h 1 113 rfl rfl rfl)
                  · obtain rfl : _ = o := Option.some.inj p.isAt
                    exact flow_fldW p (p.wanted h 2 114 true true rfl rfl rfl rfl rfl) h hR (tok_of (tgsE B) 3 rfl L) rfl rfl ((p.old 16 rfl).trans rfl) (fun w => by kernel_rfl)
                  · obtain rfl : _ = o := Option.some.inj p.isAt
                    have c0 := (RT.out.kept hk (fun t ht _ => by obtain rfl := List.mem_singleton.1 ht; exact HGB.out)).at' 0 _ rfl
                    exact flow_loadW p (p.wanted h 2 114 true true rfl rfl rfl rfl rfl) h hR (tok_of (tgsE B) 4 rfl L) rfl rfl (p.isv h 3 115 rfl rfl rfl) (by simp [go_sem, c0])
                  · obtain rfl : _ = o := Option.some.inj p.isAt
                    have e116 := p.isv h 4 116 rfl rfl rfl
                    simp only [Act.eval, Array.getD_eq_getD_getElem?] at e116
                    exact flow_isW p (p.wanted h 2 114 true true rfl rfl rfl rfl rfl) h hR (tok_of (tgsE B) 5 rfl L) rfl (by simp [execOp, go_sem, e116])
                  · obtain rfl : _ = o := Option.some.inj p.isAt
                    exact flow_fldW p (p.wanted h 2 114 true true rfl rfl rfl rfl rfl) h hR (tok_of (tgsE B) 6 rfl L) rfl rfl ((p.old 16 rfl).trans rfl) (fun w => by kernel_rfl)
                  · obtain rfl : _ = o := Option.some.inj p.isAt
                    have c1 := (RT.out.kept hk (fun t ht _ => by obtain rfl := List.mem_singleton.1 ht; exact HGB.out)).at' 1 _ rfl
                    have c2 := (RT.out.kept hk (fun t ht _ => by obtain rfl := List.mem_singleton.1 ht; exact HGB.out)).at' 2 _ rfl
                    have c3 := (RT.out.kept hk (fun t ht _ => by obtain rfl := List.mem_singleton.1 ht; exact HGB.out)).at' 3 _ rfl
                    have c4 := (RT.out.kept hk (fun t ht _ => by obtain rfl := List.mem_singleton.1 ht; exact HGB.out)).at' 4 _ rfl
                    have c5 := (RT.out.kept hk (fun t ht _ => by obtain rfl := List.mem_singleton.1 ht; exact HGB.out)).at' 5 _ rfl
                    have c6 := (RT.out.kept hk (fun t ht _ => by obtain rfl := List.mem_singleton.1 ht; exact HGB.out)).at' 6 _ rfl
                    have c7 := (RT.out.kept hk (fun t ht _ => by obtain rfl := List.mem_singleton.1 ht; exact HGB.out)).at' 7 _ rfl
                    have c8 := (RT.out.kept hk (fun t ht _ => by obtain rfl := List.mem_singleton.1 ht; exact HGB.out)).at' 8 _ rfl
                    exact flow_loadW p (p.wanted h 2 114 true true rfl rfl rfl rfl rfl) h hR (tok_of (tgsE B) 7 rfl L) rfl rfl (p.isv h 6 118 rfl rfl rfl) (by simp [go_sem, c1, c2, c3, c4, c5, c6, c7, c8])
                  · obtain rfl : _ = o := Option.some.inj p.isAt
                    have e119 := p.isv h 7 119 rfl rfl rfl
                    simp only [Act.eval, Array.getD_eq_getD_getElem?] at e119
                    exact flow_isW p (p.wanted h 2 114 true true rfl rfl rfl rfl rfl) h hR (tok_of (tgsE B) 8 rfl L) rfl (by simp [execOp, go_sem, e119])
                  · obtain rfl : _ = o := Option.some.inj p.isAt
                    have e117 := p.isv h 5 117 rfl rfl rfl
                    have e120 := p.isv h 8 120 rfl rfl rfl
                    simp only [Act.eval, Array.getD_eq_getD_getElem?] at e117 e120
                    refine flow_valW p (p.wanted h 2 114 true true rfl rfl rfl rfl rfl) h hR (tok_of (tgsE B) 9 rfl L) (v := .slice (some ⟨w1.heap.size, 0, none⟩) 2 2) (w' := w1.alloc (.cells #[headV n, saidV is C (.slice sa sn sc)] 100)) ?_ ((Kept.refl _ _).alloc _) fun ok hok => ⟨_, rfl, hok _ (Nat.le_refl _), heap_alloc_new _ _⟩
                    simp [execOp, go_sem, e117, e120]
                  · obtain rfl : _ = o := Option.some.inj p.isAt
                    obtain ⟨ok, e121, g, k1, k2, k3⟩ := p.get h 9 121 rfl rfl
                    refine flow_call1W p (p.wanted h 2 114 true true rfl rfl rfl rfl rfl) h hR (tok_of (tgsE B) 10 rfl L) rfl (fun w => by kernel_rfl) (e121.trans k1) (body_any n is C (.slice sa sn sc) g 2 w1 (HEW.out.kept (HKC.out.trans hk fun i hi _ t ht _ => by obtain rfl := List.mem_singleton.1 ht; show i ≠ B; rw [HB.out] at hi; omega)) HN1.out.1 HN1.out.2 HCO.out HI.out (show OwnS w.heap.size _ C.scope w1 from ownsRow_kept HOC.out hk fun b hb t ht _ => by obtain rfl := List.mem_singleton.1 ht; exact HOB.out b hb).sl ⟨fun j v hj => RowW.at' k3 j v hj, RowW.lt k3⟩) ?_
                    rintro e w' ⟨rfl, hk'⟩
                    exact ⟨_, rfl, hk', fun ok _ => rfl⟩
                  · obtain rfl : _ = o := Option.some.inj p.isAt
                    exact flow_fldW p (p.wanted h 2 114 true true rfl rfl rfl rfl rfl) h hR (tok_of (tgsE B) 11 rfl L) rfl rfl ((p.old 16 rfl).trans rfl) (fun w => by kernel_rfl)
                  · obtain rfl : _ = o := Option.some.inj p.isAt
                    have c9 := (RT.out.kept hk (fun t ht _ => by obtain rfl := List.mem_singleton.1 ht; exact HGB.out)).at' 9 _ rfl
                    exact flow_loadW p (p.wanted h 2 114 true true rfl rfl rfl rfl rfl) h hR (tok_of (tgsE B) 12 rfl L) rfl rfl (p.isv h 11 123 rfl rfl rfl) (by simp [go_sem, c9])
                  · obtain rfl : _ = o := Option.some.inj p.isAt
                    have e122 := p.isv h 10 122 rfl rfl rfl
                    have e124 := p.isv h 12 124 rfl rfl rfl
                    simp only [Act.eval, Array.getD_eq_getD_getElem?] at e122 e124
                    exact flow_isW p (p.wanted h 2 114 true true rfl rfl rfl rfl rfl) h hR (tok_of (tgsE B) 13 rfl L) rfl (by simp [execOp, go_sem, e122, e124])
                  · obtain rfl : _ = o := Option.some.inj p.isAt
                    have e114 := p.isv h 2 114 rfl rfl rfl
                    have e125 := p.isv h 13 125 rfl rfl rfl
                    simp only [Act.eval, Array.getD_eq_getD_getElem?] at e114 e125
                    exact flow_is p rfl h hR (tok_of (tgsE B) 14 rfl L) rfl (by simp [execOp, go_sem, e114, e125])
                  · obtain rfl : _ = o := Option.some.inj p.isAt
                    obtain ⟨ok, e2, hj⟩ := p.get h 0 112 rfl rfl
                    exact flow_store p rfl h hR 0 rfl rfl (fun j hj => by cases hj) rfl (fun _ _ => rfl) rfl (fun g _ hg => by rw [hg rfl]; exact (p.old 4 rfl).trans rfl) _ hj e2 rfl (by kernel_rfl) rfl
                  · obtain rfl : _ = o := Option.some.inj p.isAt
                    exact flow_as p rfl h hR (tok_of (tgsE B) 16 rfl L) rfl rfl (p.isv h 14 126 rfl rfl rfl)
                · intro vs w9 L hL h
                  have hk9 : Kept (fun b => b ≠ B) wc w9 := h.keptB.mono fun b _ hb t ht _ => by obtain rfl := List.mem_singleton.1 ht; exact hb
                  obtain ⟨ok, G, -, -, -, h3, h4, -⟩ := h
                  have e0 : vs 0 = .agg (tokVs n is C (.slice sa sn sc) sg si).toArray := h3 0 (hL 0 (by decide))
                  have e16 : vs 16 = .bool (bodyP n is C == sg) := h3 16 (hL 16 (by decide))
                  obtain ⟨-, -, p3, cs1, p4, -, p6⟩ := h4 0 _ rfl fun j hj => by cases hj
                  have hG : G 0 = B := p3 rfl
                  obtain rfl := p6 (hL 15 (by decide))
                  have RR : Hid (RowW B 80 (tokVs n is C (.slice sa sn sc) sg si) w9) := Lib.hid (by
                    have q : w9.heap[G 0]? = some (.cells (vs 0).cells 80 (0, 0)) := p4
                    rw [e0, hG] at q
                    exact q)
                  have HK9 : Hid (Kept (fun _ => True) w w9) := Lib.hid (HKC.out.trans hk9 fun i hi _ => by rw [HB.out] at hi; omega)
                  have HO9 : Hid (OwnS w.heap.size (.slice sa sn sc) C.scope w9) := Lib.hid (ownsRow_kept HOC.out hk9 fun b hb => by
                    obtain ⟨q1, q2⟩ := HOC.out.lt b hb
                    intro e
                    have := HOB.out b hb
                    exact this e)
                  simp only [putAll, Act.put, List.setIfInBounds_toArray, List.set_cons_zero, List.set_cons_succ, Nat.zero_add, Nat.reduceAdd, e16]
                  clear p3 p4 p6 h4 h3 hL e16 e0 hG hk9
                  obtain ⟨qb, hqb⟩ : ∃ qb, (bodyP n is C == sg) = qb := ⟨_, rfl⟩
                  rw [hqb] at HT2 ⊢
                  have HFIN : Hid ((tokP is s).isSome = qb ∧ ∀ r, tokP is s = some r → r = (n, C, sg, si)) := Lib.hid (by rw [HT2.out]; cases qb <;> simp)
                  clear hqb HT2
                  generalize vs 0 = v0
                  generalize vs 1 = v1
                  generalize vs 2 = v2
                  generalize vs 3 = v3
                  generalize vs 4 = v4
                  generalize vs 5 = v5
                  generalize vs 6 = v6
                  generalize vs 7 = v7
                  generalize vs 8 = v8
                  generalize vs 9 = v9
                  generalize vs 10 = v10
                  generalize vs 11 = v11
                  generalize vs 12 = v12
                  generalize vs 13 = v13
                  generalize vs 14 = v14
                  generalize vs 15 = v15
                  go_wp2
                  have g0 := RR.out.at' 0 _ rfl
                  have g1 := RR.out.at' 1 _ rfl
                  have g2 := RR.out.at' 2 _ rfl
                  have g3 := RR.out.at' 3 _ rfl
                  have g4 := RR.out.at' 4 _ rfl
                  have g5 := RR.out.at' 5 _ rfl
                  have g6 := RR.out.at' 6 _ rfl
                  have g7 := RR.out.at' 7 _ rfl
                  have g8 := RR.out.at' 8 _ rfl
                  have g9 := RR.out.at' 9 _ rfl
                  have g10 := RR.out.at' 10 _ rfl
                  refine bodyPost_ret (v := .tuple #[.agg (tokVs n is C (.slice sa sn sc) sg si).toArray, .bool qb]) (by simp [results, Tryz.results43, go_sem, g0, g1, g2, g3, g4, g5, g6, g7, g8, g9, g10]) rfl ?_
                  exact ⟨⟨n, is, C, sa, sn, sc, sg, si, by rw [HFIN.out.1], fun r hr => ⟨HFIN.out.2 r hr, rfl, HO9.out⟩⟩, HK9.out⟩
              | false =>
                have HT2 : Hid (tokP is s = none) := Lib.hid (by rw [HTK.out, hq]; rfl)
                clear hq HTK HQ
                go_wp2_with fail
                refine wp_flow2 rfl [some 112, some 113, some 114, some 115, some 116, some 117, some 118, some 119, some 120, some 121, some 122, some 123, some 124, some 125, some 126, none, some 5] rfl (by decide) (by kernel_rfl) (by kernel_rfl) (WIs wc (relOf (relF gt n is C (.slice sa sn sc) sg si)) (tgsE B)) ?_ ?_ ?_
                · intro vs
                  exact WIs.start (fun k t h e => by obtain rfl := List.mem_singleton.1 (List.mem_of_getElem? h); exact ⟨_, HAC.out, rfl⟩) (fun k l t u h1 h2 h3 e1 e2 => by
                    have l1 := (List.getElem?_eq_some_iff.1 h1).1
                    have l2 := (List.getElem?_eq_some_iff.1 h2).1
                    simp only [tgsE, List.length_singleton] at l1 l2
                    omega)
                · intro i o L vs x w1 p h
                  have hi : i < 17 := p.lt
                  have hR := relF_last gt n is C (.slice sa sn sc) sg si
                  have hk := h.keptB
                  obtain rfl | rfl | rfl | rfl | rfl | rfl | rfl | rfl | rfl | rfl | rfl | rfl | rfl | rfl | rfl | rfl | rfl : i = 0 ∨ i = 1 ∨ i = 2 ∨ i = 3 ∨ i = 4 ∨ i = 5 ∨ i = 6 ∨ i = 7 ∨ i = 8 ∨ i = 9 ∨ i = 10 ∨ i = 11 ∨ i = 12 ∨ i = 13 ∨ i = 14 ∨ i = 15 ∨ i = 16 := by omega
                  · obtain rfl : _ = o := Option.some.inj p.isAt
                    have c0 := (RT.out.kept hk (fun t ht _ => by obtain rfl := List.mem_singleton.1 ht; exact HGB.out)).at' 0 _ rfl
                    have c1 := (RT.out.kept hk (fun t ht _ => by obtain rfl := List.mem_singleton.1 ht; exact HGB.out)).at' 1 _ rfl
                    have c2 := (RT.out.kept hk (fun t ht _ => by obtain rfl := List.mem_singleton.1 ht; exact HGB.out)).at' 2 _ rfl
                    have c3 := (RT.out.kept hk (fun t ht _ => by obtain rfl := List.mem_singleton.1 ht; exact HGB.out)).at' 3 _ rfl
                    have c4 := (RT.out.kept hk (fun t ht _ => by obtain rfl := List.mem_singleton.1 ht; exact HGB.out)).at' 4 _ rfl
                    have c5 := (RT.out.kept hk (fun t ht _ => by obtain rfl := List.mem_singleton.1 ht; exact HGB.out)).at' 5 _ rfl
                    have c6 := (RT.out.kept hk (fun t ht _ => by obtain rfl := List.mem_singleton.1 ht; exact HGB.out)).at' 6 _ rfl
                    have c7 := (RT.out.kept hk (fun t ht _ => by obtain rfl := List.mem_singleton.1 ht; exact HGB.out)).at' 7 _ rfl
                    have c8 := (RT.out.kept hk (fun t ht _ => by obtain rfl := List.mem_singleton.1 ht; exact HGB.out)).at' 8 _ rfl
                    have c9 := (RT.out.kept hk (fun t ht _ => by obtain rfl := List.mem_singleton.1 ht; exact HGB.out)).at' 9 _ rfl
                    have c10 := (RT.out.kept hk (fun t ht _ => by obtain rfl := List.mem_singleton.1 ht; exact HGB.out)).at' 10 _ rfl
                    exact flow_load p rfl h hR (tok_src (tgsE B) 0 rfl fun t ht e => by obtain rfl := List.mem_singleton.1 ht; exact p.notyet 15 rfl rfl) rfl rfl ((p.old 16 rfl).trans rfl) (by simp [go_sem, c0, c1, c2, c3, c4, c5, c6, c7, c8, c9, c10])
                  · obtain rfl : _ = o := Option.some.inj p.isAt
                    exact flow_mv p rfl h hR (tok_of (tgsE B) 1 rfl L) rfl rfl ((p.old 19 rfl).trans rfl)
                  · obtain rfl : _ = o := Option.some.inj p.isAt
                    exact flow_mv p rfl h hR (tok_of (tgsE B) 2 rfl L) rfl rfl (p.isv h 1 113 rfl rfl rfl)
                  · obtain rfl : _ = o := Option.some.inj p.isAt
                    exact flow_skip p h hR (tok_of (tgsE B) 3 rfl L) (p.wanted h 2 114 true false rfl rfl rfl rfl rfl) fun _ => rfl
                  · obtain rfl : _ = o := Option.some.inj p.isAt
                    exact flow_skip p h hR (tok_of (tgsE B) 4 rfl L) (p.wanted h 2 114 true false rfl rfl rfl rfl rfl) fun _ => rfl
                  · obtain rfl : _ = o := Option.some.inj p.isAt
                    exact flow_skip p h hR (tok_of (tgsE B) 5 rfl L) (p.wanted h 2 114 true false rfl rfl rfl rfl rfl) fun _ => rfl
                  · obtain rfl : _ = o := Option.some.inj p.isAt
                    exact flow_skip p h hR (tok_of (tgsE B) 6 rfl L) (p.wanted h 2 114 true false rfl rfl rfl rfl rfl) fun _ => rfl
                  · obtain rfl : _ = o := Option.some.inj p.isAt
                    exact flow_skip p h hR (tok_of (tgsE B) 7 rfl L) (p.wanted h 2 114 true false rfl rfl rfl rfl rfl) fun _ => rfl
                  · obtain rfl : _ = o := Option.some.inj p.isAt
                    exact flow_skip p h hR (tok_of (tgsE B) 8 rfl L) (p.wanted h 2 114 true false rfl rfl rfl rfl rfl) fun _ => rfl
                  · obtain rfl : _ = o := Option.some.inj p.isAt
                    exact flow_skip p h hR (tok_of (tgsE B) 9 rfl L) (p.wanted h 2 114 true false rfl rfl rfl rfl rfl) fun _ => rfl
                  · obtain rfl : _ = o := Option.some.inj p.isAt
                    exact flow_skip p h hR (tok_of (tgsE B) 10 rfl L) (p.wanted h 2 114 true false rfl rfl rfl rfl rfl) fun _ => rfl
                  · obtain rfl : _ = o := Option.some.inj p.isAt
                    exact flow_skip p h hR (tok_of (tgsE B) 11 rfl L) (p.wanted h 2 114 true false rfl rfl rfl rfl rfl) fun _ => rfl
                  · obtain rfl : _ = o := Option.some.inj p.isAt
                    exact flow_skip p h hR (tok_of (tgsE B) 12 rfl L) (p.wanted h 2 114 true false rfl rfl rfl rfl rfl) fun _ => rfl
                  · obtain rfl : _ = o := Option.some.inj p.isAt
                    exact flow_skip p h hR (tok_of (tgsE B) 13 rfl L) (p.wanted h 2 114 true false rfl rfl rfl rfl rfl) fun _ => rfl
                  · obtain rfl : _ = o := Option.some.inj p.isAt
                    have e114 := p.isv h 2 114 rfl rfl rfl
                    have e125 := p.isv h 13 125 rfl rfl rfl
                    simp only [Act.eval, Array.getD_eq_getD_getElem?] at e114 e125
                    exact flow_is p rfl h hR (tok_of (tgsE B) 14 rfl L) rfl (by simp [execOp, go_sem, e114, e125])
                  · obtain rfl : _ = o := Option.some.inj p.isAt
                    obtain ⟨ok, e2, hj⟩ := p.get h 0 112 rfl rfl
                    exact flow_store p rfl h hR 0 rfl rfl (fun j hj => by cases hj) rfl (fun _ _ => rfl) rfl (fun g _ hg => by rw [hg rfl]; exact (p.old 4 rfl).trans rfl) _ hj e2 rfl (by kernel_rfl) rfl
                  · obtain rfl : _ = o := Option.some.inj p.isAt
                    exact flow_as p rfl h hR (tok_of (tgsE B) 16 rfl L) rfl rfl (p.isv h 14 126 rfl rfl rfl)
                · intro vs w9 L hL h
                  have hk9 : Kept (fun b => b ≠ B) wc w9 := h.keptB.mono fun b _ hb t ht _ => by obtain rfl := List.mem_singleton.1 ht; exact hb
                  obtain ⟨ok, G, -, -, -, h3, h4, -⟩ := h
                  have e0 : vs 0 = .agg (tokVs n is C (.slice sa sn sc) sg si).toArray := h3 0 (hL 0 (by decide))
                  have e16 : vs 16 = .bool (false) := h3 16 (hL 16 (by decide))
                  obtain ⟨-, -, p3, cs1, p4, -, p6⟩ := h4 0 _ rfl fun j hj => by cases hj
                  have hG : G 0 = B := p3 rfl
                  obtain rfl := p6 (hL 15 (by decide))
                  have RR : Hid (RowW B 80 (tokVs n is C (.slice sa sn sc) sg si) w9) := Lib.hid (by
                    have q : w9.heap[G 0]? = some (.cells (vs 0).cells 80 (0, 0)) := p4
                    rw [e0, hG] at q
                    exact q)
                  have HK9 : Hid (Kept (fun _ => True) w w9) := Lib.hid (HKC.out.trans hk9 fun i hi _ => by rw [HB.out] at hi; omega)
                  have HO9 : Hid (OwnS w.heap.size (.slice sa sn sc) C.scope w9) := Lib.hid (ownsRow_kept HOC.out hk9 fun b hb => by
                    obtain ⟨q1, q2⟩ := HOC.out.lt b hb
                    intro e
                    have := HOB.out b hb
                    exact this e)
                  simp only [putAll, Act.put, List.setIfInBounds_toArray, List.set_cons_zero, List.set_cons_succ, Nat.zero_add, Nat.reduceAdd, e16]
                  clear p3 p4 p6 h4 h3 hL e16 e0 hG hk9
                  obtain ⟨qb, hqb⟩ : ∃ qb, false = qb := ⟨_, rfl⟩
                  rw [hqb]
                  have HFIN : Hid ((tokP is s).isSome = qb ∧ ∀ r, tokP is s = some r → r = (n, C, sg, si)) := Lib.hid (by rw [HT2.out, ← hqb]; simp)
                  clear hqb HT2
                  generalize vs 0 = v0
                  generalize vs 1 = v1
                  generalize vs 2 = v2
                  generalize vs 3 = v3
                  generalize vs 4 = v4
                  generalize vs 5 = v5
                  generalize vs 6 = v6
                  generalize vs 7 = v7
                  generalize vs 8 = v8
                  generalize vs 9 = v9
                  generalize vs 10 = v10
                  generalize vs 11 = v11
                  generalize vs 12 = v12
                  generalize vs 13 = v13
                  generalize vs 14 = v14
                  generalize vs 15 = v15
                  go_wp2
                  have g0 := RR.out.at' 0 _ rfl
                  have g1 := RR.out.at' 1 _ rfl
                  have g2 := RR.out.at' 2 _ rfl
                  have g3 := RR.out.at' 3 _ rfl
                  have g4 := RR.out.at' 4 _ rfl
                  have g5 := RR.out.at' 5 _ rfl
                  have g6 := RR.out.at' 6 _ rfl
                  have g7 := RR.out.at' 7 _ rfl
                  have g8 := RR.out.at' 8 _ rfl
                  have g9 := RR.out.at' 9 _ rfl
                  have g10 := RR.out.at' 10 _ rfl
                  refine bodyPost_ret (v := .tuple #[.agg (tokVs n is C (.slice sa sn sc) sg si).toArray, .bool qb]) (by simp [results, Tryz.results43, go_sem, g0, g1, g2, g3, g4, g5, g6, g7, g8, g9, g10]) rfl ?_
                  exact ⟨⟨n, is, C, sa, sn, sc, sg, si, by rw [HFIN.out.1], fun r hr => ⟨HFIN.out.2 r hr, rfl, HO9.out⟩⟩, HK9.out⟩
  · have HF : Hid (tokP is s = none) := Lib.hid (by rw [HP.out]; exact tokL_ne is (by rw [HN.out]; exact h3))
    have hb : ((N : Int) != 3) = true := by simp; omega
    have HK2 := Lib.hid HK1.out
    have HA2 := Lib.hid HA1.out
    clear h3
    go_wp2_with (first | (refine wpList_storeRow rfl 80 80 _ _ rfl B _ (tokVs 0 [] ⟨[], [], [], 0, 0, 0, 0⟩ (.slice none 0 0) [] []).toArray rfl rfl HA2.out rfl (by kernel_rfl) rfl ?_; refine Hid.out ?_))
    refine Lib.hid ?_
    intro W3 hr3 hk3
    have g0 := hr3.at' 0 _ rfl
    have g1 := hr3.at' 1 _ rfl
    have g2 := hr3.at' 2 _ rfl
    have g3 := hr3.at' 3 _ rfl
    have g4 := hr3.at' 4 _ rfl
    have g5 := hr3.at' 5 _ rfl
    have g6 := hr3.at' 6 _ rfl
    have g7 := hr3.at' 7 _ rfl
    have g8 := hr3.at' 8 _ rfl
    have g9 := hr3.at' 9 _ rfl
    have g10 := hr3.at' 10 _ rfl
    have HK3 : Hid (Kept (fun _ => True) w W3) := Lib.hid (HK2.out.trans hk3 fun i hi _ => by rw [HB.out] at hi; omega)
    clear hr3 hk3
    go_wp2
    refine bodyPost_ret (v := .tuple #[.agg (tokVs 0 [] ⟨[], [], [], 0, 0, 0, 0⟩ (.slice none 0 0) [] []).toArray, .bool false]) (by simp [results, Tryz.results43, go_sem, g0, g1, g2, g3, g4, g5, g6, g7, g8, g9, g10]) rfl ?_
    exact ParQ.none HF.out HK3.out
end Go.Proofs.YtpcgfhleloonfaaGreatDoor
namespace Go.Proofs.YtpcgfhleloonfaaGreatDoor
open Go.RowKit Jo Ac
def zeroCl : Cl := ⟨[], [], [], 0, 0, 0, 0⟩
/-- What a token says, and by which key. -/
def readT (is s : List UInt8) : Int × Cl × Int := match tokP is s with | some (n, c, _, _) => (n, c, 0) | none => (0, zeroCl, 230)
def ReadQ (is s : List UInt8) (w : World) (e : Ending) (w' : World) : Prop :=
  (∃ sa sn sc, e = .returned (.tuple #[.agg ((readT is s).2.1.vs (.slice sa sn sc)).toArray, .int .i64 (readT is s).1, .int .i64 (readT is s).2.2]) ∧ OwnS w.heap.size (.slice sa sn sc) (readT is s).2.1.scope w') ∧ Kept (fun _ => True) w w'
def relR (g : Nat) (n : Int) (c : Cl) (sv : Value) : List Rel := [isV (.pointer (some ⟨g, 1, none⟩)), isV (.pointer (some ⟨g, 2, none⟩)), isV (.agg (c.vs sv).toArray), isV (.pointer (some ⟨g, 0, none⟩)), isV (.pointer (some ⟨g, 0, none⟩)), isV (.int .i64 n), isV undef, isV (.int .i64 n), isV (.int .i64 0)]
theorem relR_last (g : Nat) (n : Int) (c : Cl) (sv : Value) : Lasts (relOf (relR g n c sv)) := lasts_of _ (by
  intro r hr
  simp only [relR, List.mem_cons, List.not_mem_nil, or_false] at hr
  obtain rfl | rfl | rfl | rfl | rfl | rfl | rfl | rfl | rfl := hr <;> exact isV_last _)
def tgsR (B : Nat) : List Tgt := [⟨none, B, 6, 2, 26, 7⟩]
set_option maxRecDepth 100000 in
set_option maxHeartbeats 4000000 in
theorem Read_any (is s : List UInt8) (w : World) (hE : AE w) (his : is.length ≤ 16777216) (hsl : s.length ≤ 8388608) : Calls Tryz.prog 13 #[S is, S s] w (ReadQ is s w) := by
  go_enter Tryz.func13, Tryz.ntmps13
  obtain ⟨W, hW⟩ : ∃ W, w.alloc (.cells #[S [], S [], .slice none 0 0, .int .i64 0, .int .i64 0, .int .i64 0, .int .i64 0] 26) = W := ⟨_, rfl⟩
  have hk0 : Kept (fun _ => True) w W := by rw [← hW]; exact (Kept.refl _ _).alloc _
  have HA0 : Hid (RowW w.heap.size 26 (zeroCl.vs (.slice none 0 0)) W) := Lib.hid (by rw [← hW]; exact heap_alloc_new w _)
  have CP := Lib.hid (parse_any is s W (hE.kept hk0) his hsl)
  have HK0 := Lib.hid hk0
  obtain ⟨B, hB⟩ : ∃ B, w.heap.size = B := ⟨_, rfl⟩
  have HB := Lib.hid hB
  rw [hB] at HA0
  clear hk0 hE his hsl
  go_wp2_with fail
  refine CP.out.mono ?_
  rintro e W1 ⟨⟨n, is', c, sa, sn, sc, sg, si, rfl, hr⟩, hk1⟩
  have HR := Lib.hid hr
  have HK1 := Lib.hid (HK0.out.tr hk1)
  have HA1 := Lib.hid (HA0.out.kept hk1 trivial)
  have HWZ : Hid (B < W.heap.size) := Lib.hid HA0.out.lt
  clear hr hk1 hW hB CP HK0 HA0
  cases hs : tokP is s with
  | none =>
    have HF : Hid (readT is s = (0, zeroCl, 230)) := Lib.hid (by unfold readT; rw [hs])
    rw [show (Option.isSome (none : Option (Int × Cl × List UInt8 × List UInt8))) = false from rfl]
    clear hs
    obtain ⟨W2, hW2⟩ : ∃ W2, W1.alloc (.cells (tokVs n is' c (.slice sa sn sc) sg si).toArray 80) = W2 := ⟨_, rfl⟩
    have hk2 : Kept (fun _ => True) W1 W2 := by rw [← hW2]; exact (Kept.refl _ _).alloc _
    have HK2 := Lib.hid (HK1.out.tr hk2)
    have HA2 := Lib.hid (HA1.out.kept hk2 trivial)
    clear hk2
    go_wp2_with (first | (refine wpList_storeRow rfl 26 26 _ _ rfl B _ (zeroCl.vs (.slice none 0 0)).toArray rfl rfl HA2.out rfl (by kernel_rfl) rfl ?_; refine Hid.out ?_))
    refine Lib.hid ?_
    intro W3 hr3 hk3
    have g0 := hr3.at' 0 _ rfl
    have g1 := hr3.at' 1 _ rfl
    have g2 := hr3.at' 2 _ rfl
    have g3 := hr3.at' 3 _ rfl
    have g4 := hr3.at' 4 _ rfl
    have g5 := hr3.at' 5 _ rfl
    have g6 := hr3.at' 6 _ rfl
    have HK3 : Hid (Kept (fun _ => True) w W3) := Lib.hid (HK2.out.trans hk3 fun i hi _ => by rw [HB.out] at hi; omega)
    clear hr3 hk3
    go_wp2
    refine bodyPost_ret (v := .tuple #[.agg (zeroCl.vs (.slice none 0 0)).toArray, .int .i64 0, .int .i64 230]) (by simp [results, Tryz.results13, go_sem, g0, g1, g2, g3, g4, g5, g6]) rfl ?_
    exact ⟨⟨none, 0, 0, by rw [HF.out], by rw [HF.out]; exact ⟨rfl, .inl ⟨rfl, rfl⟩⟩⟩, HK3.out⟩
  | some r =>
    obtain ⟨rfl, -, ho⟩ := HR.out r hs
    have HF : Hid (readT is s = (n, c, 0)) := Lib.hid (by unfold readT; rw [hs])
    have HO1 := Lib.hid ho
    rw [show (Option.isSome (some (n, c, sg, si))) = true from rfl]
    clear hs ho
    obtain ⟨W2, hW2⟩ : ∃ W2, W1.alloc (.cells (tokVs n is' c (.slice sa sn sc) sg si).toArray 80) = W2 := ⟨_, rfl⟩
    have hk2 : Kept (fun _ => True) W1 W2 := by rw [← hW2]; exact (Kept.refl _ _).alloc _
    have RT : Hid (RowW W1.heap.size 80 (tokVs n is' c (.slice sa sn sc) sg si) W2) := Lib.hid (by rw [← hW2]; exact heap_alloc_new W1 _)
    have HK2 := Lib.hid (HK1.out.tr hk2)
    have HA2 := Lib.hid (HA1.out.kept hk2 trivial)
    have HO2 := Lib.hid (HO1.out.kept hk2)
    obtain ⟨g, hg⟩ : ∃ g, W1.heap.size = g := ⟨_, rfl⟩
    have HGB : Hid (g ≠ B) := Lib.hid (by have := HA1.out.lt; omega)
    rw [hg] at RT
    clear hk2
    go_wp2_with fail
    clear hW2 hg
    refine wp_flow2 rfl [some 18, some 19, some 20, some 21, some 22, some 23, none, some 5, some 6] rfl (by decide) (by kernel_rfl) (by kernel_rfl) (WIs W2 (relOf (relR g n c (.slice sa sn sc))) (tgsR B)) ?_ ?_ ?_
    · intro vs
      exact WIs.start (fun k t h e => by obtain rfl := List.mem_singleton.1 (List.mem_of_getElem? h); exact ⟨_, HA2.out, rfl⟩) (fun k l t u h1 h2 h3 e1 e2 => by
        have l1 := (List.getElem?_eq_some_iff.1 h1).1
        have l2 := (List.getElem?_eq_some_iff.1 h2).1
        simp only [tgsR, List.length_singleton] at l1 l2
        omega)
    · intro i o L vs x w1 p h
      have hi : i < 9 := p.lt
      have hR := relR_last g n c (.slice sa sn sc)
      have hk := h.keptB
      have hrt := RT.out.kept hk fun t ht _ => by obtain rfl := List.mem_singleton.1 ht; exact HGB.out
      obtain rfl | rfl | rfl | rfl | rfl | rfl | rfl | rfl | rfl : i = 0 ∨ i = 1 ∨ i = 2 ∨ i = 3 ∨ i = 4 ∨ i = 5 ∨ i = 6 ∨ i = 7 ∨ i = 8 := by omega
      · obtain rfl : _ = o := Option.some.inj p.isAt
        exact flow_fld p rfl h hR (tok_of (tgsR B) 0 rfl L) rfl rfl ((p.old 7 rfl).trans rfl) (fun w => by kernel_rfl)
      · obtain rfl : _ = o := Option.some.inj p.isAt
        exact flow_fld p rfl h hR (tok_of (tgsR B) 1 rfl L) rfl rfl (p.isv h 0 18 rfl rfl rfl) (fun w => by kernel_rfl)
      · obtain rfl : _ = o := Option.some.inj p.isAt
        have c2 := hrt.at' 2 _ rfl
        have c3 := hrt.at' 3 _ rfl
        have c4 := hrt.at' 4 _ rfl
        have c5 := hrt.at' 5 _ rfl
        have c6 := hrt.at' 6 _ rfl
        have c7 := hrt.at' 7 _ rfl
        have c8 := hrt.at' 8 _ rfl
        exact flow_load p rfl h hR (tok_src (tgsR B) 2 rfl fun t ht e => by obtain rfl := List.mem_singleton.1 ht; exact p.notyet 6 rfl rfl) rfl rfl (p.isv h 1 19 rfl rfl rfl) (by simp [go_sem, c2, c3, c4, c5, c6, c7, c8])
      · obtain rfl : _ = o := Option.some.inj p.isAt
        exact flow_fld p rfl h hR (tok_of (tgsR B) 3 rfl L) rfl rfl ((p.old 7 rfl).trans rfl) (fun w => by kernel_rfl)
      · obtain rfl : _ = o := Option.some.inj p.isAt
        exact flow_fld p rfl h hR (tok_of (tgsR B) 4 rfl L) rfl rfl (p.isv h 3 21 rfl rfl rfl) (fun w => by kernel_rfl)
      · obtain rfl : _ = o := Option.some.inj p.isAt
        have c0 := hrt.at' 0 _ rfl
        exact flow_load p rfl h hR (tok_of (tgsR B) 5 rfl L) rfl rfl (p.isv h 4 22 rfl rfl rfl) (by simp [go_sem, c0])
      · obtain rfl : _ = o := Option.some.inj p.isAt
        obtain ⟨ok, e2, hj⟩ := p.get h 2 20 rfl rfl
        exact flow_store p rfl h hR 0 rfl rfl (fun j hj => by cases hj) rfl (fun _ _ => rfl) rfl (fun g _ hg => by rw [hg rfl]; exact (p.old 4 rfl).trans rfl) _ hj e2 rfl (by kernel_rfl) rfl
      · obtain rfl : _ = o := Option.some.inj p.isAt
        exact flow_as p rfl h hR (tok_of (tgsR B) 7 rfl L) rfl rfl (p.isv h 5 23 rfl rfl rfl)
      · obtain rfl : _ = o := Option.some.inj p.isAt
        exact flow_as p rfl h hR (tok_of (tgsR B) 8 rfl L) rfl rfl rfl
    · intro vs w9 L hL h
      have hk9 : Kept (fun b => b ≠ B) W2 w9 := h.keptB.mono fun b _ hb t ht _ => by obtain rfl := List.mem_singleton.1 ht; exact hb
      obtain ⟨ok, G, -, -, -, h3, h4, -⟩ := h
      have e2 : vs 2 = .agg (c.vs (.slice sa sn sc)).toArray := h3 2 (hL 2 (by decide))
      have e7 : vs 7 = .int .i64 n := h3 7 (hL 7 (by decide))
      have e8 : vs 8 = .int .i64 0 := h3 8 (hL 8 (by decide))
      obtain ⟨-, -, p3, cs1, p4, -, p6⟩ := h4 0 _ rfl fun j hj => by cases hj
      have hG : G 0 = B := p3 rfl
      obtain rfl := p6 (hL 6 (by decide))
      have RR : Hid (RowW B 26 (c.vs (.slice sa sn sc)) w9) := Lib.hid (by
        have q : w9.heap[G 0]? = some (.cells (vs 2).cells 26 (0, 0)) := p4
        rw [e2, hG] at q
        exact q)
      have HK9 : Hid (Kept (fun _ => True) w w9) := Lib.hid (HK2.out.trans hk9 fun i hi _ => by rw [HB.out] at hi; omega)
      have HO9 : Hid (OwnS w.heap.size (.slice sa sn sc) c.scope w9) := Lib.hid (ownsRow_base (ownsRow_kept HO2.out hk9 fun b hb => by
        obtain ⟨q1, q2⟩ := HO2.out.lt b hb
        have := HWZ.out
        omega) (by have := HWZ.out; have := HB.out; omega))
      simp only [putAll, Act.put, List.setIfInBounds_toArray, List.set_cons_zero, List.set_cons_succ, Nat.zero_add, Nat.reduceAdd, e7, e8]
      clear p3 p4 p6 h4 h3 hL e2 e7 e8 hG hk9
      generalize vs 0 = v0
      generalize vs 1 = v1
      generalize vs 2 = v2
      generalize vs 3 = v3
      generalize vs 4 = v4
      generalize vs 5 = v5
      go_wp2
      have g0 := RR.out.at' 0 _ rfl
      have g1 := RR.out.at' 1 _ rfl
      have g2 := RR.out.at' 2 _ rfl
      have g3 := RR.out.at' 3 _ rfl
      have g4 := RR.out.at' 4 _ rfl
      have g5 := RR.out.at' 5 _ rfl
      have g6 := RR.out.at' 6 _ rfl
      refine bodyPost_ret (v := .tuple #[.agg (c.vs (.slice sa sn sc)).toArray, .int .i64 n, .int .i64 0]) (by simp [results, Tryz.results13, go_sem, g0, g1, g2, g3, g4, g5, g6]) rfl ?_
      exact ⟨⟨sa, sn, sc, by rw [HF.out], by rw [HF.out]; exact HO9.out⟩, HK9.out⟩
end Go.Proofs.YtpcgfhleloonfaaGreatDoor
