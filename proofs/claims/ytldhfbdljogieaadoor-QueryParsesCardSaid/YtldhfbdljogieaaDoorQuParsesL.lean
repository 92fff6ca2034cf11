/- Walk of the law QueryParses (layer 3). -/
import Derived.Test.YtldhfbdljogieaaDoorQuAp
import Derived.Test.YtldhfbdljogieaaDoorQuW11
namespace Go.Proofs.YtldhfbdljogieaaDoor
open Go.RowKit Qu

/-- The first loop's state: the rows that Parse has handed back, each in a block of its own, and the row that holds them. -/
structure Acc (N : Nat) (lab : Nat → Nat) (lv : Value) (vs : List Value) (ls : List (List Fld)) (w : World) : Prop where
  len : ls.length = vs.length
  row : w.ownsRow N 31 1 lv vs.length vs
  rowL : Lab lab lv 2
  own : ∀ (j : Nat) u fl, vs[j]? = some u → ls[j]? = some fl → OwnF N u fl w ∧ Lab lab u (3 + j)
section
variable {N : Nat} {lab : Nat → Nat} {lv lv' u : Value} {vs : List Value} {ls : List (List Fld)} {fl : List Fld} {w w' w1 w2 w3 : World}
theorem Acc.below (h : Acc N lab lv vs ls w) (hb : Below w.heap.size w w') : Acc N lab lv vs ls w' :=
  ⟨h.len, ownsRow_below h.row hb, h.rowL, fun j u fl hu hf => ⟨ownsRow_below (h.own j u fl hu hf).1 hb, (h.own j u fl hu hf).2⟩⟩
theorem Acc.relab (h : Acc N lab lv vs ls w) (x : Nat) : Acc N (relab w.heap.size lab x) lv vs ls w :=
  ⟨h.len, h.row, h.rowL.relab fun b hb => (h.row.lt b hb).2, fun j u fl hu hf => ⟨(h.own j u fl hu hf).1, (h.own j u fl hu hf).2.relab fun b hb => ((h.own j u fl hu hf).1.lt b hb).2⟩⟩
theorem Acc.push (h : Acc N lab lv vs ls w) (b1 : Below w.heap.size w w1) (hu : OwnF w.heap.size u fl w1) (hN : N ≤ w.heap.size) (b2 : Below w1.heap.size w1 w2) (m : Moved lv lv' w2 w3)
    (o : w3.ownsRow N 31 1 lv' (vs.length + 1) (vs ++ [u])) : ∃ lab', Acc N lab' lv' (vs ++ [u]) (ls ++ [fl]) w3 := by
  have hz1 := b1.size
  have k0 := (((h.relab (3 + vs.length)).below b1).below b2)
  have Lu0 : Lab (Go.Proofs.YtldhfbdljogieaaDoor.relab w.heap.size lab (3 + vs.length)) u (3 + vs.length) := fun b hb => if_neg (by have := (hu.lt b hb).1; omega)
  have hu2 : OwnF N u fl w2 := ownsRow_base (ownsRow_below hu b2) hN
  have L := k0.rowL.moved (fun b hb => (k0.row.lt b hb).2) m
  have k := k0.relab 2
  have Lu := Lu0.relab (H := w2.heap.size) (y := 2) (fun b hb => (hu2.lt b hb).2)
  have hm := m.kept
  refine ⟨_, by simp [h.len], by simpa using o, L, fun j u' fl' hj hf => ?_⟩
  by_cases e : j < vs.length
  · rw [List.getElem?_append_left e] at hj
    rw [List.getElem?_append_left (by have := h.len; omega)] at hf
    obtain ⟨g1, g2⟩ := k.own j u' fl' hj hf
    exact ⟨ownsRow_keptRow g1 hm (fun b hb eb => by have := g2 b hb; have := k.rowL b eb.symm; omega), g2⟩
  · have hj2 := (List.getElem?_eq_some_iff.1 hj).1
    simp at hj2
    obtain rfl : j = vs.length := by omega
    rw [List.getElem?_append_right (Nat.le_refl _), Nat.sub_self] at hj
    rw [← h.len, List.getElem?_append_right (Nat.le_refl _), Nat.sub_self] at hf
    cases hj
    cases hf
    exact ⟨ownsRow_keptRow hu2 hm (fun b hb eb => by have := Lu b hb; have := k.rowL b eb.symm; omega), Lu⟩
theorem Acc.rws (h : Acc N lab lv vs ls w) (h0 : 0 < vs.length) : ∃ g cap, lv = .slice (some ⟨g, 0, none⟩) vs.length cap ∧ vs.length ≤ cap ∧ Rws N lab g vs ls 0 w := by
  have hL := h.rowL
  obtain ⟨g, cap, rfl, h1, h2, h3⟩ := ownsRow_read h.row h0
  exact ⟨g, cap, rfl, h1, h.len, h2, hL g rfl, h3, fun j u fl _ => h.own j u fl⟩
end

theorem parseGo_len : ∀ (ps : List (List UInt8)) (acc : List Fld) (a : Nat), acc.length ≤ 32 → (parseGo acc a ps).1.length ≤ 32
  | [], acc, a, h => h
  | p :: r, acc, a, h => by
    by_cases h32 : acc.length = 32
    · rw [parseGo_many _ _ _ _ h32]; simp
    · by_cases hp : p = []
      · subst hp
        rw [parseGo_empty _ _ _ h32]; simp
      · by_cases he : (fieldP p).2.1 ≠ 0
        · rw [parseGo_bad _ _ _ _ h32 hp he]; simp
        · rw [parseGo_ok _ _ _ _ h32 hp he]
          exact parseGo_len r _ _ (by rw [List.length_append]; simp; omega)
theorem parse_len (l : List UInt8) : (parse l).1.length ≤ 32 := by
  unfold parse
  split
  · simp
  · exact parseGo_len _ _ _ (by simp)
def rowsOf (asks : List (List UInt8)) : List (List Fld) := asks.map fun a => (parse a).1
theorem rowsOf_take {asks : List (List UInt8)} {i : Nat} {a : List UInt8} (h : asks[i]? = some a) : rowsOf (asks.take (i + 1)) = rowsOf (asks.take i) ++ [(parse a).1] := by
  unfold rowsOf
  rw [List.take_add_one, h]
  simp
/-- The texts asked for stand in block g. -/
def AskAt (g : Nat) (asks : List (List UInt8)) (w : World) : Prop := g < w.heap.size ∧ ∀ (k : Nat) a, asks[k]? = some a → w.cell? ⟨g, k, none⟩ = some (S a)
theorem AskAt.below {g N : Nat} {asks : List (List UInt8)} {w w' : World} (h : AskAt g asks w) (hg : g < N) (hb : Below N w w') : AskAt g asks w' := by
  have hz := hb.size
  exact ⟨by have := h.1; omega, fun k a hk => ((bcell hb).1 _ _ hg).trans (h.2 k a hk)⟩

set_option maxHeartbeats 4000000 in
set_option maxRecDepth 100000 in
theorem parsesLaw (s t : List UInt8) (w : World) (hE : Env w) (hs : s.length ≤ maxLen) (ht : t.length ≤ maxLen) :
    Calls Tryd.prog 4 #[S s, S t] w fun e w' => e = .returned (.bool true) ∧ Below w.heap.size w w' := by
  unfold maxLen at hs ht
  have hzs : (⟨s.toArray⟩ : ByteArray).size = s.length := size_mk s
  have hzt : (⟨t.toArray⟩ : ByteArray).size = t.length := size_mk t
  have HE := Lib.hid hE
  clear hE
  by_cases hbig : addI s.length t.length > 2147483647
  · go_enter Tryd.func4, Tryd.ntmps4
    go_wp2_with fail
    refine (addsUp_any _ _ _ (by omega) (by omega)).mono ?_
    rintro e w' ⟨rfl, rfl⟩
    go_wp2
    go_ret
    exact ⟨rfl, Below.refl _ _⟩
  · have hsl : s.length ≤ 2147483647 := by unfold addI at hbig; split at hbig <;> omega
    have htl : t.length ≤ 2147483647 := by unfold addI at hbig; split at hbig <;> omega
    obtain ⟨asks, hasks⟩ : ∃ l, l = [s, s, t, s] := ⟨_, rfl⟩
    have hal : asks.length = 4 := by rw [hasks]; rfl
    have hab : ∀ (k : Nat) a, asks[k]? = some a → a.length ≤ 2147483647 := by
      intro k a hk
      have := List.mem_of_getElem? hk
      rw [hasks] at this
      simp at this
      rcases this with rfl | rfl | rfl
      · exact hsl
      · exact htl
      · exact hsl
    have HAs := Lib.hid hasks
    have HAb := Lib.hid hab
    have HAl := Lib.hid hal
    clear hasks hab hal
    go_enter Tryd.func4, Tryd.ntmps4
    go_wp2_with fail
    refine (addsUp_any _ _ _ (by omega) (by omega)).mono ?_
    rintro e w' ⟨rfl, rfl⟩
    go_wp2_with fail
    refine (awake_any _ HE.out).mono ?_
    rintro e w1 ⟨rfl, hb1⟩
    have hz1 := hb1.size
    have HB1 := Lib.hid hb1
    clear hb1
    go_wp2
    go_loopw [7, 8] (fun lv x wr => ∃ (i : Nat) (vs : List Value) (lab : Nat → Nat), x = .int .i64 i ∧ i ≤ 4 ∧ vs.length = i ∧ Hid (Acc (w1.heap.size + 1) lab lv vs (rowsOf (asks.take i)) wr) ∧ Hid (AskAt w1.heap.size asks wr) ∧ Below (w1.heap.size + 1) (w1.alloc (.cells #[S s, S s, S t, S s] 9)) wr) (fun _ x _ => 4 - (intOf x).toNat)
    case atStart =>
      refine ⟨0, [], fun _ => 0, rfl, by omega, rfl, Lib.hid ⟨rfl, World.ownsRow_nil _ _ _ _, Lab.nil _ _, fun j u fl hu => by simp at hu⟩, Lib.hid ⟨by simp, fun k a hk => ?_⟩, Below.refl _ _⟩
      rw [cell_of_row _ w1.heap.size k _ _ (0, 0) (heap_alloc_new w1 _)]
      rw [HAs.out] at hk
      match k, hk with
      | 0, hk => simpa using hk
      | 1, hk => simpa using hk
      | 2, hk => simpa using hk
      | 3, hk => simpa using hk
      | k + 4, hk => simp at hk
    case round =>
      obtain ⟨i, vs, lab, rfl, hi, hvl, HA, HQ, hbw⟩ := hrel
      have hzw := hbw.size
      simp only [World.size_alloc] at hzw
      by_cases hlt : i < 4
      · have hi0 : (0 : Int) ≤ (i : Int) := by omega
        have hi1 : (i : Int) < 4 := by omega
        obtain ⟨a, ha⟩ : ∃ a, asks[i]? = some a := ⟨_, List.getElem?_eq_getElem (by have := HAl.out; omega)⟩
        have c0 := HQ.out.2 i a ha
        have hab := HAb.out i a ha
        have C1 := Lib.hid (fun w => Parse_any a w (by omega))
        have C2 := Lib.hid (fun w => refParse_any a w (by omega))
        have HT := Lib.hid (rowsOf_take ha)
        have hpl := parse_len a
        obtain ⟨R, hR⟩ : ∃ R, parse a = R := ⟨_, rfl⟩
        rw [hR] at C1 C2 HT hpl
        clear hR ha
        go_wp2_with fail
        refine (C1.out _).mono ?_
        rintro e w2 ⟨⟨v, rfl, ho⟩, hb2⟩
        have d0 := ((bcell hb2).1 w1.heap.size i (by omega)).trans c0
        have hz2 := hb2.size
        have HO := Lib.hid ho
        have HB2 := Lib.hid hb2
        clear c0 ho hb2
        go_wp2_with fail
        refine (C2.out _).mono ?_
        rintro e w3 ⟨⟨v', rfl, ho'⟩, hb3⟩
        have hz3 := hb3.size
        have CS := Lib.hid (same_yes v v' R.1 w3 (HO.out.fldIn.below hb3) ho'.fldIn (by omega))
        have HB3 := Lib.hid hb3
        clear ho' hb3
        go_wp2_with fail
        refine CS.out.mono ?_
        rintro e w4 ⟨rfl, hb4⟩
        have hz4 := hb4.size
        have hb24 : Below w2.heap.size w2 w4 := HB3.out.trans (hb4.mono hz3)
        have HB4 := Lib.hid hb24
        have HA4 := Lib.hid ((HA.out.below HB2.out).below hb24)
        have HVL := Lib.hid hvl
        have hv4 : vs.length ≤ 4 := by omega
        obtain ⟨va, vcap, hve⟩ := fldIn_len HO.out.fldIn
        subst hve
        have hrow := HA4.out.row
        have hone : ∀ u ∈ [Value.slice va R.1.length vcap], u.oneCell' = true := by intro u hu; simp at hu; subst hu; rfl
        clear hb4 hb24 hvl
        go_wp2_with (at_builtin; refine wpList_pushOne 30 31 Tryd.underlying30 infoRow rfl (by decide) rfl _ _ rfl (w1.heap.size + 1) _ vs.length vs [Value.slice va R.1.length vcap] w4 _ rfl rfl rfl hone 1 _ rfl rfl rfl hrow (by omega) (by decide) (by omega) ?_)
        intro l' w5 g1 g2 g3
        obtain ⟨lab', A5⟩ := HA.out.push HB2.out HO.out (by omega) HB4.out g3 g1
        rw [← HT.out] at A5
        have HA5 := Lib.hid A5
        have hbQ : Below (w1.heap.size + 1) wr w5 := ((HB2.out.mono (by omega)).trans (HB4.out.mono (by omega))).trans g2
        clear g1 A5
        go_wp2
        go_roundw
        case rel => exact ⟨i + 1, vs ++ [.slice va R.1.length vcap], lab', by go_num, by omega, by rw [List.length_append, HVL.out]; rfl, HA5, Lib.hid (HQ.out.below (by omega) hbQ), hbw.trans hbQ⟩
        case measure => simp [intOf]; omega
      · obtain rfl : i = 4 := by omega
        obtain ⟨g, cap, hlv, hcap, hRw⟩ := HA.out.rws (by omega)
        have htk : asks.take 4 = asks := List.take_of_length_le (by rw [HAl.out]; exact Nat.le_refl _)
        rw [htk] at hRw
        have CA := Lib.hid (fun w' (h : Rws (w1.heap.size + 1) lab g vs (rowsOf asks) 0 w') (hN : w1.heap.size + 1 ≤ w'.heap.size) => apart_any (w1.heap.size + 1) lab g cap vs (rowsOf asks) w' h (by omega) (by omega) (fun fl hfl => by
          obtain ⟨a, _, rfl⟩ := List.mem_map.1 hfl
          have := parse_len a
          omega) hN)
        rw [hvl] at hlv CA
        subst hlv
        have HRw := Lib.hid hRw
        have HVL := Lib.hid hvl
        clear hvl hRw htk hcap HA
        rw [show ((4 : Nat) : Int) = 4 from rfl]
        go_wp2
        go_loopw [16] (fun x wr => ∃ i : Nat, x = .int .i64 i ∧ i ≤ 4 ∧ Hid (Rws (w1.heap.size + 1) lab g vs (rowsOf asks) 0 wr) ∧ Hid (AskAt w1.heap.size asks wr) ∧ Below (w1.heap.size + 1) (w1.alloc (.cells #[S s, S s, S t, S s] 9)) wr) (fun x _ => 4 - (intOf x).toNat)
        case atStart => exact ⟨0, rfl, by omega, HRw, HQ, hbw⟩
        case round =>
          obtain ⟨i, rfl, hi, HRw, HQ, hbw⟩ := hrel
          have hzw := hbw.size
          simp only [World.size_alloc] at hzw
          by_cases hlt : i < 4
          · have hi0 : (0 : Int) ≤ (i : Int) := by omega
            have hi1 : (i : Int) < 4 := by omega
            obtain ⟨a, ha⟩ : ∃ a, asks[i]? = some a := ⟨_, List.getElem?_eq_getElem (by have := HAl.out; omega)⟩
            obtain ⟨u, hu⟩ : ∃ u, vs[i]? = some u := ⟨_, List.getElem?_eq_getElem (by have := HVL.out; omega)⟩
            have hfl : (rowsOf asks)[i]? = some (parse a).1 := by unfold rowsOf; rw [List.getElem?_map, ha]; rfl
            have hown := (HRw.out.own i u _ (Nat.zero_le _) hu hfl).1
            have c0 := HQ.out.2 i a ha
            have c1 := HRw.out.cell i u hu
            have hgl := HRw.out.lt
            have hab := HAb.out i a ha
            have C2 := Lib.hid (fun w => refParse_any a w (by omega))
            have hpl := parse_len a
            obtain ⟨R, hR⟩ : ∃ R, parse a = R := ⟨_, rfl⟩
            rw [hR] at C2 hpl hown
            have HO := Lib.hid hown
            clear hR ha hu hfl hown
            go_wp2_with fail
            refine (C2.out _).mono ?_
            rintro e w3 ⟨⟨v', rfl, ho'⟩, hb3⟩
            have hz3 := hb3.size
            have d1 := ((bcell hb3).1 g i hgl).trans c1
            have CS := Lib.hid (same_yes u v' R.1 w3 (HO.out.fldIn.below hb3) ho'.fldIn (by omega))
            have HB3 := Lib.hid hb3
            clear ho' hb3 c1 c0
            go_wp2_with fail
            refine CS.out.mono ?_
            rintro e w4 ⟨rfl, hb4⟩
            have hb14 := HB3.out.trans (hb4.mono hz3)
            clear hb4
            go_wp2
            go_roundw
            case rel =>
              exact ⟨i + 1, by go_num, by omega, Lib.hid (HRw.out.below hb14), Lib.hid (HQ.out.below (N := wr.heap.size) (by omega) hb14), hbw.trans (hb14.mono (by omega))⟩
            case measure => simp [intOf]; omega
          · obtain rfl : i = 4 := by omega
            go_wp2_with fail
            refine (CA.out _ HRw.out (by omega)).mono ?_
            rintro e w6 ⟨rfl, hb6⟩
            go_wp2
            go_ret
            exact ⟨rfl, (HB1.out.alloc hz1 _).trans ((hbw.trans hb6).mono (by omega))⟩
end Go.Proofs.YtldhfbdljogieaaDoor
