/- Walks of wire (layer 5), eleventh part: a first line. -/
import Derived.Test.YtaomhkgdbobpkaaGreatDoorWiW10
import Derived.Lib.SplitLaws
namespace Go.Proofs.YtaomhkgdbobpkaaGreatDoor
open Go.RowKit Wi

theorem extract_ba (s : List UInt8) (j k : Nat) : (⟨s.toArray⟩ : ByteArray).extract j k = ⟨((s.drop j).take (k - j)).toArray⟩ := by
  have h := extract_mk s j k
  injection h
theorem splitK_len (sep : List UInt8) : ∀ (k : Nat) (s p : List UInt8), p ∈ Lib.splitK sep 0 k s → p.length ≤ s.length
  | 0, s, p, h => by
    have : p = s := by simpa [Lib.splitK] using h
    rw [this]; exact Nat.le_refl _
  | k + 1, s, p, h => by
    unfold Lib.splitK at h
    split at h
    · have : p = s := by simpa using h
      rw [this]; exact Nat.le_refl _
    · rcases List.mem_cons.1 h with rfl | h
      · simp only [List.length_take]; omega
      · have := splitK_len sep k _ p h
        simp only [List.length_drop] at this
        omega
/-- A text's pieces, as Split lays them. -/
theorem split_any (s : List UInt8) (mx : Int) (w : World) (hs : s.length < 4294967281) (hm : w.cell? ⟨5, 0, none⟩ = some (.int .i64 mx)) :
    Calls Tryz.prog 116 #[S s, .string ⟨#[32]⟩] w fun e w' => e = .returned (.slice (some ⟨w.heap.size, 0, none⟩) (splitS s).length (splitS s).length) ∧ w' = w.alloc (.cells ((splitS s).map S).toArray 9) := by
  refine (Tryz.strings_Split ⟨s.toArray⟩ ⟨#[32]⟩ mx w (by rw [size_mk]; exact hs) hm (by decide)).mono ?_
  have hd := Lib.splitB_data ⟨#[32]⟩ 0 (Lib.countB ⟨s.toArray⟩ ⟨#[32]⟩) ⟨s.toArray⟩
  have he : splitS s = (Lib.splitB ⟨#[32]⟩ 0 (Lib.countB ⟨s.toArray⟩ ⟨#[32]⟩) ⟨s.toArray⟩).map (·.data.toList) := hd.symm
  have hl : (splitS s).length = Lib.countB ⟨s.toArray⟩ ⟨#[32]⟩ + 1 := by rw [he, List.length_map, Lib.splitB_all ⟨#[32]⟩ (by decide) 0 _ _ rfl]
  have hc : (splitS s).map S = (Lib.splitB ⟨#[32]⟩ 0 (Lib.countB ⟨s.toArray⟩ ⟨#[32]⟩) ⟨s.toArray⟩).map Value.string := by
    rw [he, List.map_map]
    apply List.map_congr_left
    intro x _
    rfl
  rw [hl, hc]
  exact fun e w' h => h
theorem RdC.setFirst {g bx : Nat} {lv fv hv bv fv' : Value} {r : R} {w : World} {ls : List (List UInt8)} (h : RdC g bx lv fv hv bv r w) (hf : RowT w fv' ls) : RdC g bx lv fv' hv bv { r with first := ls } (w.setCell ⟨g, 5, none⟩ fv') := by
  obtain ⟨hk, h2, _, h4, h5, h6⟩ := h.set 5 fv'
  exact ⟨(setCell_heap h.box _).trans rfl, h6, h2, hf.kept hk fun b hb => by obtain ⟨x, y, k⟩ := hf.ty hb; exact ty_ne k h.box (by decide), h4, h5, h.one⟩
/-- What a first line leaves. -/
def BegQ (g bx : Nat) (lv hv bv : Value) (x : Option R) (w : World) (e : Ending) (w' : World) : Prop := e = .returned (.bool x.isSome) ∧ (∀ r', x = some r' → ∃ fv', RdC g bx lv fv' hv bv r' w' ∧ ∀ b, fv'.ownBlock = some b → w.heap.size ≤ b) ∧ Kept (· ≠ g) w w'
set_option maxHeartbeats 8000000 in
set_option maxRecDepth 100000 in
theorem begins_ask (g bx : Nat) (lv fv hv bv : Value) (r : R) (s : List UInt8) (w : World) (B : Nat) (hE : WE B w) (h : RdC g bx lv fv hv bv r w) (hl : s.length ≤ 100000) (ha : r.ans = false) :
    Calls Tryz.prog 101 #[.pointer (some ⟨g, 0, none⟩), S s] w (BegQ g bx lv hv bv (beginsP r s) w) := by
  obtain ⟨mx, hmx⟩ := hE.max
  have SP := Lib.hid (split_any s mx w (by omega) hmx)
  have hpl : ∀ p ∈ splitS s, p.length ≤ s.length := fun p hp => splitK_len _ _ _ _ hp
  have HR : Hid (beginsP r s = (askedP s).map fun x => { r with first := [x.1, x.2] }) := Lib.hid (by unfold beginsP; rw [ha]; rfl)
  have HA : Hid (askedP s = match splitS s with | [a, b, c] => if isMethodP a = true ∧ isPathP b = true ∧ c = versionL then some (a, b) else none | _ => none) := Lib.hid rfl
  obtain ⟨ps, hps⟩ : ∃ ps, splitS s = ps := ⟨_, rfl⟩
  rw [hps] at SP HA hpl
  have HC := Lib.hid h
  obtain ⟨-, c1, -⟩ := h.facts
  rw [ha] at c1
  clear hE h hmx hps ha
  have HNO : Hid (∀ w', beginsP r s = none → Kept (fun _ => True) w w' → BegQ g bx lv hv bv (beginsP r s) w (.returned (.bool false)) w') := Lib.hid fun w' he hk => by
    rw [he]
    exact ⟨rfl, fun _ h => (by cases h), hk.mono fun _ _ _ => trivial⟩
  by_cases h3 : ps.length = 3
  case neg =>
    have hN : beginsP r s = none := by
      rw [HR.out, HA.out]
      match ps, h3 with
      | [], _ => rfl
      | [_], _ => rfl
      | [_, _], _ => rfl
      | [_, _, _], h => exact absurd rfl h
      | _ :: _ :: _ :: _ :: _, _ => rfl
    have q1 : ((ps.length : Int) != 3) = true := by rw [bne_iff_ne]; omega
    have q2 : ¬ (ps.length : Int) = 3 := by omega
    have HN2 := Lib.hid (fun w' hk => HNO.out w' hN hk)
    clear hN h3 HNO
    go_enter Tryz.func101, Tryz.ntmps101
    go_wp2_with fail
    refine SP.out.mono ?_
    rintro e w1 ⟨rfl, rfl⟩
    go_wp2
    go_ret
    exact HN2.out _ ((Kept.refl _ w).alloc _)
  obtain ⟨a, b, c, rfl⟩ : ∃ a b c, ps = [a, b, c] := by
    match ps, h3 with
    | [a, b, c], _ => exact ⟨a, b, c, rfl⟩
  clear h3
  have hla : a.length ≤ s.length := hpl a (by simp)
  have hlb : b.length ≤ s.length := hpl b (by simp)
  have hlc : c.length ≤ s.length := hpl c (by simp)
  obtain ⟨W1, hW1⟩ : ∃ W1, w.alloc (.cells (([a, b, c].map S).toArray) 9) = W1 := ⟨_, rfl⟩
  have hk1 : Kept (fun _ => True) w W1 := by rw [← hW1]; exact (Kept.refl _ w).alloc _
  have hb1 : W1.heap[w.heap.size]? = some (.cells #[S a, S b, S c] 9 (0, 0)) := by rw [← hW1]; exact heap_alloc_new w _
  rw [hW1] at SP
  have HCE : Hid (∀ W, Kept (fun _ => True) W1 W → W.cell? ⟨w.heap.size, 0, none⟩ = some (S a) ∧ W.cell? ⟨w.heap.size, 1, none⟩ = some (S b) ∧ W.cell? ⟨w.heap.size, 2, none⟩ = some (S c) ∧ W.heap[w.heap.size]? = some (.cells #[S a, S b, S c] 9 (0, 0))) := Lib.hid fun W hk => by
    have := (hk.block _ (Array.getElem?_eq_some_iff.1 hb1).1 trivial).trans hb1
    refine ⟨?_, ?_, ?_, this⟩ <;> rw [cell_of_row W _ _ _ _ (0, 0) this] <;> rfl
  obtain ⟨k0, k1, k2, -⟩ := HCE.out W1 (Kept.refl _ _)
  have MT := Lib.hid (fun W => isMethod_any a W (by omega))
  have PT := Lib.hid (fun W => isPath_any b W (by omega))
  have HAA : Hid (beginsP r s = if isMethodP a = true ∧ isPathP b = true ∧ c = versionL then some { r with first := [a, b] } else none) := Lib.hid (by
    rw [HR.out, HA.out]
    show Option.map _ (if _ then _ else _) = _
    split <;> rfl)
  obtain ⟨q1, hq1⟩ : ∃ q, isMethodP a = q := ⟨_, rfl⟩
  obtain ⟨q2, hq2⟩ : ∃ q, isPathP b = q := ⟨_, rfl⟩
  rw [hq1] at MT HAA
  rw [hq2] at PT HAA
  have HK1 := Lib.hid hk1
  clear HR HA hpl hW1 hk1 hb1 hq1 hq2
  go_enter Tryz.func101, Tryz.ntmps101
  go_wp2_with fail
  refine SP.out.mono ?_
  rintro e w1 ⟨rfl, rfl⟩
  clear c1
  go_wp2_with fail
  refine (MT.out _).mono ?_
  rintro e w2 ⟨rfl, hk2⟩
  have HK2 := Lib.hid hk2
  clear k0 k1 k2 hk2
  obtain ⟨k0, k1, k2, -⟩ := HCE.out w2 HK2.out
  cases q1 with
  | false =>
    have HZ := Lib.hid (HNO.out w2 (by rw [HAA.out, if_neg (fun h => by cases h.1)]) (HK1.out.tr HK2.out))
    go_wp2
    go_ret
    exact HZ.out
  | true =>
    go_wp2_with fail
    refine (PT.out _).mono ?_
    rintro e w3 ⟨rfl, hk3⟩
    have HK3 := Lib.hid (HK2.out.tr hk3)
    clear k0 k1 k2 hk3
    obtain ⟨k0, k1, k2, kb⟩ := HCE.out w3 HK3.out
    cases q2 with
    | false =>
      have HZ := Lib.hid (HNO.out w3 (by rw [HAA.out, if_neg (fun h => by cases h.2.1)]) (HK1.out.tr HK3.out))
      clear kb
      go_wp2
      go_ret
      exact HZ.out
    | true =>
      by_cases hc : c = versionL
      · have q3 : (c != [72, 84, 84, 80, 47, 49, 46, 49]) = false := by rw [hc]; rfl
        have q4 : (c == [72, 84, 84, 80, 47, 49, 46, 49]) = true := by rw [hc]; rfl
        have HY : Hid (beginsP r s = some { r with first := [a, b] }) := Lib.hid (by rw [HAA.out, if_pos ⟨trivial, rfl, hc⟩])
        have HC3 := Lib.hid (HC.out.kept (HK1.out.tr HK3.out) fun _ _ => trivial)
        have HF := Lib.hid (HC3.out.setFirst (fv' := .slice (some ⟨w.heap.size, 0, none⟩) 2 3) (ls := [a, b]) (.inr ⟨_, _, _, _, rfl, kb, by simp, fun j l hj => by
          match j, hj with
          | 0, hj => simpa using hj
          | 1, hj => simpa using hj
          | j + 2, hj => simp at hj⟩))
        have f9 := HC3.out.facts.2.2.2.2.2.2.2.2.2.1 5
        obtain ⟨-, -, -, -, -, c5, -⟩ := HC3.out.facts
        have HZ : Hid (BegQ g bx lv hv bv (beginsP r s) w (.returned (.bool true)) (w3.setCell ⟨g, 5, none⟩ (.slice (some ⟨w.heap.size, 0, none⟩) 2 3))) := Lib.hid (by
          rw [HY.out]
          refine ⟨rfl, fun r' hr' => ?_, ((HK1.out.tr HK3.out).mono fun _ _ _ => trivial).setCell (.inr (by simp)) _⟩
          obtain rfl := Option.some.inj hr'
          exact ⟨_, HF.out, fun b hb => by
            obtain rfl : w.heap.size = b := by simpa [Value.ownBlock] using hb
            exact Nat.le_refl _⟩)
        clear hc kb HNO
        go_wp2
        go_ret
        exact HZ.out
      · have q3 : (c != [72, 84, 84, 80, 47, 49, 46, 49]) = true := bne_iff_ne.2 hc
        have q4 : (c == [72, 84, 84, 80, 47, 49, 46, 49]) = false := beq_eq_false_iff_ne.2 hc
        have HZ := Lib.hid (HNO.out w3 (by rw [HAA.out, if_neg (fun h => hc h.2.2)]) (HK1.out.tr HK3.out))
        clear hc kb
        go_wp2
        go_ret
        exact HZ.out
end Go.Proofs.YtaomhkgdbobpkaaGreatDoor
