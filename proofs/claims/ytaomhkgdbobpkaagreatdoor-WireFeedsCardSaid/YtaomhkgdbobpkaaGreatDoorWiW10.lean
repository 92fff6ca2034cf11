/- Walks of wire (layer 5), tenth part: rows of a reading that grow; a header's line. -/
import Derived.Test.YtaomhkgdbobpkaaGreatDoorWiWC
namespace Go.Proofs.YtaomhkgdbobpkaaGreatDoor
open Go.RowKit Wi

/-- All blocks stay but a row's own. -/
theorem Kept.of_moved {v v' : Value} {w w' : World} (k2 : Below 0 w w') (k3 : Moved v v' w w') : Kept (fun b => v.ownBlock ≠ some b) w w' := ⟨k2.os, k2.tape, k2.output, k3.kept.1, fun k hk ho => k3.kept.2 k hk fun e => ho e.symm⟩
theorem Moved.where {v v' : Value} {w w' : World} (k3 : Moved v v' w w') : ∀ b, v'.ownBlock = some b → v.ownBlock = some b ∨ w.heap.size ≤ b := fun b hb => by
  rcases k3 with ⟨e, _⟩ | ⟨h, _⟩
  · exact .inl (e ▸ hb)
  · exact .inr (h b hb)
section
variable {g bx : Nat} {lv fv hv bv v' : Value} {r : R} {w w1 : World}
theorem RdC.addHs (h : RdC g bx lv fv hv bv r w) (f : Fl) (k1 : w1.ownsRow 0 61 2 v' (r.hs.length + 1) (fieldCells r.hs ++ [S f.1, S f.2])) (k2 : Below 0 w w1) (k3 : Moved hv v' w w1) :
    RdC g bx lv fv v' bv { r with hs := r.hs ++ [f] } (w1.setCell ⟨g, 6, none⟩ v') ∧ Kept (fun b => b ≠ g ∧ hv.ownBlock ≠ some b) w (w1.setCell ⟨g, 6, none⟩ v') ∧ w1.cell? ⟨g, 6, none⟩ = some hv ∧ w1.frozen? ⟨g, 6, none⟩ = false := by
  have hk := Kept.of_moved k2 k3
  have hb1 : w1.heap[g]? = _ := (hk.block g (Array.getElem?_eq_some_iff.1 h.box).1 fun e => (h.hv_ne g e).1 rfl).trans h.box
  have hk2 : Kept (· ≠ g) w1 (w1.setCell ⟨g, 6, none⟩ v') := (Kept.refl _ w1).setCell (.inr (by simp)) v'
  have hp1 := (hk.block bx (Array.getElem?_eq_some_iff.1 h.ptr).1 fun e => (h.hv_ne bx e).2.1 rfl).trans h.ptr
  have hvg : ∀ b, v'.ownBlock = some b → b ≠ g := fun b hb => by obtain ⟨cs, hc⟩ := own_cells k1 hb; exact ty_ne hc hb1 (by decide)
  refine ⟨⟨(setCell_heap hb1 _).trans rfl, (hk2.block bx (Array.getElem?_eq_some_iff.1 hp1).1 h.bx_ne).trans hp1, ?_, ?_, ?_, ?_, h.one⟩, ?_, ?_, frozen_row hb1 6⟩
  · exact ownsRow_kept (ownsRow_kept h.line hk fun b hb e => (h.hv_ne b e).2.2.1 hb) hk2 fun b hb => (h.lv_ne b hb).1
  · exact (h.first.kept hk fun b hb e => (h.hv_ne b e).2.2.2.1 hb).kept hk2 fun b hb => (h.fv_ne b hb).1
  · unfold OwnF
    rw [fieldCells_snoc, List.length_append]
    exact ownsRow_kept k1 hk2 hvg
  · exact ownsRow_kept (ownsRow_kept h.body hk fun b hb e => (h.hv_ne b e).2.2.2.2 hb) hk2 fun b hb => (h.bv_ne b hb).1
  · exact (hk.mono fun _ _ h => h.2).tr (hk2.mono fun _ _ h => h.1)
  · rw [cell_of_row w1 g _ _ _ (0, 0) hb1]; rfl
theorem RdC.addLine (h : RdC g bx lv fv hv bv r w) (hp : r.ph < 2) (c : UInt8) (k1 : w1.ownsRow 0 5 1 v' (r.line.length + 1) (Lib.byteCells r.line ++ [.int .u8 c.toNat])) (k2 : Below 0 w w1) (k3 : Moved lv v' w w1) :
    RdC g bx v' fv hv bv { r with line := r.line ++ [c] } (w1.setCell ⟨g, 4, none⟩ v') ∧ Kept (fun b => b ≠ g ∧ lv.ownBlock ≠ some b) w (w1.setCell ⟨g, 4, none⟩ v') ∧ w1.cell? ⟨g, 4, none⟩ = some lv ∧ w1.frozen? ⟨g, 4, none⟩ = false ∧ w1.cell? ⟨bx, 0, none⟩ = some (.pointer (some ⟨g, 0, none⟩)) := by
  have hk := Kept.of_moved k2 k3
  have hb1 : w1.heap[g]? = _ := (hk.block g (Array.getElem?_eq_some_iff.1 h.box).1 fun e => (h.lv_ne g e).1 rfl).trans h.box
  have hk2 : Kept (· ≠ g) w1 (w1.setCell ⟨g, 4, none⟩ v') := (Kept.refl _ w1).setCell (.inr (by simp)) v'
  have hp1 := (hk.block bx (Array.getElem?_eq_some_iff.1 h.ptr).1 fun e => (h.lv_ne bx e).2.1 rfl).trans h.ptr
  have hvg : ∀ b, v'.ownBlock = some b → b ≠ g := fun b hb => by obtain ⟨cs, hc⟩ := own_cells k1 hb; exact ty_ne hc hb1 (by decide)
  refine ⟨⟨(setCell_heap hb1 _).trans rfl, (hk2.block bx (Array.getElem?_eq_some_iff.1 hp1).1 h.bx_ne).trans hp1, ?_, ?_, ?_, ?_, ?_⟩, ?_, ?_, frozen_row hb1 4, ?_⟩
  · unfold OwnB
    rw [Lib.byteCells_append, List.length_append]
    exact ownsRow_kept k1 hk2 hvg
  · exact (h.first.kept hk fun b hb e => (h.lv_ne b e).2.2.1 hb).kept hk2 fun b hb => (h.fv_ne b hb).1
  · exact ownsRow_kept (ownsRow_kept h.hs hk fun b hb e => (h.lv_ne b e).2.2.2.1 hb) hk2 fun b hb => (h.hv_ne b hb).1
  · exact ownsRow_kept (ownsRow_kept h.body hk fun b hb e => (h.lv_ne b e).2.2.2.2 hb) hk2 fun b hb => (h.bv_ne b hb).1
  · rcases h.one with ⟨e, _⟩ | h
    · omega
    · exact .inr h
  · exact (hk.mono fun _ _ h => h.2).tr (hk2.mono fun _ _ h => h.1)
  · rw [cell_of_row w1 g _ _ _ (0, 0) hb1]; rfl
  · rw [cell_of_row w1 bx _ _ _ (0, 0) hp1]; rfl
theorem RdC.addBody (h : RdC g bx lv fv hv bv r w) (hp : r.ph = 2) (c : UInt8) (k1 : w1.ownsRow 0 5 1 v' (r.body.length + 1) (Lib.byteCells r.body ++ [.int .u8 c.toNat])) (k2 : Below 0 w w1) (k3 : Moved bv v' w w1) :
    RdC g bx lv fv hv v' { r with body := r.body ++ [c] } (w1.setCell ⟨g, 8, none⟩ v') ∧ Kept (fun b => b ≠ g ∧ bv.ownBlock ≠ some b) w (w1.setCell ⟨g, 8, none⟩ v') ∧ w1.cell? ⟨g, 8, none⟩ = some bv ∧ w1.frozen? ⟨g, 8, none⟩ = false ∧ w1.cell? ⟨bx, 0, none⟩ = some (.pointer (some ⟨g, 0, none⟩)) := by
  have hk := Kept.of_moved k2 k3
  have hb1 : w1.heap[g]? = _ := (hk.block g (Array.getElem?_eq_some_iff.1 h.box).1 fun e => (h.bv_ne g e).1 rfl).trans h.box
  have hk2 : Kept (· ≠ g) w1 (w1.setCell ⟨g, 8, none⟩ v') := (Kept.refl _ w1).setCell (.inr (by simp)) v'
  have hp1 := (hk.block bx (Array.getElem?_eq_some_iff.1 h.ptr).1 fun e => (h.bv_ne bx e).2.1 rfl).trans h.ptr
  have hvg : ∀ b, v'.ownBlock = some b → b ≠ g := fun b hb => by obtain ⟨cs, hc⟩ := own_cells k1 hb; exact ty_ne hc hb1 (by decide)
  refine ⟨⟨(setCell_heap hb1 _).trans rfl, (hk2.block bx (Array.getElem?_eq_some_iff.1 hp1).1 h.bx_ne).trans hp1, ?_, ?_, ?_, ?_, ?_⟩, ?_, ?_, frozen_row hb1 8, ?_⟩
  · exact ownsRow_kept (ownsRow_kept h.line hk fun b hb e => (h.bv_ne b e).2.2.1 hb) hk2 fun b hb => (h.lv_ne b hb).1
  · exact (h.first.kept hk fun b hb e => (h.bv_ne b e).2.2.2.1 hb).kept hk2 fun b hb => (h.fv_ne b hb).1
  · exact ownsRow_kept (ownsRow_kept h.hs hk fun b hb e => (h.bv_ne b e).2.2.2.2 hb) hk2 fun b hb => (h.hv_ne b hb).1
  · unfold OwnB
    rw [Lib.byteCells_append, List.length_append]
    exact ownsRow_kept k1 hk2 hvg
  · rcases h.one with h | ⟨e, _⟩
    · exact .inl h
    · omega
  · exact (hk.mono fun _ _ h => h.2).tr (hk2.mono fun _ _ h => h.1)
  · rw [cell_of_row w1 g _ _ _ (0, 0) hb1]; rfl
  · rw [cell_of_row w1 bx _ _ _ (0, 0) hp1]; rfl
end
theorem cut_len (s sep : List UInt8) : (Lib.cut s sep).1.length ≤ s.length ∧ (Lib.cut s sep).2.1.length ≤ s.length := by
  unfold Lib.cut
  split
  · simp only [List.length_take, List.length_drop]; omega
  · simp
theorem dropW_len (p : UInt8 → Bool) (l : List UInt8) : (l.dropWhile p).length ≤ l.length := (List.dropWhile_sublist p).length_le
theorem trimP_len (v : List UInt8) : (trimP v).length ≤ v.length := by
  unfold trimP Lib.trimB Lib.trimLeftB Lib.trimRightB
  have h1 := dropW_len (· == 32) v.reverse
  have h2 := dropW_len (· == 32) (v.reverse.dropWhile (· == 32)).reverse
  rw [List.length_reverse] at h1 h2
  omega
/-- .. it may have a further header. -/
def HeadQ (g bx : Nat) (lv fv hv bv : Value) (x : R × Int) (w : World) (e : Ending) (w' : World) : Prop := e = .returned (.int .i64 x.2) ∧ ∃ hv', RdC g bx lv fv hv' bv x.1 w' ∧ (∀ b, hv'.ownBlock = some b → hv.ownBlock = some b ∨ w.heap.size ≤ b) ∧ Kept (fun b => b ≠ g ∧ hv.ownBlock ≠ some b) w w'
set_option maxHeartbeats 8000000 in
set_option maxRecDepth 100000 in
theorem header_any (g bx : Nat) (lv fv hv bv : Value) (r : R) (s : List UInt8) (w : World) (B : Nat) (hE : WE B w) (h : RdC g bx lv fv hv bv r w) (hl : s.length ≤ 100000) (hh : r.hs.length ≤ 1000000) :
    Calls Tryz.prog 103 #[.pointer (some ⟨g, 0, none⟩), S s] w (HeadQ g bx lv fv hv bv (headerP r s) w) := by
  obtain ⟨mx, hmx⟩ := hE.max
  have CU := Lib.hid (Tryz.strings_Cut ⟨s.toArray⟩ ⟨#[58]⟩ mx w (by rw [size_mk]; omega) hmx)
  obtain ⟨hn, hv2⟩ := cut_len s [58]
  obtain ⟨n, hN⟩ : ∃ n, (Lib.cut s [58]).1 = n := ⟨_, rfl⟩
  obtain ⟨v, hV⟩ : ∃ v, (Lib.cut s [58]).2.1 = v := ⟨_, rfl⟩
  obtain ⟨ok, hO⟩ : ∃ ok, (Lib.cut s [58]).2.2 = ok := ⟨_, rfl⟩
  have CU2 : Hid (Calls Tryz.prog 118 #[S s, .string ⟨#[58]⟩] w fun e w' => e = .returned (.tuple #[S n, S v, .bool ok]) ∧ ∃ k, w' = w.drewN k) := Lib.hid (by rw [← hN, ← hV, ← hO]; exact CU.out)
  rw [hN] at hn
  rw [hV] at hv2
  have HP : Hid (headerP r s = if ok = true then (if isNameP n = false ∨ onlyP v 0 1000 printedP = false ∨ low n = codingN then (r, 51) else if low n = lengthN then toldP r (trimP v) else if r.hs.length = 32 then (r, 53) else ({ r with hs := r.hs ++ [(n, trimP v)] }, 0)) else (r, 51)) := Lib.hid (by
    unfold headerP cutP
    rw [hO, hN, hV]
    cases ok <;> rfl)
  have NM := Lib.hid (fun W => isName_any n W (by omega))
  have LW := Lib.hid (fun W => lower_any n W (by omega))
  have OV := Lib.hid (fun W => only_any v 0 1000 _ printedP W printed_may (by omega) (by omega) (by omega))
  have TR : Hid (∀ W, Calls Tryz.prog 119 #[S v, .string ⟨#[32]⟩] W fun e w' => e = .returned (S (trimP v)) ∧ (w' = W ∨ w' = W.drew)) := Lib.hid fun W => Tryz.strings_Trim_one ⟨v.toArray⟩ 32 (by decide) W (by rw [size_mk]; omega)
  have htl : (trimP v).length ≤ 100000 := by have := trimP_len v; omega
  obtain ⟨a, ha⟩ : ∃ a, isNameP n = a := ⟨_, rfl⟩
  obtain ⟨b, hb⟩ : ∃ b, onlyP v 0 1000 printedP = b := ⟨_, rfl⟩
  obtain ⟨l, hL⟩ : ∃ l, low n = l := ⟨_, rfl⟩
  obtain ⟨t, ht⟩ : ∃ t, trimP v = t := ⟨_, rfl⟩
  rw [ha, hb, hL, ht] at HP
  rw [ha] at NM
  rw [hb] at OV
  rw [hL] at LW
  rw [ht] at TR htl
  have HC := Lib.hid h
  clear CU hN hV hO ha hb hL ht h hE hmx
  have hdone : Hid (∀ w', Kept (fun _ => True) w w' → RdC g bx lv fv hv bv r w') := Lib.hid fun w' hk => HC.out.kept hk fun _ _ => trivial
  have HRET : Hid (∀ (z : Int) w', headerP r s = (r, z) → Kept (fun _ => True) w w' → HeadQ g bx lv fv hv bv (headerP r s) w (.returned (.int .i64 z)) w') := Lib.hid fun z w' he hk => by
    rw [he]
    exact ⟨rfl, hv, hdone.out w' hk, fun b hb => .inl hb, hk.mono fun _ _ _ => trivial⟩
  go_enter Tryz.func103, Tryz.ntmps103
  go_wp2_with fail
  refine CU2.out.mono ?_
  rintro e w1 ⟨rfl, k1, hw1⟩
  have hk1 : Kept (fun _ => True) w w1 := by rw [hw1]; exact (Kept.refl _ w).drewN _
  have HK1 := Lib.hid hk1
  clear hw1 hk1
  go_wp2_with fail
  refine (LW.out _).mono ?_
  rintro e w2 ⟨rfl, hk2⟩
  have HK2 := Lib.hid (HK1.out.tr hk2)
  clear hk2
  cases ok with
  | false =>
    have HR := Lib.hid (HRET.out 51 w2 (by rw [HP.out]; rfl) HK2.out)
    go_wp2
    go_ret
    exact HR.out
  | true =>
    go_wp2_with fail
    refine (NM.out _).mono ?_
    rintro e w3 ⟨rfl, hk3⟩
    have HK3 := Lib.hid (HK2.out.tr hk3)
    clear hk3
    cases a with
    | false =>
      have HR := Lib.hid (HRET.out 51 w3 (by rw [HP.out]; rfl) HK3.out)
      go_wp2
      go_ret
      exact HR.out
    | true =>
      go_wp2_with fail
      refine (OV.out _).mono ?_
      rintro e w4 ⟨rfl, hk4⟩
      have HK4 := Lib.hid (HK3.out.tr hk4)
      clear hk4
      cases b with
      | false =>
        have HR := Lib.hid (HRET.out 51 w4 (by rw [HP.out]; rfl) HK4.out)
        go_wp2
        go_ret
        exact HR.out
      | true =>
        by_cases hc : l = codingN
        · have HR := Lib.hid (HRET.out 51 w4 (by rw [HP.out, if_pos trivial, if_pos (.inr (.inr hc))]) HK4.out)
          have q1 : (l == [116, 114, 97, 110, 115, 102, 101, 114, 45, 101, 110, 99, 111, 100, 105, 110, 103]) = true := by rw [hc]; rfl
          clear hc
          go_wp2
          go_ret
          exact HR.out
        · have q1 : (l == [116, 114, 97, 110, 115, 102, 101, 114, 45, 101, 110, 99, 111, 100, 105, 110, 103]) = false := beq_eq_false_iff_ne.2 hc
          have HP2 : Hid (headerP r s = if l = lengthN then toldP r t else if r.hs.length = 32 then (r, 53) else ({ r with hs := r.hs ++ [(n, t)] }, 0)) := Lib.hid (by rw [HP.out, if_pos trivial, if_neg (by rintro (h | h | h); cases h; cases h; exact hc h)])
          clear hc HP
          go_wp2_with fail
          refine (TR.out _).mono ?_
          rintro e w5 ⟨rfl, hw5⟩
          have hk5 : Kept (fun _ => True) w4 w5 := by
            rcases hw5 with rfl | rfl
            · exact Kept.refl _ _
            · exact (Kept.refl _ _).drew
          have HK5 := Lib.hid (HK4.out.tr hk5)
          have HC5 := Lib.hid (hdone.out w5 HK5.out)
          clear hw5 hk5
          by_cases hq : l = lengthN
          · have q2 : (l == [99, 111, 110, 116, 101, 110, 116, 45, 108, 101, 110, 103, 116, 104]) = true := by rw [hq]; rfl
            have HP3 : Hid (headerP r s = toldP r t) := Lib.hid (by rw [HP2.out, if_pos hq])
            have TD := Lib.hid (told_any g bx lv fv hv bv r t w5 HC5.out (by unfold Sml; omega))
            clear hq
            go_wp2_with fail
            refine TD.out.mono ?_
            rintro e w6 ⟨rfl, h6, hk6⟩
            have HZ : Hid (HeadQ g bx lv fv hv bv (headerP r s) w (.returned (.int .i64 (toldP r t).2)) w6) := Lib.hid (by
              rw [HP3.out]
              exact ⟨rfl, hv, h6, fun b hb => .inl hb, (HK5.out.mono fun _ _ _ => trivial).tr (hk6.mono fun _ _ h => h.1)⟩)
            clear h6 hk6
            go_wp2
            go_ret
            exact HZ.out
          · have q2 : (l == [99, 111, 110, 116, 101, 110, 116, 45, 108, 101, 110, 103, 116, 104]) = false := beq_eq_false_iff_ne.2 hq
            have HP3 : Hid (headerP r s = if r.hs.length = 32 then (r, 53) else ({ r with hs := r.hs ++ [(n, t)] }, 0)) := Lib.hid (by rw [HP2.out, if_neg hq])
            clear hq HP2
            obtain ⟨ha1, hc1, rfl⟩ : ∃ a c, hv = .slice a r.hs.length c := by
              rcases HC5.out.hs.2 with ⟨e1, e2⟩ | ⟨g', cap, cur, e1, _⟩
              · exact ⟨none, 0, by rw [e1, e2]⟩
              · exact ⟨_, _, e1⟩
            obtain ⟨-, -, -, -, -, -, c6, -, -, -, -⟩ := HC5.out.facts
            by_cases h32 : r.hs.length = 32
            · have HR := Lib.hid (HRET.out 53 w5 (by rw [HP3.out, if_pos h32]) HK5.out)
              have q3 : ((r.hs.length : Int) == 32) = true := by rw [beq_iff_eq]; omega
              clear h32
              go_wp2
              go_ret
              exact HR.out
            · have q3 : ((r.hs.length : Int) == 32) = false := by rw [beq_eq_false_iff_ne]; omega
              have HP4 : Hid (headerP r s = ({ r with hs := r.hs ++ [(n, t)] }, 0)) := Lib.hid (by rw [HP3.out, if_neg h32])
              clear h32 HP3
              go_wp2_with (at_builtin; refine wpList_pushOne' 48 61 Tryz.underlying48 infoField rfl (by decide) rfl _ _ rfl 0 (.slice ha1 r.hs.length hc1) r.hs.length (fieldCells r.hs) [S n, S t] w5 _ rfl rfl rfl (by intro u hu; simp at hu; rcases hu with rfl | rfl <;> rfl) 1 _ rfl rfl rfl HC5.out.hs (by omega) (by decide) (Nat.zero_le _) ?_; intro v' w6 k1 k2 k3; obtain ⟨hr6, hk6, x6, x7⟩ := HC5.out.addHs (n, t) k1 k2 k3; have HZ : Hid (HeadQ g bx lv fv (.slice ha1 r.hs.length hc1) bv (headerP r s) w (.returned (.int .i64 0)) (w6.setCell ⟨g, 6, none⟩ v')) := (Lib.hid (by rw [HP4.out]; exact ⟨rfl, v', hr6, fun b hb => (k3.where b hb).imp id fun h => Nat.le_trans HK5.out.size h, (HK5.out.mono fun _ _ _ => trivial).tr hk6⟩)); obtain ⟨va, vc, rfl⟩ : ∃ a c, v' = .slice a (r.hs.length + 1) c := (by rcases k1.2 with ⟨_, e2⟩ | ⟨g', cap, cur, e1, _⟩; (omega); (exact ⟨_, _, e1⟩)); clear k1 k2 k3 hr6 hk6)
              go_ret
              exact HZ.out
end Go.Proofs.YtaomhkgdbobpkaaGreatDoor
