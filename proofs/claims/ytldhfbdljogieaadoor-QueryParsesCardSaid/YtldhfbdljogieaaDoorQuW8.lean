/- Walk of query's Parse (layer 3): it computes parse. -/
import Derived.Test.YtldhfbdljogieaaDoorQuW7
namespace Go.Proofs.YtldhfbdljogieaaDoor
open Go.RowKit
open Qu

def fieldCells (l : List Fld) : List Value := l.flatMap fun f => [S f.1, S f.2]
theorem fieldCells_len (l : List Fld) : (fieldCells l).length = l.length * 2 := by
  induction l with
  | nil => rfl
  | cons f l ih => simp only [fieldCells, List.flatMap_cons, List.length_append, List.length_cons, List.length_nil] at ih ⊢; omega
theorem fieldCells_snoc (l : List Fld) (f : Fld) : fieldCells (l ++ [f]) = fieldCells l ++ [S f.1, S f.2] := by simp [fieldCells]
/-- The fields l stand in the slice value v, which the call itself has made (in a block from B on). -/
def OwnF (B : Nat) (v : Value) (l : List Fld) (w : World) : Prop := w.ownsRow B 44 2 v l.length (fieldCells l)
theorem infoField : (Tryd.prog.info? 44).map (fun i => (i.zero, i.size, i.bytes)) = some (some (.agg #[S [], S []]), 2, 32) := by kernel_rfl

theorem fieldP_at (p : List UInt8) : (fieldP p).2.2 ≤ p.length + 1 := by
  have h0 := tdw_le p
  have h1 := rd_at (tw p)
  have h2 := rd_at (dw p)
  unfold fieldP
  split
  · simp only; omega
  · split
    · simp only; omega
    · simp
theorem ret_parse {R : List Fld × Int × Nat} {l : List Fld} {v : Value} {e : Int} {n : Nat} (h : R = (l, e, n)) :
    Ending.returned (.tuple #[v, .int .i64 e, .int .i64 (n : Int)]) = Ending.returned (.tuple #[v, .int .i64 R.2.1, .int .i64 (R.2.2 : Int)]) := by rw [h]
theorem OwnF.nil (B : Nat) (w : World) : OwnF B (.slice none 0 0) [] w := World.ownsRow_nil _ _ _ _

set_option maxHeartbeats 4000000 in
set_option maxRecDepth 100000 in
theorem Parse_any (l : List UInt8) (w : World) (hl : l.length ≤ 68719476736) :
    Calls Tryd.prog 14 #[S l] w fun e w' => (∃ v, e = .returned (.tuple #[v, .int .i64 (parse l).2.1, .int .i64 ((parse l).2.2 : Int)]) ∧ OwnF w.heap.size v (parse l).1 w') ∧ Below w.heap.size w w' := by
  by_cases h0 : l = []
  · subst h0
    have hP : parse [] = ([], 0, 0) := rfl
    rw [hP]
    go_enter Tryd.func14, Tryd.ntmps14
    go_wp2
    go_ret3
    exact ⟨⟨_, rfl, OwnF.nil _ _⟩, Below.refl _ _⟩
  · have hP : parse l = parseGo [] 0 (pieces l) := by unfold parse; rw [if_neg h0]
    rw [hP]
    have hpn := pieces_ne l
    have hps := pieces_sum l
    have CS := Lib.hid (fun w => split_any l hl w)
    obtain ⟨ps, hps0⟩ : ∃ ps, pieces l = ps := ⟨_, rfl⟩
    have HPs0 := Lib.hid hps0
    rw [hps0] at hps hpn ⊢
    obtain ⟨R, HR0⟩ : ∃ R, Hid (parseGo [] 0 ps = R) := ⟨_, Lib.hid rfl⟩
    rw [HR0.out]
    have hempty : l.isEmpty = false := by cases l with | nil => exact absurd rfl h0 | cons _ _ => rfl
    have HPS := Lib.hid hps
    clear hP h0 hps0 hps
    go_enter Tryd.func14, Tryd.ntmps14
    go_wp2_with fail
    refine (CS.out _).mono ?_
    rintro e w1 hpieced
    unfold Pieced at hpieced
    rw [HPs0.out] at hpieced
    obtain ⟨rfl, hb01, hz1, hcells⟩ := hpieced
    have HZ1 := Lib.hid hz1
    have HCells := Lib.hid hcells
    have hpl : ps.length ≤ l.length + 1 := by
      have h := HPS.out
      have : ∀ q : List (List UInt8), q.length ≤ psum q := by
        intro q
        induction q with
        | nil => simp
        | cons a r ih => rw [psum_cons, List.length_cons]; omega
      have := this ps
      omega
    clear hz1 hcells
    go_wp2
    go_loopw [5, 6, 17] (fun v fr i wr => ∃ (acc : List Fld) (a : Nat), i = .int .i64 acc.length ∧ acc.length ≤ ps.length ∧ fr = .int .i64 a ∧ OwnF (w.heap.size + 1) v acc wr ∧ Hid (parseGo acc a (ps.drop acc.length) = R) ∧ a + psum (ps.drop acc.length) ≤ l.length + 1 ∧ Below (w.heap.size + 1) w1 wr) (fun _ _ i _ => ps.length - (intOf i).toNat)
    case atStart => exact ⟨[], 0, rfl, Nat.zero_le _, rfl, OwnF.nil _ _, HR0, by rw [List.length_nil, List.drop_zero, HPS.out]; omega, Below.refl _ _⟩
    case round =>
      obtain ⟨acc, a, rfl, hk, rfl, hown, HR, hsum, hbw⟩ := hrel
      have hbw0 : Below w.heap.size w wr := hb01.trans (hbw.mono (by omega))
      have hz : w.heap.size + 1 ≤ wr.heap.size := by have := hbw.size; have := HZ1.out; omega
      by_cases hlt : acc.length < ps.length
      · obtain ⟨p, hp⟩ : ∃ p, ps[acc.length]? = some p := ⟨ps[acc.length]'hlt, List.getElem?_eq_getElem hlt⟩
        have hcell : wr.cell? ⟨w.heap.size, acc.length, none⟩ = some (S p) := ((bcell hbw).1 _ _ (by omega)).trans (HCells.out _ _ hp)
        have hdrop : ps.drop acc.length = p :: ps.drop (acc.length + 1) := by
          rw [List.drop_eq_getElem_cons hlt]
          congr 1
          rw [List.getElem?_eq_getElem hlt] at hp
          exact Option.some.inj hp
        rw [hdrop, psum_cons] at hsum
        have HD := Lib.hid hdrop
        clear hp hdrop
        by_cases h32 : acc.length = 32
        · have hN : Hid (R = ([], 32, a)) := Lib.hid (by rw [← HR.out, HD.out, parseGo_many _ _ _ _ h32])
          have q32 : ((acc.length : Int) == 32) = true := by rw [h32]; rfl
          clear h32
          go_wp2
          go_ret3
          exact ⟨⟨_, ret_parse hN.out, by rw [hN.out]; exact OwnF.nil _ _⟩, hbw0⟩
        · have q32 : ((acc.length : Int) == 32) = false := by simp; omega
          by_cases hpe : p = []
          · subst hpe
            have hN : Hid (R = ([], 31, a)) := Lib.hid (by rw [← HR.out, HD.out, parseGo_empty _ _ _ h32])
            clear h32
            go_wp2
            go_ret3
            exact ⟨⟨_, ret_parse hN.out, by rw [hN.out]; exact OwnF.nil _ _⟩, hbw0⟩
          · have qp : p.isEmpty = false := by cases p with | nil => exact absurd rfl hpe | cons _ _ => rfl
            have CF := field_any p wr (by omega)
            have hat := fieldP_at p
            have hsz : (⟨p.toArray⟩ : ByteArray).size = p.length := size_mk p
            have HN1 := fun h => parseGo_bad acc a p (ps.drop (acc.length + 1)) h32 hpe h
            have HN2 := fun h => parseGo_ok acc a p (ps.drop (acc.length + 1)) h32 hpe h
            rw [← HD.out, HR.out] at HN1 HN2
            obtain ⟨F, hF⟩ : ∃ F, fieldP p = F := ⟨_, rfl⟩
            rw [hF] at CF hat HN1 HN2
            have HCF := Lib.hid CF
            have HSz := Lib.hid hsz
            clear h32 hpe hF CF hsz
            by_cases he : F.2.1 ≠ 0
            · have hN := Lib.hid (HN1 he)
              have qe : (F.2.1 != 0) = true := by simpa using he
              clear HN1 HN2 he
              go_wp2_with fail
              refine HCF.out.mono ?_
              rintro e w2 ⟨rfl, hb2⟩
              go_wp2
              go_ret3
              refine ⟨⟨_, ?_, by rw [hN.out]; exact OwnF.nil _ _⟩, ((hbw0.trans (hb2.mono (by omega))).alloc (by have := hb2.size; omega) _)⟩
              exact ret_parse hN.out
            · have hN := Lib.hid (HN2 he)
              have qe : (F.2.1 != 0) = false := by simpa using he
              clear HN1 HN2 he
              go_wp2_with fail
              refine HCF.out.mono ?_
              rintro e w2 ⟨rfl, hb2⟩
              have hown2 : OwnF (w.heap.size + 1) _ acc w2 := ownsRow_below hown hb2
              have hz2 : wr.heap.size ≤ w2.heap.size := hb2.size
              have hal : acc.length + 1 ≤ 4398046511104 := by omega
              go_wp2_with (at_builtin; refine wpList_pushRow 31 44 Tryd.underlying31 infoField rfl (by decide) rfl _ _ rfl (w.heap.size + 1) _ acc.length (fieldCells acc) [S F.1.1, S F.1.2] 1 (w2.alloc (.cells #[S F.1.1, S F.1.2] 44)) _ rfl rfl rfl (by intro u hu; simp at hu; rcases hu with rfl | rfl <;> rfl) 1 _ (by simp) rfl rfl (World.ownsRow.alloc hown2 _) hal (by decide) (by simp; omega) ?_)
              intro v' w' g1 g2 g3
              go_wp2
              go_roundw
              case rel =>
                refine ⟨acc ++ [F.1], a + p.length + 1, by simp, by simp; omega, ?_, ?_, ?_, ?_, ?_⟩
                · go_num
                · unfold OwnF
                  rw [fieldCells_snoc, List.length_append]
                  exact g1
                · exact Lib.hid (by rw [List.length_append]; exact hN.out.symm)
                · have e1 : (acc ++ [F.1]).length = acc.length + 1 := by simp
                  rw [e1]; omega
                · exact ((hbw.trans (hb2.mono (by omega))).alloc (by omega) _).trans g2
              case measure => simp [intOf]; omega
      · have hN : Hid (R = (acc, 0, 0)) := Lib.hid (by rw [← HR.out, List.drop_of_length_le (by omega)]; rfl)
        go_wp2
        go_ret3
        exact ⟨⟨_, ret_parse hN.out, by rw [hN.out]; exact ownsRow_base hown (by omega)⟩, hbw0⟩
end Go.Proofs.YtldhfbdljogieaaDoor
