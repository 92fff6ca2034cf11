/- Walks of query's One and Print, and of the reference's (layer 3): they compute oneP and printP. -/
import Derived.Test.YtldhfbdljogieaaDoorQuW8
import Derived.Deep.RegionHeld3
namespace Go.Proofs.YtldhfbdljogieaaDoor
open Go.RowKit
open Qu

/-- The slice value v reads as the fields l. -/
def FldIn (w : World) (v : Value) (l : List Fld) : Prop := (∃ a, v = .slice a 0 0 ∧ l = []) ∨ ∃ b o cap, v = .slice (some ⟨b, o, none⟩) l.length cap ∧ l.length ≤ cap ∧ b < w.heap.size ∧
  ∀ (j : Nat) f, l[j]? = some f → w.cell? ⟨b, o + j * 2, none⟩ = some (S f.1) ∧ w.cell? ⟨b, o + j * 2 + 1, none⟩ = some (S f.2)
theorem FldIn.below {w w' : World} {v : Value} {l : List Fld} (h : FldIn w v l) (hb : Below w.heap.size w w') : FldIn w' v l := by
  rcases h with h | ⟨b, o, cap, rfl, h1, h2, h3⟩
  · exact .inl h
  · exact .inr ⟨b, o, cap, rfl, h1, by have := hb.size; omega, fun j f hf => ⟨((bcell hb).1 _ _ h2).trans (h3 j f hf).1, ((bcell hb).1 _ _ h2).trans (h3 j f hf).2⟩⟩

def natOf : Value → Nat | .int _ n => n.toNat | _ => 0
theorem ret_one {R : List UInt8 × Int} {l : List UInt8} {e : Int} (h : R = (l, e)) : Ending.returned (.tuple #[S l, .int .i64 e]) = Ending.returned (.tuple #[S R.1, .int .i64 R.2]) := by rw [h]

set_option maxHeartbeats 4000000 in
set_option maxRecDepth 100000 in
theorem One_any (v : Value) (l : List Fld) (name : List UInt8) (w : World) (hv : FldIn w v l) (hl : l.length ≤ 68719476736) :
    Calls Tryd.prog 21 #[v, S name] w fun e w' => e = .returned (.tuple #[S (oneP l name).1, .int .i64 (oneP l name).2]) ∧ Below w.heap.size w w' := by
  have HOne : Hid (oneP l name = if (oneGo l name).2 = 0 then ([], 33) else if (oneGo l name).2 = 1 then ((oneGo l name).1, 0) else ([], 34)) := Lib.hid rfl
  obtain ⟨R, hR⟩ : ∃ R, oneP l name = R := ⟨_, rfl⟩
  rw [hR] at HOne ⊢
  clear hR
  rcases hv with ⟨a, rfl, rfl⟩ | ⟨b, o, cap, rfl, h1, h2, h3⟩
  · have hN : Hid (R = ([], 33)) := Lib.hid (by rw [HOne.out]; rfl)
    go_enter Tryd.func21, Tryd.ntmps21
    go_wp2
    go_loopw [6, 7, 12] (fun x y i wr => x = S [] ∧ y = .int .i64 0 ∧ i = .int .i64 0 ∧ Below w.heap.size w wr) (fun _ _ _ _ => 0)
    case atStart => exact ⟨rfl, rfl, rfl, Below.refl _ _⟩
    case round =>
      obtain ⟨rfl, rfl, rfl, hbw⟩ := hrel
      go_wp2
      go_ret2
      exact ⟨ret_one hN.out, hbw⟩
  · have H3 := Lib.hid h3
    clear h3
    go_enter Tryd.func21, Tryd.ntmps21
    go_wp2
    go_loopw [6, 7, 12] (fun x y i wr => ∃ k : Nat, k ≤ l.length ∧ x = S (oneGo (l.take k) name).1 ∧ y = .int .i64 (oneGo (l.take k) name).2 ∧ i = .int .i64 k ∧ Below w.heap.size w wr) (fun _ _ i _ => l.length - (intOf i).toNat)
    case atStart => exact ⟨0, Nat.zero_le _, rfl, rfl, rfl, Below.refl _ _⟩
    case round =>
      obtain ⟨k, hk, rfl, rfl, rfl, hbw⟩ := hrel
      have hle := oneGo_le (l.take k) name
      have hle2 : (l.take k).length ≤ k := List.length_take_le _ _
      by_cases hlt : k < l.length
      · obtain ⟨f, hf⟩ : ∃ f, l[k]? = some f := ⟨l[k]'hlt, List.getElem?_eq_getElem hlt⟩
        have HS : Hid (oneGo (l.take (k + 1)) name = oneStep name (oneGo (l.take k) name) f) := Lib.hid (by
          rw [List.take_succ_eq_append_getElem hlt, oneGo_snoc]
          rw [List.getElem?_eq_getElem hlt] at hf
          rw [Option.some.inj hf])
        obtain ⟨c0, c1⟩ := H3.out k f hf
        have d0 : wr.cell? ⟨b, o + k * 2, none⟩ = some (S f.1) := ((bcell hbw).1 _ _ h2).trans c0
        have d1 : wr.cell? ⟨b, o + k * 2 + 1, none⟩ = some (S f.2) := ((bcell hbw).1 _ _ h2).trans c1
        clear c0 c1 hf
        obtain ⟨st, hst⟩ : ∃ st, oneGo (l.take k) name = st := ⟨_, rfl⟩
        rw [hst] at HS hle ⊢
        clear hst
        by_cases hfn : f.1 = name
        · have HS2 : Hid (oneGo (l.take (k + 1)) name = (f.2, st.2 + 1)) := Lib.hid (by rw [HS.out, oneStep, if_pos hfn])
          go_wp2
          go_roundw
          case rel => exact ⟨k + 1, by omega, by rw [HS2.out], by rw [HS2.out]; go_num, by go_num, by repeat (first | exact hbw | refine Below.alloc ?_ (by have := hbw.size; simp; omega) _ | refine Below.setCell ?_ (by have := hbw.size; simp; omega) _)⟩
          case measure => simp [intOf]; omega
        · have HS2 : Hid (oneGo (l.take (k + 1)) name = st) := Lib.hid (by rw [HS.out, oneStep, if_neg hfn])
          have qn : (f.1 == name) = false := by simpa using hfn
          go_wp2
          go_roundw
          case rel => exact ⟨k + 1, by omega, by rw [HS2.out], by rw [HS2.out], by go_num, by repeat (first | exact hbw | refine Below.alloc ?_ (by have := hbw.size; simp; omega) _ | refine Below.setCell ?_ (by have := hbw.size; simp; omega) _)⟩
          case measure => simp [intOf]; omega
      · rw [List.take_of_length_le (by omega)] at *
        obtain ⟨st, hst⟩ : ∃ st, oneGo l name = st := ⟨_, rfl⟩
        rw [hst] at HOne hle ⊢
        clear hst
        by_cases h0 : st.2 = 0
        · have hN : Hid (R = ([], 33)) := Lib.hid (by rw [HOne.out, if_pos h0])
          have q0 : ((st.2 : Int) == 0) = true := by rw [h0]; rfl
          clear h0
          go_wp2
          go_ret2
          exact ⟨ret_one hN.out, hbw⟩
        · have q0 : ((st.2 : Int) == 0) = false := by simp; omega
          by_cases h1 : st.2 = 1
          · have hN : Hid (R = (st.1, 0)) := Lib.hid (by rw [HOne.out, if_neg h0, if_pos h1])
            have q1 : ((st.2 : Int) == 1) = true := by rw [h1]; rfl
            clear h0 h1
            go_wp2
            go_ret2
            exact ⟨ret_one hN.out, hbw⟩
          · have hN : Hid (R = ([], 34)) := Lib.hid (by rw [HOne.out, if_neg h0, if_neg h1])
            have q1 : ((st.2 : Int) == 1) = false := by simp; omega
            clear h0 h1
            go_wp2
            go_ret2
            exact ⟨ret_one hN.out, hbw⟩
end Go.Proofs.YtldhfbdljogieaaDoor
