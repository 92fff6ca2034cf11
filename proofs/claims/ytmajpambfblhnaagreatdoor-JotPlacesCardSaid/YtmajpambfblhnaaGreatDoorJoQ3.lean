/- Walk of jot's lays (layer 4). -/
import Derived.Test.YtmajpambfblhnaaGreatDoorJoQ1
import Derived.Test.YtmajpambfblhnaaGreatDoorJoQ2
import Derived.Test.YtmajpambfblhnaaGreatDoorShelf
import Derived.Test.YtmajpambfblhnaaGreatDoorShelf3
namespace Go.Proofs.YtmajpambfblhnaaGreatDoor
open Go.RowKit Jo Go.Sort Go.Shelf

/-- What the library's own variables hold, in blocks below B. -/
structure JE (B : Nat) (w : World) : Prop where
  u8 : Lib.Utf8Tabs 0 1 w
  pow : Lib.TabIs Tryz.prog w "internal/strconv.uint64pow10" .u64 Lib.pow10Tab
  h1 : 0 < B
  h2 : 1 < B
  h3 : 3 < B
theorem pow_named : Tryz.prog.globalNamed "internal/strconv.uint64pow10" = some 3 := by kernel_rfl
theorem JE.kept {B : Nat} {ok : Nat → Prop} {w w' : World} (h : JE B w) (hk : Kept ok w w') (ho : ∀ k, k < B → ok k) : JE B w' := by
  obtain ⟨⟨u1, u2⟩, p, h1, h2, h3⟩ := h
  refine ⟨⟨fun c hc => (hk.cell (cell_isLt (u1 c hc)) (ho _ h1)).trans (u1 c hc), fun i hi => ⟨(hk.cell (cell_isLt (u2 i hi).1) (ho _ h2)).trans (u2 i hi).1, (hk.cell (cell_isLt (u2 i hi).2) (ho _ h2)).trans (u2 i hi).2⟩⟩, ?_, h1, h2, h3⟩
  unfold Lib.TabIs World.var? at p ⊢
  rw [pow_named] at p ⊢
  simp only [Option.bind_some] at p ⊢
  have hlt : 3 < w.heap.size := by
    rcases Nat.lt_or_ge 3 w.heap.size with h' | h'
    · exact h'
    · rw [Array.getElem?_eq_none h'] at p; cases p
  rw [hk.block _ hlt (ho _ h3)]
  exact p
theorem JE.le {B C : Nat} {w : World} (h : JE B w) (hC : B ≤ C) : JE C w := ⟨h.u8, h.pow, Nat.lt_of_lt_of_le h.h1 hC, Nat.lt_of_lt_of_le h.h2 hC, Nat.lt_of_lt_of_le h.h3 hC⟩

theorem as_null (v : Value) (w : World) : (Instr.typeAssert (.iface 81 v) 57 81 true).run Tryz.prog w = .ok (.tuple #[v, .bool true]) w := by kernel_rfl
theorem as_truth (v : Value) (w : World) : (Instr.typeAssert (.iface 83 v) 57 83 true).run Tryz.prog w = .ok (.tuple #[v, .bool true]) w := by kernel_rfl
theorem as_number (v : Value) (w : World) : (Instr.typeAssert (.iface 84 v) 57 84 true).run Tryz.prog w = .ok (.tuple #[v, .bool true]) w := by kernel_rfl
theorem as_text (v : Value) (w : World) : (Instr.typeAssert (.iface 85 v) 57 85 true).run Tryz.prog w = .ok (.tuple #[v, .bool true]) w := by kernel_rfl
theorem no_null {t : TypeId} (ht : t = 83 ∨ t = 84 ∨ t = 85 ∨ t = 89 ∨ t = 91) (v : Value) (w : World) : (Instr.typeAssert (.iface t v) 57 81 true).run Tryz.prog w = .ok (.tuple #[.agg #[], .bool false]) w := by
  rcases ht with rfl | rfl | rfl | rfl | rfl <;> kernel_rfl
theorem no_truth {t : TypeId} (ht : t = 81 ∨ t = 84 ∨ t = 85 ∨ t = 89 ∨ t = 91) (v : Value) (w : World) : (Instr.typeAssert (.iface t v) 57 83 true).run Tryz.prog w = .ok (.tuple #[.bool false, .bool false]) w := by
  rcases ht with rfl | rfl | rfl | rfl | rfl <;> kernel_rfl
theorem no_number {t : TypeId} (ht : t = 81 ∨ t = 83 ∨ t = 85 ∨ t = 89 ∨ t = 91) (v : Value) (w : World) : (Instr.typeAssert (.iface t v) 57 84 true).run Tryz.prog w = .ok (.tuple #[.int .i64 0, .bool false]) w := by
  rcases ht with rfl | rfl | rfl | rfl | rfl <;> kernel_rfl
theorem no_text {t : TypeId} (ht : t = 81 ∨ t = 83 ∨ t = 84 ∨ t = 89 ∨ t = 91) (v : Value) (w : World) : (Instr.typeAssert (.iface t v) 57 85 true).run Tryz.prog w = .ok (.tuple #[S [], .bool false]) w := by
  rcases ht with rfl | rfl | rfl | rfl | rfl <;> kernel_rfl

/-- What lays leaves. -/
def LayQ (b : Nat) (l m : List UInt8) (w : World) (e : Ending) (w' : World) : Prop := e = .returned (.tuple #[]) ∧ Bd b (l ++ m) w' ∧ KB b w w'
def LaysC (b : Nat) (u : Value) (x : J) : Prop := ∀ (l : List UInt8) (w : World), Bd b l w → JE b w → VIn (· < b) w x u → l.length + (layP x).length ≤ 1099511627776 → Calls Tryz.prog 32 #[.pointer (some ⟨b, 0, none⟩), u] w (LayQ b l (layP x) w)

set_option maxHeartbeats 2000000 in
theorem lays_null (b : Nat) : LaysC b (.iface 81 (.agg #[])) J.null := by
  intro l w h hE hv hl
  rw [layP_null] at hl ⊢
  have ha := as_null (.agg #[])
  have HB := Lib.hid (h.alloc (.cells #[] 81))
  clear h hE hv
  go_enter Tryz.func32, Tryz.ntmps32
  go_wp2_with (refine (WriteString_any b [110, 117, 108, 108] l _ HB.out (by simpa using hl)).mono ?_; rintro e w2 ⟨⟨v, rfl⟩, hb2, hk2⟩)
  go_end0
  exact ⟨rfl, hb2, KB.trans ((Kept.refl _ _).alloc _) hk2⟩
set_option maxHeartbeats 2000000 in
theorem lays_truth (b : Nat) (q : Bool) (x : J) (hx : x = if q then J.tru else J.fls) : LaysC b (.iface 83 (.bool q)) x := by
  intro l w h hE hv hl
  have h0 := no_null (t := 83) (by simp) (.bool q)
  have ha := as_truth (.bool q)
  have HF : Hid (Lib.formatBool q = layP x) := Lib.hid (by subst hx; cases q <;> simp [layP_tru, layP_fls, Lib.formatBool] <;> decide +kernel)
  have HL := Lib.hid hl
  have HB := Lib.hid h
  clear h hE hv hx hl
  go_enter Tryz.func32, Tryz.ntmps32
  go_wp2_with (first
    | (go_at_call 54; refine (Tryz.strconv_FormatBool q _).mono ?_; rintro e w1 ⟨rfl, rfl⟩)
    | (refine (WriteString_any b (Lib.formatBool q) l _ HB.out (by rw [HF.out]; exact HL.out)).mono ?_; rintro e w2 ⟨⟨v, rfl⟩, hb2, hk2⟩))
  go_end0
  exact ⟨rfl, by rw [← HF.out]; exact hb2, hk2⟩
theorem Kept.growN {ok : Nat → Prop} (w : World) (k : Nat) (os : Array Obj) : Kept ok w (grow (w.drewN k) os) := ⟨rfl, rfl, rfl, by simp [grow], fun i hi _ => by simp only [grow, drewN_heap]; rw [Array.getElem?_append_left hi]⟩
set_option maxHeartbeats 2000000 in
theorem lays_number (b : Nat) (n : Int) (h1 : -9223372036854775808 ≤ n) (h2 : n ≤ 9223372036854775807) : LaysC b (.iface 84 (.int .i64 n)) (J.nr n) := by
  intro l w h hE hv hl
  rw [layP_nr] at hl ⊢
  have q0 := no_null (t := 84) (by simp) (.int .i64 n)
  have q1 := no_truth (t := 84) (by simp) (.int .i64 n)
  have ha := as_number (.int .i64 n)
  have HL := Lib.hid hl
  have HB := Lib.hid h
  have HE := Lib.hid hE
  have HN := Lib.hid (And.intro h1 h2)
  clear h hE hv hl h1 h2
  go_enter Tryz.func32, Tryz.ntmps32
  go_wp2_with (first
    | (go_at_call 55; refine (Tryz.strconv_Itoa n HN.out.1 HN.out.2 _ HE.out.pow).mono ?_; rintro e w1 ⟨rfl, k, os, hw1⟩; have HK1 : Hid (KB b w w1) := Lib.hid (by rw [hw1]; exact Kept.growN _ _ _); have HB1 : Hid (Bd b l w1) := Lib.hid (HB.out.kept HK1.out.size (by rw [hw1]; intro i hi _ _; exact (Kept.growN (ok := fun _ => True) w k os).block i hi trivial)); clear hw1)
    | (refine (WriteString_any b (Lib.itoa n) l _ HB1.out HL.out).mono ?_; rintro e w2 ⟨⟨v, rfl⟩, hb2, hk2⟩))
  go_end0
  exact ⟨rfl, hb2, KB.trans HK1.out hk2⟩
set_option maxHeartbeats 2000000 in
theorem lays_text (b : Nat) (t : List UInt8) : LaysC b (.iface 85 (S t)) (J.tx t) := by
  intro l w h hE hv hl
  rw [layP_tx] at hl ⊢
  have q0 := no_null (t := 85) (by simp) (S t)
  have q1 := no_truth (t := 85) (by simp) (S t)
  have q2 := no_number (t := 85) (by simp) (S t)
  have ha := as_text (S t)
  have HL := Lib.hid hl
  have HT : Hid (t.length ≤ 1099511627776) := Lib.hid (by have := quote_len t; unfold quoteP at hl; simp only [List.length_cons, List.length_append] at hl; omega)
  have HB := Lib.hid h
  clear h hE hv hl
  go_enter Tryz.func32, Tryz.ntmps32
  go_wp2_with (refine (quoted_any b t l _ HB.out HT.out HL.out).mono ?_; rintro e w2 ⟨rfl, hb2, hk2⟩)
  go_end0
  exact ⟨rfl, hb2, hk2⟩

theorem joinC_pre : ∀ (ls : List (List UInt8)) (m : Nat), (joinC (ls.take m)).length ≤ (joinC ls).length
  | [], m => by simp
  | [a], 0 => by simp [joinC]
  | [a], m + 1 => by simp
  | a :: b :: r, 0 => by simp [joinC]
  | a :: b :: r, 1 => by simp [joinC]
  | a :: b :: r, m + 2 => by
    have ih := joinC_pre (b :: r) (m + 1)
    rw [List.take_succ_cons, joinC_push _ _ (by simp), joinC_push _ _ (by simp)]
    omega
theorem joinC_next (ls : List (List UInt8)) (j : Nat) (a : List UInt8) (h : ls[j]? = some a) : joinC (ls.take (j + 1)) = joinC (ls.take j) ++ (if j = 0 then a else 44 :: a) := by
  rw [List.take_add_one, h]
  by_cases hj : j = 0
  · subst hj; simp [joinC]
  · rw [if_neg hj]
    have hlt := (List.getElem?_eq_some_iff.1 h).1
    exact joinC_snoc _ _ (fun e => by have := congrArg List.length e; rw [List.length_take, List.length_nil] at this; omega)

set_option maxHeartbeats 8000000 in
set_option maxRecDepth 100000 in
theorem lays_list (b : Nat) (xs : List J) (v : Value) (us : Nat → Value) (hj : ∀ (j : Nat) x, xs[j]? = some x → LaysC b (us j) x) (l : List UInt8) (w : World) (h : Bd b l w) (hE : JE b w) (hl0 : xs.length ≤ 1000000) (hr : Row1 (· < b) w v xs.length us)
    (hvi : ∀ (j : Nat) x, xs[j]? = some x → VIn (· < b) w x (us j)) (hl : l.length + (layP (J.list xs)).length ≤ 1099511627776) : Calls Tryz.prog 32 #[.pointer (some ⟨b, 0, none⟩), .iface 89 v] w (LayQ b l (layP (J.list xs)) w) := by
  rw [layP_list] at hl ⊢
  obtain ⟨ls, hls⟩ : ∃ ls, xs.map layP = ls := ⟨_, rfl⟩
  have HLS := Lib.hid hls
  rw [hls] at hl ⊢
  have HL : Hid (l.length + (joinC ls).length + 2 ≤ 1099511627776) := Lib.hid (by simp only [List.length_cons, List.length_append, List.length_nil] at hl; omega)
  have q0 := no_null (t := 89) (by simp) v
  have q1 := no_truth (t := 89) (by simp) v
  have q2 := no_number (t := 89) (by simp) v
  have q3 := no_text (t := 89) (by simp) v
  have ha := as_list v
  have HB := Lib.hid h
  have HE := Lib.hid hE
  have HJ := Lib.hid (And.intro hj hvi)
  have hlen : ls.length = xs.length := by rw [← hls, List.length_map]
  have HLEN := Lib.hid hlen
  clear h hE hl hls hj hvi hlen
  rcases hr with ⟨rfl, h0⟩ | ⟨g, cap, rfl, h1, h2, h3, h4⟩
  · obtain rfl : ls = [] := List.eq_nil_of_length_eq_zero (by rw [HLEN.out]; exact h0)
    rw [h0] at hl0
    clear HJ HLS HLEN
    go_enter Tryz.func32, Tryz.ntmps32
    go_wp2_with (refine (WriteByte_any b 91 l _ HB.out (by have := HL.out; simp only [joinC, List.length_nil] at this; omega)).mono ?_; rintro e w2 ⟨rfl, hb2, hk2⟩; have HB2 := Lib.hid hb2; have HK2 := Lib.hid hk2; clear hb2 hk2)
    go_loopg [47] 0 (fun q k wr => k = .int .i64 0 ∧ Hid (Bd b (l ++ [91]) wr) ∧ Hid (KB b w wr))
    case atStart => exact ⟨rfl, HB2, HK2⟩
    case round =>
      clear HB2 HK2
      obtain ⟨rfl, hb, hk⟩ := hrel
      go_wp2_with (refine (WriteByte_any b 93 (l ++ [91]) _ hb.out (by have := HL.out; simp only [joinC, List.length_nil, List.length_append, List.length_cons] at this ⊢; omega)).mono ?_; rintro e w2 ⟨rfl, hb2, hk2⟩)
      go_end0
      exact ⟨rfl, by simpa [joinC] using hb2, KB.trans hk.out hk2⟩
  · have H4 := Lib.hid h4
    have H3 := Lib.hid (And.intro h2 h3)
    clear h4 h2 h3
    go_enter Tryz.func32, Tryz.ntmps32
    go_wp2_with (refine (WriteByte_any b 91 l _ HB.out (by have := HL.out; omega)).mono ?_; rintro e w2 ⟨rfl, hb2, hk2⟩; have HB2 := Lib.hid hb2; have HK2 := Lib.hid hk2; clear hb2 hk2)
    go_loopg [47] xs.length (fun q k wr => ∃ j : Nat, k = .int .i64 j ∧ q = xs.length - j ∧ j ≤ xs.length ∧ Hid (Bd b (l ++ 91 :: joinC (ls.take j)) wr) ∧ Hid (KB b w wr))
    case atStart => exact ⟨0, rfl, by omega, Nat.zero_le _, Lib.hid (by simpa [joinC] using HB2.out), HK2⟩
    case round =>
      clear HB2 HK2
      obtain ⟨j, rfl, rfl, hjl, hb, hk⟩ := hrel
      by_cases hlt : j < xs.length
      · obtain ⟨x, hx⟩ : ∃ x, xs[j]? = some x := ⟨xs[j]'hlt, List.getElem?_eq_getElem hlt⟩
        have hc : wr.cell? ⟨g, j, none⟩ = some (us j) := (hk.out.cell H3.out.2 (.inl H3.out.1)).trans (H4.out j hlt)
        obtain ⟨t, a, hu⟩ := (HJ.out.2 j x hx).face
        have hcall := HJ.out.1 j x hx
        have hv := (HJ.out.2 j x hx).kept hk.out fun _ _ h => .inl h
        rw [hu] at hc hcall hv
        have HCALL := Lib.hid hcall
        have HV := Lib.hid hv
        have HN : Hid (joinC (ls.take (j + 1)) = joinC (ls.take j) ++ (if j = 0 then layP x else 44 :: layP x)) := Lib.hid (joinC_next ls j _ (by rw [← HLS.out, List.getElem?_map, hx]; rfl))
        have HP : Hid ((joinC (ls.take (j + 1))).length ≤ (joinC ls).length) := Lib.hid (joinC_pre ls (j + 1))
        have HEr := Lib.hid (HE.out.kept hk.out fun _ h => .inl h)
        clear hu hcall hx hv
        obtain ⟨m, hm⟩ : ∃ m, layP x = m := ⟨_, rfl⟩
        have HM := Lib.hid hm
        rw [hm] at HN
        clear hm
        by_cases hj0 : j = 0
        · have HN0 : Hid (joinC (ls.take (j + 1)) = joinC (ls.take j) ++ m) := Lib.hid (by rw [HN.out, if_pos hj0])
          have hjz : ¬ 0 < j := by omega
          obtain ⟨L, hL⟩ : ∃ L, l ++ 91 :: joinC (ls.take j) = L := ⟨_, rfl⟩
          have HLL : Hid (L.length + m.length ≤ 1099511627776) := Lib.hid (by rw [← hL]; have h1 := HL.out; have h2 := HP.out; rw [HN0.out] at h2; simp only [List.length_append, List.length_cons] at h1 h2 ⊢; omega)
          have HLN : Hid (l ++ 91 :: joinC (ls.take (j + 1)) = L ++ m) := Lib.hid (by rw [HN0.out, ← hL]; simp)
          rw [hL] at hb
          clear hL HN HN0 hj0
          go_wp2_with (go_at_call 32; refine (HCALL.out L _ hb.out HEr.out HV.out (by rw [HM.out]; exact HLL.out)).mono ?_; rintro e w3 ⟨rfl, hb3, hk3⟩; rw [HM.out] at hb3; have HB3 := Lib.hid hb3; have HK3 := Lib.hid hk3; clear hb3 hk3)
          go_roundg (xs.length - (j + 1))
          case rel => exact ⟨j + 1, by go_num, rfl, by omega, Lib.hid (by rw [HLN.out]; exact HB3.out), Lib.hid (KB.trans hk.out HK3.out)⟩
          case measure => omega
        · have HN0 : Hid (joinC (ls.take (j + 1)) = joinC (ls.take j) ++ 44 :: m) := Lib.hid (by rw [HN.out, if_neg hj0])
          have hjz : 0 < j := by omega
          obtain ⟨L, hL⟩ : ∃ L, l ++ 91 :: joinC (ls.take j) = L := ⟨_, rfl⟩
          have HLL : Hid (L.length + 1 + m.length ≤ 1099511627776) := Lib.hid (by rw [← hL]; have h1 := HL.out; have h2 := HP.out; rw [HN0.out] at h2; simp only [List.length_append, List.length_cons] at h1 h2 ⊢; omega)
          have HLN : Hid (l ++ 91 :: joinC (ls.take (j + 1)) = L ++ [44] ++ m) := Lib.hid (by rw [HN0.out, ← hL]; simp)
          rw [hL] at hb
          clear hL HN HN0 hj0
          go_wp2_with (first
            | (go_at_call 32; refine (HCALL.out (L ++ [44]) _ HB2.out (HEr.out.kept HK2.out fun _ h => .inl h) (HV.out.kept' HK2.out.size fun i hi h => HK2.out.block i hi (.inl h)) (by rw [HM.out]; have := HLL.out; simp only [List.length_append, List.length_cons, List.length_nil] at this ⊢; omega)).mono ?_; rintro e w3 ⟨rfl, hb3, hk3⟩; rw [HM.out] at hb3; have HB3 := Lib.hid hb3; have HK3 := Lib.hid hk3; clear hb3 hk3)
            | (go_at_call 57; refine (WriteByte_any b 44 L _ hb.out (by have := HLL.out; omega)).mono ?_; rintro e w2 ⟨rfl, hb2, hk2⟩; have HB2 := Lib.hid hb2; have HK2 := Lib.hid hk2; clear hb2 hk2))
          go_roundg (xs.length - (j + 1))
          case rel => exact ⟨j + 1, by go_num, rfl, by omega, Lib.hid (by rw [HLN.out]; exact HB3.out), Lib.hid (KB.trans (KB.trans hk.out HK2.out) HK3.out)⟩
          case measure => omega
      · obtain rfl : j = xs.length := by omega
        have HB2 := Lib.hid (show Bd b (l ++ 91 :: joinC ls) wr by have := hb.out; rwa [List.take_of_length_le (by rw [HLEN.out]; exact Nat.le_refl _)] at this)
        have HR : Hid ((l ++ 91 :: joinC ls).length + 1 ≤ 1099511627776) := Lib.hid (by have := HL.out; simp only [List.length_append, List.length_cons] at this ⊢; omega)
        clear hb
        go_wp2_with (refine (WriteByte_any b 93 _ _ HB2.out HR.out).mono ?_; rintro e w3 ⟨rfl, hb3, hk3⟩; have HB3 := Lib.hid hb3; have HK3 := Lib.hid hk3; clear hb3 hk3)
        go_end0
        exact ⟨rfl, by simpa using HB3.out, KB.trans hk.out HK3.out⟩
set_option maxHeartbeats 8000000 in
set_option maxRecDepth 100000 in
theorem lays_obj (b : Nat) (ms : List (List UInt8 × J)) (v : Value) (us : Nat → Value) (hj : ∀ (j : Nat) m, ms[j]? = some m → LaysC b (us j) m.2) (l : List UInt8) (w : World) (h : Bd b l w) (hE : JE b w) (hl0 : ms.length ≤ 1000000) (hr : Row2 (· < b) w v (ms.map (·.1)) us)
    (hvi : ∀ (j : Nat) m, ms[j]? = some m → VIn (· < b) w m.2 (us j)) (hl : l.length + (layP (J.obj ms)).length ≤ 1099511627776) : Calls Tryz.prog 32 #[.pointer (some ⟨b, 0, none⟩), .iface 91 v] w (LayQ b l (layP (J.obj ms)) w) := by
  rw [layP_obj] at hl ⊢
  obtain ⟨ls, hls⟩ : ∃ ls, ms.map memP = ls := ⟨_, rfl⟩
  have HLS := Lib.hid hls
  rw [hls] at hl ⊢
  have HL : Hid (l.length + (joinC ls).length + 2 ≤ 1099511627776) := Lib.hid (by simp only [List.length_cons, List.length_append, List.length_nil] at hl; omega)
  have q0 := no_null (t := 91) (by simp) v
  have q1 := no_truth (t := 91) (by simp) v
  have q2 := no_number (t := 91) (by simp) v
  have q3 := no_text (t := 91) (by simp) v
  have q4 := no_list (t := 91) (by simp) v
  have ha := as_object v
  have HB := Lib.hid h
  have HE := Lib.hid hE
  have HJ := Lib.hid (And.intro hj hvi)
  have hlen : ls.length = ms.length := by rw [← hls, List.length_map]
  have HLEN := Lib.hid hlen
  clear h hE hl hls hj hvi hlen
  rcases hr with ⟨rfl, h0⟩ | ⟨g, cap, rfl, h1, h2, h3, h4⟩
  · obtain rfl : ms = [] := by simpa using h0
    obtain rfl : ls = [] := List.eq_nil_of_length_eq_zero HLEN.out
    clear HJ HLS HLEN
    go_enter Tryz.func32, Tryz.ntmps32
    go_wp2_with (refine (WriteByte_any b 123 l _ HB.out (by have := HL.out; simp only [joinC, List.length_nil] at this; omega)).mono ?_; rintro e w2 ⟨rfl, hb2, hk2⟩; have HB2 := Lib.hid hb2; have HK2 := Lib.hid hk2; clear hb2 hk2)
    go_loopg [69] 0 (fun q k wr => k = .int .i64 0 ∧ Hid (Bd b (l ++ [123]) wr) ∧ Hid (KB b w wr))
    case atStart => exact ⟨rfl, HB2, HK2⟩
    case round =>
      clear HB2 HK2
      obtain ⟨rfl, hb, hk⟩ := hrel
      go_wp2_with (refine (WriteByte_any b 125 (l ++ [123]) _ hb.out (by have := HL.out; simp only [joinC, List.length_nil, List.length_append, List.length_cons] at this ⊢; omega)).mono ?_; rintro e w2 ⟨rfl, hb2, hk2⟩)
      go_end0
      exact ⟨rfl, by simpa [joinC] using hb2, KB.trans hk.out hk2⟩
  · rw [List.length_map] at h1 ha q0 q1 q2 q3 q4 ⊢
    have H4 := Lib.hid h4
    have H3 := Lib.hid (And.intro h2 h3)
    clear h4 h2 h3
    go_enter Tryz.func32, Tryz.ntmps32
    go_wp2_with (refine (WriteByte_any b 123 l _ HB.out (by have := HL.out; omega)).mono ?_; rintro e w2 ⟨rfl, hb2, hk2⟩; have HB2 := Lib.hid hb2; have HK2 := Lib.hid hk2; clear hb2 hk2)
    go_loopg [69] ms.length (fun q k wr => ∃ j : Nat, k = .int .i64 j ∧ q = ms.length - j ∧ j ≤ ms.length ∧ Hid (Bd b (l ++ 123 :: joinC (ls.take j)) wr) ∧ Hid (KB b w wr))
    case atStart => exact ⟨0, rfl, by omega, Nat.zero_le _, Lib.hid (by simpa [joinC] using HB2.out), HK2⟩
    case round =>
      clear HB2 HK2
      obtain ⟨j, rfl, rfl, hjl, hb, hk⟩ := hrel
      by_cases hlt : j < ms.length
      · obtain ⟨⟨n, x⟩, hx⟩ : ∃ x, ms[j]? = some x := ⟨ms[j]'hlt, List.getElem?_eq_getElem hlt⟩
        have hx' : (ms.map (·.1))[j]? = some n := by rw [List.getElem?_map, hx]; rfl
        have hc0 : wr.cell? ⟨g, j * 2, none⟩ = some (S n) := (hk.out.cell H3.out.2 (.inl H3.out.1)).trans (H4.out j n hx').1
        have hc : wr.cell? ⟨g, j * 2 + 1, none⟩ = some (us j) := (hk.out.cell H3.out.2 (.inl H3.out.1)).trans (H4.out j n hx').2
        obtain ⟨t, a, hu⟩ := (HJ.out.2 j _ hx).face
        have hcall := HJ.out.1 j _ hx
        have hv := (HJ.out.2 j _ hx).kept hk.out fun _ _ h => .inl h
        rw [hu] at hc hcall hv
        have HN : Hid (joinC (ls.take (j + 1)) = joinC (ls.take j) ++ (if j = 0 then memP (n, x) else 44 :: memP (n, x))) := Lib.hid (joinC_next ls j _ (by rw [← HLS.out, List.getElem?_map, hx]; rfl))
        have HP : Hid ((joinC (ls.take (j + 1))).length ≤ (joinC ls).length) := Lib.hid (joinC_pre ls (j + 1))
        obtain ⟨W, hW⟩ : ∃ W, wr.alloc (.cells #[S n, .iface t a] 93) = W := ⟨_, rfl⟩
        have hkW : KB b wr W := by rw [← hW]; exact (Kept.refl _ _).alloc _
        have hcW0 : W.cell? ⟨wr.heap.size, 0, none⟩ = some (S n) := by rw [← hW]; simp [go_sem]
        have hcW1 : W.cell? ⟨wr.heap.size, 1, none⟩ = some (.iface t a) := by rw [← hW]; simp [go_sem]
        have HMB : Hid (wr.heap.size < W.heap.size ∧ wr.heap.size ≠ b ∧ NotB W wr.heap.size) := Lib.hid (by
          refine ⟨by rw [← hW]; simp, by have := hb.out.lt; omega, fun c fz e => ?_⟩
          rw [← hW, heap_alloc_new] at e
          simp at e)
        have HEr := Lib.hid (HE.out.kept (KB.trans hk.out hkW) fun _ h => .inl h)
        have HCALL := Lib.hid hcall
        have HV := Lib.hid (hv.kept hkW fun _ _ h => .inl h)
        have HBW : Hid (Bd b (l ++ 123 :: joinC (ls.take j)) W) := Lib.hid (by rw [← hW]; exact hb.out.alloc _)
        have HKW := Lib.hid (KB.trans hk.out hkW)
        have HW := Lib.hid hW
        clear hu hcall hx hx' hv hkW hW
        have hmem : memP (n, x) = quoteP n ++ 58 :: layP x := rfl
        rw [hmem] at HN
        clear hmem
        obtain ⟨m, hm⟩ : ∃ m, layP x = m := ⟨_, rfl⟩
        have HM := Lib.hid hm
        rw [hm] at HN
        clear hm
        obtain ⟨k0, hk0⟩ : ∃ k0, (if j = 0 then ([] : List UInt8) else [44]) = k0 := ⟨_, rfl⟩
        have HN0 : Hid (joinC (ls.take (j + 1)) = joinC (ls.take j) ++ k0 ++ (quoteP n ++ 58 :: m)) := Lib.hid (by rw [HN.out, ← hk0]; split <;> simp)
        obtain ⟨L, hL⟩ : ∃ L, l ++ 123 :: joinC (ls.take j) = L := ⟨_, rfl⟩
        have HLL : Hid (L.length + k0.length + (quoteP n).length + 1 + m.length ≤ 1099511627776) := Lib.hid (by rw [← hL]; have h1 := HL.out; have h2 := HP.out; rw [HN0.out] at h2; simp only [List.length_append, List.length_cons] at h1 h2 ⊢; omega)
        have HLN : Hid (l ++ 123 :: joinC (ls.take (j + 1)) = L ++ k0 ++ quoteP n ++ [58] ++ m) := Lib.hid (by rw [HN0.out, ← hL]; simp)
        have HNL : Hid (n.length ≤ 1099511627776) := Lib.hid (by have h1 := HLL.out; have h2 := quote_len n; unfold quoteP at h1; simp only [List.length_cons, List.length_append] at h1; omega)
        rw [hL] at hb HBW
        clear hL HN HN0
        by_cases hj0 : j = 0
        · obtain rfl : k0 = [] := by rw [← hk0, if_pos hj0]
          have hjz : ¬ 0 < j := by omega
          clear hj0 hk0
          obtain ⟨k0, hk0⟩ : ∃ k0 : List UInt8, [] = k0 := ⟨_, rfl⟩
          have HLL : Hid (L.length + k0.length + (quoteP n).length + 1 + m.length ≤ 1099511627776) := Lib.hid (by rw [← hk0]; exact HLL.out)
          have HLN : Hid (l ++ 123 :: joinC (ls.take (j + 1)) = L ++ k0 ++ quoteP n ++ [58] ++ m) := Lib.hid (by rw [← hk0]; exact HLN.out)
          have HB2 : Hid (Bd b (L ++ k0) W) := Lib.hid (by rw [← hk0, List.append_nil]; exact HBW.out)
          have HK2 : Hid (KB b W W) := Lib.hid (KB.refl _ _)
          clear hk0
          go_wp2_with fail
          rw [HW.out]
          refine (quoted_any b n (L ++ k0) _ HB2.out HNL.out (by have := HLL.out; simp only [List.length_append] at this ⊢; omega)).mono ?_
          rintro e w3 ⟨rfl, hb3, hk3⟩
          have HB3 := Lib.hid hb3
          have HK3 := Lib.hid (KB.trans HK2.out hk3)
          clear hb3 hk3
          go_wp2_with fail
          refine (WriteByte_any b 58 (L ++ k0 ++ quoteP n) _ HB3.out (by have := HLL.out; simp only [List.length_append] at this ⊢; omega)).mono ?_
          rintro e w4 ⟨rfl, hb4, hk4⟩
          have HB4 := Lib.hid hb4
          have HK4 := Lib.hid (KB.trans HK3.out hk4)
          have hc4 : w4.cell? ⟨wr.heap.size, 1, none⟩ = some (.iface t a) := (HK4.out.cell HMB.out.1 (.inr HMB.out.2)).trans hcW1
          clear hb4 hk4
          go_wp2_with fail
          refine (HCALL.out (L ++ k0 ++ quoteP n ++ [58]) _ HB4.out (HEr.out.kept HK4.out fun _ h => .inl h) (HV.out.kept HK4.out fun _ _ h => .inl h) (by rw [HM.out]; have := HLL.out; simp only [List.length_append, List.length_cons, List.length_nil] at this ⊢; omega)).mono ?_
          rintro e w5 ⟨rfl, hb5, hk5⟩
          rw [HM.out] at hb5
          have HB5 := Lib.hid hb5
          have HK5 := Lib.hid hk5
          clear hb5 hk5
          go_wp2
          go_roundg (ms.length - (j + 1))
          case rel => exact ⟨j + 1, by go_num, rfl, by omega, Lib.hid (by rw [HLN.out]; exact HB5.out), Lib.hid (KB.trans (KB.trans HKW.out HK4.out) HK5.out)⟩
          case measure => omega
        · obtain rfl : k0 = [44] := by rw [← hk0, if_neg hj0]
          have hjz : 0 < j := by omega
          clear hj0 hk0
          obtain ⟨k0, hk0⟩ : ∃ k0 : List UInt8, [44] = k0 := ⟨_, rfl⟩
          have HLL : Hid (L.length + k0.length + (quoteP n).length + 1 + m.length ≤ 1099511627776) := Lib.hid (by rw [← hk0]; exact HLL.out)
          have HLN : Hid (l ++ 123 :: joinC (ls.take (j + 1)) = L ++ k0 ++ quoteP n ++ [58] ++ m) := Lib.hid (by rw [← hk0]; exact HLN.out)
          have HK44 := Lib.hid hk0
          clear hk0
          go_wp2_with fail
          rw [HW.out]
          refine (WriteByte_any b 44 L _ HBW.out (by have := HLL.out; rw [← HK44.out] at this; simp only [List.length_cons, List.length_nil] at this; omega)).mono ?_
          rintro e w2 ⟨rfl, hb2, hk2⟩
          have HB2 : Hid (Bd b (L ++ k0) w2) := Lib.hid (by rw [← HK44.out]; exact hb2)
          have HK2 := Lib.hid hk2
          have hc2 : w2.cell? ⟨wr.heap.size, 0, none⟩ = some (S n) := (HK2.out.cell HMB.out.1 (.inr HMB.out.2)).trans hcW0
          clear hb2 hk2
          go_wp2_with fail
          refine (quoted_any b n (L ++ k0) _ HB2.out HNL.out (by have := HLL.out; simp only [List.length_append] at this ⊢; omega)).mono ?_
          rintro e w3 ⟨rfl, hb3, hk3⟩
          have HB3 := Lib.hid hb3
          have HK3 := Lib.hid (KB.trans HK2.out hk3)
          clear hb3 hk3
          go_wp2_with fail
          refine (WriteByte_any b 58 (L ++ k0 ++ quoteP n) _ HB3.out (by have := HLL.out; simp only [List.length_append] at this ⊢; omega)).mono ?_
          rintro e w4 ⟨rfl, hb4, hk4⟩
          have HB4 := Lib.hid hb4
          have HK4 := Lib.hid (KB.trans HK3.out hk4)
          have hc4 : w4.cell? ⟨wr.heap.size, 1, none⟩ = some (.iface t a) := (HK4.out.cell HMB.out.1 (.inr HMB.out.2)).trans hcW1
          clear hb4 hk4
          go_wp2_with fail
          refine (HCALL.out (L ++ k0 ++ quoteP n ++ [58]) _ HB4.out (HEr.out.kept HK4.out fun _ h => .inl h) (HV.out.kept HK4.out fun _ _ h => .inl h) (by rw [HM.out]; have := HLL.out; simp only [List.length_append, List.length_cons, List.length_nil] at this ⊢; omega)).mono ?_
          rintro e w5 ⟨rfl, hb5, hk5⟩
          rw [HM.out] at hb5
          have HB5 := Lib.hid hb5
          have HK5 := Lib.hid hk5
          clear hb5 hk5
          go_wp2
          go_roundg (ms.length - (j + 1))
          case rel => exact ⟨j + 1, by go_num, rfl, by omega, Lib.hid (by rw [HLN.out]; exact HB5.out), Lib.hid (KB.trans (KB.trans HKW.out HK4.out) HK5.out)⟩
          case measure => omega
      · obtain rfl : j = ms.length := by omega
        have HB2 := Lib.hid (show Bd b (l ++ 123 :: joinC ls) wr by have := hb.out; rwa [List.take_of_length_le (by rw [HLEN.out]; exact Nat.le_refl _)] at this)
        have HR : Hid ((l ++ 123 :: joinC ls).length + 1 ≤ 1099511627776) := Lib.hid (by have := HL.out; simp only [List.length_append, List.length_cons] at this ⊢; omega)
        clear hb
        go_wp2_with (refine (WriteByte_any b 125 _ _ HB2.out HR.out).mono ?_; rintro e w3 ⟨rfl, hb3, hk3⟩; have HB3 := Lib.hid hb3; have HK3 := Lib.hid hk3; clear hb3 hk3)
        go_end0
        exact ⟨rfl, by simpa using HB3.out, KB.trans hk.out HK3.out⟩

theorem vin_null {ok : Nat → Prop} {w : World} {u : Value} (h : VIn ok w J.null u) : u = .iface 81 (.agg #[]) := by
  generalize hx : J.null = x at h
  cases h <;> simp_all [J.null, J.fls, J.tru, J.nr, J.tx, J.list, J.obj]
theorem vin_fls {ok : Nat → Prop} {w : World} {u : Value} (h : VIn ok w J.fls u) : u = .iface 83 (.bool false) := by
  generalize hx : J.fls = x at h
  cases h <;> simp_all [J.null, J.fls, J.tru, J.nr, J.tx, J.list, J.obj]
theorem vin_tru {ok : Nat → Prop} {w : World} {u : Value} (h : VIn ok w J.tru u) : u = .iface 83 (.bool true) := by
  generalize hx : J.tru = x at h
  cases h <;> simp_all [J.null, J.fls, J.tru, J.nr, J.tx, J.list, J.obj]
theorem vin_nr {ok : Nat → Prop} {w : World} {u : Value} {n : Int} (h : VIn ok w (J.nr n) u) : u = .iface 84 (.int .i64 n) := by
  generalize hx : J.nr n = x at h
  cases h <;> simp_all [J.null, J.fls, J.tru, J.nr, J.tx, J.list, J.obj]
theorem vin_tx {ok : Nat → Prop} {w : World} {u : Value} {t : List UInt8} (h : VIn ok w (J.tx t) u) : u = .iface 85 (S t) := by
  generalize hx : J.tx t = x at h
  cases h <;> simp_all [J.null, J.fls, J.tru, J.nr, J.tx, J.list, J.obj]
/-- A value such as may be is laid down as layP says. -/
theorem lays_any (b : Nat) {x : J} (hx : May x) : ∀ u, LaysC b u x := by
  induction hx with
  | null => intro u l w h hE hv hl; obtain rfl := vin_null hv; exact lays_null b l w h hE hv hl
  | fls => intro u l w h hE hv hl; obtain rfl := vin_fls hv; exact lays_truth b false _ rfl l w h hE hv hl
  | tru => intro u l w h hE hv hl; obtain rfl := vin_tru hv; exact lays_truth b true _ rfl l w h hE hv hl
  | nr n h1 h2 => intro u l w h hE hv hl; obtain rfl := vin_nr hv; exact lays_number b n (by omega) (by omega) l w h hE hv hl
  | tx t _ => intro u l w h hE hv hl; obtain rfl := vin_tx hv; exact lays_text b t l w h hE hv hl
  | list xs _ ih =>
    intro u l w h hE hv hl
    obtain ⟨v, us, rfl, hl0, hr, hvi⟩ := hv.list_inv xs rfl
    exact lays_list b xs v us (fun j x hx => ih x (List.mem_of_getElem? hx) (us j)) l w h hE hl0 hr hvi hl
  | obj ms _ _ _ ih =>
    intro u l w h hE hv hl
    obtain ⟨v, us, rfl, hl0, hr, hvi⟩ := hv.obj_inv ms rfl
    exact lays_obj b ms v us (fun j m hm => ih m (List.mem_of_getElem? hm) (us j)) l w h hE hl0 hr hvi hl
end Go.Proofs.YtmajpambfblhnaaGreatDoor
