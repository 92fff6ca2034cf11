/- Walks of the law of layer 5, fifth part: a header made that may be. -/
import Derived.Test.YtaomhkgdbobpkaaGreatDoorWiL4
namespace Go.Proofs.YtaomhkgdbobpkaaGreatDoor
open Go.RowKit Wi

def tokensL : List UInt8 := [97, 98, 99, 100, 101, 102, 103, 104, 105, 106, 107, 108, 109, 110, 111, 112, 113, 114, 115, 116, 117, 118, 119, 120, 121, 122, 65, 66, 67, 68, 69, 70, 71, 72, 73, 74, 75, 76, 77, 78, 79, 80, 81, 82, 83, 84, 85, 86, 87, 88, 89, 90, 48, 49, 50, 51, 52, 53, 54, 55, 56, 57, 33, 35, 36, 37, 38, 39, 42, 43, 45, 46, 94, 95, 124, 126, 96]
theorem tokens_name : ∀ c ∈ tokensL, ofNameP c = true := by decide
def capsL : List UInt8 := [65, 66, 67, 68, 69, 70, 71, 72, 73, 74, 75, 76, 77, 78, 79, 80, 81, 82, 83, 84, 85, 86, 87, 88, 89, 90]
theorem caps_cap : ∀ c ∈ capsL, capitalP c = true := by decide
theorem only_of {p : UInt8 → Bool} {l : List UInt8} {a b : Nat} (h1 : ∀ c ∈ l, p c = true) (h2 : a ≤ l.length) (h3 : l.length ≤ b) : onlyP l a b p = true := by
  unfold onlyP
  rw [List.all_eq_true.2 h1, decide_eq_true h2, decide_eq_true h3]
  rfl
theorem printed_of {c : UInt8} (h : 32 ≤ c.toNat ∧ c.toNat ≤ 126) : printedP c = true := by
  unfold printedP
  rw [decide_eq_true (UInt8.le_iff_toNat_le.2 (by simpa using h.1)), decide_eq_true (UInt8.le_iff_toNat_le.2 (by simpa using h.2))]
  rfl
theorem shown_of {c : UInt8} (h : 33 ≤ c.toNat ∧ c.toNat ≤ 126) : shownP c = true := by
  unfold shownP
  rw [decide_eq_true (UInt8.le_iff_toNat_le.2 (by simpa using h.1)), decide_eq_true (UInt8.le_iff_toNat_le.2 (by simpa using h.2))]
  rfl
theorem header_of {n v : List UInt8} (h1 : isNameP n = true) (h2 : ∀ c ∈ v, 32 ≤ c.toNat ∧ c.toNat ≤ 126) (h3 : n.length + 2 + v.length ≤ 1000) (h4 : v.head? ≠ some 32) (h5 : v.getLast? ≠ some 32) (h6 : low n ≠ lengthN) (h7 : low n ≠ codingN) : isHeaderP (n, v) = true := by
  unfold isHeaderP
  simp only
  rw [h1, only_of (fun c hc => printed_of (h2 c hc)) (Nat.zero_le _) (by omega), decide_eq_true h3]
  have e1 : bareP v = true := by
    unfold bareP
    rw [bne_iff_ne.2 h4, bne_iff_ne.2 h5]
    simp
  rw [e1, bne_iff_ne.2 h6, bne_iff_ne.2 h7]
  rfl
def fat (rb : Nat) (w : World) : Prop := w.heap[rb]? = some (.cells #[S [], S []] 61 (0, 0))
theorem fat.facts {rb : Nat} {w : World} (h : fat rb w) : w.cell? ⟨rb, 0, none⟩ = some (S []) ∧ w.cell? ⟨rb, 1, none⟩ = some (S []) ∧ ∀ o, w.frozen? ⟨rb, o, none⟩ = false := by
  unfold fat at h
  refine ⟨?_, ?_, fun o => frozen_row h o⟩ <;> rw [cell_of_row w rb _ _ _ (0, 0) h] <;> rfl
theorem fat.set {rb : Nat} {w : World} (h : fat rb w) (x y : Value) : ∃ W, (w.setCell ⟨rb, 0, none⟩ x).setCell ⟨rb, 1, none⟩ y = W ∧ W.cell? ⟨rb, 0, none⟩ = some x ∧ W.cell? ⟨rb, 1, none⟩ = some y ∧ Kept (· ≠ rb) w W := by
  have h3 := setCell_heap (o := 1) (setCell_heap (o := 0) h x) y
  refine ⟨_, rfl, ?_, ?_, ((Kept.refl _ w).setCell (.inr (by simp)) _).setCell (.inr (by simp)) _⟩ <;> rw [cell_of_row _ rb _ _ _ (0, 0) h3] <;> rfl
set_option maxHeartbeats 8000000 in
set_option maxRecDepth 100000 in
theorem lheader_any (f1 f2 : List UInt8) (w : World) (hl : f1.length ≤ 1099511627776 ∧ f2.length ≤ 1099511627776) :
    Calls Tryz.prog 74 #[.agg #[S f1, S f2]] w fun e w' => (∃ g : Fl, e = .returned (.agg #[S g.1, S g.2]) ∧ isHeaderP g = true) ∧ Kept (fun _ => True) w w' := by
  obtain ⟨hl1, hl2⟩ := hl
  have LT := Lib.hid (fun W => letters_any f1 tokensL 1 40 W hl1 (by decide) (by decide))
  have PL := Lib.hid (fun (n : List UInt8) (h : n.length ≤ 40) W => plain_any f2 32 (998 - n.length) (998 - (n.length : Int)) (by omega) W hl2 (by decide) (by omega))
  obtain ⟨W9, hW9⟩ : ∃ W9, w.alloc (.cells #[S f1, S f2] 61) = W9 := ⟨_, rfl⟩
  obtain ⟨W0, hW0⟩ : ∃ W0, W9.alloc (.cells #[S [], S []] 61) = W0 := ⟨_, rfl⟩
  have hk9 : Kept (fun _ => True) w W9 := by rw [← hW9]; exact (Kept.refl _ w).alloc _
  have hk90 : Kept (fun _ => True) W9 W0 := by rw [← hW0]; exact (Kept.refl _ W9).alloc _
  have hk0 := hk9.tr hk90
  have hz9 : W9.heap.size = w.heap.size + 1 := by rw [← hW9]; simp
  have hbx9 : W9.heap[w.heap.size]? = some (.cells #[S f1, S f2] 61 (0, 0)) := by rw [← hW9]; exact heap_alloc_new w _
  have hbx : W0.heap[w.heap.size]? = some (.cells #[S f1, S f2] 61 (0, 0)) := (hk90.block _ (by omega) trivial).trans hbx9
  have hfat : fat W9.heap.size W0 := by rw [← hW0]; exact heap_alloc_new W9 _
  have c0 : W0.cell? ⟨w.heap.size, 0, none⟩ = some (S f1) := by rw [cell_of_row W0 _ _ _ _ (0, 0) hbx]; rfl
  have c1 : W0.cell? ⟨w.heap.size, 1, none⟩ = some (S f2) := by rw [cell_of_row W0 _ _ _ _ (0, 0) hbx]; rfl
  have HW0 : W9.heap.size < W0.heap.size := by rw [← hW0]; simp
  have HW9 : Hid (w.heap.size < W9.heap.size) := Lib.hid (by omega)
  have HC1 := Lib.hid c1
  have HK0 := Lib.hid hk0
  have HFAT := Lib.hid hfat
  clear hbx hk0 hbx9 hfat hk9 hk90 hz9
  go_enter Tryz.func74, Tryz.ntmps74
  go_wp2_with fail
  refine (LT.out _).mono ?_
  rintro e w1 ⟨⟨n, rfl, hn1, hn2, hn3⟩, hk1⟩
  have hname : isNameP n = true := only_of (fun c hc => tokens_name c (hn3 c hc)) hn1 hn2
  have SM := Lib.hid (fun W => Small_any n W (by omega))
  have zn : (⟨n.toArray⟩ : ByteArray).size = n.length := size_mk n
  have c1' : w1.cell? ⟨w.heap.size, 1, none⟩ = some (S f2) := (hk1.cell (by have := HW9.out; omega) trivial).trans c1
  have HK1 : Hid (Kept (fun _ => True) W0 w1) := Lib.hid hk1
  have HW1 : Hid (w.heap.size < w1.heap.size) := Lib.hid (by have := hk1.size; have := HW9.out; omega)
  clear hk1 c1 hn3 c0
  go_wp2_with fail
  refine (SM.out _).mono ?_
  rintro e w2 ⟨rfl, hk2⟩
  have c1 : w2.cell? ⟨w.heap.size, 1, none⟩ = some (S f2) := (hk2.cell (by have := HW1.out; omega) trivial).trans c1'
  have HK2 := Lib.hid (HK1.out.tr hk2)
  clear hk2 c1'
  obtain ⟨x, hx⟩ : ∃ x, low n = x := ⟨_, rfl⟩
  have HC : Hid (∃ N : List UInt8, N = N) := Lib.hid ⟨n, rfl⟩
  have hcs : (x = lengthN) ∨ (x ≠ lengthN ∧ x = codingN) ∨ (x ≠ lengthN ∧ x ≠ codingN) := by
    by_cases h1 : x = lengthN
    · exact .inl h1
    · by_cases h2 : x = codingN
      · exact .inr (.inl ⟨h1, h2⟩)
      · exact .inr (.inr ⟨h1, h2⟩)
  rw [hx]
  have PX := Lib.hid (fun W => plain_any f2 32 997 997 rfl W hl2 (by decide) (by decide))
  have PN := Lib.hid (PL.out n hn2)
  clear PL LT SM
  have X0 : Hid (∀ v : List UInt8, v.length ≤ 997 → (∀ c ∈ v, 32 ≤ c.toNat ∧ c.toNat ≤ 126) → v.head? ≠ some 32 → v.getLast? ≠ some 32 → isHeaderP ([120], v) = true) := Lib.hid fun v k1 k2 k3 k4 => header_of (by decide) k2 (by simp; omega) k3 k4 (by decide) (by decide)
  rcases hcs with h1 | ⟨h1, h2⟩ | ⟨h1, h2⟩
  case' inl =>
    have q1 : (x == [99, 111, 110, 116, 101, 110, 116, 45, 108, 101, 110, 103, 116, 104]) = true := by rw [h1]; rfl
    have HN := X0
    clear hx h1 hname PN
    go_wp2_with fail
    refine (PX.out _).mono ?_
    rintro e w3 ⟨⟨v0, rfl, hv1, hv2⟩, hk3⟩
  case' inr.inl =>
    have q1 : (x == [99, 111, 110, 116, 101, 110, 116, 45, 108, 101, 110, 103, 116, 104]) = false := beq_eq_false_iff_ne.2 h1
    have q2 : (x == [116, 114, 97, 110, 115, 102, 101, 114, 45, 101, 110, 99, 111, 100, 105, 110, 103]) = true := by rw [h2]; rfl
    have HN := X0
    clear hx h1 h2 hname PN
    go_wp2_with fail
    refine (PX.out _).mono ?_
    rintro e w3 ⟨⟨v0, rfl, hv1, hv2⟩, hk3⟩
  case' inr.inr =>
    have q1 : (x == [99, 111, 110, 116, 101, 110, 116, 45, 108, 101, 110, 103, 116, 104]) = false := beq_eq_false_iff_ne.2 h1
    have q2 : (x == [116, 114, 97, 110, 115, 102, 101, 114, 45, 101, 110, 99, 111, 100, 105, 110, 103]) = false := beq_eq_false_iff_ne.2 h2
    have HN : Hid (∀ v : List UInt8, v.length ≤ 998 - n.length → (∀ c ∈ v, 32 ≤ c.toNat ∧ c.toNat ≤ 126) → v.head? ≠ some 32 → v.getLast? ≠ some 32 → isHeaderP (n, v) = true) := Lib.hid fun v k1 k2 k3 k4 => header_of hname k2 (by omega) k3 k4 (by rw [hx]; exact h1) (by rw [hx]; exact h2)
    clear hx h1 h2 hname X0
    go_wp2_with fail
    refine (PN.out _).mono ?_
    rintro e w3 ⟨⟨v0, rfl, hv1, hv2⟩, hk3⟩
  all_goals
    have HK3 := Lib.hid (HK2.out.tr hk3)
    clear hk3
    have hbig : v0.length ≤ 1000 := by omega
    have HV1 := Lib.hid hv1
    have HV2 := Lib.hid hv2
    clear hv1 hv2
    go_wp2_with fail
    go_loopg [5] v0.length (fun q v wr => ∃ l : List UInt8, v = S l ∧ q = l.length ∧ l.length ≤ v0.length ∧ Hid (∀ c ∈ l, c ∈ v0) ∧ Hid (Kept (fun _ => True) W0 wr))
    case atStart => exact ⟨v0, rfl, rfl, Nat.le_refl _, Lib.hid fun c h => h, HK3⟩
    case round =>
      clear HK3
      obtain ⟨l, rfl, rfl, hle, HS, HK⟩ := hrel
      by_cases hst : ∃ r, l = 32 :: r
      · obtain ⟨r, rfl⟩ := hst
        have zl : (⟨(32 :: r).toArray⟩ : ByteArray).size = r.length + 1 := size_mk (32 :: r)
        have EX : (⟨(32 :: r).toArray⟩ : ByteArray).extract 1 (r.length + 1) = ⟨r.toArray⟩ := by rw [extract_ba]; simp
        have I0 := run_at2 (32 :: r) 0 0 rfl 32 rfl
        have HS2 : Hid (∀ c ∈ r, c ∈ v0) := Lib.hid fun c hc => HS.out c (List.mem_cons_of_mem _ hc)
        have hrl : r.length + 1 ≤ v0.length := hle
        have hlp : 0 < (r.length : Int) + 1 := by omega
        clear HS hle
        go_wp2
        go_roundg r.length
        case rel => exact ⟨r, rfl, rfl, by omega, HS2, HK⟩
        case measure => simp
      · have HH : Hid (l.head? ≠ some 32) := Lib.hid fun e => hst (by
          cases l with
          | nil => cases e
          | cons c r => simp only [List.head?_cons, Option.some.injEq] at e; exact ⟨r, by rw [e]⟩)
        clear hst
        rcases l with - | ⟨c, r⟩
        case' nil =>
          go_wp2_with fail
        case' cons =>
          have zl : (⟨(c :: r).toArray⟩ : ByteArray).size = r.length + 1 := size_mk (c :: r)
          have I0 := run_at2 (c :: r) 0 0 rfl c rfl
          have hlp : 0 < (r.length : Int) + 1 := by omega
          have q32 : ((c.toNat : Int) == 32) = false := by
            rw [byte_is c 32 32 rfl]
            exact decide_eq_false fun e => HH.out (by rw [e]; rfl)
          go_wp2_with fail
        all_goals
          go_loopg [5] v0.length (fun q v wr2 => ∃ l2 : List UInt8, v = S l2 ∧ l2.length ≤ q ∧ l2.length ≤ v0.length ∧ Hid (∀ c ∈ l2, c ∈ v0) ∧ Hid (l2.head? ≠ some 32) ∧ Hid (Kept (fun _ => True) W0 wr2))
          case atStart => exact ⟨_, rfl, hle, hle, HS, HH, HK⟩
          case round =>
            clear HK HH HS hle
            try clear zl I0 hlp q32
            obtain ⟨l2, rfl, hlq, hle, HS, HH, HK⟩ := hrel
            by_cases hst : ∃ r2, l2 = r2 ++ [32]
            · obtain ⟨r2, rfl⟩ := hst
              have hrl : r2.length + 1 ≤ v0.length := by simpa using hle
              have hrq := hlq
              rw [List.length_append, List.length_singleton] at hrq
              have zl2 : (⟨(r2 ++ [32]).toArray⟩ : ByteArray).size = r2.length + 1 := by rw [size_mk]; simp
              have EX : (⟨(r2 ++ [32]).toArray⟩ : ByteArray).extract 0 r2.length = ⟨r2.toArray⟩ := by rw [extract_ba]; simp
              have I0 := run_at2 (r2 ++ [32]) (r2.length : Int) r2.length rfl 32 (by simp)
              have HS2 : Hid (∀ c ∈ r2, c ∈ v0) := Lib.hid fun c hc => HS.out c (List.mem_append_left _ hc)
              have HH2 : Hid (r2.head? ≠ some 32) := Lib.hid fun e => HH.out (by
                cases r2 with
                | nil => cases e
                | cons c r => simpa using e)
              have hlp2 : 0 < (r2.length : Int) + 1 := by omega
              clear HS hle hlq HH
              go_wp2
              go_roundg r2.length
              case rel => exact ⟨r2, rfl, Nat.le_refl _, by omega, HS2, HH2, HK⟩
              case measure => omega
            · have HE : Hid (l2.getLast? ≠ some 32) := Lib.hid fun e => hst (by
                obtain ⟨r2, hr2⟩ := List.getLast?_eq_some_iff.1 e
                exact ⟨r2, hr2⟩)
              clear hst
              have hok := HN.out l2 (by have := HV1.out; omega) (fun c hc => HV2.out c (HS.out c hc)) HH.out HE.out
              have HOK := Lib.hid hok
              have hft : fat W9.heap.size _ := (HK.out.block _ HW0 trivial).trans HFAT.out
              obtain ⟨e0, e1, e9⟩ := hft.facts
              have f0 := e9 0
              have f1 := e9 1
              have hst2 := HE
              clear hok HS HH HE e9 hlq
              have HFT := Lib.hid hft
              clear hft
              rcases List.eq_nil_or_concat l2 with h0 | ⟨r2, c2, h0⟩
              case' inl =>
                subst h0
                go_wp2
              case' inr =>
                rw [List.concat_eq_append] at h0
                subst h0
                have zl2 : (⟨(r2 ++ [c2]).toArray⟩ : ByteArray).size = r2.length + 1 := by rw [size_mk]; simp
                have I0 := run_at2 (r2 ++ [c2]) (r2.length : Int) r2.length rfl c2 (by simp)
                have hlp2 : 0 < (r2.length : Int) + 1 := by omega
                have q32 : ((c2.toNat : Int) == 32) = false := by
                  rw [byte_is c2 32 32 rfl]
                  exact decide_eq_false fun e => hst2.out (by rw [e]; simp)
                have hrl2 : r2.length ≤ 1000 := by have h := hle; rw [List.length_append, List.length_singleton] at h; omega
                clear hle
                go_wp2
              all_goals first
                | (have hok2 : isHeaderP (n, []) = true := HOK.out; obtain ⟨W4, hW4, d0, d1, hk4⟩ := HFT.out.set (S n) (S ([])); have HZ : Hid (Kept (fun _ => True) w W4) := Lib.hid ((HK0.out.tr HK.out).trans hk4 fun i hi _ => (by have := HW9.out; omega)); rw [hW4]; clear hk4; refine bodyPost_ret (v := .agg #[S n, S ([])]) (by simp [results, Tryz.results74, go_sem, d0, d1]) rfl ?_; exact ⟨⟨(n, []), rfl, hok2⟩, HZ.out⟩)
                | (have hok2 : isHeaderP (n, r2 ++ [c2]) = true := HOK.out; obtain ⟨W4, hW4, d0, d1, hk4⟩ := HFT.out.set (S n) (S (r2 ++ [c2])); have HZ : Hid (Kept (fun _ => True) w W4) := Lib.hid ((HK0.out.tr HK.out).trans hk4 fun i hi _ => (by have := HW9.out; omega)); rw [hW4]; clear hk4; refine bodyPost_ret (v := .agg #[S n, S (r2 ++ [c2])]) (by simp [results, Tryz.results74, go_sem, d0, d1]) rfl ?_; exact ⟨⟨(n, r2 ++ [c2]), rfl, hok2⟩, HZ.out⟩)
                | (have hok2 : isHeaderP ([120], []) = true := HOK.out; obtain ⟨W4, hW4, d0, d1, hk4⟩ := HFT.out.set (S [120]) (S ([])); have HZ : Hid (Kept (fun _ => True) w W4) := Lib.hid ((HK0.out.tr HK.out).trans hk4 fun i hi _ => (by have := HW9.out; omega)); rw [hW4]; clear hk4; refine bodyPost_ret (v := .agg #[S [120], S ([])]) (by simp [results, Tryz.results74, go_sem, d0, d1]) rfl ?_; exact ⟨⟨([120], []), rfl, hok2⟩, HZ.out⟩)
                | (have hok2 : isHeaderP ([120], r2 ++ [c2]) = true := HOK.out; obtain ⟨W4, hW4, d0, d1, hk4⟩ := HFT.out.set (S [120]) (S (r2 ++ [c2])); have HZ : Hid (Kept (fun _ => True) w W4) := Lib.hid ((HK0.out.tr HK.out).trans hk4 fun i hi _ => (by have := HW9.out; omega)); rw [hW4]; clear hk4; refine bodyPost_ret (v := .agg #[S [120], S (r2 ++ [c2])]) (by simp [results, Tryz.results74, go_sem, d0, d1]) rfl ?_; exact ⟨⟨([120], r2 ++ [c2]), rfl, hok2⟩, HZ.out⟩)
end Go.Proofs.YtaomhkgdbobpkaaGreatDoor
