/- Walks of the law of layer 5: a text read as an answer, twice, and as the document reads it; the lists that come out are noted. -/
import Derived.Test.YtaomhkgdbobpkaaGreatDoorWiT5
import Derived.Test.YtaomhkgdbobpkaaGreatDoorWiS6
import Derived.Test.YtaomhkgdbobpkaaGreatDoorWiLY
namespace Go.Proofs.YtaomhkgdbobpkaaGreatDoor
open Go.RowKit Wi

/-- Lists of fields that came out, what they must be, and what they are: the first ones each in a block of its own. -/
structure ColF (B : Nat) (us ws : List Value) (fs : List (List Fl)) (w : World) : Prop where
  lu : us.length = fs.length
  lw : ws.length = fs.length
  ou : ∀ (j : Nat) u f, us[j]? = some u → fs[j]? = some f → OwnF u f w ∧ f.length ≤ 32
  ow : ∀ (j : Nat) u f, ws[j]? = some u → fs[j]? = some f → OwnF u f w
  nd : (blks us).Nodup
  lo : ∀ b ∈ blks us, B ≤ b
theorem ColF.nil (B : Nat) (w : World) : ColF B [] [] [] w := ⟨rfl, rfl, by simp, by simp, by simp [blks], by simp [blks]⟩
theorem ColF.kept {B : Nat} {us ws : List Value} {fs : List (List Fl)} {w w' : World} {ok : Nat → Prop} (h : ColF B us ws fs w) (hk : Kept ok w w') (ho : ∀ (g : Nat) (c : Array Value), w.heap[g]? = some (.cells c 61 (0, 0)) → ok g) : ColF B us ws fs w' := by
  have k : ∀ (C : Nat) (v : Value) (n : Nat) (ys : List Value), w.ownsRow C 61 2 v n ys → w'.ownsRow C 61 2 v n ys := fun C v n ys h => ownsRow_kept h hk fun b hb => by
    obtain ⟨c, hc⟩ := own_typ h hb
    exact ho b c hc
  exact ⟨h.lu, h.lw, fun j u f hu hf => ⟨k _ _ _ _ (h.ou j u f hu hf).1, (h.ou j u f hu hf).2⟩, fun j u f hu hf => k _ _ _ _ (h.ow j u f hu hf), h.nd, h.lo⟩
theorem ColF.keptT {B : Nat} {us ws : List Value} {fs : List (List Fl)} {w w' : World} (h : ColF B us ws fs w) (hk : Kept (fun _ => True) w w') : ColF B us ws fs w' := h.kept hk fun _ _ _ => trivial
theorem ColF.keptB {B C : Nat} {us ws : List Value} {fs : List (List Fl)} {w w' : World} (h : ColF B us ws fs w) (hk : Kept (FBk C w) w w') : ColF B us ws fs w' := h.kept hk fun _ _ hc => .of hc (by decide) (by decide) (by decide) (by decide)
theorem get_snoc {α : Type} {l : List α} {x y : α} {j : Nat} (h : (l ++ [x])[j]? = some y) : l[j]? = some y ∨ (j = l.length ∧ y = x) := by
  by_cases hj : j < l.length
  · rw [List.getElem?_append_left hj] at h; exact .inl h
  · rw [List.getElem?_append_right (by omega)] at h
    have := (List.getElem?_eq_some_iff.1 h).1
    have h0 : j - l.length = 0 := by simp at this; omega
    rw [h0] at h
    exact .inr ⟨by omega, by simpa using h.symm⟩
theorem get_len {α β : Type} {l : List α} {k : List β} {j : Nat} {x : α} (h : l[j]? = some x) (e : l.length = k.length) : ∃ y, k[j]? = some y := ⟨_, List.getElem?_eq_getElem (by rw [← e]; exact (List.getElem?_eq_some_iff.1 h).1)⟩
theorem ColF.add {B : Nat} {us ws : List Value} {fs : List (List Fl)} {u v : Value} {f : List Fl} {w : World} (h : ColF B us ws fs w) (hu : OwnF u f w) (hl : f.length ≤ 32) (hv : OwnF v f w) (hb : ∀ b, u.ownBlock = some b → B ≤ b ∧ b ∉ blks us) : ColF B (us ++ [u]) (ws ++ [v]) (fs ++ [f]) w := by
  refine ⟨by simp [h.lu], by simp [h.lw], fun j x g hx hg => ?_, fun j x g hx hg => ?_, ?_, fun b hm => ?_⟩
  · rcases get_snoc hx with hx | ⟨rfl, rfl⟩
    · rcases get_snoc hg with hg | ⟨rfl, rfl⟩
      · exact h.ou j x g hx hg
      · have := (List.getElem?_eq_some_iff.1 hx).1; rw [h.lu] at this; omega
    · rcases get_snoc hg with hg | ⟨_, rfl⟩
      · have := (List.getElem?_eq_some_iff.1 hg).1; rw [← h.lu] at this; omega
      · exact ⟨hu, hl⟩
  · rcases get_snoc hx with hx | ⟨rfl, rfl⟩
    · rcases get_snoc hg with hg | ⟨rfl, rfl⟩
      · exact h.ow j x g hx hg
      · have := (List.getElem?_eq_some_iff.1 hx).1; rw [h.lw] at this; omega
    · rcases get_snoc hg with hg | ⟨_, rfl⟩
      · have := (List.getElem?_eq_some_iff.1 hg).1; rw [← h.lw] at this; omega
      · exact hv
  · rw [blks_app, blks_one]
    refine List.nodup_append.2 ⟨h.nd, ?_, fun a ha b hb' e => ?_⟩
    · cases u.ownBlock <;> simp
    · subst e
      cases hub : u.ownBlock with
      | none => rw [hub] at hb'; simp at hb'
      | some c =>
        rw [hub] at hb'
        obtain rfl : a = c := by simpa using hb'
        exact (hb a hub).2 ha
  · rw [blks_app, blks_one] at hm
    rcases List.mem_append.1 hm with hm | hm
    · exact h.lo b hm
    · cases hub : u.ownBlock with
      | none => rw [hub] at hm; simp at hm
      | some c =>
        rw [hub] at hm
        obtain rfl : b = c := by simpa using hm
        exact (hb b hub).1
theorem ColF.lt {B : Nat} {us ws : List Value} {fs : List (List Fl)} {w : World} (h : ColF B us ws fs w) : ∀ b ∈ blks us, b < w.heap.size := fun b hb => by
  obtain ⟨u, hu, hub⟩ := List.mem_filterMap.1 hb
  obtain ⟨j, hj, rfl⟩ := List.getElem_of_mem hu
  obtain ⟨f, hf⟩ := get_len (List.getElem?_eq_getElem hj) h.lu
  exact ((h.ou j _ f (List.getElem?_eq_getElem hj) hf).1.lt b hub).2
theorem parseA_hs (s : List UInt8) : (parseA s).1.hs.length ≤ 32 := by
  unfold parseA
  cases h : ansP (begin' true) s with
  | inr z => simp [ofAns]
  | inl x =>
    obtain ⟨r, t⟩ := x
    exact (ans_whole_inv _ _ _ _ (RI.begin true) h).1.hs
/-- The book with what came out. -/
def Col (gb B : Nat) (us ws : List Value) (fs : List (List Fl)) (w : World) : Prop := (∃ vs xs, Bk gb B vs xs w ∧ xs 0 = us ∧ xs 1 = ws ∧ xs 3 = [] ∧ xs 4 = [] ∧ xs 5 = [] ∧ xs 6 = [] ∧ xs 7 = []) ∧ ColF B us ws fs w
theorem Col.keptT {gb B : Nat} {us ws : List Value} {fs : List (List Fl)} {w w' : World} (h : Col gb B us ws fs w) (hk : Kept (fun _ => True) w w') : Col gb B us ws fs w' := by
  obtain ⟨⟨vs, xs, hb, e⟩, hc⟩ := h
  exact ⟨⟨vs, xs, hb.keptT hk, e⟩, hc.keptT hk⟩
theorem Col.size {gb B : Nat} {us ws : List Value} {fs : List (List Fl)} {w : World} (h : Col gb B us ws fs w) : B ≤ w.heap.size := by
  obtain ⟨⟨vs, xs, hb, e⟩, hc⟩ := h
  exact hb.size
/-- The book's fields, called. -/
theorem Col.fields {gb B : Nat} {us ws : List Value} {fs : List (List Fl)} {u v : Value} {f : List Fl} {w : World} (h : Col gb B us ws fs w) (hn : us.length ≤ 1000000000000) (hu : OwnF u f w) (hl : f.length ≤ 32) (hv : OwnF v f w) (hb : ∀ b, u.ownBlock = some b → B ≤ b ∧ b ∉ blks us) :
    Calls Tryz.prog 39 #[.pointer (some ⟨gb, 0, none⟩), u, v] w fun e w' => e = .returned (.tuple #[]) ∧ Col gb B (us ++ [u]) (ws ++ [v]) (fs ++ [f]) w' ∧ Kept (FBk B w) w w' := by
  obtain ⟨⟨vs, xs, hbk, rfl, rfl, e3, e4, e5, e6, e7⟩, hc⟩ := h
  obtain ⟨ua, uc, rfl⟩ := row_form hu
  obtain ⟨va, vc, rfl⟩ := row_form hv
  refine (bookFields_any gb B vs xs (.slice ua f.length uc) (.slice va f.length vc) w hbk (by omega) (by have := hc.lu; have := hc.lw; omega) ⟨_, _, _, rfl⟩ ⟨_, _, _, rfl⟩).mono ?_
  rintro e w' ⟨rfl, ⟨vs', hb'⟩, hk⟩
  refine ⟨rfl, ⟨⟨vs', _, hb', rfl, rfl, ?_, ?_, ?_, ?_, ?_⟩, ?_⟩, hk⟩
  · exact e3
  · exact e4
  · exact e5
  · exact e6
  · exact e7
  · exact (hc.add hu hl hv hb).keptB hk
/-- What parses leaves. -/
def PsQ (gb B : Nat) (us ws : List Value) (fs : List (List Fl)) (w : World) (e : Ending) (w' : World) : Prop := e = .returned (.bool true) ∧ ∃ x y z f, Col gb B (us ++ [x] ++ [y]) (ws ++ [z] ++ [z]) (fs ++ [f] ++ [f]) w' ∧ Kept (FBk B w) w w'
set_option maxHeartbeats 8000000 in
set_option maxRecDepth 100000 in
theorem parses_any (gb B : Nat) (us ws : List Value) (fs : List (List Fl)) (s : List UInt8) (w : World) (h : Col gb B us ws fs w) (hE : WE B w) (hn : us.length ≤ 1000) (hs : s.length ≤ 1099511627776) :
    Calls Tryz.prog 30 #[.pointer (some ⟨gb, 0, none⟩), S s] w (PsQ gb B us ws fs w) := by
  have h32 := parseA_hs s
  have PZ := Lib.hid (fun W (hk : Kept (fun _ => True) w W) => ParseAnswer_any s W ((hE.kept hk fun _ _ => trivial).le (by have := h.size; have := hk.size; omega)) hs)
  have RZ := Lib.hid (fun W => refParseAnswer_any s W hs)
  unfold PaQ at PZ RZ
  obtain ⟨X, hX⟩ : ∃ X, parseA s = X := ⟨_, rfl⟩
  rw [hX] at PZ RZ h32
  obtain ⟨⟨st, f, body⟩, rest, E⟩ := X
  simp only at PZ RZ h32
  have HH := Lib.hid h
  clear h hE hX
  go_enter Tryz.func30, Tryz.ntmps30
  go_wp2_with fail
  refine (PZ.out w (Kept.refl _ w)).mono ?_
  rintro e w1 ⟨hx, rfl, n1, n2, hk1⟩
  obtain ⟨xa, xc, rfl⟩ := rowf_slice n1
  obtain ⟨W1, hW1⟩ : ∃ W1, w1.alloc (.cells #[.int .i64 st, .slice xa f.length xc, S body] 56) = W1 := ⟨_, rfl⟩
  have hk11 : Kept (fun _ => True) w1 W1 := by rw [← hW1]; exact (Kept.refl _ w1).alloc _
  have HBX : Hid (three w1.heap.size st (.slice xa f.length xc) body W1) := Lib.hid (by rw [← hW1]; exact heap_alloc_new w1 _)
  have HK1 := Lib.hid (hk1.tr hk11)
  have HOX := Lib.hid (ownsRow_kept n1 hk11 fun _ _ => trivial)
  have HNX := Lib.hid n2
  clear n1 n2 hk1 hk11
  go_wp2_with fail
  refine (PZ.out W1 HK1.out).mono ?_
  rintro e w2 ⟨hy, rfl, n1, n2, hk2⟩
  obtain ⟨ya, yc, rfl⟩ := rowf_slice n1
  obtain ⟨W2, hW2⟩ : ∃ W2, w2.alloc (.cells #[.int .i64 st, .slice ya f.length yc, S body] 56) = W2 := ⟨_, rfl⟩
  have hk22 : Kept (fun _ => True) w2 W2 := by rw [← hW2]; exact (Kept.refl _ w2).alloc _
  have HBY : Hid (three w2.heap.size st (.slice ya f.length yc) body W2) := Lib.hid (by rw [← hW2]; exact heap_alloc_new w2 _)
  have HK12 := Lib.hid (hk2.tr hk22)
  have HK2 := Lib.hid (HK1.out.tr HK12.out)
  have HOY := Lib.hid (ownsRow_kept n1 hk22 fun _ _ => trivial)
  have HNY := Lib.hid n2
  clear n1 n2 hk2 hk22 hW1
  go_wp2_with fail
  refine (RZ.out W2).mono ?_
  rintro e w3 ⟨hz, rfl, n1, n2, hk3⟩
  obtain ⟨za, zc, rfl⟩ := rowf_slice n1
  obtain ⟨W3, hW3⟩ : ∃ W3, w3.alloc (.cells #[.int .i64 st, .slice za f.length zc, S body] 56) = W3 := ⟨_, rfl⟩
  have hk33 : Kept (fun _ => True) w3 W3 := by rw [← hW3]; exact (Kept.refl _ w3).alloc _
  have HBZ : Hid (three w3.heap.size st (.slice za f.length zc) body W3) := Lib.hid (by rw [← hW3]; exact heap_alloc_new w3 _)
  have HK23 := Lib.hid (hk3.tr hk33)
  have HK3 := Lib.hid (HK2.out.tr HK23.out)
  have HOZ := Lib.hid (ownsRow_kept n1 hk33 fun _ _ => trivial)
  clear n1 n2 hk3 hk33 hW2
  obtain ⟨c0, c1, c2⟩ := (HBX.out.kept (HK12.out.tr HK23.out) trivial).facts
  obtain ⟨g0, g1, g2⟩ := HBZ.out.facts
  have SA := Lib.hid (sameAnswer_any ⟨st, f, body⟩ ⟨st, f, body⟩ _ _ W3 (rowf_of (ownsRow_kept HOX.out (HK12.out.tr HK23.out) fun _ _ => trivial)) (rowf_of HOZ.out) (by simp only; omega) (by simp only; omega))
  go_wp2_with fail
  refine SA.out.mono ?_
  rintro e w4 ⟨⟨q, rfl, hq⟩, hk4⟩
  obtain rfl : q = true := hq.2 (by first | rfl | trivial)
  have HK34 := Lib.hid hk4
  clear hq hk4 c0 c1 c2 g0 g1 g2 hW3 SA
  obtain ⟨c0, c1, c2⟩ := (HBY.out.kept (HK23.out.tr HK34.out) trivial).facts
  obtain ⟨g0, g1, g2⟩ := (HBZ.out.kept HK34.out trivial).facts
  have SA := Lib.hid (sameAnswer_any ⟨st, f, body⟩ ⟨st, f, body⟩ _ _ w4 (rowf_of (ownsRow_kept HOY.out (HK23.out.tr HK34.out) fun _ _ => trivial)) (rowf_of (ownsRow_kept HOZ.out HK34.out fun _ _ => trivial)) (by simp only; omega) (by simp only; omega))
  go_wp2_with fail
  refine SA.out.mono ?_
  rintro e w5 ⟨⟨q, rfl, hq⟩, hk5⟩
  obtain rfl : q = true := hq.2 (by first | rfl | trivial)
  have HK35 := Lib.hid (HK34.out.tr hk5)
  have HK25 := Lib.hid (HK23.out.tr HK35.out)
  have HK15 := Lib.hid (HK12.out.tr HK25.out)
  have HK5 := Lib.hid (HK1.out.tr HK15.out)
  have HX5 := Lib.hid (HBX.out.kept HK15.out trivial)
  have HY5 := Lib.hid (HBY.out.kept HK25.out trivial)
  have HZ5 := Lib.hid (HBZ.out.kept HK35.out trivial)
  have hOX := ownsRow_kept HOX.out HK15.out fun _ _ => trivial
  have hOY := ownsRow_kept HOY.out HK25.out fun _ _ => trivial
  have hOZ := ownsRow_kept HOZ.out HK35.out fun _ _ => trivial
  have HC5 := Lib.hid (HH.out.keptT HK5.out)
  have HLX : Hid (∀ b, (Value.slice xa f.length xc).ownBlock = some b → B ≤ b ∧ b ∉ blks us) := Lib.hid fun b hb => ⟨by have := HNX.out b hb; have := HH.out.size; omega, fun hm => by have := HH.out.2.lt b hm; have := HNX.out b hb; omega⟩
  have HLY : Hid (∀ b, (Value.slice ya f.length yc).ownBlock = some b → B ≤ b ∧ b ∉ blks (us ++ [.slice xa f.length xc])) := Lib.hid fun b hb => by
    have h1 := HNY.out b hb
    have h2 := HK1.out.size
    have h3 := HH.out.size
    refine ⟨by omega, fun hm => ?_⟩
    rw [blks_app, blks_one] at hm
    rcases List.mem_append.1 hm with hm | hm
    · have := HH.out.2.lt b hm; omega
    · have := (HOX.out.lt b (by simpa using hm)).2; omega
  have FA := Lib.hid (HC5.out.fields (by omega) hOX h32 hOZ HLX.out)
  have HOY5 := Lib.hid hOY
  have HOZ5 := Lib.hid hOZ
  clear hq hk5 c0 c1 c2 g0 g1 g2 SA HC5 hOX hOY hOZ
  obtain ⟨c0, c1, c2⟩ := HX5.out.facts
  obtain ⟨d0, d1, d2⟩ := HY5.out.facts
  obtain ⟨g0, g1, g2⟩ := HZ5.out.facts
  go_wp2_with fail
  refine FA.out.mono ?_
  rintro e w6 ⟨rfl, hc6, hk6⟩
  have hX6 : three w2.heap.size st (.slice ya f.length yc) body w6 := HY5.out.kept hk6 (.of HY5.out (by decide) (by decide) (by decide) (by decide))
  have hZ6 : three w3.heap.size st (.slice za f.length zc) body w6 := HZ5.out.kept hk6 (.of HZ5.out (by decide) (by decide) (by decide) (by decide))
  have FB := Lib.hid (hc6.fields (f := f) (v := .slice za f.length zc) (by simp; omega) (ownsRow_kept HOY5.out hk6 fun b hb => by obtain ⟨c, hc⟩ := own_typ HOY5.out hb; exact .of hc (by decide) (by decide) (by decide) (by decide)) h32 (ownsRow_kept HOZ5.out hk6 fun b hb => by obtain ⟨c, hc⟩ := own_typ HOZ5.out hb; exact .of hc (by decide) (by decide) (by decide) (by decide)) HLY.out)
  have HK6 := Lib.hid (KeptFBk.trans (KeptFBk.all HK5.out) hk6)
  clear c0 c1 c2 d0 d1 d2 g0 g1 g2 hc6 hk6 FA
  obtain ⟨d0, d1, d2⟩ := hX6.facts
  obtain ⟨g0, g1, g2⟩ := hZ6.facts
  clear hX6 hZ6
  go_wp2_with fail
  refine FB.out.mono ?_
  rintro e w7 ⟨rfl, hc7, hk7⟩
  have HC7 := Lib.hid hc7
  have HK7 := Lib.hid (KeptFBk.trans HK6.out hk7)
  clear hc7 hk7 d0 d1 d2 g0 g1 g2
  go_wp2
  go_ret
  exact ⟨rfl, _, _, _, _, HC7.out, HK7.out⟩
/-- A book without lists of messages. -/
theorem outer_nil (gb B : Nat) (us ws : List Value) (fs : List (List Fl)) (w : World) (h : Col gb B us ws fs w) : ∃ vs xs, Bk gb B vs xs w ∧ xs 0 = us ∧ xs 1 = ws ∧ xs 3 = [] ∧ xs 4 = [] ∧ Calls Tryz.prog 40 #[.pointer (some ⟨gb, 0, none⟩)] w (OuterQ gb B xs w) := by
  obtain ⟨⟨vs, xs, hb, e0, e1, e3, e4, e5, e6, e7⟩, hc⟩ := h
  refine ⟨vs, xs, hb, e0, e1, e3, e4, ?_⟩
  obtain ⟨fa, fc, hf⟩ := hb.form (i := 5) (by decide)
  obtain ⟨ga, gc, hg⟩ := hb.form (i := 7) (by decide)
  have b5 := hb.cell 5 (by decide)
  have b7 := hb.cell 7 (by decide)
  rw [hf, e5, List.length_nil] at b5
  rw [hg, e7, List.length_nil] at b7
  have HZ : Hid (∀ W, W = w → OuterQ gb B xs w (.returned (.bool true)) W ∧ W.cell? ⟨gb, 5, none⟩ = some (.slice fa 0 fc) ∧ W.cell? ⟨gb, 7, none⟩ = some (.slice ga 0 gc)) := Lib.hid fun W hW => by
    subst hW
    exact ⟨⟨rfl, ⟨vs, xs, hb, fun _ _ => rfl⟩, Kept.refl _ _⟩, b5, b7⟩
  clear hb e0 e1 e3 e4 e5 e6 e7 hc hf hg
  go_enter Tryz.func40, Tryz.ntmps40
  go_wp2_with fail
  go_loopg [3] 0 (fun q x wr => x = .int .i64 0 ∧ q = 0 ∧ Hid (wr = w))
  case atStart => exact ⟨rfl, rfl, Lib.hid rfl⟩
  case round =>
    clear b5 b7
    obtain ⟨rfl, rfl, HW⟩ := hrel
    obtain ⟨-, b5, b7⟩ := HZ.out _ HW.out
    go_wp2_with fail
    go_loopg [5] 0 (fun q x wr => x = .int .i64 0 ∧ q = 0 ∧ Hid (wr = w))
    case atStart => exact ⟨rfl, rfl, HW⟩
    case round =>
      clear b5 b7 HW
      obtain ⟨rfl, rfl, HW⟩ := hrel
      obtain ⟨-, b5, b7⟩ := HZ.out _ HW.out
      go_wp2_with fail
      go_loopg [7] 0 (fun q x wr => x = .int .i64 0 ∧ q = 0 ∧ Hid (wr = w))
      case atStart => exact ⟨rfl, rfl, HW⟩
      case round =>
        clear b5 b7 HW
        obtain ⟨rfl, rfl, HW⟩ := hrel
        obtain ⟨-, b5, b7⟩ := HZ.out _ HW.out
        go_wp2_with fail
        go_loopg [10] 0 (fun q x wr => x = .int .i64 0 ∧ q = 0 ∧ Hid (wr = w))
        case atStart => exact ⟨rfl, rfl, HW⟩
        case round =>
          clear b5 b7 HW
          obtain ⟨rfl, rfl, HW⟩ := hrel
          obtain ⟨-, b5, b7⟩ := HZ.out _ HW.out
          go_wp2
          go_ret
          exact (HZ.out _ HW.out).1
end Go.Proofs.YtaomhkgdbobpkaaGreatDoor
