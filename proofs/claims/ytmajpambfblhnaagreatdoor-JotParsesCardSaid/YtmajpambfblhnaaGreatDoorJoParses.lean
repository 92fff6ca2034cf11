/- JotParses holds of the given program: for any two texts, where the library's tables are as its text lays them, the law's call returns true and its arguments read as before: Parse answers as the document says, and the lists of what comes out are their owners' own. Conditions: none but what the given row itself lists. -/
import Derived.Test.YtmajpambfblhnaaGreatDoorJoRowKit
import Derived.Test.YtmajpambfblhnaaGreatDoorJoW5
import Derived.Deep.RegionHeld3
namespace Go.Proofs.YtmajpambfblhnaaGreatDoor.jotParses
open Go.ChangeShapes Go.WideShapes Go.ChangeAt Go.RowKit Go.WideMaps Go.WideElems Jo
open Go.ChangeMaps (open_string shut_string)

theorem rowJ_own {B : Nat} {iv : Value} {xs : List J} {us : List Value} {fss : List (List Nat)} {w : World} (hu : us.length = xs.length) (hi : w.ownsRow B 25 5 iv xs.length (jotCells us)) (h : ∀ (j : Nat) x, xs[j]? = some x → JOwn w x (us.getD j .nilIface) (fss.getD j [])) :
    RowJ (fun _ => True) w iv xs.length (fun j => us.getD j .nilIface) := by
  have hmem : ∀ (j : Nat) x, xs[j]? = some x → us[j]? = some (us.getD j .nilIface) := fun j x hx => by
    have hj : j < xs.length := (List.getElem?_eq_some_iff.1 hx).1
    rw [List.getD_eq_getElem?_getD, List.getElem?_eq_getElem (by omega)]; rfl
  have h5 : ∀ u ∈ us, u.cells.size = 5 := by
    intro u hu2
    obtain ⟨j, hj, rfl⟩ := List.getElem_of_mem hu2
    have := (h j (xs[j]'(by omega)) (List.getElem?_eq_getElem _)).five
    rwa [List.getD_eq_getElem?_getD, List.getElem?_eq_getElem hj] at this
  rcases ownsRow_view hi with ⟨rfl, h0⟩ | ⟨b, cap, rfl, h1, h2, h3, h4⟩
  · exact .inl ⟨_, _, rfl, h0⟩
  · refine .inr ⟨b, 0, cap, rfl, h1, trivial, h3, fun j hj => ?_⟩
    have hx := List.getElem?_eq_getElem hj
    obtain ⟨na, nl, nc, ia, il, ic, e⟩ := (h j _ hx).form2
    refine ⟨_, _, _, na, nl, nc, ia, il, ic, e, ?_⟩
    have hc := fun i hi => jotCells_at us h5 j _ (hmem j _ hx) i hi
    rw [e] at hc
    rw [Nat.zero_add]
    exact ⟨h4 _ _ (hc 0 (by omega)), h4 _ _ (hc 1 (by omega)), h4 _ _ (hc 2 (by omega)), h4 _ _ (hc 3 (by omega)), h4 _ _ (hc 4 (by omega))⟩
theorem jown_all {w w' : World} {x : J} {v : Value} {fp : List Nat} (h : JOwn w x v fp) (hk : Kept (fun _ => True) w w') : JOwn w' x v fp := h.kept hk.size fun b hb => hk.block b (h.lt b hb) trivial
/-- The texts that are asked, and what is read of them. -/
def asked (s other : List UInt8) : List (List UInt8) := [s, s, other, s]
def said4 (s other : List UInt8) : List J := (asked s other).map fun t => (parseP t).1
def AskAt (A : Nat) (s other : List UInt8) (w : World) : Prop := w.heap[A]? = some (.cells #[S s, S s, S other, S s] 9 (0, 0))
theorem AskAt.at {A : Nat} {s other : List UInt8} {w : World} (h : AskAt A s other w) {i : Nat} (hi : i < 4) : ∃ t, (asked s other)[i]? = some t ∧ (t = s ∨ t = other) ∧ w.cell? ⟨A, i, none⟩ = some (S t) ∧ (said4 s other)[i]? = some (parseP t).1 := by
  unfold AskAt at h
  have hc : ∀ i, w.cell? ⟨A, i, none⟩ = #[S s, S s, S other, S s][i]? := fun i => by rw [cell_of_row w A _ _ _ (0, 0) h]
  match i, hi with
  | 0, _ => exact ⟨s, rfl, .inl rfl, hc 0, rfl⟩
  | 1, _ => exact ⟨s, rfl, .inl rfl, hc 1, rfl⟩
  | 2, _ => exact ⟨other, rfl, .inr rfl, hc 2, rfl⟩
  | 3, _ => exact ⟨s, rfl, .inl rfl, hc 3, rfl⟩
theorem AskAt.kept {A : Nat} {s other : List UInt8} {w w' : World} {ok : Nat → Prop} (h : AskAt A s other w) (hk : Kept ok w w') (ho : ok A) : AskAt A s other w' := (hk.block A (Array.getElem?_eq_some_iff.1 h).1 ho).trans h

set_option maxHeartbeats 32000000 in
set_option maxRecDepth 100000 in
theorem law (s other : List UInt8) (w : World) (hE : JE w.heap.size w) (hs : s.length ≤ maxLen) (ho : other.length ≤ maxLen) :
    Calls Tryz.prog 4 #[S s, S other] w fun e w' => e = .returned (.bool true) ∧ Kept (fun _ => True) w w' := by
  have K := Lib.hid (known_any w hE)
  have HML : Hid (∀ t, t = s ∨ t = other → t.length ≤ maxLen) := Lib.hid fun t ht => by
    rcases ht with rfl | rfl
    · exact hs
    · exact ho
  clear hE hs ho
  go_enter Tryz.func4, Tryz.ntmps4
  go_wp2_with fail
  refine K.out.mono ?_
  rintro e w1 ⟨rfl, hk1⟩
  obtain ⟨A, hA⟩ : ∃ A, w1.heap.size = A := ⟨_, rfl⟩
  obtain ⟨W1, hW1⟩ : ∃ W1, w1.alloc (.cells #[S s, S s, S other, S s] 9) = W1 := ⟨_, rfl⟩
  have hkW1 : Kept (fun _ => True) w W1 := hk1.tr (by rw [← hW1]; exact (Kept.refl _ _).alloc _)
  have hask : AskAt A s other W1 := by rw [← hW1, ← hA]; exact heap_alloc_new w1 _
  have hzA : W1.heap.size = A + 1 := by rw [← hW1, ← hA]; simp
  have HA := Lib.hid hA
  have HW1 := Lib.hid hW1
  have HZA := Lib.hid hzA
  have HASK := Lib.hid hask
  have HK1 := Lib.hid hkW1
  have HwA : w.heap.size ≤ A := by have := hk1.size; omega
  clear hA hW1 hkW1 hask hzA hk1 K
  go_wp2_with fail
  rw [HW1.out, HA.out]
  go_loopg [7, 8] 4 (fun q lv iv wr => ∃ i : Nat, iv = .int .i64 i ∧ q = 4 - i ∧ i ≤ 4 ∧ Hid (OwnJ (A + 1) none lv ((said4 s other).take i) wr) ∧ Hid (AskAt A s other wr) ∧ Hid (Kept (fun _ => True) w wr) ∧ A + 1 ≤ wr.heap.size)
  case atStart => exact ⟨0, rfl, rfl, by omega, Lib.hid (OwnJ.nil _ _ _), HASK, HK1, by have := HZA.out; omega⟩
  case round =>
    clear HASK HK1 HW1 HZA HA
    rename_i lv iv
    obtain ⟨i, rfl, rfl, hi, HO, HASK, HK, hz⟩ := hrel
    obtain ⟨la, ll, lc, rfl⟩ := HO.out.slice
    by_cases hlt : i < 4
    · obtain ⟨t, ht1, ht2, c0, ht3⟩ := HASK.out.at hlt
      have hml := HML.out t ht2
      obtain ⟨X, E, P, hP⟩ : ∃ X E P, parseP t = (X, E, P) := ⟨_, _, _, rfl⟩
      have hfin := parse_fine t
      rw [hP] at hfin ht3
      have RP := Lib.hid (fun w => refParse_any t w hml)
      have PP := Lib.hid (fun w => Parse_any t w hml)
      rw [hP] at RP PP
      simp only at ht3 hfin
      have HTK : Hid ((said4 s other).take (i + 1) = (said4 s other).take i ++ [X] ∧ ((said4 s other).take i).length = i) := Lib.hid ⟨by rw [List.take_add_one, ht3]; rfl, by rw [List.length_take]; simp [said4, asked]; omega⟩
      have HFI := Lib.hid hfin
      have hi0 : (0 : Int) ≤ (i : Int) := by omega
      have hi1 : (i : Int) < 4 := by omega
      clear ht1 ht2 ht3 hml hP hfin
      go_wp2_with fail
      refine (RP.out _).mono ?_
      rintro e w2 ⟨⟨v, rfl, hj⟩, hk2⟩
      obtain ⟨na, nl, nc, ia, il, ic, rfl⟩ := hj.form
      obtain ⟨W2, hW2⟩ : ∃ W2, w2.alloc (.cells #[.int .i64 X.kind, .int .i64 X.num, S X.text, .slice na nl nc, .slice ia il ic] 25) = W2 := ⟨_, rfl⟩
      have hkW2 : Kept (fun _ => True) w2 W2 := by rw [← hW2]; exact (Kept.refl _ _).alloc _
      have HBX : Hid (OutAt w2.heap.size X.kind X.num X.text (.slice na nl nc) (.slice ia il ic) W2) := Lib.hid (by rw [← hW2]; exact OutAt.new w2 _ _ _ _ _)
      have HJ : Hid (JIn (fun _ => True) W2 X (jotV X.kind X.num X.text (.slice na nl nc) (.slice ia il ic))) := Lib.hid ((hj.mono (ok2 := fun _ => True) fun _ _ _ => trivial).kept hkW2 fun _ _ _ => trivial)
      have HK2 : Hid (Kept (fun _ => True) wr W2) := Lib.hid (hk2.tr hkW2)
      have hz2 : w2.heap.size < W2.heap.size := by rw [← hW2]; simp
      have hc0 : W2.cell? ⟨A, i, none⟩ = some (S t) := (HK2.out.cell (by omega) trivial).trans c0
      clear hj hk2 hkW2 c0
      go_wp2_with fail
      refine (PP.out _).mono ?_
      rintro e w3 ⟨⟨v3, fp, rfl, hown, hnd, hfp⟩, hk3⟩
      obtain ⟨na3, nl3, nc3, ia3, il3, ic3, rfl⟩ := hown.form2
      obtain ⟨W3, hW3⟩ : ∃ W3, w3.alloc (.cells #[.int .i64 X.kind, .int .i64 X.num, S X.text, .slice na3 nl3 nc3, .slice ia3 il3 ic3] 25) = W3 := ⟨_, rfl⟩
      have hkW3 : Kept (fun _ => True) w3 W3 := by rw [← hW3]; exact (Kept.refl _ _).alloc _
      have HBX3 : Hid (OutAt w3.heap.size X.kind X.num X.text (.slice na3 nl3 nc3) (.slice ia3 il3 ic3) W3) := Lib.hid (by rw [← hW3]; exact OutAt.new w3 _ _ _ _ _)
      have hk23 : Kept (fun _ => True) W2 W3 := hk3.tr hkW3
      have HOWN : Hid (JOwn W3 X (jotV X.kind X.num X.text (.slice na3 nl3 nc3) (.slice ia3 il3 ic3)) fp ∧ fp.Nodup ∧ ∀ b ∈ fp, wr.heap.size ≤ b) := Lib.hid ⟨jown_all hown hkW3, hnd, fun b hb => by have := hfp b hb; have := HK2.out.size; omega⟩
      have HBX2 := Lib.hid (HBX.out.kept hk23 trivial)
      have HJ2 := Lib.hid (HJ.out.kept hk23 fun _ _ _ => trivial)
      have HK3 := Lib.hid (HK2.out.tr hk23)
      have SM := Lib.hid (refsame_any X X _ _ (fun _ => True) W3 (HOWN.out.1.toIn HFI.out.1 _ fun _ _ => trivial) HJ2.out)
      obtain ⟨o0, o1, o2, o3, o4, o5, o6⟩ := HBX2.out.facts
      obtain ⟨p0, p1, p2, p3, p4, p5, p6⟩ := HBX3.out.facts
      clear hown hnd hfp hk3 hkW3 hk23 HBX HJ HK2 hc0 hW2
      go_wp2_with fail
      refine SM.out.mono ?_
      rintro e w4 ⟨⟨q, rfl, hq⟩, hk4⟩
      obtain rfl : q = true := by simpa using hq
      have hz4 := hk4.size
      have hz3 := HK3.out.size
      have HBX4 := Lib.hid (HBX3.out.kept hk4 trivial)
      have HK4 := Lib.hid (HK3.out.tr hk4)
      have HOWN4 : Hid (JOwn w4 X (jotV X.kind X.num X.text (.slice na3 nl3 nc3) (.slice ia3 il3 ic3)) fp ∧ fp.Nodup ∧ ∀ b ∈ fp, wr.heap.size ≤ b) := Lib.hid ⟨jown_all HOWN.out.1 hk4, HOWN.out.2⟩
      obtain ⟨us, fss, q1, q2, q3, q4, q5, q6⟩ := HO.out
      have HQ := Lib.hid (And.intro q1 (And.intro q2 (And.intro (ownsRow_kept q3 HK4.out fun _ _ => trivial) (And.intro (jown_kept q2 q4 HK4.out.size fun b hb => HK4.out.block b (mem_flat_lt q2 q4 b hb) trivial) (And.intro q5 (And.intro q6 (And.intro (mem_flat_lt q2 q4) fun b hb => (q3.lt b hb).2)))))))
      have hE2 : ((E : Int) != E) = false := by simp
      have hP2 : ((P : Int) != (P : Int)) = false := by simp
      clear hW3 q1 q2 q3 q4 q5 q6 hq hk4 SM HBX3 HBX2 HJ2 HK3 HOWN HO o0 o1 o2 o3 o4 o5 o6 p0 p1 p2 p3 p4 p5 p6
      obtain ⟨p0, p1, p2, p3, p4, p5, p6⟩ := HBX4.out.facts
      go_wp2_with (at_builtin; refine wpList_pushOne' 23 25 Tryz.underlying23 infoJot rfl (by decide) rfl _ _ rfl (A + 1) (.slice la ll lc) ((said4 s other).take i).length (jotCells us) (jotV X.kind X.num X.text (.slice na3 nl3 nc3) (.slice ia3 il3 ic3)).cells.toList w4 _ rfl rfl rfl HOWN4.out.1.ones 1 _ rfl rfl rfl HQ.out.2.2.1 (by have := HTK.out.2; omega) (by decide) (by omega) ?_)
      intro v5 w5 k1 k2 k3
      have HO5 : Hid (OwnJ (A + 1) none v5 ((said4 s other).take (i + 1)) w5) := Lib.hid (by
        rw [HTK.out.1]
        obtain ⟨q1, q2, q3, q4, q5, q6, q7, q8⟩ := HQ.out
        exact ownJ_push q1 q2 q4 q5 q6 HOWN4.out.1 HOWN4.out.2.1 (fun b hb => ⟨by have := HOWN4.out.2.2 b hb; omega, fun e => by have := HOWN4.out.2.2 b hb; have := q8 b e.symm; omega, by simp, fun hm => by have := HOWN4.out.2.2 b hb; have := q7 b hm; omega⟩) (by rw [List.length_take]; exact k1) k3)
      have HK5 : Hid (Kept (fun _ => True) w w5) := Lib.hid ((HK.out.tr HK4.out).trans (k3.keptK k2) fun b hb _ e => by
        have := (HQ.out.2.2.1.lt b e.symm).1
        omega)
      have HASK5 : Hid (AskAt A s other w5) := Lib.hid ((HASK.out.kept HK4.out trivial).kept (k3.keptK k2) fun e => by
        have := (HQ.out.2.2.1.lt A e.symm).1
        omega)
      have hz5 := k2.size
      clear k1 k2 k3 HQ HOWN4 HBX4 p0 p1 p2 p3 p4 p5 p6
      go_wp2
      go_roundg (4 - (i + 1))
      case rel => exact ⟨i + 1, by go_num, rfl, by omega, HO5, HASK5, HK5, by omega⟩
      case measure => omega
    · obtain rfl : i = 4 := by omega
      obtain ⟨us0, fss, q1, q2, q3, q4, q5, q6⟩ := HO.out
      have hX4 : (said4 s other).take 4 = said4 s other := List.take_of_length_le (by simp [said4, asked])
      have hXl : (said4 s other).length = 4 := by simp [said4, asked]
      rw [hX4] at q1 q2 q3 q4
      rw [hXl] at q1 q2 q3
      obtain ⟨gb, hgb⟩ : ∃ gb, wr.heap.size = gb := ⟨_, rfl⟩
      obtain ⟨W6, hW6⟩ : ∃ W6, wr.alloc (.cells #[.slice none 0 0, .slice none 0 0] 32) = W6 := ⟨_, rfl⟩
      have hkW6 : Kept (fun _ => True) wr W6 := by rw [← hW6]; exact (Kept.refl _ _).alloc _
      have hbk : BookG gb gb (.slice none 0 0) (.slice none 0 0) [] [] W6 := by rw [← hW6, ← hgb]; exact bookG_new wr
      have hrow := rowJ_own (by rw [q1, hXl]) (ownsRow_kept (by rw [hXl]; exact q3) hkW6 fun _ _ => trivial) (jown_kept (by rw [q2, hXl]) q4 hkW6.size fun b hb => hkW6.block b (mem_flat_lt (by rw [q2, hXl]) q4 b hb) trivial)
      rw [hXl] at hrow
      obtain ⟨la', lc', hla⟩ := hrow.slice
      obtain ⟨rfl, rfl, rfl⟩ : la = la' ∧ ll = 4 ∧ lc = lc' := by simpa using hla
      have HQ := Lib.hid (And.intro q1 (And.intro q2 (And.intro (ownsRow_kept q3 hkW6 fun _ _ => trivial) (And.intro (jown_kept (by rw [q2, hXl]) q4 hkW6.size fun b hb => hkW6.block b (mem_flat_lt (by rw [q2, hXl]) q4 b hb) trivial) q5))))
      have HFB : Hid (∀ b ∈ fss.flatten, A + 1 ≤ b) := Lib.hid fun b hb => (q6 b hb).1
      have HROW := Lib.hid hrow
      have HASK6 := Lib.hid (HASK.out.kept hkW6 trivial)
      have HK6 := Lib.hid (HK.out.tr hkW6)
      have HBK := Lib.hid hbk
      have HW6 := Lib.hid hW6
      have HGB := Lib.hid hgb
      have hgz : gb < W6.heap.size := by rw [← hW6, ← hgb]; simp
      have hAg : A < gb := by omega
      clear q1 q2 q3 q4 q5 q6 hX4 hXl hgb hkW6 hbk hrow hla hW6 HO HASK HK
      go_wp2_with fail
      rw [HW6.out, HGB.out]
      go_loopg [17] 4 (fun q iv wx => ∃ (i : Nat) (us vs : List Value), iv = .int .i64 i ∧ q = 4 - i ∧ i ≤ 4 ∧ Hid (∃ bn bi, BookG gb gb bn bi us vs wx) ∧ Hid (Gd wx ((fss.take i).flatten) us vs ∧ us.length ≤ 4000 * i ∧ vs.length ≤ 4000 * i) ∧ Hid (Kept (FB gb W6) W6 wx))
      case atStart => exact ⟨0, [], [], rfl, rfl, by omega, Lib.hid ⟨_, _, HBK.out⟩, Lib.hid ⟨Gd.nil _ _, by simp, by simp⟩, Lib.hid (Kept.refl _ _)⟩
      case round =>
        clear HBK HW6 HGB
        obtain ⟨i, us, vs, rfl, rfl, hi, HBK, HG, HKB⟩ := hrel
        have HASKr := Lib.hid (HASK6.out.kept HKB.out (.str HASK6.out))
        have hzr := HKB.out.size
        by_cases hlt : i < 4
        · obtain ⟨t, ht1, ht2, c0, ht3⟩ := HASKr.out.at hlt
          have hml := HML.out t ht2
          obtain ⟨X, E, P, hP⟩ : ∃ X E P, parseP t = (X, E, P) := ⟨_, _, _, rfl⟩
          have hfin := parse_fine t
          rw [hP] at hfin ht3
          have RP := Lib.hid (fun w => refParse_any t w hml)
          rw [hP] at RP
          simp only at ht3 hfin
          have HFI := Lib.hid hfin
          obtain ⟨fs, hfs⟩ : ∃ fs, fss[i]? = some fs := ⟨fss[i]'(by have := HQ.out.2.1; omega), List.getElem?_eq_getElem _⟩
          have hfd : fss.getD i [] = fs := by rw [List.getD_eq_getElem?_getD, hfs]; rfl
          have hown := (HQ.out.2.2.2.1 i X ht3).keptFB HKB.out
          rw [hfd] at hown
          have htf : (fss.take (i + 1)).flatten = (fss.take i).flatten ++ fs := by rw [List.take_add_one, hfs]; simp
          have hnd : ((fss.take i).flatten ++ fs).Nodup := by
            rw [← htf]
            have h := HQ.out.2.2.2.2
            rw [← List.take_append_drop (i + 1) fss, List.flatten_append] at h
            exact (List.nodup_append.1 h).1
          obtain ⟨hnda, hndb, hndc⟩ := List.nodup_append.1 hnd
          have HND := Lib.hid (And.intro htf (And.intro hndb hndc))
          obtain ⟨b, off, rfl, hb, -, -, kx, nx, tx, nax, nlx, ncx, iax, ilx, icx, e1, e2, e3, e4, e5, e6⟩ := HROW.out.at hlt
          have hbt : ∃ c, W6.heap[b]? = some (.cells c 25 (0, 0)) := by
            obtain ⟨hr1, hr2, hr3, hr4⟩ := HQ.out
            exact ownsRow_typ hr3 (g := b) rfl
          obtain ⟨cc, hcc⟩ := hbt
          have hcf : ∀ o v, W6.cell? ⟨b, o, none⟩ = some v → wr.cell? ⟨b, o, none⟩ = some v := fun o v hv => (HKB.out.cell hb (.jot hcc)).trans hv
          have r0 := hcf _ _ e2
          have r1 := hcf _ _ e3
          have r2 := hcf _ _ e4
          have r3 := hcf _ _ e5
          have r4 := hcf _ _ e6
          rw [e1] at hown
          have HOWN := Lib.hid hown
          have HR5 := Lib.hid (And.intro r0 (And.intro r1 (And.intro r2 (And.intro r3 r4))))
          have hbr : b < wr.heap.size := by omega
          have hi0 : (0 : Int) ≤ (i : Int) := by omega
          have hi1 : (i : Int) < 4 := by omega
          clear ht1 ht2 ht3 hml hP hfin hfs hfd hown htf hnd hnda hndb hndc e1 e2 e3 e4 e5 e6 hcc hcf r0 r1 r2 r3 r4
          go_wp2_with fail
          refine (RP.out _).mono ?_
          rintro e w2 ⟨⟨v, rfl, hj⟩, hk2⟩
          obtain ⟨na, nl, nc, ia, il, ic, rfl⟩ := hj.form
          obtain ⟨W2, hW2⟩ : ∃ W2, w2.alloc (.cells #[.int .i64 X.kind, .int .i64 X.num, S X.text, .slice na nl nc, .slice ia il ic] 25) = W2 := ⟨_, rfl⟩
          have hkW2 : Kept (fun _ => True) w2 W2 := by rw [← hW2]; exact (Kept.refl _ _).alloc _
          have HBX : Hid (OutAt w2.heap.size X.kind X.num X.text (.slice na nl nc) (.slice ia il ic) W2) := Lib.hid (by rw [← hW2]; exact OutAt.new w2 _ _ _ _ _)
          have HJ : Hid (JIn (fun _ => True) W2 X (jotV X.kind X.num X.text (.slice na nl nc) (.slice ia il ic))) := Lib.hid ((hj.mono (ok2 := fun _ => True) fun _ _ _ => trivial).kept hkW2 fun _ _ _ => trivial)
          have hk02 : Kept (fun _ => True) wr W2 := hk2.tr hkW2
          have HK2 := Lib.hid hk02
          have HOWN2 := Lib.hid (jown_all HOWN.out hk02)
          have SM := Lib.hid (fun (W : World) (hk : Kept (fun _ => True) W2 W) => refsame_any X X _ _ (fun _ => True) W ((jown_all HOWN2.out hk).toIn HFI.out.1 _ fun _ _ => trivial) (HJ.out.kept hk fun _ _ _ => trivial))
          have hcf : ∀ o v, wr.cell? ⟨b, o, none⟩ = some v → W2.cell? ⟨b, o, none⟩ = some v := fun o v hv => (hk02.cell hbr trivial).trans hv
          have r0 := hcf _ _ HR5.out.1
          have r1 := hcf _ _ HR5.out.2.1
          have r2 := hcf _ _ HR5.out.2.2.1
          have r3 := hcf _ _ HR5.out.2.2.2.1
          have r4 := hcf _ _ HR5.out.2.2.2.2
          obtain ⟨o0, o1, o2, o3, o4, o5, o6⟩ := HBX.out.facts
          have hb2 : b < W2.heap.size := by have := hk02.size; omega
          clear hj hk2 hkW2 hk02 c0 hcf
          go_wp2_with fail
          go_region_held3 (fun wz => wz.cell? ⟨b, off + i * 5, none⟩ = some (.int .i64 kx) ∧ wz.cell? ⟨b, off + i * 5 + 1, none⟩ = some (.int .i64 nx) ∧ wz.cell? ⟨b, off + i * 5 + 2, none⟩ = some (S tx) ∧ wz.cell? ⟨b, off + i * 5 + 3, none⟩ = some (.slice nax nlx ncx) ∧ wz.cell? ⟨b, off + i * 5 + 4, none⟩ = some (.slice iax ilx icx) ∧
              wz.cell? ⟨w2.heap.size, 0, none⟩ = some (.int .i64 X.kind) ∧ wz.cell? ⟨w2.heap.size, 1, none⟩ = some (.int .i64 X.num) ∧ wz.cell? ⟨w2.heap.size, 2, none⟩ = some (S X.text) ∧ wz.cell? ⟨w2.heap.size, 3, none⟩ = some (.slice na nl nc) ∧ wz.cell? ⟨w2.heap.size, 4, none⟩ = some (.slice ia il ic)) (go_keep)
            (first
              | (go_at_call 13; (with_reducible refine (SM.out _ ((Kept.refl _ W2).drew)).mono ?_); rintro e w4 ⟨⟨q, rfl, hq⟩, hk4⟩; obtain rfl : q = true := (by simpa using hq); have t0 := hk4.drewCell r0; have t1 := hk4.drewCell r1; have t2 := hk4.drewCell r2; have t3 := hk4.drewCell r3; have t4 := hk4.drewCell r4; have s0 := hk4.drewCell o0; have s1 := hk4.drewCell o1; have s2 := hk4.drewCell o2; have s3 := hk4.drewCell o3; have s4 := hk4.drewCell o4; have HK24 := Lib.hid hk4; clear hk4 hq))
          have hk04 : Kept (fun _ => True) wr w4 := HK2.out.tr (((Kept.refl _ W2).drew).tr HK24.out)
          clear s0 s1 s2 s3 s4 r0 r1 r2 r3 r4 o0 o1 o2 o3 o4 o5 o6
          obtain ⟨bn, bi, hbk⟩ := HBK.out
          have GA := Lib.hid (gather_any X _ fs gb gb us vs bn bi w4 (jown_all HOWN.out hk04) HND.out.2.1 HFI.out.2.1 (hbk.keptT hk04) (by have := HG.out.2.1; have := HFI.out.2.2; omega) (by have := HG.out.2.2; have := HFI.out.2.2; omega))
          have HK4 := Lib.hid hk04
          clear hbk hk04 SM hW2
          go_wp2_with fail
          refine GA.out.mono ?_
          rintro e w5 ⟨rfl, bn2, bi2, us2, vs2, hB5, hk5, hg5, hl1, hl2⟩
          have HKF : Hid (Kept (FB gb wr) wr w5) := Lib.hid (KeptFB.trans (KeptFB.all HK4.out) hk5)
          have HB5 := Lib.hid hB5
          have HG5 := Lib.hid (And.intro hg5 (And.intro hl1 hl2))
          clear hB5 hk5 hg5 hl1 hl2 t0 t1 t2 t3 t4 GA
          go_wp2
          go_roundg (4 - (i + 1))
          case rel =>
            refine ⟨i + 1, us ++ us2, vs ++ vs2, by go_num, rfl, by omega, Lib.hid ⟨_, _, HB5.out⟩, Lib.hid ⟨?_, ?_, ?_⟩, Lib.hid (KeptFB.trans HKB.out HKF.out)⟩
            · rw [HND.out.1]
              exact (HG.out.1.keptFB HKF.out).app HG5.out.1 fun b hb hb2 => HND.out.2.2 b hb b hb2 rfl
            · rw [List.length_append]; have := HG.out.2.1; have := HG5.out.2.1; have := HFI.out.2.2; omega
            · rw [List.length_append]; have := HG.out.2.2; have := HG5.out.2.2; have := HFI.out.2.2; omega
          case measure => omega
        · obtain rfl : i = 4 := by omega
          obtain ⟨bn, bi, hbk⟩ := HBK.out
          obtain ⟨hg, hl1, hl2⟩ := HG.out
          obtain ⟨lu, hlu1, hlu2⟩ := lens_of hg.un
          obtain ⟨lw, hlw1, hlw2⟩ := lens_of hg.vn
          have OW := Lib.hid (owned_any gb gb bn bi us vs wr lu lw hbk (by omega) (by omega) hlu1 hlw1 hlu2 hlw2 (apart_of us hg.ud) (apart_of vs hg.vd))
          have HUF : Hid ((∀ b ∈ blks us, A + 1 ≤ b) ∧ ∀ b ∈ blks vs, A + 1 ≤ b) := Lib.hid (by
            have h4 : ∀ b ∈ (fss.take 4).flatten, A + 1 ≤ b := fun b hb => HFB.out b (by
              obtain ⟨l, hl, hb⟩ := List.mem_flatten.1 hb
              exact List.mem_flatten.2 ⟨l, List.mem_of_mem_take hl, hb⟩)
            exact ⟨fun b hb => h4 b (hg.uf b hb), fun b hb => h4 b (hg.vf b hb)⟩)
          clear hbk hg hl1 hl2 hlu1 hlu2 hlw1 hlw2
          go_wp2_with fail
          refine OW.out.mono ?_
          rintro e w5 ⟨rfl, hk5⟩
          go_wp2
          go_ret
          exact ⟨rfl, (HK6.out.trans HKB.out fun b hb _ => .inl (by omega)).trans hk5 fun b hb _ => ⟨fun hm => by have := HUF.out.1 b hm; omega, fun hm => by have := HUF.out.2 b hm; omega⟩⟩

set_option maxRecDepth 100000 in
theorem contract (H : Type) (enc : TypeId × Value → H) (W : World) (base : Nat) (args : Array Value) (ds gs : List (DataW H)) (before : List MemPlace)
    (hval : ∀ (j : Nat) t v, Tryz.f4.params[j]? = some t → args[j]? = some v → Value.okWide Tryz.prog W .any base t v)
    (hW : DataW.Whole enc Tryz.prog Tryz.f4.params.toList Rows.jotParsesSpec.vars false W args.toList ds gs before) (hL : laidMetH Tryz.prog Rows.jotParsesRow.laid W) :
    Calls Tryz.prog 4 args W fun e W' => ∃ v, e = .returned v ∧ Rows.jotParsesSpec.post enc Tryz.prog Tryz.f4 false true false false W args v W' := by
  have hE : JE W.heap.size W := env_of hL
  have hW' := hW
  obtain ⟨p, q, hA0, hV, rfl, hfz, hnd⟩ := hW
  have hA : DataW.TrodAll enc Tryz.prog W 0 (fun _ => true) true Tryz.f4.params.toList args.toList ds p := hA0
  rw [Tryz.params4] at hA hval
  obtain ⟨v0, v1, d0, d1, p0, p1, hargs, rfl, rfl, h0, h1⟩ := trodAll_two hA
  obtain rfl : args = #[v0, v1] := by cases args; simp_all
  obtain ⟨rfl, rfl⟩ := trodVars_none hV
  obtain ⟨s, rfl, rfl, rfl, hs⟩ := open_string Tryz.underlying9 (hval 0 9 v0 rfl rfl) h0
  obtain ⟨s1, rfl, rfl, rfl, hs1⟩ := open_string Tryz.underlying9 (hval 1 9 v1 rfl rfl) h1
  clear hA0
  simp only [List.append_nil] at hW'
  obtain ⟨⟨ls⟩⟩ := s
  obtain ⟨⟨lt⟩⟩ := s1
  refine (law ls lt W hE (by simpa [size_mk] using hs) (by simpa [size_mk] using hs1)).mono fun e W' ⟨he, hk⟩ => ?_
  subst he
  exact ⟨_, rfl, post_of_below (pa := []) (pv := []) hW' (fun _ _ _ => trodAll_mk1 (shut_bool Tryz.underlying4 _)) (fun _ _ => trodAll_mk2 (shut_string Tryz.underlying9 hs) (shut_string Tryz.underlying9 hs1)) (fun _ _ => rfl) rfl
    hk.toBelow (ok_one (by kernel_rfl) rfl (okWide_bool_mk Tryz.underlying4 _))⟩

theorem reads (os : Os) {H : Type} (enc : TypeId × Value → H) : ∃ places, DataW.whole enc Tryz.prog ((laidWorld os).forCall (fun _ _ => 0) ⟨#[], #[S [], S []], []⟩).memory Tryz.f4.params.toList Rows.jotParsesSpec.vars false #[S [], S []].toList 8 = some ([.lit (.string []), .lit (.string [])], [], places) :=
  ⟨[], by kernel_rfl⟩
set_option maxRecDepth 100000 in
theorem lifted (os : Os) (started : os.Started) (H : Type) (enc : TypeId × Value → H) (F : Stop.Interp) :
    ReturnsInHanded {} Tryz.checked os 4 .any ((OpenSpec.ofChange Rows.jotParsesSpec).preRow enc Tryz.prog Tryz.f4 Rows.jotParsesRow.domain false Rows.jotParsesRow.laid) (((OpenSpec.ofChange Rows.jotParsesSpec).at F).post enc Tryz.prog Tryz.f4 false true false false) := by
  obtain ⟨places, hx⟩ := reads os enc
  refine returnsInHanded_of_row (C := Tryz.checked) (s := OpenSpec.ofChange Rows.jotParsesSpec) own started (by kernel_rfl) Tryz.func4
    (witness_row (enc := enc) (C := Tryz.checked) (laidWorld os) #[S [], S []] (World.laidAll_os _ _ _) (World.shaped_of_ZipB (by kernel_rfl) (by kernel_rfl)) (by kernel_rfl)
      (OpenSpec.preRow_of_cond 8 hx (by kernel_rfl) (fun k hk => by cases hk) (by kernel_rfl) (laid_met os _))) ?_
  intro W base args ds gs before hval hW _ _ _ hL _ _
  exact contract H enc W base args ds gs before hval hW hL

theorem said : Rows.JotParsesSaid :=
  OpenClaim.holds_of_cond 4 Tryz.f4 rfl rfl rfl rfl rfl rfl rfl ⟨rfl, rfl, rfl, rfl, rfl⟩ rfl rfl rfl rfl rfl (by kernel_rfl) Tryz.func4 (by kernel_rfl)
    (of_decide_eq_true (by kernel_rfl)) (by unfold Func.isWrapper; first | (rw [if_pos (by decide +kernel)]; kernel_rfl) | (rw [if_neg (by decide +kernel)]; exact ⟨rfl, rfl⟩))
    (fun os started H enc _ F => by rw [OpenClaim.pre_eq_preRow]; exact lifted os started H enc F)

theorem plain (f : FuncId) (fn : Func) (hf : Tryz.pinned.checked.prog.funcNamed "latchkey/latchkeylaw04.JotParses" = some f) (hfn : Tryz.pinned.checked.prog.funcs[f]? = some fn) :
    true = Tryz.pinned.checked.prog.looks [] ∧ ∀ (j : Nat) t, fn.params[j]? = some t → Tryz.pinned.checked.prog.wantsStandIn t = false := by
  obtain rfl : f = 4 := Option.some.inj ((show Tryz.prog.funcNamed "latchkey/latchkeylaw04.JotParses" = some 4 by kernel_rfl).symm.trans hf) |>.symm
  obtain rfl : fn = Tryz.f4 := (Option.some.inj (Tryz.func4.symm.trans hfn)).symm
  refine ⟨by kernel_rfl, fun j t ht => ?_⟩
  rw [Tryz.params4] at ht
  have hm : t ∈ [9] := by have := Array.mem_of_getElem? ht; simpa using this
  have hall : ([9].all fun u => !Tryz.prog.wantsStandIn u) = true := by kernel_rfl
  exact (show Tryz.prog.wantsStandIn t = false by simpa using List.all_eq_true.1 hall t hm)

theorem card : Rows.JotParsesCardSaid :=
  Claim7.holds_tied_plain_at .later [] _ _ _ _ said (fun _ h => by cases h) (by kernel_rfl) (fun _ h => by cases h) jotParses_row_tie rfl ⟨rfl, rfl⟩ (by kernel_rfl) rfl plain (by kernel_rfl)
end Go.Proofs.YtmajpambfblhnaaGreatDoor.jotParses
