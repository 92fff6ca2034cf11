/- JotSays holds of the given program where what it reads is of bulk at most 1048576: for every value and every row of raw numbers, where the library's tables are as its text lays them, the law's call returns true and its arguments read as before: whatever text says the value, jot's Parse takes it as that value, and none is shorter than the printed one. Conditions: none but what the given row itself lists. -/
import Derived.Test.YtmajpambfblhnaaGreatDoorJoRowKit2
import Derived.Test.YtmajpambfblhnaaGreatDoorJoSA
import Derived.Test.YtmajpambfblhnaaGreatDoorJoSB
import Derived.Test.YtmajpambfblhnaaGreatDoorJoSC
import Derived.Test.YtmajpambfblhnaaGreatDoorJoSame
import Derived.Test.YtmajpambfblhnaaGreatDoorJoM5
namespace Go.Proofs.YtmajpambfblhnaaGreatDoor
open Go.ChangeShapes Go.WideShapes Go.ChangeAt Go.RowKit Go.Deep Jo

/-- Raw numbers that lie at ra. -/
def RawIn (ra : Option Addr) (rl : Nat) (w : World) : Prop := rl ≤ 9223372036854775807 ∧ ∀ j, j < rl → ∃ b off z, ra = some ⟨b, off, none⟩ ∧ b < w.heap.size ∧ w.cell? ⟨b, off + j, none⟩ = some (.int .i64 z) ∧ -9223372036854775808 ≤ z ∧ z ≤ 9223372036854775807
theorem RawIn.kept {ra : Option Addr} {rl : Nat} {w w' : World} (h : RawIn ra rl w) (hk : Kept (fun _ => True) w w') : RawIn ra rl w' :=
  ⟨h.1, fun j hj => by
    obtain ⟨b, off, z, h1, h2, h3, h4⟩ := h.2 j hj
    exact ⟨b, off, z, h1, by have := hk.size; omega, (hk.cell h2 trivial).trans h3, h4⟩⟩
theorem RawIn.ch {ra : Option Addr} {rl : Nat} {w : World} (h : RawIn ra rl w) (rc : Nat) : Ch w.heap.size ra rl rc 0 (w.alloc (.cells #[.slice ra rl rc, .int .i64 0] 50)) := by
  refine ⟨heap_alloc_new w _, Nat.zero_le _, h.1, fun j hj => ?_⟩
  obtain ⟨b, off, z, h1, h2, h3, h4⟩ := h.2 j hj
  have hk : Kept (fun _ => True) w (w.alloc (.cells #[.slice ra rl rc, .int .i64 0] 50)) := (Kept.refl _ w).alloc _
  exact ⟨b, off, z, h1, by omega, by have := hk.size; omega, (hk.cell h2 trivial).trans h3, h4⟩
section
variable {H : Type} {enc : TypeId × Value → H} {W : World} {sp : Nat → Bool}
theorem cellsInt : Tryz.prog.cellsOf 3 = 1 := by kernel_rfl
theorem ints_in {fuel : Nat} {c : Value} {y : DataW H × List MemPlace} (h : DataW.trod enc Tryz.prog W 0 sp true fuel 46 [c] = some y) :
    ∃ (ra : Option Addr) (rl rc : Nat), c = .slice ra rl rc ∧ RawIn ra rl W ∧ rl + 1 ≤ Rows.uptoBulk y.1 := by
  rcases DataW.trod_slice Tryz.underlying46 h with ⟨hc, rfl⟩ | ⟨a, len, cap, elems, rest, n, rfl, hc, rfl, _, hl, hm, hlen, hel, _, _⟩
  · obtain rfl : c = .slice none 0 0 := by simpa using hc
    exact ⟨none, 0, 0, rfl, ⟨by simp, by simp⟩, by simp [Rows.uptoBulk]⟩
  · obtain rfl : c = .slice (some a) len cap := by simpa using hc
    rw [cellsInt] at hel
    have hp : ∀ i, i < len → ∃ z : Int, W.cell? (a.add i) = some (.int .i64 z) ∧ (-9223372036854775808 ≤ z ∧ z ≤ 9223372036854775807) ∧ ∃ e, elems[i]? = some e ∧ 1 ≤ Rows.uptoBulk e.1 := by
      intro i hi
      have h1 := hel i hi
      have he : elems[i]? = some (elems[i]'(by omega)) := List.getElem?_eq_getElem (by omega)
      rw [he] at h1
      obtain ⟨cs, hcs, ht⟩ := Option.bind_eq_some_iff.1 h1
      rw [Nat.mul_one] at hcs
      obtain ⟨_, hcl, hat⟩ := World.cells?_some hcs
      obtain ⟨z, rfl, hx, hz⟩ := DataW.trod_int Tryz.underlying3 ht
      have := hat 0 (by omega)
      have ha0 : a.add i = (a.add i).add 0 := by unfold Addr.add; split <;> simp_all
      rw [← ha0] at this
      refine ⟨z, by rw [this]; rfl, ?_, _, he, by rw [hx]; simp [Rows.uptoBulk]⟩
      simp [Lit.wf] at hz
      exact ⟨hz.1, hz.2⟩
    unfold maxLen at hm
    refine ⟨some a, len, cap, rfl, ⟨by omega, fun j hj => ?_⟩, ?_⟩
    · obtain ⟨z, h1, h2, -⟩ := hp j hj
      obtain ⟨z0, h0, -, -⟩ := hp 0 (by omega)
      obtain ⟨b, off, spot⟩ := a
      have hspot : spot = none := by simpa [Addr.add] using World.cell?_spot h0
      subst hspot
      rw [addr_add] at h1
      exact ⟨b, off, z, rfl, cell_isLt h1, h1, h2⟩
    · have := sum_le2 (fun _ : Nat => 1) Rows.uptoBulk (List.range len) (elems.map (·.1)) (by rw [List.length_range, List.length_map, hlen]) (fun i x d hx hd => by
        have hi : i < len := by have := (List.getElem?_eq_some_iff.1 hx).1; simpa using this
        obtain ⟨z, -, -, e, he, hb⟩ := hp i hi
        rw [List.getElem?_map, he] at hd
        obtain rfl : e.1 = d := by simpa using hd
        exact hb)
      have h1 : ∀ m : Nat, ((List.range m).map fun _ => 1).sum = m := fun m => by
        induction m with
        | zero => rfl
        | succ m ih => rw [List.range_succ, List.map_append, List.sum_append, ih]; rfl
      rw [h1] at this
      simp only [Rows.uptoBulk, uptoAll_map]
      omega
theorem ints_arg {ra : Option Addr} {rl rc : Nat} {d : DataW H} {p : List MemPlace} (h : DataW.Trod enc Tryz.prog W 0 sp true 46 (.slice ra rl rc) d p) : RawIn ra rl W ∧ rl + 1 ≤ Rows.uptoBulk d := by
  obtain ⟨fuel, hf⟩ := h
  obtain ⟨ra', rl', rc', e, h1, h2⟩ := ints_in hf
  obtain ⟨rfl, rfl, rfl⟩ : ra = ra' ∧ rl = rl' ∧ rc = rc' := by simpa using e
  exact ⟨h1, h2⟩
end
end Go.Proofs.YtmajpambfblhnaaGreatDoor

namespace Go.Proofs.YtmajpambfblhnaaGreatDoor.jotSays
open Go.ChangeShapes Go.WideShapes Go.ChangeAt Go.RowKit Go.WideMaps Go.WideElems Jo
open Go.ChangeMaps (open_string shut_string)

theorem txt_le : ∀ x : J, txtJ x ≤ bulkJ x := by
  refine J.ind fun k a t ns xs IH => ?_
  have h1 : (ns.map List.length).sum ≤ (ns.map fun l => l.length + 1).sum := by
    clear IH
    induction ns with
    | nil => simp
    | cons n ns ih => simp only [List.map_cons, List.sum_cons]; omega
  have h2 : txtAll xs ≤ bulkAll xs := by
    clear h1
    induction xs with
    | nil => simp [txtAll, bulkAll]
    | cons x xs ih =>
      have := IH x (by simp)
      have := ih fun y hy => IH y (by simp [hy])
      simp only [txtAll, bulkAll]
      omega
  simp only [txtJ, bulkJ]
  omega
set_option maxHeartbeats 16000000 in
set_option maxRecDepth 100000 in
theorem law (X : J) (v : Value) (ra : Option Addr) (rl rc : Nat) (w : World) (hE : JE w.heap.size w) (hx : JIn (fun _ => True) w X v) (hr : RawIn ra rl w) (hb : bulkJ X + rl ≤ 1048576) :
    Calls Tryz.prog 6 #[v, .slice ra rl rc] w fun e w' => e = .returned (.bool true) ∧ Kept (fun _ => True) w w' := by
  have hfine := hx.fine
  obtain ⟨na, nc, ia, ic, us, rfl, -⟩ := hx.inv
  obtain ⟨W0, hW0⟩ : ∃ W0, w.alloc (.cells #[.int .i64 X.kind, .int .i64 X.num, S X.text, .slice na X.names.length nc, .slice ia X.items.length ic] 25) = W0 := ⟨_, rfl⟩
  have hk0 : Kept (fun _ => True) w W0 := by rw [← hW0]; exact (Kept.refl _ w).alloc _
  have hbox : OutAt w.heap.size X.kind X.num X.text (.slice na X.names.length nc) (.slice ia X.items.length ic) W0 := by rw [← hW0]; exact OutAt.new w _ _ _ _ _
  have HE := Lib.hid ((hE.kept hk0 fun _ _ => trivial).le hk0.size)
  have HX := Lib.hid (hx.kept hk0 fun _ _ _ => trivial)
  have HRW := Lib.hid (hr.kept hk0)
  have HBOX := Lib.hid hbox
  have HB := Lib.hid hb
  have HF := Lib.hid hfine
  have HW0 := Lib.hid hW0
  have K := Lib.hid (known_any W0 HE.out)
  obtain ⟨xk, hxk⟩ : ∃ y, X.kind = y := ⟨_, rfl⟩
  obtain ⟨xn, hxn⟩ : ∃ y, X.num = y := ⟨_, rfl⟩
  obtain ⟨xt, hxt⟩ : ∃ y, X.text = y := ⟨_, rfl⟩
  obtain ⟨nl, hnl⟩ : ∃ y, X.names.length = y := ⟨_, rfl⟩
  obtain ⟨il, hil⟩ : ∃ y, X.items.length = y := ⟨_, rfl⟩
  rw [hxk, hxn, hxt, hnl, hil] at HX HBOX HW0 ⊢
  have HXF := Lib.hid (And.intro hxk (And.intro hxn hxt))
  clear hE hx hb hfine hW0 hbox hxk hxn hxt hnl hil hr
  go_enter Tryz.func6, Tryz.ntmps6
  go_wp2_with fail
  rw [HW0.out]
  refine K.out.mono ?_
  rintro e w1 ⟨rfl, hk1⟩
  have hk01 := hk0.tr hk1
  have HX1 := Lib.hid (HX.out.kept hk1 fun _ _ _ => trivial)
  have HBOX1 := Lib.hid (HBOX.out.kept hk1 trivial)
  obtain ⟨o0, o1, o2, o3, o4, o5, o6⟩ := HBOX1.out.facts
  have LF := Lib.hid (left_any X _ w1 10000 HX1.out (by omega) (by omega))
  obtain ⟨z, hz⟩ : ∃ z, leftP X 10000 = z := ⟨_, rfl⟩
  rw [hz] at LF
  have HZ := Lib.hid hz
  clear hz
  by_cases hz0 : z < 0
  · go_wp2_with (refine LF.out.mono ?_; rintro e w2 ⟨rfl, hk2⟩)
    go_ret
    exact ⟨rfl, hk01.tr hk2⟩
  · have HS := Lib.hid (left_small X 10000 (by omega) (by rw [HZ.out]; omega))
    have HZ0 := Lib.hid hz0
    go_wp2_with fail
    refine LF.out.mono ?_
    rintro e w2 ⟨rfl, hk2⟩
    have hk02 := hk01.tr hk2
    have HX2 := Lib.hid (HX1.out.kept hk2 fun _ _ _ => trivial)
    have HBOX2 := Lib.hid (HBOX1.out.kept hk2 trivial)
    have TX := Lib.hid (texts_any X _ w2 rl HX2.out (by have := txt_le X; have := HB.out; omega))
    obtain ⟨m, hm⟩ : ∃ m, rl + txtJ X = m := ⟨_, rfl⟩
    have hml : m ≤ 2147483647 := by have := txt_le X; have := HB.out; omega
    rw [hm] at TX
    clear hm o0 o1 o2 o3 o4 o5 o6
    obtain ⟨o0, o1, o2, o3, o4, o5, o6⟩ := HBOX2.out.facts
    go_wp2_with fail
    refine TX.out.mono ?_
    rintro e w3 ⟨rfl, hk3⟩
    have hk03 := hk02.tr hk3
    have hkE3 := (hk1.tr hk2).tr hk3
    have HE3 := Lib.hid ((HE.out.kept hkE3 fun _ _ => trivial).le hkE3.size)
    have HR3 := Lib.hid (HRW.out.kept hkE3)
    have HX3 := Lib.hid (HX2.out.kept hk3 fun _ _ _ => trivial)
    have HBOX3 := Lib.hid (HBOX2.out.kept hk3 trivial)
    have MY := Lib.hid (may_any X (HS.out.2.2.mono (by omega)) (short_of_bulk X (by have := HB.out; omega)) _ w3 HX3.out)
    have HDL : Hid (depthP X ≤ 10000) := Lib.hid (by have := HS.out.2.1; have := HZ.out; omega)
    obtain ⟨d, hd⟩ : ∃ d, depthP X = d := ⟨_, rfl⟩
    have HD := Lib.hid hd
    have hdl : d ≤ 10000 := by rw [← hd]; exact HDL.out
    have DP := Lib.hid (fun W (h : JIn (fun _ => True) W X (jotV xk xn xt (.slice na nl nc) (.slice ia il ic))) => refDepth_any X _ W (by have := HDL.out; omega) h)
    rw [hd] at DP
    have PR := Lib.hid (fun W (h : JIn (fun _ => True) W X (jotV xk xn xt (.slice na nl nc) (.slice ia il ic))) (he : JE W.heap.size W) => Print_any X _ W h he (HS.out.2.2.mono (by omega)) (by have := HDL.out; omega) (fun h => by have := layP_le (may_of X h); have := HB.out; omega))
    clear o0 o1 o2 o3 o4 o5 o6 hk1 hk2 hk3 hd
    obtain ⟨o0, o1, o2, o3, o4, o5, o6⟩ := HBOX3.out.facts
    obtain ⟨mb, hmb⟩ : ∃ mb, mayP X = mb := ⟨_, rfl⟩
    rw [hmb] at MY
    have HMB := Lib.hid hmb
    clear hmb
    cases mb with
    | false =>
      have HP : Hid (printP X = ([], 43)) := Lib.hid (by unfold printP; rw [HMB.out, if_pos rfl])
      rw [HP.out] at PR
      go_wp2_with fail
      refine MY.out.mono ?_
      rintro e w4 ⟨rfl, hk4⟩
      clear o0 o1 o2 o3 o4 o5 o6
      obtain ⟨o0, o1, o2, o3, o4, o5, o6⟩ := (HBOX3.out.kept hk4 trivial).facts
      go_wp2_with fail
      refine (PR.out _ (HX3.out.kept hk4 fun _ _ _ => trivial) ((HE3.out.kept hk4 fun _ _ => trivial).le hk4.size)).mono ?_
      rintro e w5 ⟨rfl, hk5⟩
      go_wp2
      go_ret
      exact ⟨rfl, (hk03.tr hk4).tr hk5⟩
    | true =>
      go_wp2_with fail
      refine MY.out.mono ?_
      rintro e w4 ⟨rfl, hk4⟩
      have HX4 := Lib.hid (HX3.out.kept hk4 fun _ _ _ => trivial)
      have HBOX4 := Lib.hid (HBOX3.out.kept hk4 trivial)
      clear o0 o1 o2 o3 o4 o5 o6
      obtain ⟨o0, o1, o2, o3, o4, o5, o6⟩ := HBOX4.out.facts
      go_wp2_with fail
      refine (DP.out _ HX4.out).mono ?_
      rintro e w5 ⟨rfl, hk5⟩
      have hk35 := hk4.tr hk5
      have HX5 := Lib.hid (HX4.out.kept hk5 fun _ _ _ => trivial)
      have HBOX5 := Lib.hid (HBOX4.out.kept hk5 trivial)
      have HE5 := Lib.hid ((HE3.out.kept hk35 fun _ _ => trivial).le hk35.size)
      have HR5 := Lib.hid (HR3.out.kept hk35)
      have hk05 := hk03.tr hk35
      clear o0 o1 o2 o3 o4 o5 o6
      obtain ⟨o0, o1, o2, o3, o4, o5, o6⟩ := HBOX5.out.facts
      by_cases hd16 : 16 < d
      · have HP : Hid (printP X = ([], 41)) := Lib.hid (by unfold printP; rw [HMB.out, if_neg (by simp), if_pos (by rw [HD.out]; exact hd16)])
        rw [HP.out] at PR
        go_wp2_with fail
        refine (PR.out _ HX5.out HE5.out).mono ?_
        rintro e w6 ⟨rfl, hk6⟩
        go_wp2
        go_ret
        exact ⟨rfl, hk05.tr hk6⟩
      · obtain ⟨W6, hW6⟩ : ∃ W6, w5.alloc (.cells #[.slice ra rl rc, .int .i64 0] 50) = W6 := ⟨_, rfl⟩
        have hc6 : Ch w5.heap.size ra rl rc 0 W6 := by rw [← hW6]; exact HR5.out.ch rc
        have hkg : Kept (· ≠ w5.heap.size) w5 W6 := by rw [← hW6]; exact (Kept.refl _ _).alloc _
        have hk56 : Kept (fun _ => True) w5 W6 := hkg.mono fun i hi _ => by omega
        have hd16' : d ≤ 16 := by omega
        have SY := Lib.hid (says_any X HMB.out (HS.out.2.2.mono (by omega)) (by have := HB.out; omega) _ w5.heap.size ra rl rc 0 W6 hc6 ((HX5.out.mono (ok2 := (· ≠ w5.heap.size)) fun b hb _ => by omega).kept hkg fun _ _ h => h))
        have HW6 := Lib.hid hW6
        have HK56 := Lib.hid hk56
        have HBOX6 := Lib.hid (HBOX5.out.kept hk56 trivial)
        clear hc6 hkg o0 o1 o2 o3 o4 o5 o6
        obtain ⟨o0, o1, o2, o3, o4, o5, o6⟩ := HBOX6.out.facts
        go_wp2_with fail
        refine SY.out.mono ?_
        rintro e w7 ⟨⟨s, hs, hsl, rfl⟩, -, hk7⟩
        have hk57 : Kept (fun _ => True) w5 w7 := HK56.out.trans hk7 fun i hi _ => by omega
        have HX7 := Lib.hid (HX5.out.kept hk57 fun _ _ _ => trivial)
        have HBOX7 := Lib.hid (HBOX5.out.kept hk57 trivial)
        have HE7 := Lib.hid ((HE5.out.kept hk57 fun _ _ => trivial).le hk57.size)
        have hk07 := hk05.tr hk57
        have hsm : Hid (s.length ≤ maxLen) := Lib.hid (by unfold maxLen; have := HB.out; omega)
        have HSY := Lib.hid hs
        have P := Lib.hid (Parse_any s w7 hsm.out)
        have hlsz : (⟨s.toArray⟩ : ByteArray).size = s.length := size_mk s
        have hsl2 : s.length ≤ 1073741824 := by have := HB.out; omega
        clear hk7 hs hsl hW6 hk56 HBOX6 o0 o1 o2 o3 o4 o5 o6
        by_cases hlong : 4000 < s.length
        · have hR : parseP s = (J.null, 44, 4000) := by unfold parseP; rw [if_pos hlong]
          rw [hR] at P
          have hl2 : (4000 : Int) < (s.length : Int) := by omega
          clear hR
          go_wp2_with fail
          refine P.out.mono ?_
          rintro e w8 ⟨⟨v8, fp8, rfl, hown8, -, -⟩, hk8⟩
          obtain ⟨na8, nl8, nc8, ia8, il8, ic8, hv8⟩ := hown8.form2
          subst hv8
          clear hown8
          go_wp2
          go_ret
          exact ⟨rfl, (hk07.tr hk8).tr ((Kept.refl _ _).alloc _)⟩
        · have PL := parse_say HMB.out (by rw [HD.out]; exact hd16') HSY.out (by omega)
          have PS := parse_short PL
          have HP : Hid (printP X = (layP X, 0)) := Lib.hid (by unfold printP; rw [HMB.out, if_neg (by simp), if_neg (by rw [HD.out]; omega), if_neg (by have := PS.2.2.1; omega)])
          obtain ⟨l, hl⟩ : ∃ l, layP X = l := ⟨_, rfl⟩
          have hls : l.length ≤ s.length := by rw [← hl]; exact PS.2.2.1
          rw [hl] at HP
          have HF2 := Lib.hid (fine_of (may_of X HMB.out) (by rw [hl]; omega))
          rw [PL] at P
          rw [HP.out] at PR
          have hl2 : ¬ ((4000 : Int) < (s.length : Int)) := by omega
          have hle2 : (l.length : Int) ≤ (s.length : Int) := by omega
          have hlsz2 : (⟨l.toArray⟩ : ByteArray).size = l.length := size_mk l
          clear PL PS hl hlong
          go_wp2_with fail
          refine P.out.mono ?_
          rintro e w8 ⟨⟨v8, fp8, rfl, hown8, -, -⟩, hk8⟩
          obtain ⟨na8, nl8, nc8, ia8, il8, ic8, hv8⟩ := hown8.form2
          rw [HXF.out.1, HXF.out.2.1, HXF.out.2.2] at hv8
          subst hv8
          have hin8 : JIn (fun _ => True) w8 X _ := hown8.toIn HF2.out.1 _ (fun _ _ => trivial)
          obtain ⟨W8, hW8⟩ : ∃ W8, w8.alloc (.cells #[.int .i64 xk, .int .i64 xn, S xt, .slice na8 nl8 nc8, .slice ia8 il8 ic8] 25) = W8 := ⟨_, rfl⟩
          have hkW8 : Kept (fun _ => True) w8 W8 := by rw [← hW8]; exact (Kept.refl _ _).alloc _
          have hbox8 : OutAt w8.heap.size xk xn xt (.slice na8 nl8 nc8) (.slice ia8 il8 ic8) W8 := by rw [← hW8]; exact OutAt.new w8 _ _ _ _ _
          have hk78 := hk8.tr hkW8
          have HX8 := Lib.hid (hin8.kept hkW8 fun _ _ _ => trivial)
          have HBOX8 := Lib.hid hbox8
          have HV8 := Lib.hid (HBOX7.out.kept hk78 trivial)
          have HXV8 := Lib.hid (HX7.out.kept hk78 fun _ _ _ => trivial)
          have HE8 := Lib.hid ((HE7.out.kept hk78 fun _ _ => trivial).le hk78.size)
          obtain ⟨o0, o1, o2, o3, o4, o5, o6⟩ := HV8.out.facts
          clear hown8 hbox8 hin8
          go_wp2_with fail
          refine (PR.out _ HXV8.out HE8.out).mono ?_
          rintro e w9 ⟨rfl, hk9⟩
          have S1 := Lib.hid (same_any X X _ _ (fun _ => True) w9 (HX8.out.kept hk9 fun _ _ _ => trivial) (HXV8.out.kept hk9 fun _ _ _ => trivial))
          clear o0 o1 o2 o3 o4 o5 o6 hW8
          obtain ⟨o0, o1, o2, o3, o4, o5, o6⟩ := (HV8.out.kept hk9 trivial).facts
          obtain ⟨p0, p1, p2, p3, p4, p5, p6⟩ := (HBOX8.out.kept hk9 trivial).facts
          go_wp2_with fail
          refine S1.out.mono ?_
          rintro e w10 ⟨⟨q, rfl, hq⟩, hk10⟩
          obtain rfl : q = true := by simpa using hq
          clear hq
          go_wp2
          go_ret
          exact ⟨rfl, ((hk07.tr hk78).tr hk9).tr hk10⟩

set_option maxRecDepth 100000 in
theorem contract (H : Type) (enc : TypeId × Value → H) (W : World) (base : Nat) (args : Array Value) (ds gs : List (DataW H)) (before : List MemPlace)
    (hval : ∀ (j : Nat) t v, Tryz.f6.params[j]? = some t → args[j]? = some v → Value.okWide Tryz.prog W .any base t v)
    (hW : DataW.Whole enc Tryz.prog Tryz.f6.params.toList Rows.jotSaysSpec.vars false W args.toList ds gs before) (hL : laidMetH Tryz.prog Rows.jotSaysUptoRow.laid W) (hk : Rows.uptoSmall H (ds ++ gs) = true) :
    Calls Tryz.prog 6 args W fun e W' => ∃ v, e = .returned v ∧ Rows.jotSaysSpec.post enc Tryz.prog Tryz.f6 false true false false W args v W' := by
  have hE : JE W.heap.size W := env_of hL
  have hW' := hW
  have hlt := hW.lt
  obtain ⟨p, q, hA0, hV, rfl, hfz, hnd⟩ := hW
  have hA : DataW.TrodAll enc Tryz.prog W 0 (fun _ => true) true Tryz.f6.params.toList args.toList ds p := hA0
  rw [Tryz.params6] at hA hval
  obtain ⟨v0, v1, d0, d1, p0, p1, hargs, rfl, rfl, h0, h1⟩ := trodAll_two hA
  obtain rfl : args = #[v0, v1] := by cases args; simp_all
  obtain ⟨rfl, rfl⟩ := trodVars_none hV
  obtain ⟨X, hX, hbulk⟩ := jot_arg h0
  obtain ⟨ra, rl, rc, rfl⟩ := okWide_slice Tryz.underlying46 (hval 1 46 v1 rfl rfl)
  obtain ⟨hR, hrb⟩ := ints_arg h1
  have hb : bulkJ X + rl ≤ 1048576 := by
    have h := of_decide_eq_true hk
    simp only [List.append_nil, Rows.uptoBulkAll] at h
    omega
  clear hA0
  simp only [List.append_nil] at hW' hlt
  refine (law X v0 ra rl rc W hE hX hR hb).mono fun e W' ⟨he, hkk⟩ => ?_
  subst he
  exact ⟨_, rfl, post_of_below (pa := p0 ++ p1) (pv := []) hW' (fun _ _ _ => trodAll_mk1 (shut_bool Tryz.underlying4 _)) (fun sp hsp => by
      rw [Tryz.params6]
      exact trodAll_mk2 (trod_back laidOut (by kernel_rfl) (of_decide_eq_true (by kernel_rfl)) h0 hkk.toBelow (fun x hx => hlt x (List.mem_append_left _ hx)) sp (fun x hx => hsp x (List.mem_append_left _ hx)))
        (trod_back laidOut (by kernel_rfl) (of_decide_eq_true (by kernel_rfl)) h1 hkk.toBelow (fun x hx => hlt x (List.mem_append_right _ hx)) sp (fun x hx => hsp x (List.mem_append_right _ hx)))) (fun _ _ => rfl) (by simp)
    hkk.toBelow (ok_one (by kernel_rfl) rfl (okWide_bool_mk Tryz.underlying4 _))⟩

abbrev jz : Value := .agg #[.int .i64 0, .int .i64 0, S [], .slice none 0 0, .slice none 0 0]
abbrev dz {H : Type} : DataW H := .agg [.lit (.int .i64 0), .lit (.int .i64 0), .lit (.string []), .nil, .nil]
theorem reads (os : Os) {H : Type} (enc : TypeId × Value → H) : ∃ places, DataW.whole enc Tryz.prog ((laidWorld os).forCall (fun _ _ => 0) ⟨#[], #[jz, .slice none 0 0], []⟩).memory Tryz.f6.params.toList Rows.jotSaysSpec.vars false #[jz, .slice none 0 0].toList 8 = some ([dz, .nil], [], places) :=
  ⟨[], by kernel_rfl⟩
set_option maxRecDepth 100000 in
theorem lifted (os : Os) (started : os.Started) (H : Type) (enc : TypeId × Value → H) (F : Stop.Interp) :
    ReturnsInHanded {} Tryz.checked os 6 .any ((Rows.OpenSpec.upto Rows.jotSaysSpec).preRow enc Tryz.prog Tryz.f6 Rows.jotSaysUptoRow.domain false Rows.jotSaysUptoRow.laid) (((Rows.OpenSpec.upto Rows.jotSaysSpec).at F).post enc Tryz.prog Tryz.f6 false true false false) := by
  obtain ⟨places, hx⟩ := reads os enc
  refine returnsInHanded_of_row (C := Tryz.checked) (s := Rows.OpenSpec.upto Rows.jotSaysSpec) own started (by kernel_rfl) Tryz.func6
    (witness_row (enc := enc) (C := Tryz.checked) (laidWorld os) #[jz, .slice none 0 0] (World.laidAll_os _ _ _) (World.shaped_of_ZipB (by kernel_rfl) (by kernel_rfl)) (by kernel_rfl)
      (OpenSpec.preRow_of_cond 8 hx (by kernel_rfl) (fun k hk => by cases hk; kernel_rfl) (by kernel_rfl) (laid_met os _))) ?_
  intro W base args ds gs before hval hW _ hcond _ hL _ _
  exact contract H enc W base args ds gs before hval hW hL (hcond _ rfl)

theorem said : Rows.JotSaysUptoSaid :=
  OpenClaim.holds_of_cond 6 Tryz.f6 rfl rfl rfl rfl rfl rfl rfl ⟨rfl, rfl, rfl, rfl, rfl⟩ rfl rfl rfl rfl rfl (by kernel_rfl) Tryz.func6 (by kernel_rfl)
    (of_decide_eq_true (by kernel_rfl)) (by unfold Func.isWrapper; first | (rw [if_pos (by decide +kernel)]; kernel_rfl) | (rw [if_neg (by decide +kernel)]; exact ⟨rfl, rfl⟩))
    (fun os started H enc _ F => by rw [OpenClaim.pre_eq_preRow]; exact lifted os started H enc F)

theorem plain (f : FuncId) (fn : Func) (hf : Tryz.pinned.checked.prog.funcNamed "latchkey/latchkeylaw04.JotSays" = some f) (hfn : Tryz.pinned.checked.prog.funcs[f]? = some fn) :
    true = Tryz.pinned.checked.prog.looks [] ∧ ∀ (j : Nat) t, fn.params[j]? = some t → Tryz.pinned.checked.prog.wantsStandIn t = false := by
  obtain rfl : f = 6 := Option.some.inj ((show Tryz.prog.funcNamed "latchkey/latchkeylaw04.JotSays" = some 6 by kernel_rfl).symm.trans hf) |>.symm
  obtain rfl : fn = Tryz.f6 := (Option.some.inj (Tryz.func6.symm.trans hfn)).symm
  refine ⟨by kernel_rfl, fun j t ht => ?_⟩
  rw [Tryz.params6] at ht
  have hm : t ∈ [25, 46] := by have := Array.mem_of_getElem? ht; simpa using this
  have hall : ([25, 46].all fun u => !Tryz.prog.wantsStandIn u) = true := by kernel_rfl
  exact (show Tryz.prog.wantsStandIn t = false by simpa using List.all_eq_true.1 hall t hm)

theorem card : Rows.JotSaysUptoCardSaid :=
  Claim7.holds_tied_plain_at .later [] _ _ _ _ said (fun _ h => by cases h) (by kernel_rfl) (fun _ h => by cases h) jotSaysUpto_row_tie rfl ⟨rfl, rfl⟩ (by kernel_rfl) rfl plain (by kernel_rfl)
end Go.Proofs.YtmajpambfblhnaaGreatDoor.jotSays
