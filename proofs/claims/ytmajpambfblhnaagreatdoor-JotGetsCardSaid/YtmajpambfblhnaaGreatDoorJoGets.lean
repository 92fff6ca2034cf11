/- JotGets holds of the given program: for any two values and any name, where the library's tables are as its text lays them, the law's call returns true and its arguments read as before: Get and Same answer as the document says, and what Get hands out is its caller's own. Conditions: none but what the given row itself lists. -/
import Derived.Test.YtmajpambfblhnaaGreatDoorJoRowKit2
import Derived.Test.YtmajpambfblhnaaGreatDoorJoW5
import Derived.Test.YtmajpambfblhnaaGreatDoorJoX1
import Derived.Deep.RegionHeld3
namespace Go.Proofs.YtmajpambfblhnaaGreatDoor.jotGets
open Go.ChangeShapes Go.WideShapes Go.ChangeAt Go.RowKit Go.WideMaps Go.WideElems Jo
open Go.ChangeMaps (open_string shut_string)

theorem jown_all {w w' : World} {x : J} {v : Value} {fp : List Nat} (h : JOwn w x v fp) (hk : Kept (fun _ => True) w w') : JOwn w' x v fp := h.kept hk.size fun b hb => hk.block b (h.lt b hb) trivial
theorem goG_mem {name : List UInt8} : ∀ {ns : List (List UInt8)} {xs : List J} {y : J}, goG name ns xs = some y → y ∈ xs
  | [], _, _, h => by cases h
  | n :: ns, xs, y, h => by
    unfold goG at h
    split at h
    · exact List.mem_of_head? h
    · exact List.mem_of_mem_tail (goG_mem h)
theorem getP_mem {x y : J} {name : List UInt8} (h : getP x name = some y) : y ∈ x.items := by
  unfold getP at h
  split at h
  · exact goG_mem h
  · cases h
theorem partsAll_mem {xs : List J} {y : J} (h : y ∈ xs) : partsJ y ≤ partsAll xs := by
  induction xs with
  | nil => cases h
  | cons x xs ih =>
    simp only [partsAll]
    rcases List.mem_cons.1 h with rfl | h
    · omega
    · have := ih h; omega
theorem get_fine {x : J} {name : List UInt8} (hf : Few 1000000 x) (hfi : Fine x) : Fine ((getP x name).getD J.null) ∧ Few 1000000 ((getP x name).getD J.null) ∧ partsJ ((getP x name).getD J.null) ≤ partsJ x := by
  cases h : getP x name with
  | none =>
    have hn := fine_of May.null (by simp [J.null, layP])
    refine ⟨hn.1, hn.2, ?_⟩
    have := partsJ_pos x
    show partsJ J.null ≤ _
    simp only [J.null, partsJ, partsAll, List.length_nil]
    omega
  | some y =>
    have hm := getP_mem h
    obtain ⟨j, hj, rfl⟩ := List.getElem_of_mem hm
    refine ⟨hfi.inv.2 j _ (List.getElem?_eq_getElem hj), hf.inv.2.2 j _ (List.getElem?_eq_getElem hj), ?_⟩
    have := partsAll_mem hm
    obtain ⟨k, n, t, ns, xs⟩ := x
    simp only [partsJ]
    show partsJ _ ≤ _
    have h2 : partsJ (J.items (.mk k n t ns xs))[j] ≤ partsAll xs := this
    show partsJ (J.items (.mk k n t ns xs))[j] ≤ _
    omega
theorem book_new (w : World) : BookAt w.heap.size w.heap.size (.slice none 0 0) (.slice none 0 0) [] [] (w.alloc (.cells #[.slice none 0 0, .slice none 0 0] 32)) :=
  ⟨heap_alloc_new w _, Nat.le_refl _, World.ownsRow_nil _ _ _ _, World.ownsRow_nil _ _ _ _, fun u hu => (by cases hu), fun u hu => (by cases hu)⟩
/-- Same, with its answer known. -/
theorem same_is {f : FuncId} {x y : J} {va vb : Value} {D : Bool} {wr w : World} (hs : SameC f x) (hx : JIn (fun _ => True) wr x va) (hy : JIn (fun _ => True) wr y vb) (hD : D = true ↔ x = y) (hk : Kept (fun _ => True) wr w) :
    Calls Tryz.prog f #[va, vb] w fun e w' => e = .returned (.bool D) ∧ Kept (fun _ => True) wr w' := by
  refine (hs y va vb (fun _ => True) w (hx.kept hk fun _ _ _ => trivial) (hy.kept hk fun _ _ _ => trivial)).mono ?_
  rintro e w' ⟨⟨q, rfl, hq⟩, hk'⟩
  refine ⟨?_, hk.tr hk'⟩
  have : q = D := by
    cases q with
    | true => exact (hD.2 (hq.1 rfl)).symm
    | false =>
      cases D with
      | true => exact absurd (hq.2 (hD.1 rfl)) (by simp)
      | false => rfl
  rw [this]

set_option maxHeartbeats 32000000 in
set_option maxRecDepth 100000 in
theorem law (X : J) (v : Value) (name : List UInt8) (Y : J) (v2 : Value) (w : World) (hE : JE w.heap.size w) (hx : JIn (fun _ => True) w X v) (hy : JIn (fun _ => True) w Y v2) :
    Calls Tryz.prog 5 #[v, S name, v2] w fun e w' => e = .returned (.bool true) ∧ Kept (fun _ => True) w w' := by
  have hfX := hx.fine
  obtain ⟨na, nc, ia, ic, us, rfl, -⟩ := hx.inv
  obtain ⟨na2, nc2, ia2, ic2, us2, rfl, -⟩ := hy.inv
  obtain ⟨W0, hW0⟩ : ∃ W0, (w.alloc (.cells #[.int .i64 X.kind, .int .i64 X.num, S X.text, .slice na X.names.length nc, .slice ia X.items.length ic] 25)).alloc (.cells #[.int .i64 Y.kind, .int .i64 Y.num, S Y.text, .slice na2 Y.names.length nc2, .slice ia2 Y.items.length ic2] 25) = W0 := ⟨_, rfl⟩
  have hk0 : Kept (fun _ => True) w W0 := by rw [← hW0]; exact ((Kept.refl _ w).alloc _).alloc _
  have hbox : OutAt w.heap.size X.kind X.num X.text (.slice na X.names.length nc) (.slice ia X.items.length ic) W0 := by rw [← hW0]; exact (OutAt.new w _ _ _ _ _).kept (ok := fun _ => True) ((Kept.refl _ _).alloc _) trivial
  have hboy : OutAt (w.heap.size + 1) Y.kind Y.num Y.text (.slice na2 Y.names.length nc2) (.slice ia2 Y.items.length ic2) W0 := by
    rw [← hW0]
    have := OutAt.new (w.alloc (.cells #[.int .i64 X.kind, .int .i64 X.num, S X.text, .slice na X.names.length nc, .slice ia X.items.length ic] 25)) Y.kind Y.num Y.text (.slice na2 Y.names.length nc2) (.slice ia2 Y.items.length ic2)
    simpa using this
  have HX := Lib.hid (hx.kept hk0 fun _ _ _ => trivial)
  have HY := Lib.hid (hy.kept hk0 fun _ _ _ => trivial)
  have HBX := Lib.hid hbox
  have HBY := Lib.hid hboy
  have HK0 := Lib.hid hk0
  have HF := Lib.hid hfX
  have HW0 := Lib.hid hW0
  have K := Lib.hid (known_any W0 ((hE.kept hk0 fun _ _ => trivial).le hk0.size))
  obtain ⟨xk, hxk⟩ : ∃ y, X.kind = y := ⟨_, rfl⟩
  obtain ⟨xn, hxn⟩ : ∃ y, X.num = y := ⟨_, rfl⟩
  obtain ⟨xt, hxt⟩ : ∃ y, X.text = y := ⟨_, rfl⟩
  obtain ⟨nl, hnl⟩ : ∃ y, X.names.length = y := ⟨_, rfl⟩
  obtain ⟨il, hil⟩ : ∃ y, X.items.length = y := ⟨_, rfl⟩
  obtain ⟨yk, hyk⟩ : ∃ y, Y.kind = y := ⟨_, rfl⟩
  obtain ⟨yn, hyn⟩ : ∃ y, Y.num = y := ⟨_, rfl⟩
  obtain ⟨yt, hyt⟩ : ∃ y, Y.text = y := ⟨_, rfl⟩
  obtain ⟨nl2, hnl2⟩ : ∃ y, Y.names.length = y := ⟨_, rfl⟩
  obtain ⟨il2, hil2⟩ : ∃ y, Y.items.length = y := ⟨_, rfl⟩
  rw [hxk, hxn, hxt, hnl, hil] at HX HBX HW0 ⊢
  rw [hyk, hyn, hyt, hnl2, hil2] at HY HBY HW0 ⊢
  have HXF := Lib.hid (And.intro hxk (And.intro hxn hxt))
  clear hE hx hy hfX hW0 hbox hboy hxk hxn hxt hnl hil hyk hyn hyt hnl2 hil2 hk0
  go_enter Tryz.func5, Tryz.ntmps5
  go_wp2_with fail
  rw [HW0.out]
  refine K.out.mono ?_
  rintro e w1 ⟨rfl, hk1⟩
  have hk01 := HK0.out.tr hk1
  have HX1 := Lib.hid (HX.out.kept hk1 fun _ _ _ => trivial)
  have HY1 := Lib.hid (HY.out.kept hk1 fun _ _ _ => trivial)
  have HBX1 := Lib.hid (HBX.out.kept hk1 trivial)
  have HBY1 := Lib.hid (HBY.out.kept hk1 trivial)
  have LX := Lib.hid (left_any X _ w1 10000 HX1.out (by omega) (by omega))
  have LY := Lib.hid (fun (W : World) (hk : Kept (fun _ => True) w1 W) => left_any Y _ W 10000 (HY1.out.kept hk fun _ _ _ => trivial) (by omega) (by omega))
  obtain ⟨z, hz⟩ : ∃ z, leftP X 10000 = z := ⟨_, rfl⟩
  obtain ⟨z2, hz2⟩ : ∃ z, leftP Y 10000 = z := ⟨_, rfl⟩
  rw [hz] at LX
  rw [hz2] at LY
  have HZ := Lib.hid hz
  have HZ2 := Lib.hid hz2
  have HK01 := Lib.hid hk01
  clear hz hz2 hk01 hk1
  obtain ⟨o0, o1, o2, o3, o4, o5, o6⟩ := HBX1.out.facts
  by_cases hz0 : z < 0
  · go_wp2_with (refine LX.out.mono ?_; rintro e w2 ⟨rfl, hk2⟩)
    go_ret
    exact ⟨rfl, HK01.out.tr hk2⟩
  · go_wp2_with fail
    refine LX.out.mono ?_
    rintro e w2 ⟨rfl, hk2⟩
    have HBY2 := Lib.hid (HBY1.out.kept hk2 trivial)
    have HK2 := Lib.hid hk2
    clear hk2 o0 o1 o2 o3 o4 o5 o6
    obtain ⟨p0, p1, p2, p3, p4, p5, p6⟩ := HBY2.out.facts
    by_cases hz20 : z2 < 0
    · go_wp2_with (refine (LY.out _ HK2.out).mono ?_; rintro e w3 ⟨rfl, hk3⟩)
      go_ret
      exact ⟨rfl, (HK01.out.tr HK2.out).tr hk3⟩
    · go_wp2_with fail
      refine (LY.out _ HK2.out).mono ?_
      rintro e w3 ⟨rfl, hk3⟩
      have HS := Lib.hid (left_small X 10000 (by omega) (by rw [HZ.out]; omega))
      have HS2 := Lib.hid (left_small Y 10000 (by omega) (by rw [HZ2.out]; omega))
      have HPT := Lib.hid (left_parts X 10000 (by rw [HZ.out]; omega))
      have hk13 := HK2.out.tr hk3
      have hk03 := HK01.out.tr hk13
      have HK03 := Lib.hid hk03
      have HX3 := Lib.hid (HX1.out.kept hk13 fun _ _ _ => trivial)
      have HY3 := Lib.hid (HY1.out.kept hk13 fun _ _ _ => trivial)
      have HBX3 := Lib.hid (HBX1.out.kept hk13 trivial)
      have HBY3 := Lib.hid (HBY1.out.kept hk13 trivial)
      have hpx : partsJ X ≤ 10000 := by have := HPT.out; have := HZ.out; omega
      clear p0 p1 p2 p3 p4 p5 p6 hk03 hk13 hk3 HK2 HBY2 LX LY HX1 HY1 HBX1 HBY1 HX HY HBX HBY HK01 HK0 HW0 K
      obtain ⟨W3, hW3⟩ : ∃ W3, w3.alloc (.cells #[.slice none 0 0, .slice none 0 0] 32) = W3 := ⟨_, rfl⟩
      have hk33 : Kept (fun _ => True) w3 W3 := by rw [← hW3]; exact (Kept.refl _ _).alloc _
      have HBK := Lib.hid (show BookAt w3.heap.size w3.heap.size (.slice none 0 0) (.slice none 0 0) [] [] W3 by rw [← hW3]; exact book_new w3)
      have HXL := Lib.hid ((HX3.out.mono (ok2 := (· < w3.heap.size)) fun b h _ => h).kept hk33 fun _ _ _ => trivial)
      have LD := Lib.hid (lend_any X _ w3.heap.size w3.heap.size [] [] _ _ W3 HXL.out (HS.out.2.2.mono (by omega)) HBK.out (by simp only [List.length_nil]; omega) (by simp only [List.length_nil]; omega))
      have HW3 := Lib.hid hW3
      have HK33 := Lib.hid hk33
      clear hW3 hk33
      obtain ⟨o0, o1, o2, o3, o4, o5, o6⟩ := (HBX3.out.kept HK33.out trivial).facts
      rw [← HW3.out] at o0 o1 o2 o3 o4 o5 o6
      go_wp2_with fail
      rw [HW3.out]
      refine LD.out.mono ?_
      rintro e w4 ⟨u, fp, mn, mi, rfl, hown, hnd, hfp, ⟨nv4, iv4, hbk4⟩, hmn, hmi, hlow, hk4⟩
      obtain ⟨na4, nl4, nc4, ia4, il4, ic4, hv4⟩ := hown.form2
      rw [HXF.out.1, HXF.out.2.1, HXF.out.2.2] at hv4
      subst hv4
      obtain ⟨W4, hW4⟩ : ∃ W4, w4.alloc (.cells #[.int .i64 xk, .int .i64 xn, S xt, .slice na4 nl4 nc4, .slice ia4 il4 ic4] 25) = W4 := ⟨_, rfl⟩
      have hkW4 : Kept (fun _ => True) w4 W4 := by rw [← hW4]; exact (Kept.refl _ _).alloc _
      have hz33 := HK33.out.size
      have hk34 : Kept (fun _ => True) w3 W4 := (HK33.out.trans hk4 fun i hi _ => .inl (by omega)).tr hkW4
      have HK04 : Hid (Kept (fun _ => True) w W4) := Lib.hid (HK03.out.tr hk34)
      have HX4 := Lib.hid (HX3.out.kept hk34 fun _ _ _ => trivial)
      have HY4 := Lib.hid (HY3.out.kept hk34 fun _ _ _ => trivial)
      have HBX4 := Lib.hid (HBX3.out.kept hk34 trivial)
      have HBY4 := Lib.hid (HBY3.out.kept hk34 trivial)
      have HBO4 : Hid (OutAt w4.heap.size xk xn xt (.slice na4 nl4 nc4) (.slice ia4 il4 ic4) W4) := Lib.hid (by rw [← hW4]; exact OutAt.new w4 _ _ _ _ _)
      have HOWN4 := Lib.hid (jown_all hown hkW4)
      have HBK4 := Lib.hid (hbk4.keptT hkW4)
      have HMM := Lib.hid (And.intro hmn hmi)
      have HIN4 := Lib.hid (HOWN4.out.toIn HF.out (fun _ => True) fun _ _ => trivial)
      have hz4 : W4.heap.size = w4.heap.size + 1 := by rw [← hW4]; simp
      have HZ4 := Lib.hid hz4
      have HFEW : Hid (Few 1000000 X) := Lib.hid (HS.out.2.2.mono (by omega))
      have HG := Lib.hid (get_fine (name := name) HFEW.out HF.out)
      have RG := Lib.hid (refGet_any X _ name (fun _ => True) W4 HX4.out HFEW.out)
      have GG := Lib.hid (fun (W : World) (hk : Kept (fun _ => True) W4 W) => Get_any X _ name (fun _ => True) W (HIN4.out.kept hk fun _ _ _ => trivial) HFEW.out)
      obtain ⟨r, hr⟩ : ∃ r, getP X name = r := ⟨_, rfl⟩
      rw [hr] at RG GG HG
      have hrs : ((r.isSome) != r.isSome) = false := by simp
      obtain ⟨G, hG⟩ : ∃ G, r.getD J.null = G := ⟨_, rfl⟩
      obtain ⟨D, hD⟩ : ∃ D, r.isSome = D := ⟨_, rfl⟩
      unfold RefGQ at RG
      unfold GetQ at GG
      rw [hD, hG] at RG GG
      rw [hG] at HG
      have hDD : (D != D) = false := by cases D <;> rfl
      clear hrs hr hG hD hown hnd hfp hbk4 hmn hmi hlow hk4 hkW4 hk34 HX3 HY3 HBX3 HBY3 HXL LD HK33 HBK o0 o1 o2 o3 o4 o5 o6 hz4
      obtain ⟨o0, o1, o2, o3, o4, o5, o6⟩ := HBX4.out.facts
      go_wp2_with fail
      refine RG.out.mono ?_
      rintro e w5 ⟨⟨vw, rfl, hjw⟩, hk5⟩
      obtain ⟨wa, wl, wc, wia, wil, wic, rfl⟩ := hjw.form
      obtain ⟨W5, hW5⟩ : ∃ W5, w5.alloc (.cells #[.int .i64 G.kind, .int .i64 G.num, S G.text, .slice wa wl wc, .slice wia wil wic] 25) = W5 := ⟨_, rfl⟩
      have hkW5 : Kept (fun _ => True) w5 W5 := by rw [← hW5]; exact (Kept.refl _ _).alloc _
      have HBW : Hid (OutAt w5.heap.size G.kind G.num G.text (.slice wa wl wc) (.slice wia wil wic) W5) := Lib.hid (by rw [← hW5]; exact OutAt.new w5 _ _ _ _ _)
      have HJW := Lib.hid (hjw.kept hkW5 fun _ _ _ => trivial)
      have hk45 := hk5.tr hkW5
      have HK45 := Lib.hid hk45
      clear hW4 hjw hk5 hkW5 o0 o1 o2 o3 o4 o5 o6
      obtain ⟨o0, o1, o2, o3, o4, o5, o6⟩ := (HBO4.out.kept hk45 trivial).facts
      clear hk45
      go_wp2_with fail
      refine (GG.out _ HK45.out).mono ?_
      rintro e w6 ⟨⟨vx, fpx, rfl, hox, hndx, hfx⟩, hk6⟩
      obtain ⟨xa, xl, xc, xia, xil, xic, rfl⟩ := hox.form2
      obtain ⟨W6, hW6⟩ : ∃ W6, w6.alloc (.cells #[.int .i64 G.kind, .int .i64 G.num, S G.text, .slice xa xl xc, .slice xia xil xic] 25) = W6 := ⟨_, rfl⟩
      have hkW6 : Kept (fun _ => True) w6 W6 := by rw [← hW6]; exact (Kept.refl _ _).alloc _
      have HBXX : Hid (OutAt w6.heap.size G.kind G.num G.text (.slice xa xl xc) (.slice xia xil xic) W6) := Lib.hid (by rw [← hW6]; exact OutAt.new w6 _ _ _ _ _)
      have HOX := Lib.hid (jown_all hox hkW6)
      have hk56 := hk6.tr hkW6
      have HK56 := Lib.hid hk56
      have HK46 := Lib.hid (HK45.out.tr hk56)
      have HFX : Hid (fpx.Nodup ∧ (∀ b ∈ fpx, W4.heap.size ≤ b) ∧ ∀ b ∈ fpx, b < W6.heap.size) := Lib.hid ⟨hndx, fun b hb => by have := hfx b hb; have := HK45.out.size; omega, HOX.out.lt⟩
      clear hW5 hox hndx hfx hk6 hkW6 hk56 o0 o1 o2 o3 o4 o5 o6
      obtain ⟨o0, o1, o2, o3, o4, o5, o6⟩ := (HBO4.out.kept HK46.out trivial).facts
      go_wp2_with fail
      refine (GG.out _ HK46.out).mono ?_
      rintro e w7 ⟨⟨vy, fpy, rfl, hoy, hndy, hfy⟩, hk7⟩
      obtain ⟨ya, yl, yc, yia, yil, yic, rfl⟩ := hoy.form2
      obtain ⟨W7, hW7⟩ : ∃ W7, w7.alloc (.cells #[.int .i64 G.kind, .int .i64 G.num, S G.text, .slice ya yl yc, .slice yia yil yic] 25) = W7 := ⟨_, rfl⟩
      have hkW7 : Kept (fun _ => True) w7 W7 := by rw [← hW7]; exact (Kept.refl _ _).alloc _
      have HBYY : Hid (OutAt w7.heap.size G.kind G.num G.text (.slice ya yl yc) (.slice yia yil yic) W7) := Lib.hid (by rw [← hW7]; exact OutAt.new w7 _ _ _ _ _)
      have HOY := Lib.hid (jown_all hoy hkW7)
      have hk67 := hk7.tr hkW7
      have HK47 := Lib.hid (HK46.out.tr hk67)
      have HBXX7 := Lib.hid (HBXX.out.kept hk67 trivial)
      have HBW7 := Lib.hid (HBW.out.kept (HK56.out.tr hk67) trivial)
      have HOX7 := Lib.hid (jown_all HOX.out hk67)
      have HJW7 := Lib.hid (HJW.out.kept (HK56.out.tr hk67) fun _ _ _ => trivial)
      have HFY : Hid (fpy.Nodup ∧ (∀ b ∈ fpy, W6.heap.size ≤ b) ∧ ∀ b ∈ fpy, b < W7.heap.size) := Lib.hid ⟨hndy, fun b hb => hfy b hb, HOY.out.lt⟩
      have HZ67 := Lib.hid hk67.size
      have HZ46 := Lib.hid HK46.out.size
      clear hW6 hoy hndy hfy hk7 hkW7 hk67 o0 o1 o2 o3 o4 o5 o6 HBXX HBW HOX HJW HK45 HK46 HK56 RG GG
      have SX := Lib.hid (fun (W : World) (hk : Kept (fun _ => True) W7 W) => same_is (D := true) (refsame_any G) (HOX7.out.toIn HG.out.1 (fun _ => True) fun _ _ => trivial) HJW7.out ⟨fun _ => rfl, fun _ => rfl⟩ hk)
      have SY := Lib.hid (fun (W : World) (hk : Kept (fun _ => True) W7 W) => same_is (D := true) (refsame_any G) (HOY.out.toIn HG.out.1 (fun _ => True) fun _ _ => trivial) HJW7.out ⟨fun _ => rfl, fun _ => rfl⟩ hk)
      obtain ⟨o0, o1, o2, o3, o4, o5, o6⟩ := HBXX7.out.facts
      obtain ⟨p0, p1, p2, p3, p4, p5, p6⟩ := HBW7.out.facts
      go_wp2_with fail
      refine (SX.out _ (Kept.refl _ _)).mono ?_
      rintro e w8 ⟨rfl, hk8⟩
      have HK8 := Lib.hid hk8
      clear hW7 hk8 o0 o1 o2 o3 o4 o5 o6 p0 p1 p2 p3 p4 p5 p6
      obtain ⟨o0, o1, o2, o3, o4, o5, o6⟩ := (HBYY.out.kept HK8.out trivial).facts
      obtain ⟨p0, p1, p2, p3, p4, p5, p6⟩ := (HBW7.out.kept HK8.out trivial).facts
      go_wp2_with fail
      refine (SY.out _ HK8.out).mono ?_
      rintro e w9 ⟨rfl, hk9⟩
      have HK9 := Lib.hid hk9
      clear hk9 o0 o1 o2 o3 o4 o5 o6 p0 p1 p2 p3 p4 p5 p6 HK8 SX SY
      obtain ⟨gb, hgb⟩ : ∃ gb, w9.heap.size = gb := ⟨_, rfl⟩
      obtain ⟨Wg, hWg⟩ : ∃ Wg, w9.alloc (.cells #[.slice none 0 0, .slice none 0 0] 32) = Wg := ⟨_, rfl⟩
      have hkg : Kept (fun _ => True) w9 Wg := by rw [← hWg]; exact (Kept.refl _ _).alloc _
      have hbg : BookG gb gb (.slice none 0 0) (.slice none 0 0) [] [] Wg := by rw [← hWg, ← hgb]; exact bookG_new w9
      have HGB := Lib.hid hgb
      have HBG := Lib.hid hbg
      have HKg := Lib.hid (HK9.out.tr hkg)
      have hWz : W7.heap.size ≤ gb := by have := HK9.out.size; omega
      have hgl : gb < Wg.heap.size := by rw [← hWg, ← hgb]; simp
      have GA1 := Lib.hid (gather_any G _ fpx gb gb [] [] _ _ Wg (jown_all HOX7.out HKg.out) HFX.out.1 HG.out.2.1 HBG.out (by have := HG.out.2.2; simp only [List.length_nil]; omega) (by have := HG.out.2.2; simp only [List.length_nil]; omega))
      obtain ⟨o0, o1, o2, o3, o4, o5, o6⟩ := (HBXX7.out.kept HKg.out trivial).facts
      clear hgb hkg hbg
      go_wp2_with fail
      rw [HGB.out]
      refine GA1.out.mono ?_
      rintro e wa1 ⟨rfl, bn1, bi1, us1, vs1, hB1, hkA1, hg1, hl1, hl2⟩
      have HB1 := Lib.hid hB1
      have HKA1 := Lib.hid hkA1
      have HGD1 := Lib.hid (And.intro hg1 (And.intro hl1 hl2))
      have GA2 := Lib.hid (gather_any G _ fpy gb gb us1 vs1 bn1 bi1 wa1 ((jown_all HOY.out HKg.out).keptFB hkA1) HFY.out.1 HG.out.2.1 (by simpa using hB1) (by have := HG.out.2.2; omega) (by have := HG.out.2.2; omega))
      clear hWg hB1 hkA1 hg1 hl1 hl2 o0 o1 o2 o3 o4 o5 o6
      obtain ⟨o0, o1, o2, o3, o4, o5, o6⟩ := ((HBYY.out.kept HKg.out trivial).keptFB HKA1.out).facts
      go_wp2_with fail
      refine GA2.out.mono ?_
      rintro e wa2 ⟨rfl, bn2, bi2, us2', vs2', hB2, hkA2, hg2, hl1, hl2⟩
      have hgd : Gd wa2 (fpx ++ fpy) (us1 ++ us2') (vs1 ++ vs2') := (HGD1.out.1.keptFB hkA2).app hg2 fun b hb hb2 => by have := HFX.out.2.2 b hb; have := HFY.out.2.1 b hb2; omega
      obtain ⟨lu, hlu1, hlu2⟩ := lens_of hgd.un
      obtain ⟨lw, hlw1, hlw2⟩ := lens_of hgd.vn
      have OW := Lib.hid (owned_any gb gb bn2 bi2 (us1 ++ us2') (vs1 ++ vs2') wa2 lu lw hB2 (by rw [List.length_append]; have := HGD1.out.2.1; have := HG.out.2.2; omega) (by rw [List.length_append]; have := HGD1.out.2.2; have := HG.out.2.2; omega) hlu1 hlw1 hlu2 hlw2 (apart_of _ hgd.ud) (apart_of _ hgd.vd))
      have HUF : Hid ((∀ b ∈ blks (us1 ++ us2'), W4.heap.size ≤ b) ∧ ∀ b ∈ blks (vs1 ++ vs2'), W4.heap.size ≤ b) := Lib.hid (by
        have h4 : ∀ b ∈ fpx ++ fpy, W4.heap.size ≤ b := fun b hb => by
          rcases List.mem_append.1 hb with hb | hb
          · exact HFX.out.2.1 b hb
          · have := HFY.out.2.1 b hb; have := HZ46.out; omega
        exact ⟨fun b hb => h4 b (hgd.uf b hb), fun b hb => h4 b (hgd.vf b hb)⟩)
      have HKA2 : Hid (Kept (FB gb Wg) Wg wa2) := Lib.hid (KeptFB.trans HKA1.out hkA2)
      clear hB2 hkA2 hg2 hl1 hl2 hgd hlu1 hlu2 hlw1 hlw2 o0 o1 o2 o3 o4 o5 o6 GA1 GA2
      go_wp2_with fail
      refine OW.out.mono ?_
      rintro e wb ⟨rfl, hkb⟩
      have HKB : Hid (Kept (fun _ => True) W4 wb) := Lib.hid (((HK47.out.tr HKg.out).trans HKA2.out fun i hi _ => .inl (by have := HK47.out.size; omega)).trans hkb fun i hi _ => ⟨fun hm => by have := HUF.out.1 i hm; omega, fun hm => by have := HUF.out.2 i hm; omega⟩)
      clear hkb OW HKA2 HKA1 HGD1 HB1 HUF HBXX7 HBYY HOX7 HOY HFX HFY HBW7 HJW7 HK9 HKg
      have ST := Lib.hid (fun (W : World) (hk : Kept (fun _ => True) W4 W) => same_is (D := true) (refsame_any X) HIN4.out HX4.out ⟨fun _ => rfl, fun _ => rfl⟩ hk)
      obtain ⟨o0, o1, o2, o3, o4, o5, o6⟩ := (HBX4.out.kept HKB.out trivial).facts
      obtain ⟨p0, p1, p2, p3, p4, p5, p6⟩ := (HBO4.out.kept HKB.out trivial).facts
      go_wp2_with fail
      refine (ST.out _ HKB.out).mono ?_
      rintro e wc1 ⟨rfl, hkc⟩
      have HKC := Lib.hid hkc
      have MK := Lib.hid (marked_any w3.heap.size w3.heap.size _ _ nv4 iv4 wc1 (HBK4.out.keptT hkc) (by have := HMM.out.1; simp only [List.nil_append]; omega) (by have := HMM.out.2; simp only [List.nil_append]; omega))
      clear hkc o0 o1 o2 o3 o4 o5 o6 p0 p1 p2 p3 p4 p5 p6 ST
      go_wp2_with fail
      refine MK.out.mono ?_
      rintro e wd ⟨rfl, hkd⟩
      have HKD := Lib.hid (HKC.out.tr hkd)
      clear hkd MK
      obtain ⟨o0, o1, o2, o3, o4, o5, o6⟩ := (HBX4.out.kept HKD.out trivial).facts
      obtain ⟨p0, p1, p2, p3, p4, p5, p6⟩ := (HBO4.out.kept HKD.out trivial).facts
      obtain ⟨q0, q1, q2, q3, q4, q5, q6⟩ := (HBY4.out.kept HKD.out trivial).facts
      go_wp2_with fail
      obtain ⟨D, hD⟩ : ∃ D : Bool, D = true ↔ X = Y := by
        by_cases h : X = Y
        · exact ⟨true, fun _ => h, fun _ => rfl⟩
        · exact ⟨false, no_same h⟩
      have HXD := Lib.hid (HX4.out.kept HKD.out fun _ _ _ => trivial)
      have HYD := Lib.hid (HY4.out.kept HKD.out fun _ _ _ => trivial)
      have HID := Lib.hid (HIN4.out.kept HKD.out fun _ _ _ => trivial)
      have C1 := Lib.hid (fun (W : World) (hk : Kept (fun _ => True) wd W) => same_is (same_any X) HID.out HYD.out hD hk)
      have C2 := Lib.hid (fun (W : World) (hk : Kept (fun _ => True) wd W) => same_is (refsame_any X) HXD.out HYD.out hD hk)
      have C3 := Lib.hid (fun (W : World) (hk : Kept (fun _ => True) wd W) => same_is (same_any Y) HYD.out HID.out (hD.trans ⟨Eq.symm, Eq.symm⟩) hk)
      have C4 := Lib.hid (fun (W : World) (hk : Kept (fun _ => True) wd W) => copied_any X _ (fun _ => True) W (HXD.out.kept hk fun _ _ _ => trivial) HFEW.out)
      have hz0 : w.heap.size < wd.heap.size := (HBX4.out.kept HKD.out trivial).lt
      have hz1 : w.heap.size + 1 < wd.heap.size := (HBY4.out.kept HKD.out trivial).lt
      have hz2 : w4.heap.size < wd.heap.size := (HBO4.out.kept HKD.out trivial).lt
      have HCK : Hid (∀ W, Kept (fun _ => True) wd W →
          W.cell? ⟨w.heap.size, 0, none⟩ = some (.int .i64 xk) ∧ W.cell? ⟨w.heap.size, 1, none⟩ = some (.int .i64 xn) ∧ W.cell? ⟨w.heap.size, 2, none⟩ = some (S xt) ∧ W.cell? ⟨w.heap.size, 3, none⟩ = some (.slice na nl nc) ∧ W.cell? ⟨w.heap.size, 4, none⟩ = some (.slice ia il ic) ∧
          W.cell? ⟨w.heap.size + 1, 0, none⟩ = some (.int .i64 yk) ∧ W.cell? ⟨w.heap.size + 1, 1, none⟩ = some (.int .i64 yn) ∧ W.cell? ⟨w.heap.size + 1, 2, none⟩ = some (S yt) ∧ W.cell? ⟨w.heap.size + 1, 3, none⟩ = some (.slice na2 nl2 nc2) ∧ W.cell? ⟨w.heap.size + 1, 4, none⟩ = some (.slice ia2 il2 ic2) ∧
          W.cell? ⟨w4.heap.size, 0, none⟩ = some (.int .i64 xk) ∧ W.cell? ⟨w4.heap.size, 1, none⟩ = some (.int .i64 xn) ∧ W.cell? ⟨w4.heap.size, 2, none⟩ = some (S xt) ∧ W.cell? ⟨w4.heap.size, 3, none⟩ = some (.slice na4 nl4 nc4) ∧ W.cell? ⟨w4.heap.size, 4, none⟩ = some (.slice ia4 il4 ic4)) := Lib.hid fun W hk =>
        ⟨(hk.cell hz0 trivial).trans o0, (hk.cell hz0 trivial).trans o1, (hk.cell hz0 trivial).trans o2, (hk.cell hz0 trivial).trans o3, (hk.cell hz0 trivial).trans o4,
          (hk.cell hz1 trivial).trans q0, (hk.cell hz1 trivial).trans q1, (hk.cell hz1 trivial).trans q2, (hk.cell hz1 trivial).trans q3, (hk.cell hz1 trivial).trans q4,
          (hk.cell hz2 trivial).trans p0, (hk.cell hz2 trivial).trans p1, (hk.cell hz2 trivial).trans p2, (hk.cell hz2 trivial).trans p3, (hk.cell hz2 trivial).trans p4⟩
      have hkc : Kept (fun _ => True) wd wd.drew := (Kept.refl _ wd).drew
      clear hD HBK4 HMM HOWN4 HX4 HY4 HBX4 HBY4 HBO4 HKC HKB
      cases D
      all_goals
        go_region_held3 (fun wz => wz.cell? ⟨w.heap.size, 0, none⟩ = some (.int .i64 xk) ∧ wz.cell? ⟨w.heap.size, 1, none⟩ = some (.int .i64 xn) ∧ wz.cell? ⟨w.heap.size, 2, none⟩ = some (S xt) ∧ wz.cell? ⟨w.heap.size, 3, none⟩ = some (.slice na nl nc) ∧ wz.cell? ⟨w.heap.size, 4, none⟩ = some (.slice ia il ic) ∧
          wz.cell? ⟨w.heap.size + 1, 0, none⟩ = some (.int .i64 yk) ∧ wz.cell? ⟨w.heap.size + 1, 1, none⟩ = some (.int .i64 yn) ∧ wz.cell? ⟨w.heap.size + 1, 2, none⟩ = some (S yt) ∧ wz.cell? ⟨w.heap.size + 1, 3, none⟩ = some (.slice na2 nl2 nc2) ∧ wz.cell? ⟨w.heap.size + 1, 4, none⟩ = some (.slice ia2 il2 ic2) ∧
          wz.cell? ⟨w4.heap.size, 0, none⟩ = some (.int .i64 xk) ∧ wz.cell? ⟨w4.heap.size, 1, none⟩ = some (.int .i64 xn) ∧ wz.cell? ⟨w4.heap.size, 2, none⟩ = some (S xt) ∧ wz.cell? ⟨w4.heap.size, 3, none⟩ = some (.slice na4 nl4 nc4) ∧ wz.cell? ⟨w4.heap.size, 4, none⟩ = some (.slice ia4 il4 ic4)) (first | exact HCK.out _ hkc | go_keep)
          (first
            | (go_at_call 23; (with_reducible refine (C1.out _ hkc).mono ?_); rintro e W1 ⟨rfl, hkc⟩)
            | (go_at_call 23; (with_reducible refine (C3.out _ hkc).mono ?_); rintro e W1 ⟨rfl, hkc⟩)
            | (go_at_call 13; (with_reducible refine (C2.out _ hkc).mono ?_); rintro e W1 ⟨rfl, hkc⟩)
            | (go_at_call 16; (with_reducible refine (C4.out _ hkc).mono ?_); rintro e W1 ⟨⟨u, fpu, rfl, hou, -, -⟩, hku⟩; have hkc := hkc.tr hku; have C5 := Lib.hid (fun (W : World) (hk : Kept (fun _ => True) W1 W) => same_is (D := true) (same_any X) (HID.out.kept hkc fun _ _ _ => trivial) (hou.toIn HF.out (fun _ => True) fun _ _ => trivial) ⟨fun _ => rfl, fun _ => rfl⟩ hk); clear hou hku)
            | (go_at_call 23; (with_reducible refine (C5.out _ (Kept.refl _ _)).mono ?_); rintro e W2 ⟨rfl, hk5⟩; have hkc := hkc.tr hk5))
        have HKE := Lib.hid ((HK04.out.tr HKD.out).tr hkc)
        go_wp2
        go_ret
        exact ⟨rfl, HKE.out⟩

set_option maxRecDepth 100000 in
theorem contract (H : Type) (enc : TypeId × Value → H) (W : World) (base : Nat) (args : Array Value) (ds gs : List (DataW H)) (before : List MemPlace)
    (hval : ∀ (j : Nat) t v, Tryz.f5.params[j]? = some t → args[j]? = some v → Value.okWide Tryz.prog W .any base t v)
    (hW : DataW.Whole enc Tryz.prog Tryz.f5.params.toList Rows.jotGetsSpec.vars false W args.toList ds gs before) (hL : laidMetH Tryz.prog Rows.jotGetsRow.laid W) :
    Calls Tryz.prog 5 args W fun e W' => ∃ v, e = .returned v ∧ Rows.jotGetsSpec.post enc Tryz.prog Tryz.f5 false true false false W args v W' := by
  have hE : JE W.heap.size W := env_of hL
  have hW' := hW
  have hlt := hW.lt
  obtain ⟨p, q, hA0, hV, rfl, hfz, hnd⟩ := hW
  have hA : DataW.TrodAll enc Tryz.prog W 0 (fun _ => true) true Tryz.f5.params.toList args.toList ds p := hA0
  rw [Tryz.params5] at hA hval
  obtain ⟨v0, v1, v2, d0, d1, d2, p0, p1, p2, hargs, rfl, rfl, h0, h1, h2⟩ := trodAll_three hA
  obtain rfl : args = #[v0, v1, v2] := by cases args; simp_all
  obtain ⟨rfl, rfl⟩ := trodVars_none hV
  obtain ⟨X, hX, -⟩ := jot_arg h0
  obtain ⟨Y, hY, -⟩ := jot_arg h2
  obtain ⟨s1, rfl, rfl, rfl, hs1⟩ := open_string Tryz.underlying9 (hval 1 9 v1 rfl rfl) h1
  clear hA0
  simp only [List.append_nil] at hW' hlt
  obtain ⟨⟨lt⟩⟩ := s1
  refine (law X v0 lt Y v2 W hE hX hY).mono fun e W' ⟨he, hkk⟩ => ?_
  subst he
  exact ⟨_, rfl, post_of_below (pa := p0 ++ ([] ++ p2)) (pv := []) hW' (fun _ _ _ => trodAll_mk1 (shut_bool Tryz.underlying4 _)) (fun sp hsp => by
      rw [Tryz.params5]
      exact trodAll_mk3 (trod_back laidOut (by kernel_rfl) (of_decide_eq_true (by kernel_rfl)) h0 hkk.toBelow (fun x hx => hlt x (List.mem_append_left _ hx)) sp (fun x hx => hsp x (List.mem_append_left _ hx))) (shut_string Tryz.underlying9 hs1)
        (trod_back laidOut (by kernel_rfl) (of_decide_eq_true (by kernel_rfl)) h2 hkk.toBelow (fun x hx => hlt x (List.mem_append_right _ hx)) sp (fun x hx => hsp x (List.mem_append_right _ hx)))) (fun _ _ => rfl) (by simp)
    hkk.toBelow (ok_one (by kernel_rfl) rfl (okWide_bool_mk Tryz.underlying4 _))⟩

abbrev jz : Value := .agg #[.int .i64 0, .int .i64 0, S [], .slice none 0 0, .slice none 0 0]
abbrev dz {H : Type} : DataW H := .agg [.lit (.int .i64 0), .lit (.int .i64 0), .lit (.string []), .nil, .nil]
theorem reads (os : Os) {H : Type} (enc : TypeId × Value → H) : ∃ places, DataW.whole enc Tryz.prog ((laidWorld os).forCall (fun _ _ => 0) ⟨#[], #[jz, S [], jz], []⟩).memory Tryz.f5.params.toList Rows.jotGetsSpec.vars false #[jz, S [], jz].toList 8 = some ([dz, .lit (.string []), dz], [], places) :=
  ⟨[], by kernel_rfl⟩
set_option maxRecDepth 100000 in
theorem lifted (os : Os) (started : os.Started) (H : Type) (enc : TypeId × Value → H) (F : Stop.Interp) :
    ReturnsInHanded {} Tryz.checked os 5 .any ((OpenSpec.ofChange Rows.jotGetsSpec).preRow enc Tryz.prog Tryz.f5 Rows.jotGetsRow.domain false Rows.jotGetsRow.laid) (((OpenSpec.ofChange Rows.jotGetsSpec).at F).post enc Tryz.prog Tryz.f5 false true false false) := by
  obtain ⟨places, hx⟩ := reads os enc
  refine returnsInHanded_of_row (C := Tryz.checked) (s := OpenSpec.ofChange Rows.jotGetsSpec) own started (by kernel_rfl) Tryz.func5
    (witness_row (enc := enc) (C := Tryz.checked) (laidWorld os) #[jz, S [], jz] (World.laidAll_os _ _ _) (World.shaped_of_ZipB (by kernel_rfl) (by kernel_rfl)) (by kernel_rfl)
      (OpenSpec.preRow_of_cond 8 hx (by kernel_rfl) (fun k hk => by cases hk) (by kernel_rfl) (laid_met os _))) ?_
  intro W base args ds gs before hval hW _ _ _ hL _ _
  exact contract H enc W base args ds gs before hval hW hL

theorem said : Rows.JotGetsSaid :=
  OpenClaim.holds_of_cond 5 Tryz.f5 rfl rfl rfl rfl rfl rfl rfl ⟨rfl, rfl, rfl, rfl, rfl⟩ rfl rfl rfl rfl rfl (by kernel_rfl) Tryz.func5 (by kernel_rfl)
    (of_decide_eq_true (by kernel_rfl)) (by unfold Func.isWrapper; first | (rw [if_pos (by decide +kernel)]; kernel_rfl) | (rw [if_neg (by decide +kernel)]; exact ⟨rfl, rfl⟩))
    (fun os started H enc _ F => by rw [OpenClaim.pre_eq_preRow]; exact lifted os started H enc F)

theorem plain (f : FuncId) (fn : Func) (hf : Tryz.pinned.checked.prog.funcNamed "latchkey/latchkeylaw04.JotGets" = some f) (hfn : Tryz.pinned.checked.prog.funcs[f]? = some fn) :
    true = Tryz.pinned.checked.prog.looks [] ∧ ∀ (j : Nat) t, fn.params[j]? = some t → Tryz.pinned.checked.prog.wantsStandIn t = false := by
  obtain rfl : f = 5 := Option.some.inj ((show Tryz.prog.funcNamed "latchkey/latchkeylaw04.JotGets" = some 5 by kernel_rfl).symm.trans hf) |>.symm
  obtain rfl : fn = Tryz.f5 := (Option.some.inj (Tryz.func5.symm.trans hfn)).symm
  refine ⟨by kernel_rfl, fun j t ht => ?_⟩
  rw [Tryz.params5] at ht
  have hm : t ∈ [25, 9, 25] := by have := Array.mem_of_getElem? ht; simpa using this
  have hall : ([25, 9, 25].all fun u => !Tryz.prog.wantsStandIn u) = true := by kernel_rfl
  exact (show Tryz.prog.wantsStandIn t = false by simpa using List.all_eq_true.1 hall t hm)

theorem card : Rows.JotGetsCardSaid :=
  Claim7.holds_tied_plain_at .later [] _ _ _ _ said (fun _ h => by cases h) (by kernel_rfl) (fun _ h => by cases h) jotGets_row_tie rfl ⟨rfl, rfl⟩ (by kernel_rfl) rfl plain (by kernel_rfl)
end Go.Proofs.YtmajpambfblhnaaGreatDoor.jotGets
