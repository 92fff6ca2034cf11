/- What the proof of this law needs, part 7: walks of the program's functions and plain laws (texts JoJA, JoPB). -/
import Derived.Test.YtpcgfhleloonfaaGreatDoorZb6
namespace Go.Proofs.YtpcgfhleloonfaaGreatDoor
open Go.RowKit Jo
theorem JOwn.leaf (w : World) (k n : Int) (t : List UInt8) : JOwn w (.mk k n t [] []) (jotV k n t (.slice none 0 0) (.slice none 0 0)) [] :=
  .mk k n t [] [] _ _ [] [] rfl rfl (World.ownsRow_nil _ _ _ _) (World.ownsRow_nil _ _ _ _) (fun j x h => by simp at h)
set_option maxHeartbeats 400000 in
theorem nr_jot (n : Int) (w : World) : Calls Tryz.prog 289 #[.int .i64 n] w (JotQ w (J.nr n)) := by
  go_enter Tryz.func289, Tryz.ntmps289
  go_wp2
  exact bodyPost_ret (v := jotV 3 n [] (.slice none 0 0) (.slice none 0 0)) (by simp [results, Tryz.results289, go_sem]) rfl ⟨⟨_, [], rfl, JOwn.leaf _ _ _ _, List.nodup_nil, by simp⟩, (Kept.refl _ _).alloc _⟩
set_option maxHeartbeats 400000 in
theorem tx_jot (t : List UInt8) (w : World) : Calls Tryz.prog 286 #[S t] w (JotQ w (J.tx t)) := by
  go_enter Tryz.func286, Tryz.ntmps286
  go_wp2
  exact bodyPost_ret (v := jotV 4 0 t (.slice none 0 0) (.slice none 0 0)) (by simp [results, Tryz.results286, go_sem]) rfl ⟨⟨_, [], rfl, JOwn.leaf _ _ _ _, List.nodup_nil, by simp⟩, (Kept.refl _ _).alloc _⟩
set_option maxHeartbeats 400000 in
theorem null_jot (w : World) : Calls Tryz.prog 284 #[.agg #[]] w (JotQ w J.null) := by
  go_enter Tryz.func284, Tryz.ntmps284
  go_wp2
  exact bodyPost_ret (v := jotV 0 0 [] (.slice none 0 0) (.slice none 0 0)) (by simp [results, Tryz.results284, go_sem]) rfl ⟨⟨_, [], rfl, JOwn.leaf _ _ _ _, List.nodup_nil, by simp⟩, ((Kept.refl _ _).alloc _).alloc _⟩
set_option maxHeartbeats 400000 in
theorem fls_jot (w : World) : Calls Tryz.prog 285 #[.bool false] w (JotQ w J.fls) := by
  go_enter Tryz.func285, Tryz.ntmps285
  go_wp2
  exact bodyPost_ret (v := jotV 1 0 [] (.slice none 0 0) (.slice none 0 0)) (by simp [results, Tryz.results285, go_sem]) rfl ⟨⟨_, [], rfl, JOwn.leaf _ _ _ _, List.nodup_nil, by simp⟩, (Kept.refl _ _).alloc _⟩
set_option maxHeartbeats 400000 in
theorem tru_jot (w : World) : Calls Tryz.prog 285 #[.bool true] w (JotQ w J.tru) := by
  go_enter Tryz.func285, Tryz.ntmps285
  go_wp2
  exact bodyPost_ret (v := jotV 2 0 [] (.slice none 0 0) (.slice none 0 0)) (by simp [results, Tryz.results285, go_sem]) rfl ⟨⟨_, [], rfl, JOwn.leaf _ _ _ _, List.nodup_nil, by simp⟩, (Kept.refl _ _).alloc _⟩
/-- Calling 'jot' on the interface value u hands out x. -/
def JotC (u : Value) (x : J) : Prop := ∃ (t : TypeId) (v : Value) (K : FuncId) (a : Value), u = .iface t v ∧ (∀ w, (callMethod (.iface t v) "latchkey/jot.jot" #[]).run Tryz.prog w = .ok (.enter K #[a]) w) ∧
  ∀ (ok : Nat → Prop) (W : World), VIn ok W x u → Calls Tryz.prog K #[a] W (JotQ W x)
theorem method_null (w : World) : (callMethod (.iface 192 (.agg #[])) "latchkey/jot.jot" #[]).run Tryz.prog w = .ok (.enter 284 #[.agg #[]]) w := by kernel_rfl
theorem method_fls (w : World) : (callMethod (.iface 193 (.bool false)) "latchkey/jot.jot" #[]).run Tryz.prog w = .ok (.enter 285 #[.bool false]) w := by kernel_rfl
theorem method_tru (w : World) : (callMethod (.iface 193 (.bool true)) "latchkey/jot.jot" #[]).run Tryz.prog w = .ok (.enter 285 #[.bool true]) w := by kernel_rfl
theorem method_nr (n : Int) (w : World) : (callMethod (.iface 218 (.int .i64 n)) "latchkey/jot.jot" #[]).run Tryz.prog w = .ok (.enter 289 #[.int .i64 n]) w := by kernel_rfl
theorem method_tx (s : ByteArray) (w : World) : (callMethod (.iface 194 (.string s)) "latchkey/jot.jot" #[]).run Tryz.prog w = .ok (.enter 286 #[.string s]) w := by kernel_rfl
theorem method_list (a : Option Addr) (n c : Nat) (w : World) : (callMethod (.iface 211 (.slice a n c)) "latchkey/jot.jot" #[]).run Tryz.prog w = .ok (.enter 287 #[.slice a n c]) w := by kernel_rfl
theorem method_object (a : Option Addr) (n c : Nat) (w : World) : (callMethod (.iface 213 (.slice a n c)) "latchkey/jot.jot" #[]).run Tryz.prog w = .ok (.enter 288 #[.slice a n c]) w := by kernel_rfl
end Go.Proofs.YtpcgfhleloonfaaGreatDoor
namespace Go.Proofs.YtpcgfhleloonfaaGreatDoor
open Go.RowKit Jo
set_option maxHeartbeats 4000000 in
theorem list_jot (ok : Nat → Prop) (xs : List J) (v : Value) (us : Nat → Value) (w : World) (hl : xs.length ≤ 1000000) (hr : Row1 ok w v xs.length us) (hv : ∀ (j : Nat) x, xs[j]? = some x → VIn ok w x (us j)) (hj : ∀ (j : Nat) x, xs[j]? = some x → JotC (us j) x) :
    Calls Tryz.prog 287 #[v] w (JotQ w (J.list xs)) := by
  have HJ := Lib.hid hj
  have HVI := Lib.hid hv
  clear hj hv
  rcases hr with ⟨rfl, h0⟩ | ⟨b, cap, rfl, h1, h2, h3, h4⟩
  · obtain rfl : xs = [] := List.eq_nil_of_length_eq_zero h0
    go_enter Tryz.func287, Tryz.ntmps287
    go_wp2
    go_loopg [9] 0 (fun q k wr => k = .int .i64 0 ∧ OutAt (w.heap.size + 1) 5 0 [] (.slice none 0 0) (.slice none 0 0) wr ∧ OutAt w.heap.size 0 0 [] (.slice none 0 0) (.slice none 0 0) wr ∧ w.heap.size + 2 ≤ wr.heap.size ∧ Kept (fun _ => True) w wr)
    case atStart => exact ⟨rfl, by have := OutAt.new (w.alloc (.cells #[.int .i64 0, .int .i64 0, S [], .slice none 0 0, .slice none 0 0] 72)) 5 0 [] (.slice none 0 0) (.slice none 0 0); simpa using this, (OutAt.new w 0 0 [] (.slice none 0 0) (.slice none 0 0)).kept (ok := fun _ => True) ((Kept.refl _ _).alloc _) trivial, by simp, ((Kept.refl _ w).alloc _).alloc _⟩
    case round =>
      obtain ⟨rfl, hout, hbox, hz, hk⟩ := hrel
      obtain ⟨o0, o1, o2, o3, o4, o5, o6⟩ := hout.facts
      obtain ⟨g0, g1, g2, g3, g4, g5, g6⟩ := hbox.facts
      obtain ⟨f0, f1, f2, f3, f4⟩ := hbox.free
      clear hout hbox
      go_wp2
      refine bodyPost_ret (v := jotV 5 0 [] (.slice none 0 0) (.slice none 0 0)) (by simp [results, Tryz.results287, go_sem, g0, g1, g2, g3, g4]) rfl ?_
      exact JotQ.of (g := w.heap.size) ((OwnJ.nil (w.heap.size + 2) none _).value 5 0 [] (ns := []) (nv := .slice none 0 0) (World.ownsRow_nil _ _ _ _) (fun b hb => by cases hb)) (by omega) (Nat.le_refl _) (by omega) hk (kept_box _ _ _ _ _ _ _)
  · have H4 := Lib.hid h4
    clear h4
    go_enter Tryz.func287, Tryz.ntmps287
    go_wp2
    go_loopg [9] xs.length (fun q k wr => ∃ (j : Nat) (iv : Value), k = .int .i64 j ∧ q = xs.length - j ∧ j ≤ xs.length ∧ OutAt (w.heap.size + 1) 5 0 [] (.slice none 0 0) iv wr ∧ OutAt w.heap.size 0 0 [] (.slice none 0 0) (.slice none 0 0) wr ∧ OwnJ (w.heap.size + 2) none iv (xs.take j) wr ∧ w.heap.size + 2 ≤ wr.heap.size ∧ Kept (fun _ => True) w wr)
    case atStart =>
      exact ⟨0, _, rfl, by omega, Nat.zero_le _, by have := OutAt.new (w.alloc (.cells #[.int .i64 0, .int .i64 0, S [], .slice none 0 0, .slice none 0 0] 72)) 5 0 [] (.slice none 0 0) (.slice none 0 0); simpa using this, (OutAt.new w 0 0 [] (.slice none 0 0) (.slice none 0 0)).kept (ok := fun _ => True) ((Kept.refl _ _).alloc _) trivial, OwnJ.nil _ _ _, by simp, ((Kept.refl _ w).alloc _).alloc _⟩
    case round =>
      obtain ⟨j, iv, rfl, rfl, hjl, hout, hbox, ho, hz, hk⟩ := hrel
      obtain ⟨o0, o1, o2, o3, o4, o5, o6⟩ := hout.facts
      have HOUT := Lib.hid hout
      have HBOX := Lib.hid hbox
      have HO := Lib.hid ho
      clear hout hbox ho
      by_cases hlt : j < xs.length
      · obtain ⟨x, hx⟩ : ∃ x, xs[j]? = some x := ⟨xs[j]'hlt, List.getElem?_eq_getElem hlt⟩
        have hc : wr.cell? ⟨b, j, none⟩ = some (us j) := (hk.cell h3 trivial).trans (H4.out j hlt)
        obtain ⟨t, v0, K, a, hu, hm, hcall⟩ := HJ.out j x hx
        have HV1 := Lib.hid ((HVI.out j x hx).kept hk (fun _ _ _ => trivial))
        rw [hu] at hc
        have HCALL := Lib.hid hcall
        have HX := Lib.hid hx
        clear hu hcall hx
        go_wp2_with fail
        have HM := Lib.hid hm
        clear hm
        have hkd : Kept (fun _ => True) wr wr.drew := (Kept.refl _ wr).drew
        obtain ⟨us2, fss, q1, q2, q3, q4, q5, q6⟩ := HO.out
        have HQ := Lib.hid (And.intro q1 (And.intro q2 (And.intro q3 (And.intro q4 (And.intro q5 (And.intro q6 (mem_flat_lt q2 q4)))))))
        have htl : (xs.take j).length = j := by rw [List.length_take]; omega
        have HTL := Lib.hid htl
        clear q1 q2 q3 q4 q5 q6 HO htl
        go_region_law (first
          | (refine step_invoke t v0 "latchkey/jot.jot" rfl (.tmp 15) rfl rfl HM.out (HCALL.out _ wr.drew (HV1.out.kept hkd (fun _ _ _ => trivial))) ?_
             rintro e w2 ⟨⟨u, fp, rfl, hown, hnd, hfp⟩, hk2⟩
             obtain ⟨nv, iv2, rfl⟩ := hown.form
             have hz2 : wr.heap.size ≤ w2.heap.size := hk2.size
             have hz3 : w.heap.size + 1 < w2.heap.size := by omega
             have HOUT2 := Lib.hid (HOUT.out.kept (hkd.tr hk2) trivial)
             have HBOX2 := Lib.hid (HBOX.out.kept (hkd.tr hk2) trivial)
             obtain ⟨p0, p1, p2, p3, p4, p5, p6⟩ := HOUT2.out.facts
             have HN := Lib.hid (And.intro hown (And.intro hnd hfp))
             have HK2 := Lib.hid (hkd.tr hk2)
             clear hown hnd hfp hk2
             refine ⟨_, rfl, ?_⟩)
          | (refine step_pushOne 70 72 Tryz.underlying70 infoJot rfl (by decide) rfl (.tmp 14) (.tmp 17) rfl (w.heap.size + 2) iv (xs.take j).length (jotCells us2) (jotV x.kind x.num x.text nv iv2).cells.toList w2 _ rfl rfl rfl HN.out.1.ones 1 _ rfl rfl rfl (ownsRow_kept HQ.out.2.2.1 HK2.out (fun _ _ => trivial)) (by have := HTL.out; omega) (by decide) (by omega) ?_
             intro v' w8 k1 k2 k3
             obtain ⟨vb, vc, rfl⟩ := ownsRow_some k1
             have HOUT8 := Lib.hid (HOUT2.out.below k2 (by omega))
             have HBOX8 := Lib.hid (HBOX2.out.below k2 (by omega))
             obtain ⟨s0, s1, s2, s3, s4, s5, s6⟩ := HOUT8.out.facts
             have HK8 := Lib.hid (And.intro k1 (And.intro k2 k3))
             clear k1 k2 k3))
        all_goals
          have HX' := HX.out
          have hO : OwnJ (w.heap.size + 2) none (.slice (some ⟨vb, 0, none⟩) ((xs.take j).length + 1) vc) (xs.take j ++ [x]) w8 := by
            obtain ⟨q1, q2, q3, q4, q5, q6, q7⟩ := HQ.out
            obtain ⟨hown, hnd, hfp⟩ := HN.out
            refine ownJ_push q1 q2 (jown_kept q2 q4 HK2.out.size fun b hb => HK2.out.block b (q7 b hb) trivial) q5 q6 hown hnd (fun b hb => ⟨?_, ?_, by simp, ?_⟩) HK8.out.1 HK8.out.2.2
            · have h := hfp b hb; simp at h; omega
            · intro e
              have h := hfp b hb
              simp at h
              have := (q3.lt b e.symm).2
              omega
            · intro hin
              have h := hfp b hb
              simp at h
              have := q7 b hin
              omega
          have hk8 : Kept (fun _ => True) w w8 := (hk.tr HK2.out).trans (ok2 := fun k => k < w.heap.size + 2) ⟨HK8.out.2.1.os, HK8.out.2.1.tape, HK8.out.2.1.output, HK8.out.2.1.size, fun k _ h => HK8.out.2.1.block k h⟩ fun i hi _ => by omega
          have ht : xs.take j ++ [x] = xs.take (j + 1) := by rw [List.take_add_one, HX']; rfl
          rw [ht, HTL.out] at hO
          have HO8 := Lib.hid hO
          have hz8 := HK8.out.2.1.size
          clear hO ht HX'
          go_wp2
          go_roundg (xs.length - (j + 1))
          case rel => exact ⟨j + 1, _, by go_num, rfl, by omega, HOUT8.out.setItems _, HBOX8.out.kept (ok := fun k => k ≠ w.heap.size + 1) ((Kept.refl _ _).setCell (.inr (by simp)) _) (by omega), HO8.out.kept (ok := fun k => k ≠ w.heap.size + 1) ((Kept.refl _ _).setCell (.inr (by simp)) _) (fun b hb => by omega), by simp [World.setCell]; omega, hk8.setCell (.inl (by simp)) _⟩
          case measure => omega
      · obtain rfl : j = xs.length := by omega
        have HO2 := Lib.hid (show OwnJ (w.heap.size + 2) none iv xs wr by have := HO.out; rwa [List.take_of_length_le (Nat.le_refl _)] at this)
        obtain ⟨ia, il, ic, rfl⟩ := HO2.out.slice
        obtain ⟨g0, g1, g2, g3, g4, g5, g6⟩ := HBOX.out.facts
        obtain ⟨f0, f1, f2, f3, f4⟩ := HBOX.out.free
        clear HO
        go_wp2
        refine bodyPost_ret (v := jotV 5 0 [] (.slice none 0 0) (.slice ia il ic)) (by simp [results, Tryz.results287, go_sem, g0, g1, g2, g3, g4]) rfl ?_
        exact JotQ.of (g := w.heap.size) (HO2.out.value 5 0 [] (ns := []) (nv := .slice none 0 0) (World.ownsRow_nil _ _ _ _) (fun b hb => by cases hb)) (by omega) (Nat.le_refl _) (by omega) hk (kept_box _ _ _ _ _ _ _)
end Go.Proofs.YtpcgfhleloonfaaGreatDoor
namespace Go.Proofs.YtpcgfhleloonfaaGreatDoor
open Go.RowKit Jo
theorem Moved.keptK {v v' : Value} {w w' : World} {B : Nat} (h : Moved v v' w w') (hb : Below B w w') : Kept (fun b => some b ≠ v.ownBlock) w w' := ⟨hb.os, hb.tape, hb.output, h.kept.1, fun k hk hne => h.kept.2 k hk hne⟩
set_option maxHeartbeats 8000000 in
set_option maxRecDepth 100000 in
theorem object_jot (ok : Nat → Prop) (ms : List (List UInt8 × J)) (v : Value) (us : Nat → Value) (w : World) (hl : ms.length ≤ 1000000) (hr : Row2 ok w v (ms.map (·.1)) us) (hv : ∀ (j : Nat) m, ms[j]? = some m → VIn ok w m.2 (us j)) (hj : ∀ (j : Nat) m, ms[j]? = some m → JotC (us j) m.2) :
    Calls Tryz.prog 288 #[v] w (JotQ w (J.obj ms)) := by
  have HJ := Lib.hid hj
  have HVI := Lib.hid hv
  clear hj hv
  rcases hr with ⟨rfl, h0⟩ | ⟨b, cap, rfl, h1, h2, h3, h4⟩
  · obtain rfl : ms = [] := by cases ms with | nil => rfl | cons _ _ => simp at h0
    go_enter Tryz.func288, Tryz.ntmps288
    go_wp2
    go_loopg [9] 0 (fun q k wr => k = .int .i64 0 ∧ OutAt (w.heap.size + 1) 6 0 [] (.slice none 0 0) (.slice none 0 0) wr ∧ OutAt w.heap.size 0 0 [] (.slice none 0 0) (.slice none 0 0) wr ∧ w.heap.size + 2 ≤ wr.heap.size ∧ Kept (fun _ => True) w wr)
    case atStart => exact ⟨rfl, by have := OutAt.new (w.alloc (.cells #[.int .i64 0, .int .i64 0, S [], .slice none 0 0, .slice none 0 0] 72)) 6 0 [] (.slice none 0 0) (.slice none 0 0); simpa using this, (OutAt.new w 0 0 [] (.slice none 0 0) (.slice none 0 0)).kept (ok := fun _ => True) ((Kept.refl _ _).alloc _) trivial, by simp, ((Kept.refl _ w).alloc _).alloc _⟩
    case round =>
      obtain ⟨rfl, hout, hbox, hz, hk⟩ := hrel
      obtain ⟨o0, o1, o2, o3, o4, o5, o6⟩ := hout.facts
      obtain ⟨g0, g1, g2, g3, g4, g5, g6⟩ := hbox.facts
      obtain ⟨f0, f1, f2, f3, f4⟩ := hbox.free
      clear hout hbox
      go_wp2
      refine bodyPost_ret (v := jotV 6 0 [] (.slice none 0 0) (.slice none 0 0)) (by simp [results, Tryz.results288, go_sem, g0, g1, g2, g3, g4]) rfl ?_
      exact JotQ.of (g := w.heap.size) ((OwnJ.nil (w.heap.size + 2) none _).value 6 0 [] (ns := []) (nv := .slice none 0 0) (World.ownsRow_nil _ _ _ _) (fun b hb => by cases hb)) (by omega) (Nat.le_refl _) (by omega) hk (kept_box _ _ _ _ _ _ _)
  · have H4 := Lib.hid h4
    clear h4
    rw [List.length_map] at h1 ⊢
    go_enter Tryz.func288, Tryz.ntmps288
    go_wp2
    go_loopg [9] ms.length (fun q k wr => ∃ (j : Nat) (nv iv : Value), k = .int .i64 j ∧ q = ms.length - j ∧ j ≤ ms.length ∧ OutAt (w.heap.size + 1) 6 0 [] nv iv wr ∧ OutAt w.heap.size 0 0 [] (.slice none 0 0) (.slice none 0 0) wr ∧
      wr.ownsRow (w.heap.size + 2) 9 1 nv j (((ms.take j).map (·.1)).map S) ∧ OwnJ (w.heap.size + 2) nv.ownBlock iv ((ms.take j).map (·.2)) wr ∧ Hid (∀ b, nv.ownBlock = some b → some b ≠ iv.ownBlock) ∧ w.heap.size + 2 ≤ wr.heap.size ∧ Kept (fun _ => True) w wr)
    case atStart =>
      exact ⟨0, _, _, rfl, by omega, Nat.zero_le _, by have := OutAt.new (w.alloc (.cells #[.int .i64 0, .int .i64 0, S [], .slice none 0 0, .slice none 0 0] 72)) 6 0 [] (.slice none 0 0) (.slice none 0 0); simpa using this, (OutAt.new w 0 0 [] (.slice none 0 0) (.slice none 0 0)).kept (ok := fun _ => True) ((Kept.refl _ _).alloc _) trivial, World.ownsRow_nil _ _ _ _, OwnJ.nil _ _ _, Lib.hid (fun b hb => by cases hb), by simp, ((Kept.refl _ w).alloc _).alloc _⟩
    case round =>
      obtain ⟨j, nv, iv, rfl, rfl, hjl, hout, hbox, hn, ho, hne, hz, hk⟩ := hrel
      have HOUT := Lib.hid hout
      have HBOX := Lib.hid hbox
      have HO := Lib.hid ho
      have HN := Lib.hid hn
      clear hout hbox ho hn
      by_cases hlt : j < ms.length
      · obtain ⟨L, hL⟩ : ∃ L, ((ms.take j).map (·.1)).map S = L := ⟨_, rfl⟩
        rw [hL] at HN
        have HL := Lib.hid hL
        clear hL
        obtain ⟨m, hm⟩ : ∃ m, ms[j]? = some m := ⟨ms[j]'hlt, List.getElem?_eq_getElem hlt⟩
        have hcc := H4.out j m.1 (by rw [List.getElem?_map, hm]; rfl)
        have hc0 : wr.cell? ⟨b, j * 2, none⟩ = some (S m.1) := (hk.cell h3 trivial).trans hcc.1
        have hc1 : wr.cell? ⟨b, j * 2 + 1, none⟩ = some (us j) := (hk.cell h3 trivial).trans hcc.2
        obtain ⟨t, v0, K, a, hu, hmeth, hcall⟩ := HJ.out j m hm
        have HV1 := Lib.hid ((HVI.out j m hm).kept hk (fun _ _ _ => trivial))
        rw [hu] at hc1
        have HCALL := Lib.hid hcall
        have HX := Lib.hid hm
        have HM := Lib.hid hmeth
        clear hu hcall hm hmeth hcc
        have hwm : w.heap.size + 1 < wr.heap.size := by omega
        -- the box of the member; the name appended
        have HOUTa := Lib.hid (HOUT.out.kept (ok := fun _ => True) ((Kept.refl _ wr).alloc (.cells #[S m.1, .iface t v0] 215)) trivial)
        obtain ⟨a0, a1, a2, a3, a4, a5, a6⟩ := HOUTa.out.facts
        have HNa := Lib.hid (World.ownsRow.alloc HN.out (.cells #[S m.1, .iface t v0] 215))
        go_wp2_with (at_builtin; refine wpList_pushOne' 24 9 Tryz.underlying24 infoStr rfl (by decide) rfl (.tmp 14) (.tmp 17) rfl (w.heap.size + 2) nv j _ [S m.1] (wr.alloc (.cells #[S m.1, .iface t v0] 215)) _ rfl rfl rfl (by intro y hy; simp at hy; subst hy; rfl) 1 _ (by simp) rfl rfl HNa.out (by omega) (by decide) (by simp; omega) ?_)
        intro nv' w3 k1 k2 k3
        obtain ⟨nb, nc, rfl⟩ := ownsRow_some k1
        have hz3 : wr.heap.size + 1 ≤ w3.heap.size := by have := k2.size; simpa using this
        have hka : Kept (fun _ => True) wr (wr.alloc (.cells #[S m.1, .iface t v0] 215)) := (Kept.refl _ wr).alloc _
        have hk3 := k3.keptK k2
        have hmne : some wr.heap.size ≠ nv.ownBlock := fun e => by have := (HN.out.lt _ e.symm).2; omega
        have hmem : w3.heap[wr.heap.size]? = some (.cells #[S m.1, .iface t v0] 215 (0, 0)) := (hk3.block _ (by simp) hmne).trans (heap_alloc_new wr _)
        have m0 : w3.cell? ⟨wr.heap.size, 0, none⟩ = some (S m.1) := by rw [cell_of_row w3 _ _ _ _ (0, 0) hmem]; rfl
        have m1 : w3.cell? ⟨wr.heap.size, 1, none⟩ = some (.iface t v0) := by rw [cell_of_row w3 _ _ _ _ (0, 0) hmem]; rfl
        have HOUT3 := Lib.hid (HOUTa.out.below k2 (by omega))
        have HBOX3 := Lib.hid ((HBOX.out.kept hka trivial).below k2 (by omega))
        obtain ⟨s0, s1, s2, s3, s4, s5, s6⟩ := HOUT3.out.facts
        obtain ⟨hom, hne3⟩ := (HO.out.kept hka (fun _ _ => trivial)).moved k3 hne.out
        have hks : Kept (· ≠ w.heap.size + 1) w3 (w3.setCell ⟨w.heap.size + 1, 3, none⟩ (.slice (some ⟨nb, 0, none⟩) (j + 1) nc)) := (Kept.refl _ w3).setCell (.inr (by simp)) _
        obtain ⟨W4, hW4⟩ : ∃ W4, w3.setCell ⟨w.heap.size + 1, 3, none⟩ (.slice (some ⟨nb, 0, none⟩) (j + 1) nc) = W4 := ⟨_, rfl⟩
        have M0 : W4.cell? ⟨wr.heap.size, 0, none⟩ = some (S m.1) := by rw [← hW4]; exact (hks.cell (by omega) (by omega)).trans m0
        have M1 : W4.cell? ⟨wr.heap.size, 1, none⟩ = some (.iface t v0) := by rw [← hW4]; exact (hks.cell (by omega) (by omega)).trans m1
        have HOUT4 := Lib.hid (HOUT3.out.setNames (.slice (some ⟨nb, 0, none⟩) (j + 1) nc))
        have HBOX4 := Lib.hid (HBOX3.out.kept hks (by omega))
        have HN4 := Lib.hid (ownsRow_kept k1 hks (fun b hb => by have := (k1.lt b hb).1; omega))
        have HO4 := Lib.hid (hom.kept hks (fun b hb => by omega))
        have hk4 : Kept (fun _ => True) w W4 := by
          rw [← hW4]
          exact ((hk.alloc _).trans (ok2 := fun k => k < w.heap.size + 2) ⟨k2.os, k2.tape, k2.output, k2.size, fun k _ h => k2.block k h⟩ (fun i hi _ => by omega)).trans hks fun i hi _ => by omega
        have HV4 : Hid (VIn ok W4 m.2 (us j)) := Lib.hid (by
          have h0 := (HVI.out j m HX.out).kept hk4 (fun _ _ _ => trivial)
          exact h0)
        have hz4 : w3.heap.size = W4.heap.size := by rw [← hW4]; simp [World.setCell]
        rw [hW4] at HOUT4 HBOX4 HN4 HO4
        have HW4 := Lib.hid hW4
        have HNE3 := Lib.hid hne3
        clear hom k1 k2 k3 hks HOUT HOUTa HNa HO HN a0 a1 a2 a3 a4 a5 a6 hne3 HV1 hW4
        obtain ⟨o0, o1, o2, o3, o4, o5, o6⟩ := HOUT4.out.facts
        obtain ⟨us2, fss, q1, q2, q3, q4, q5, q6⟩ := HO4.out
        have HQ := Lib.hid (And.intro q1 (And.intro q2 (And.intro q3 (And.intro q4 (And.intro q5 (And.intro q6 (mem_flat_lt q2 q4)))))))
        have htl : ((ms.take j).map (·.2)).length = j := by rw [List.length_map, List.length_take]; omega
        have HTL := Lib.hid htl
        have hkd : Kept (fun _ => True) W4 W4.drew := (Kept.refl _ W4).drew
        clear q1 q2 q3 q4 q5 q6 HO4 htl
        go_wp2_with fail
        rw [HW4.out]
        clear m0 m1 s0 s1 s2 s3 s4 s5 s6
        go_region_law (first
          | (refine step_invoke t v0 "latchkey/jot.jot" rfl (.tmp 23) rfl rfl HM.out (HCALL.out _ W4.drew (HV4.out.kept hkd (fun _ _ _ => trivial))) ?_
             rintro e w5 ⟨⟨u, fp, rfl, hown, hnd, hfp⟩, hk5⟩
             obtain ⟨nv2, iv2, rfl⟩ := hown.form
             have hz5 : W4.heap.size ≤ w5.heap.size := hk5.size
             have hz6 : w.heap.size + 1 < w5.heap.size := by omega
             have HOUT5 := Lib.hid (HOUT4.out.kept (hkd.tr hk5) trivial)
             have HBOX5 := Lib.hid (HBOX4.out.kept (hkd.tr hk5) trivial)
             obtain ⟨p0, p1, p2, p3, p4, p5, p6⟩ := HOUT5.out.facts
             have HN5 := Lib.hid (And.intro hown (And.intro hnd hfp))
             have HK5 := Lib.hid (hkd.tr hk5)
             clear hown hnd hfp hk5
             refine ⟨_, rfl, ?_⟩)
          | (refine step_pushOne 70 72 Tryz.underlying70 infoJot rfl (by decide) rfl (.tmp 21) (.tmp 25) rfl (w.heap.size + 2) iv ((ms.take j).map (·.2)).length (jotCells us2) (jotV m.2.kind m.2.num m.2.text nv2 iv2).cells.toList w5 _ rfl rfl rfl HN5.out.1.ones 1 _ rfl rfl rfl (ownsRow_kept HQ.out.2.2.1 HK5.out (fun _ _ => trivial)) (by have := HTL.out; omega) (by decide) (by omega) ?_
             intro v' w8 k1 k2 k3
             obtain ⟨vb, vc, rfl⟩ := ownsRow_some k1
             have HOUT8 := Lib.hid (HOUT5.out.below k2 (by omega))
             have HBOX8 := Lib.hid (HBOX5.out.below k2 (by omega))
             obtain ⟨s0, s1, s2, s3, s4, s5, s6⟩ := HOUT8.out.facts
             have HK8 := Lib.hid (And.intro k1 (And.intro k2 k3))
             clear k1 k2 k3))
        all_goals
          have HX' := HX.out
          have hks8 : Kept (· ≠ w.heap.size + 1) w8 (w8.setCell ⟨w.heap.size + 1, 4, none⟩ (.slice (some ⟨vb, 0, none⟩) (j + 1) vc)) := (Kept.refl _ _).setCell (.inr (by simp)) _
          have hO : OwnJ (w.heap.size + 2) (some nb) (.slice (some ⟨vb, 0, none⟩) (((ms.take j).map (·.2)).length + 1) vc) ((ms.take j).map (·.2) ++ [m.2]) w8 := by
            obtain ⟨q1, q2, q3, q4, q5, q6, q7⟩ := HQ.out
            obtain ⟨hown, hnd, hfp⟩ := HN5.out
            refine ownJ_push q1 q2 (jown_kept q2 q4 HK5.out.size fun b hb => HK5.out.block b (q7 b hb) trivial) q5 q6 hown hnd (fun b hb => ⟨?_, ?_, ?_, ?_⟩) HK8.out.1 HK8.out.2.2
            · have h := hfp b hb; simp at h; omega
            · intro e
              have h := hfp b hb
              simp at h
              have := (q3.lt b e.symm).2
              omega
            · intro e
              have h := hfp b hb
              simp at h
              have := (HN4.out.lt b e.symm).2
              omega
            · intro hin
              have h := hfp b hb
              simp at h
              have := q7 b hin
              omega
          have hrow : w8.ownsRow (w.heap.size + 2) 9 1 (.slice (some ⟨nb, 0, none⟩) (j + 1) nc) (j + 1) (L ++ [S m.1]) := by
            refine ownsRow_keptL (ownsRow_kept HN4.out HK5.out (fun _ _ => trivial)) HK8.out.2.1.size fun b hb => ?_
            refine HK8.out.2.2.kept.2 b ?_ fun e => HNE3.out b hb e
            exact Nat.lt_of_lt_of_le (HN4.out.lt b hb).2 HK5.out.size
          have hne8 : ∀ b, (Value.slice (some ⟨nb, 0, none⟩) (j + 1) nc).ownBlock = some b → some b ≠ (Value.slice (some ⟨vb, 0, none⟩) (j + 1) vc).ownBlock := by
            intro b hb e
            have h2 := HK8.out.2.2
            rcases h2 with ⟨e2, _⟩ | ⟨e2, _⟩
            · exact HNE3.out b hb (by rw [← e2]; rw [HTL.out]; exact e)
            · have := e2 b (by rw [HTL.out]; exact e.symm)
              have := (HN4.out.lt b hb).2
              have := HK5.out.size
              omega
          have hk8 : Kept (fun _ => True) w w8 := (hk4.tr HK5.out).trans (ok2 := fun k => k < w.heap.size + 2) ⟨HK8.out.2.1.os, HK8.out.2.1.tape, HK8.out.2.1.output, HK8.out.2.1.size, fun k _ h => HK8.out.2.1.block k h⟩ fun i hi _ => by omega
          have ht : (ms.take j).map (·.2) ++ [m.2] = (ms.take (j + 1)).map (·.2) := by rw [List.take_add_one, HX']; simp
          have ht1 : L ++ [S m.1] = ((ms.take (j + 1)).map (·.1)).map S := by rw [← HL.out, List.take_add_one, HX']; simp
          rw [ht, HTL.out] at hO
          rw [ht1] at hrow
          have HO8 := Lib.hid (hO.kept hks8 (fun b hb => by omega))
          have HR8 := Lib.hid (ownsRow_kept hrow hks8 (fun b hb => by have := (hrow.lt b hb).1; omega))
          have HNE8 := Lib.hid hne8
          have hz8 := HK8.out.2.1.size
          have HBOX9 := Lib.hid (HBOX8.out.kept hks8 (by omega))
          clear hO ht ht1 HX' hrow hne8 hks8
          go_wp2
          go_roundg (ms.length - (j + 1))
          case rel => exact ⟨j + 1, _, _, by go_num, rfl, by omega, HOUT8.out.setItems _, HBOX9.out, HR8.out, HO8.out, HNE8, by simp [World.setCell]; omega, hk8.setCell (.inl (by simp)) _⟩
          case measure => omega
      · obtain rfl : j = ms.length := by omega
        have HO2 := Lib.hid (show OwnJ (w.heap.size + 2) nv.ownBlock iv (ms.map (·.2)) wr by have := HO.out; rwa [List.take_of_length_le (Nat.le_refl _)] at this)
        have HN2 := Lib.hid (show wr.ownsRow (w.heap.size + 2) 9 1 nv (ms.map (·.1)).length ((ms.map (·.1)).map S) by have := HN.out; rw [List.length_map]; rwa [List.take_of_length_le (Nat.le_refl _)] at this)
        obtain ⟨ia, il, ic, rfl⟩ := HO2.out.slice
        obtain ⟨na, nl, nc, rfl⟩ := ownsRow_slice HN2.out
        obtain ⟨o0, o1, o2, o3, o4, o5, o6⟩ := HOUT.out.facts
        obtain ⟨g0, g1, g2, g3, g4, g5, g6⟩ := HBOX.out.facts
        obtain ⟨f0, f1, f2, f3, f4⟩ := HBOX.out.free
        clear HO HN
        go_wp2
        refine bodyPost_ret (v := jotV 6 0 [] (.slice na nl nc) (.slice ia il ic)) (by simp [results, Tryz.results288, go_sem, g0, g1, g2, g3, g4]) rfl ?_
        exact JotQ.of (g := w.heap.size) (HO2.out.value 6 0 [] (ns := ms.map (·.1)) HN2.out hne.out) (by omega) (Nat.le_refl _) (by omega) hk (kept_box _ _ _ _ _ _ _)
end Go.Proofs.YtpcgfhleloonfaaGreatDoor
namespace Go.Proofs.YtpcgfhleloonfaaGreatDoor
open Go.RowKit Jo
theorem hex_class (c : UInt8) (n : Int) (hn : n = c.toNat) : ∃ z : Int, Hid (hexZ c = z) ∧
    ((48 ≤ n ∧ n ≤ 57 ∧ z ≤ n - 48 ∧ n - 48 ≤ z) ∨ (97 ≤ n ∧ n ≤ 102 ∧ z ≤ n - 97 + 10 ∧ n - 97 + 10 ≤ z) ∨ (65 ≤ n ∧ n ≤ 70 ∧ z ≤ n - 65 + 10 ∧ n - 65 + 10 ≤ z) ∨
      (0 ≤ n ∧ n < 48 ∧ z ≤ -1 ∧ -1 ≤ z) ∨ (58 ≤ n ∧ n < 65 ∧ z ≤ -1 ∧ -1 ≤ z) ∨ (71 ≤ n ∧ n < 97 ∧ z ≤ -1 ∧ -1 ≤ z) ∨ (103 ≤ n ∧ n < 256 ∧ z ≤ -1 ∧ -1 ≤ z)) := by
  refine ⟨_, Lib.hid rfl, ?_⟩
  have hc := c.toNat_lt
  unfold hexZ
  simp only [UInt8.le_iff_toNat_le]
  rw [show (48 : UInt8).toNat = 48 from rfl, show (57 : UInt8).toNat = 57 from rfl, show (97 : UInt8).toNat = 97 from rfl, show (102 : UInt8).toNat = 102 from rfl, show (65 : UInt8).toNat = 65 from rfl, show (70 : UInt8).toNat = 70 from rfl]
  split
  · omega
  · split
    · omega
    · split <;> omega
set_option maxHeartbeats 4000000 in
set_option maxRecDepth 100000 in
theorem hex_any (g : Nat) (s : List UInt8) (i d : Nat) (lo hh : Int) (w : World) (hp : PA g s i d w) (hl : s.length ≤ 4000) (hi : i ≤ s.length) :
    Calls Tryz.prog 218 #[.pointer (some ⟨g, 0, none⟩), .int .i64 lo, .int .i64 hh] w (Reads g s d w (hexP s lo hh i) fun n e _ => e = .returned (.int .i64 n)) := by
  obtain ⟨R, hR⟩ : ∃ R, hexP s lo hh i = R := ⟨_, rfl⟩
  have HR := Lib.hid hR
  rw [hR]
  clear hR
  cases hc : s[i]? with
  | none =>
    have HN : Hid (R = .bad 40 i) := Lib.hid (by rw [← HR.out, hexP, hc])
    have C := Lib.hid (here_bad g s i d w hc hp hl hi)
    clear hc
    go_enter Tryz.func218, Tryz.ntmps218
    go_wp2_with fail
    refine C.out.mono ?_
    rintro x w' ⟨rfl, n, rfl⟩
    go_wp2
    rw [HN.out]
    exact ⟨rfl, rfl, hi, (Kept.refl _ w).drewN n⟩
  | some c =>
    have C := Lib.hid (here_ok g s i d w c hc hp hl)
    have hi1 : i + 1 ≤ s.length := (List.getElem?_eq_some_iff.1 hc).1
    have HP := Lib.hid hp
    obtain ⟨h0, h1, h2, h3, h4⟩ := hp.facts
    obtain ⟨z, HZ, hcls⟩ := hex_class c c.toNat rfl
    have HQ : Hid (R = if z < lo ∨ hh < z then .bad 40 i else .ok z (i + 1)) := Lib.hid (by rw [← HR.out, hexP, hc, ← HZ.out])
    clear hc hp HR HZ
    by_cases hbad : z < lo ∨ hh < z
    · have HN : Hid (R = .bad 40 i) := Lib.hid (by rw [HQ.out, if_pos hbad])
      clear HQ
      by_cases hlo : z < lo
      all_goals
        rcases hcls with ⟨a1, a2, a3, a4⟩ | ⟨a1, a2, a3, a4⟩ | ⟨a1, a2, a3, a4⟩ | ⟨a1, a2, a3, a4⟩ | ⟨a1, a2, a3, a4⟩ | ⟨a1, a2, a3, a4⟩ | ⟨a1, a2, a3, a4⟩
      all_goals
        have hx : hh < z ∨ z < lo := by omega
        try (have hhi : hh < z := by omega)
        clear hbad hx
        go_enter Tryz.func218, Tryz.ntmps218
        go_wp2_with fail
        refine C.out.mono ?_
        rintro x w' ⟨rfl, n, rfl⟩
        go_wp2_with fail
        refine (fail_any _ _ _ _ _ _ (HP.out.drewN _)).mono ?_
        rintro x w' ⟨rfl, rfl⟩
        go_wp2
        rw [HN.out]
        exact ⟨rfl, rfl, hi, (Kept.refl _ w).drewN n⟩
    · have HN : Hid (R = .ok z (i + 1)) := Lib.hid (by rw [HQ.out, if_neg hbad])
      clear HQ
      have hlo : ¬ z < lo := fun h => hbad (.inl h)
      have hhi : ¬ hh < z := fun h => hbad (.inr h)
      clear hbad
      rcases hcls with ⟨a1, a2, a3, a4⟩ | ⟨a1, a2, a3, a4⟩ | ⟨a1, a2, a3, a4⟩ | ⟨a1, a2, a3, a4⟩ | ⟨a1, a2, a3, a4⟩ | ⟨a1, a2, a3, a4⟩ | ⟨a1, a2, a3, a4⟩
      all_goals
        go_enter Tryz.func218, Tryz.ntmps218
        go_wp2_with fail
        refine C.out.mono ?_
        rintro x w' ⟨rfl, n, rfl⟩
        go_wp2
        go_ret
        rw [HN.out]
        exact ⟨ret_int (by omega), (HP.out.drewN _).setAt _ _ rfl, hi1, ((Kept.refl _ w).drewN _).setCell (.inr (by simp)) _⟩
end Go.Proofs.YtpcgfhleloonfaaGreatDoor
namespace Go.Proofs.YtpcgfhleloonfaaGreatDoor
open Go.RowKit Jo
theorem hexP_rng {s : List UInt8} {lo hh : Int} {i : Nat} {n : Int} {j : Nat} (h : hexP s lo hh i = .ok n j) : lo ≤ n ∧ n ≤ hh := by
  unfold hexP at h
  split at h
  · cases h
  · split at h
    · cases h
    · cases h; omega
theorem i64_or_nat (a b : Nat) (ha : a < 4294967296) (hb : b < 4294967296) : bits .or .i64 (a : Int) (b : Int) = ((a ||| b : Nat) : Int) := by
  have hx : a ||| b < 2 ^ 32 := Nat.or_lt_two_pow (by omega) (by omega)
  have e : ∀ a : Nat, a < 4294967296 → (BitVec.ofInt 64 (a : Int)).toNat = a := fun a ha => by
    rw [BitVec.ofInt_natCast, BitVec.toNat_ofNat]; exact Nat.mod_eq_of_lt (by omega)
  show IntKind.i64.wrap ((BitVec.ofInt 64 (a : Int) ||| BitVec.ofInt 64 (b : Int)).toNat : Int) = _
  rw [BitVec.toNat_or, e a ha, e b hb]
  exact IntWalk.i64_in _ (by omega)
theorem or16 (a b : Int) (h0 : 0 ≤ a) (h1 : a ≤ 100000) (h2 : 0 ≤ b) (h3 : b ≤ 15) : bits .or .i64 (a * 16) b = a * 16 + b := by
  obtain ⟨n, rfl⟩ := Int.eq_ofNat_of_zero_le h0
  obtain ⟨m, rfl⟩ := Int.eq_ofNat_of_zero_le h2
  have := Nat.two_pow_add_eq_or_of_lt (i := 4) (b := m) (by omega) n
  rw [show ((n : Int) * 16) = ((2 ^ 4 * n : Nat) : Int) from by omega, i64_or_nat _ _ (by omega) (by omega), ← this]
  omega
theorem Reads.bad {α : Type} {g : Nat} {s : List UInt8} {d : Nat} {w wm : World} {R : PR α} {Q : α → Ending → World → Prop} {x : Int} {i : Nat} {w' : World} (hR : R = .bad x i) (hi : i ≤ s.length) (hk : Kept (· ≠ g) w wm) (hk' : Kept (· ≠ g) wm w') :
    Reads g s d w R Q (gaveUp x i) w' := by rw [hR]; exact ⟨rfl, hi, hk.tr hk'⟩
set_option maxHeartbeats 8000000 in
set_option maxRecDepth 100000 in
theorem point_any (g : Nat) (s : List UInt8) (i d : Nat) (w : World) (hp : PA g s i d w) (hl : s.length ≤ 4000) (hi : i ≤ s.length) :
    Calls Tryz.prog 204 #[.pointer (some ⟨g, 0, none⟩)] w (Reads g s d w (pointP s i) fun n e _ => e = .returned (.int .i32 n)) := by
  obtain ⟨R, hR⟩ : ∃ R, pointP s i = R := ⟨_, rfl⟩
  have HR := Lib.hid hR
  rw [hR]
  clear hR
  have HK : Hid (Kept (· ≠ g) w w) := Kept.refl _ w
  have C := Lib.hid (hex_any g s i d 0 15 w hp hl hi)
  clear hp
  go_enter Tryz.func204, Tryz.ntmps204
  go_wp2_with fail
  refine C.out.mono ?_
  cases hq : hexP s 0 15 i with
  | bad e j' =>
    have HN : Hid (R = .bad e j') := Lib.hid (by rw [← HR.out, pointP]; simp only [hq, PR.bind_bad])
    rintro x w' ⟨rfl, hb, hk'⟩
    clear C hq
    go_wp2
    exact ⟨rfl, Reads.bad HN.out hb HK.out hk'⟩
  | ok a ja =>
  have Ha : Hid (((hexP s 0 (if a = 13 then 11 else 15) ja).bind fun b i => (hexP s 0 15 i).bind fun c i => (hexP s 0 15 i).bind fun d' i => (if (((a * 16 + b) * 16 + c) * 16 + d') < 55296 ∨ 56319 < (((a * 16 + b) * 16 + c) * 16 + d') then .ok ((((a * 16 + b) * 16 + c) * 16 + d')) i else (wordP s [92, 117] i).bind fun _ i => (hexP s 13 13 i).bind fun e i => (hexP s 12 15 i).bind fun f i => (hexP s 0 15 i).bind fun g i => (hexP s 0 15 i).bind fun h i => .ok (65536 + (((((a * 16 + b) * 16 + c) * 16 + d') - 55296) * 1024 + ((((e * 16 + f) * 16 + g) * 16 + h) - 56320))) i)) = R) := Lib.hid (by rw [← HR.out, pointP]; simp only [hq, PR.bind_ok])
  obtain ⟨a0, a1⟩ := hexP_rng hq
  rintro x w1 ⟨rfl, hp, hja, hk'⟩
  have HKa : Hid (Kept (· ≠ g) w w1) := Lib.hid (HK.out.tr hk')
  clear C hq hk'
  have C := Lib.hid (fun hh => hex_any g s ja d 0 hh w1 hp hl hja)
  go_upto_if 9 with fail
  go_cut [3] (fun h wx => ∃ hh : Int, h = .int .i64 hh ∧ wx = w1 ∧ Hid ((if a = 13 then 11 else 15) = hh) ∧ hh ≤ 15)
  case first =>
    by_cases h13 : a = 13
    · have q : (a == 13) = true := by simpa using h13
      have HH : Hid ((if a = 13 then (11 : Int) else 15) = 11) := Lib.hid (if_pos h13)
      clear h13
      go_wp2
      go_meet
      exact ⟨11, rfl, rfl, HH, by omega⟩
    · have q : (a == 13) = false := by simpa using h13
      have HH : Hid ((if a = 13 then (11 : Int) else 15) = 15) := Lib.hid (if_neg h13)
      clear h13
      go_wp2
      go_meet
      exact ⟨15, rfl, rfl, HH, by omega⟩
  case rest =>
  obtain ⟨hh, rfl, rfl, HH, hhm⟩ := hcut
  rw [HH.out] at Ha
  replace C := Lib.hid (C.out hh)
  go_wp2_with fail
  refine C.out.mono ?_
  cases hq : hexP s 0 hh ja with
  | bad e j' =>
    have HN : Hid (R = .bad e j') := Lib.hid (by rw [← Ha.out]; simp only [hq, PR.bind_bad])
    rintro x w' ⟨rfl, hb, hk'⟩
    clear C hq
    go_wp2
    exact ⟨rfl, Reads.bad HN.out hb HKa.out hk'⟩
  | ok b jb =>
  have Hb : Hid (((hexP s 0 15 jb).bind fun c i => (hexP s 0 15 i).bind fun d' i => (if (((a * 16 + b) * 16 + c) * 16 + d') < 55296 ∨ 56319 < (((a * 16 + b) * 16 + c) * 16 + d') then .ok ((((a * 16 + b) * 16 + c) * 16 + d')) i else (wordP s [92, 117] i).bind fun _ i => (hexP s 13 13 i).bind fun e i => (hexP s 12 15 i).bind fun f i => (hexP s 0 15 i).bind fun g i => (hexP s 0 15 i).bind fun h i => .ok (65536 + (((((a * 16 + b) * 16 + c) * 16 + d') - 55296) * 1024 + ((((e * 16 + f) * 16 + g) * 16 + h) - 56320))) i)) = R) := Lib.hid (by rw [← Ha.out]; simp only [hq, PR.bind_ok])
  obtain ⟨b0, b1⟩ := hexP_rng hq
  rintro x w2 ⟨rfl, hp, hjb, hk'⟩
  have HKb : Hid (Kept (· ≠ g) w w2) := Lib.hid (HKa.out.tr hk')
  clear C hq hk'
  have qb := or16 a b (by omega) (by omega) b0 (by omega)
  have C := Lib.hid (hex_any g s jb d 0 15 w2 hp hl hjb)
  clear hp
  go_wp2_with fail
  refine C.out.mono ?_
  cases hq : hexP s 0 15 jb with
  | bad e j' =>
    have HN : Hid (R = .bad e j') := Lib.hid (by rw [← Hb.out]; simp only [hq, PR.bind_bad])
    rintro x w' ⟨rfl, hb, hk'⟩
    clear C hq
    go_wp2
    exact ⟨rfl, Reads.bad HN.out hb HKb.out hk'⟩
  | ok c jc =>
  have Hc : Hid (((hexP s 0 15 jc).bind fun d' i => (if (((a * 16 + b) * 16 + c) * 16 + d') < 55296 ∨ 56319 < (((a * 16 + b) * 16 + c) * 16 + d') then .ok ((((a * 16 + b) * 16 + c) * 16 + d')) i else (wordP s [92, 117] i).bind fun _ i => (hexP s 13 13 i).bind fun e i => (hexP s 12 15 i).bind fun f i => (hexP s 0 15 i).bind fun g i => (hexP s 0 15 i).bind fun h i => .ok (65536 + (((((a * 16 + b) * 16 + c) * 16 + d') - 55296) * 1024 + ((((e * 16 + f) * 16 + g) * 16 + h) - 56320))) i)) = R) := Lib.hid (by rw [← Hb.out]; simp only [hq, PR.bind_ok])
  obtain ⟨c0, c1⟩ := hexP_rng hq
  rintro x w3 ⟨rfl, hp, hjc, hk'⟩
  have HKc : Hid (Kept (· ≠ g) w w3) := Lib.hid (HKb.out.tr hk')
  clear C hq hk'
  have qc := or16 (a * 16 + b) c (by omega) (by omega) c0 c1
  have C := Lib.hid (hex_any g s jc d 0 15 w3 hp hl hjc)
  clear hp
  go_wp2_with fail
  refine C.out.mono ?_
  cases hq : hexP s 0 15 jc with
  | bad e j' =>
    have HN : Hid (R = .bad e j') := Lib.hid (by rw [← Hc.out]; simp only [hq, PR.bind_bad])
    rintro x w' ⟨rfl, hb, hk'⟩
    clear C hq
    go_wp2
    exact ⟨rfl, Reads.bad HN.out hb HKc.out hk'⟩
  | ok d' jd =>
  have Hd : Hid (((if (((a * 16 + b) * 16 + c) * 16 + d') < 55296 ∨ 56319 < (((a * 16 + b) * 16 + c) * 16 + d') then .ok ((((a * 16 + b) * 16 + c) * 16 + d')) jd else (wordP s [92, 117] jd).bind fun _ i => (hexP s 13 13 i).bind fun e i => (hexP s 12 15 i).bind fun f i => (hexP s 0 15 i).bind fun g i => (hexP s 0 15 i).bind fun h i => .ok (65536 + (((((a * 16 + b) * 16 + c) * 16 + d') - 55296) * 1024 + ((((e * 16 + f) * 16 + g) * 16 + h) - 56320))) i)) = R) := Lib.hid (by rw [← Hc.out]; simp only [hq, PR.bind_ok])
  obtain ⟨d'0, d'1⟩ := hexP_rng hq
  rintro x w4 ⟨rfl, hp, hjd, hk'⟩
  have HKd : Hid (Kept (· ≠ g) w w4) := Lib.hid (HKc.out.tr hk')
  clear C hq hk'
  have qd := or16 ((a * 16 + b) * 16 + c) d' (by omega) (by omega) d'0 d'1
  by_cases hs : ((a * 16 + b) * 16 + c) * 16 + d' < 55296 ∨ 56319 < ((a * 16 + b) * 16 + c) * 16 + d'
  · have HN : Hid (R = .ok (((a * 16 + b) * 16 + c) * 16 + d') jd) := Lib.hid (by rw [← Hd.out, if_pos hs])
    by_cases hlt : ((a * 16 + b) * 16 + c) * 16 + d' < 55296
    all_goals
      try (have hgt : 56319 < ((a * 16 + b) * 16 + c) * 16 + d' := by omega)
      clear hs
      go_wp2
      go_ret
      rw [HN.out]
      exact ⟨rfl, hp, hjd, HKd.out⟩
  have HS : Hid (((wordP s [92, 117] jd).bind fun _ i => (hexP s 13 13 i).bind fun e i => (hexP s 12 15 i).bind fun f i => (hexP s 0 15 i).bind fun g i => (hexP s 0 15 i).bind fun h i => .ok (65536 + (((((a * 16 + b) * 16 + c) * 16 + d') - 55296) * 1024 + ((((e * 16 + f) * 16 + g) * 16 + h) - 56320))) i) = R) := Lib.hid (by rw [← Hd.out, if_neg hs])
  have hs1 : ¬ ((a * 16 + b) * 16 + c) * 16 + d' < 55296 := fun h => hs (.inl h)
  have hs2 : ¬ 56319 < ((a * 16 + b) * 16 + c) * 16 + d' := fun h => hs (.inr h)
  clear hs
  have C := Lib.hid (word_any g s [92, 117] jd d w4 hp hl (by simp) hjd)
  clear hp
  go_wp2_with fail
  refine C.out.mono ?_
  cases hq : wordP s [92, 117] jd with
  | bad e j' =>
    have HN : Hid (R = .bad e j') := Lib.hid (by rw [← HS.out]; simp only [hq, PR.bind_bad])
    rintro x w' ⟨rfl, hb, hk'⟩
    clear C hq
    go_wp2
    exact ⟨rfl, Reads.bad HN.out hb HKd.out hk'⟩
  | ok u jw =>
  have HW : Hid (((hexP s 13 13 jw).bind fun e i => (hexP s 12 15 i).bind fun f i => (hexP s 0 15 i).bind fun g i => (hexP s 0 15 i).bind fun h i => .ok (65536 + (((((a * 16 + b) * 16 + c) * 16 + d') - 55296) * 1024 + ((((e * 16 + f) * 16 + g) * 16 + h) - 56320))) i) = R) := Lib.hid (by rw [← HS.out]; simp only [hq, PR.bind_ok])
  rintro x w5 ⟨rfl, hp, hjw, hk'⟩
  have HKw : Hid (Kept (· ≠ g) w w5) := Lib.hid (HKd.out.tr hk')
  clear C hq hk'
  have C := Lib.hid (hex_any g s jw d 13 13 w5 hp hl hjw)
  clear hp
  go_wp2_with fail
  refine C.out.mono ?_
  cases hq : hexP s 13 13 jw with
  | bad e j' =>
    have HN : Hid (R = .bad e j') := Lib.hid (by rw [← HW.out]; simp only [hq, PR.bind_bad])
    rintro x w' ⟨rfl, hb, hk'⟩
    clear C hq
    go_wp2
    exact ⟨rfl, Reads.bad HN.out hb HKw.out hk'⟩
  | ok e je =>
  have He : Hid (((hexP s 12 15 je).bind fun f i => (hexP s 0 15 i).bind fun g i => (hexP s 0 15 i).bind fun h i => .ok (65536 + (((((a * 16 + b) * 16 + c) * 16 + d') - 55296) * 1024 + ((((e * 16 + f) * 16 + g) * 16 + h) - 56320))) i) = R) := Lib.hid (by rw [← HW.out]; simp only [hq, PR.bind_ok])
  obtain ⟨e0, e1⟩ := hexP_rng hq
  rintro x w6 ⟨rfl, hp, hje, hk'⟩
  have HKe : Hid (Kept (· ≠ g) w w6) := Lib.hid (HKw.out.tr hk')
  clear C hq hk'
  have C := Lib.hid (hex_any g s je d 12 15 w6 hp hl hje)
  clear hp
  go_wp2_with fail
  refine C.out.mono ?_
  cases hq : hexP s 12 15 je with
  | bad e j' =>
    have HN : Hid (R = .bad e j') := Lib.hid (by rw [← He.out]; simp only [hq, PR.bind_bad])
    rintro x w' ⟨rfl, hb, hk'⟩
    clear C hq
    go_wp2
    exact ⟨rfl, Reads.bad HN.out hb HKe.out hk'⟩
  | ok f jf =>
  have Hf : Hid (((hexP s 0 15 jf).bind fun g i => (hexP s 0 15 i).bind fun h i => .ok (65536 + (((((a * 16 + b) * 16 + c) * 16 + d') - 55296) * 1024 + ((((e * 16 + f) * 16 + g) * 16 + h) - 56320))) i) = R) := Lib.hid (by rw [← He.out]; simp only [hq, PR.bind_ok])
  obtain ⟨f0, f1⟩ := hexP_rng hq
  rintro x w7 ⟨rfl, hp, hjf, hk'⟩
  have HKf : Hid (Kept (· ≠ g) w w7) := Lib.hid (HKe.out.tr hk')
  clear C hq hk'
  have qf := or16 e f (by omega) (by omega) (by omega) f1
  have C := Lib.hid (hex_any g s jf d 0 15 w7 hp hl hjf)
  clear hp
  go_wp2_with fail
  refine C.out.mono ?_
  cases hq : hexP s 0 15 jf with
  | bad e j' =>
    have HN : Hid (R = .bad e j') := Lib.hid (by rw [← Hf.out]; simp only [hq, PR.bind_bad])
    rintro x w' ⟨rfl, hb, hk'⟩
    clear C hq
    go_wp2
    exact ⟨rfl, Reads.bad HN.out hb HKf.out hk'⟩
  | ok p jp =>
  have Hp : Hid (((hexP s 0 15 jp).bind fun h i => .ok (65536 + (((((a * 16 + b) * 16 + c) * 16 + d') - 55296) * 1024 + ((((e * 16 + f) * 16 + p) * 16 + h) - 56320))) i) = R) := Lib.hid (by rw [← Hf.out]; simp only [hq, PR.bind_ok])
  obtain ⟨p0, p1⟩ := hexP_rng hq
  rintro x w8 ⟨rfl, hp, hjp, hk'⟩
  have HKp : Hid (Kept (· ≠ g) w w8) := Lib.hid (HKf.out.tr hk')
  clear C hq hk'
  have qg := or16 (e * 16 + f) p (by omega) (by omega) p0 p1
  have C := Lib.hid (hex_any g s jp d 0 15 w8 hp hl hjp)
  clear hp
  go_wp2_with fail
  refine C.out.mono ?_
  cases hq : hexP s 0 15 jp with
  | bad e j' =>
    have HN : Hid (R = .bad e j') := Lib.hid (by rw [← Hp.out]; simp only [hq, PR.bind_bad])
    rintro x w' ⟨rfl, hb, hk'⟩
    clear C hq
    go_wp2
    exact ⟨rfl, Reads.bad HN.out hb HKp.out hk'⟩
  | ok q jq =>
  have Hq : Hid ((.ok (65536 + (((((a * 16 + b) * 16 + c) * 16 + d') - 55296) * 1024 + ((((e * 16 + f) * 16 + p) * 16 + q) - 56320))) jq) = R) := Lib.hid (by rw [← Hp.out]; simp only [hq, PR.bind_ok])
  obtain ⟨q0, q1⟩ := hexP_rng hq
  rintro x w9 ⟨rfl, hp, hjq, hk'⟩
  have HKq : Hid (Kept (· ≠ g) w w9) := Lib.hid (HKp.out.tr hk')
  clear C hq hk'
  have qh := or16 ((e * 16 + f) * 16 + p) q (by omega) (by omega) q0 q1
  go_wp2
  go_ret
  rw [← Hq.out]
  refine ⟨ret_int ?_, hp, hjq, HKq.out⟩
  omega
end Go.Proofs.YtpcgfhleloonfaaGreatDoor
namespace Go.Proofs.YtpcgfhleloonfaaGreatDoor
open Go.RowKit Jo
theorem pointP_rng {s : List UInt8} {i : Nat} {n : Int} {j : Nat} (h : pointP s i = .ok n j) : 0 ≤ n ∧ n ≤ 1114111 := by
  unfold pointP at h
  cases ha : hexP s 0 15 i with
  | bad e k => rw [ha] at h; cases h
  | ok a ia =>
    rw [ha, PR.bind_ok] at h
    have ra := hexP_rng ha
    cases hb : hexP s 0 (if a = 13 then 11 else 15) ia with
    | bad e k => rw [hb] at h; cases h
    | ok b ib =>
      rw [hb, PR.bind_ok] at h
      have rb := hexP_rng hb
      have rb2 : b ≤ 15 := by have := rb.2; split at this <;> omega
      cases hc : hexP s 0 15 ib with
      | bad e k => rw [hc] at h; cases h
      | ok c ic =>
        rw [hc, PR.bind_ok] at h
        have rc := hexP_rng hc
        cases hd : hexP s 0 15 ic with
        | bad e k => rw [hd] at h; cases h
        | ok d id =>
          rw [hd, PR.bind_ok] at h
          have rd := hexP_rng hd
          by_cases hs : ((a * 16 + b) * 16 + c) * 16 + d < 55296 ∨ 56319 < ((a * 16 + b) * 16 + c) * 16 + d
          · rw [if_pos hs] at h
            cases h
            omega
          · rw [if_neg hs] at h
            cases hw : wordP s [92, 117] id with
            | bad e k => rw [hw] at h; cases h
            | ok u iw =>
              rw [hw, PR.bind_ok] at h
              cases he : hexP s 13 13 iw with
              | bad e k => rw [he] at h; cases h
              | ok e ie =>
                rw [he, PR.bind_ok] at h
                have re := hexP_rng he
                cases hf : hexP s 12 15 ie with
                | bad e k => rw [hf] at h; cases h
                | ok f jf =>
                  rw [hf, PR.bind_ok] at h
                  have rf := hexP_rng hf
                  cases hg : hexP s 0 15 jf with
                  | bad e k => rw [hg] at h; cases h
                  | ok g ig =>
                    rw [hg, PR.bind_ok] at h
                    have rg := hexP_rng hg
                    cases hh : hexP s 0 15 ig with
                    | bad e k => rw [hh] at h; cases h
                    | ok p ip =>
                      rw [hh, PR.bind_ok] at h
                      have rh := hexP_rng hh
                      cases h
                      omega
/-- What the reader's methods that hold a row of bytes leave: the row is grown. -/
def ReadsB (g : Nat) (s : List UInt8) (d B : Nat) (l : List UInt8) (w : World) (r : PR (List UInt8)) (e : Ending) (w' : World) : Prop :=
  match r with
  | .ok a i => (∃ v', e = .returned v' ∧ OwnB 5 B v' (l ++ a) w') ∧ PA g s i d w' ∧ i ≤ s.length ∧ Kept (fun k => k < B ∧ k ≠ g) w w'
  | .bad x i => e = gaveUp x i ∧ i ≤ s.length ∧ Kept (fun k => k < B ∧ k ≠ g) w w'
theorem Kept.sub {g B : Nat} {w w' : World} (h : Kept (· ≠ g) w w') : Kept (fun k => k < B ∧ k ≠ g) w w' := h.mono fun _ _ h => h.2
theorem Below.kept {g B : Nat} {w w' : World} (h : Below B w w') : Kept (fun k => k < B ∧ k ≠ g) w w' := ⟨h.os, h.tape, h.output, h.size, fun k _ ho => h.block k ho.1⟩
theorem OwnB.setCell {e : TypeId} {B : Nat} {v : Value} {l : List UInt8} {w : World} (h : OwnB e B v l w) {p : Addr} (hp : p.block < B) (u : Value) : OwnB e B v l (w.setCell p u) :=
  h.kept (ok := fun k => k ≠ p.block) ((Kept.refl _ w).setCell (.inr (by simp)) u) fun b hb => by have := (h.lt b hb).1; omega
theorem OwnB.drewN {e : TypeId} {B : Nat} {v : Value} {l : List UInt8} {w : World} (h : OwnB e B v l w) (n : Nat) : OwnB e B v l (w.drewN n) := h
set_option maxHeartbeats 4000000 in
set_option maxRecDepth 100000 in
theorem escaped_any (g : Nat) (s : List UInt8) (i d B : Nat) (v : Value) (l : List UInt8) (w : World) (hp : PA g s i d w) (hown : OwnB 5 B v l w) (hg : g < B) (hB : B ≤ w.heap.size) (hl : s.length ≤ 4000) (hi : i + 1 ≤ s.length) (hll : l.length ≤ 100000) :
    Calls Tryz.prog 176 #[.pointer (some ⟨g, 0, none⟩), v] w (ReadsB g s d B l w (escP s (i + 1))) := by
  obtain ⟨R, hR⟩ : ∃ R, escP s (i + 1) = R := ⟨_, rfl⟩
  have HR := Lib.hid hR
  rw [hR]
  clear hR
  obtain ⟨h0, h1, h2, h3, h4⟩ := hp.facts
  have HP := Lib.hid (hp.setAt (i + 1) (.int .i64 ((i + 1 : Nat) : Int)) rfl)
  have HO := Lib.hid (hown.setCell (p := ⟨g, 1, none⟩) hg (.int .i64 ((i + 1 : Nat) : Int)))
  have HK := Lib.hid ((Kept.refl (· ≠ g) w).setCell (p := ⟨g, 1, none⟩) (.inr (by simp)) (.int .i64 ((i + 1 : Nat) : Int)))
  have HZ : Hid ((w.setCell ⟨g, 1, none⟩ (.int .i64 ((i + 1 : Nat) : Int))).heap.size = w.heap.size) := Lib.hid (by simp [World.setCell])
  have hcast : ((i + 1 : Nat) : Int) = (i : Int) + 1 := by omega
  rw [hcast] at HP HO HK HZ
  clear hcast
  obtain ⟨w0, hw0⟩ : ∃ w0, w.setCell ⟨g, 1, none⟩ (.int .i64 ((i : Int) + 1)) = w0 := ⟨_, rfl⟩
  rw [hw0] at HP HO HK HZ
  have HW := Lib.hid hw0
  clear hp hown hw0
  cases hc : s[i + 1]? with
  | none =>
    have HN : Hid (R = .bad 40 (i + 1)) := Lib.hid (by rw [← HR.out, escP, hc])
    have C := Lib.hid (here_bad g s (i + 1) d w0 hc HP.out hl hi)
    clear hc
    go_enter Tryz.func176, Tryz.ntmps176
    go_wp2_with fail
    rw [HW.out]
    refine C.out.mono ?_
    rintro x w' ⟨rfl, n, rfl⟩
    go_wp2
    rw [HN.out]
    exact ⟨rfl, rfl, hi, (HK.out.drewN n).sub⟩
  | some c =>
    have C := Lib.hid (here_ok g s (i + 1) d w0 c hc HP.out hl)
    have hi1 : i + 1 + 1 ≤ s.length := (List.getElem?_eq_some_iff.1 hc).1
    have HQ : Hid (R = if c = 34 ∨ c = 92 ∨ c = 47 then .ok [c] (i + 1 + 1) else if c = 98 then .ok [8] (i + 1 + 1) else if c = 102 then .ok [12] (i + 1 + 1) else if c = 110 then .ok [10] (i + 1 + 1) else if c = 114 then .ok [13] (i + 1 + 1) else if c = 116 then .ok [9] (i + 1 + 1) else if c = 117 then (pointP s (i + 1 + 1)).bind fun n i => .ok (Lib.encodeRune n) i else .bad 40 (i + 1)) := Lib.hid (by rw [← HR.out, escP, hc])
    have q34 := byte_is c 34 34 rfl
    have q92 := byte_is c 92 92 rfl
    have q47 := byte_is c 47 47 rfl
    have q98 := byte_is c 98 98 rfl
    have q102 := byte_is c 102 102 rfl
    have q110 := byte_is c 110 110 rfl
    have q114 := byte_is c 114 114 rfl
    have q116 := byte_is c 116 116 rfl
    have q117 := byte_is c 117 117 rfl
    clear hc HR
    obtain ⟨g0, g1, g2, g3, g4⟩ := HP.out.facts
    by_cases e34 : c = 34
    · have HN : Hid (R = .ok [c] (i + 1 + 1)) := Lib.hid (by rw [HQ.out]; simp [e34])
      have p34 : ((c.toNat : Int) == 34) = true := by rw [q34, e34]; rfl
      have p92 : ((c.toNat : Int) == 92) = false := by rw [q92, e34]; rfl
      have p47 : ((c.toNat : Int) == 47) = false := by rw [q47, e34]; rfl
      have p98 : ((c.toNat : Int) == 98) = false := by rw [q98, e34]; rfl
      have p102 : ((c.toNat : Int) == 102) = false := by rw [q102, e34]; rfl
      have p110 : ((c.toNat : Int) == 110) = false := by rw [q110, e34]; rfl
      have p114 : ((c.toNat : Int) == 114) = false := by rw [q114, e34]; rfl
      have p116 : ((c.toNat : Int) == 116) = false := by rw [q116, e34]; rfl
      have p117 : ((c.toNat : Int) == 117) = false := by rw [q117, e34]; rfl
      clear HQ e34 q34 q92 q47 q98 q102 q110 q114 q116 q117
      go_enter Tryz.func176, Tryz.ntmps176
      go_wp2_with fail
      rw [HW.out]
      refine C.out.mono ?_
      rintro x w' ⟨rfl, n, rfl⟩
      have HO2 := Lib.hid (((HO.out.drewN n).setCell (p := ⟨g, 1, none⟩) hg (.int .i64 ((i : Int) + 1 + 1))))
      have HP2 := Lib.hid ((HP.out.drewN n).setAt (i + 1 + 1) (.int .i64 ((i : Int) + 1 + 1)) (by congr 1))
      have HK2 := Lib.hid ((HK.out.drewN n).setCell (p := ⟨g, 1, none⟩) (.inr (by simp)) (.int .i64 ((i : Int) + 1 + 1)))
      have HZ2 : Hid (w.heap.size ≤ ((w0.drewN n).setCell ⟨g, 1, none⟩ (.int .i64 ((i : Int) + 1 + 1))).heap.size) := Lib.hid HK2.out.size
      go_wp2_with (at_builtin; refine wpList_pushes 84 5 Tryz.underlying84 infoByte rfl _ _ rfl B l v [c] _ _ rfl rfl 1 1 rfl _ (by simp [World.setCell]) rfl rfl HO2.out (by simp; omega) (by have := HZ2.out; omega) ?_)
      intro v' w' k1 k2 k3
      have HK1 := Lib.hid k1
      clear k1
      go_wp2
      go_ret
      rw [HN.out]
      exact ⟨⟨v', rfl, HK1.out⟩, HP2.out.kept (Below.kept (g := B) k2) ⟨hg, by omega⟩, hi1, HK2.out.sub.tr (Below.kept k2)⟩
    by_cases e92 : c = 92
    · have HN : Hid (R = .ok [c] (i + 1 + 1)) := Lib.hid (by rw [HQ.out]; simp [e92])
      have p34 : ((c.toNat : Int) == 34) = false := by rw [q34, e92]; rfl
      have p92 : ((c.toNat : Int) == 92) = true := by rw [q92, e92]; rfl
      have p47 : ((c.toNat : Int) == 47) = false := by rw [q47, e92]; rfl
      have p98 : ((c.toNat : Int) == 98) = false := by rw [q98, e92]; rfl
      have p102 : ((c.toNat : Int) == 102) = false := by rw [q102, e92]; rfl
      have p110 : ((c.toNat : Int) == 110) = false := by rw [q110, e92]; rfl
      have p114 : ((c.toNat : Int) == 114) = false := by rw [q114, e92]; rfl
      have p116 : ((c.toNat : Int) == 116) = false := by rw [q116, e92]; rfl
      have p117 : ((c.toNat : Int) == 117) = false := by rw [q117, e92]; rfl
      clear HQ e92 q34 q92 q47 q98 q102 q110 q114 q116 q117
      go_enter Tryz.func176, Tryz.ntmps176
      go_wp2_with fail
      rw [HW.out]
      refine C.out.mono ?_
      rintro x w' ⟨rfl, n, rfl⟩
      have HO2 := Lib.hid (((HO.out.drewN n).setCell (p := ⟨g, 1, none⟩) hg (.int .i64 ((i : Int) + 1 + 1))))
      have HP2 := Lib.hid ((HP.out.drewN n).setAt (i + 1 + 1) (.int .i64 ((i : Int) + 1 + 1)) (by congr 1))
      have HK2 := Lib.hid ((HK.out.drewN n).setCell (p := ⟨g, 1, none⟩) (.inr (by simp)) (.int .i64 ((i : Int) + 1 + 1)))
      have HZ2 : Hid (w.heap.size ≤ ((w0.drewN n).setCell ⟨g, 1, none⟩ (.int .i64 ((i : Int) + 1 + 1))).heap.size) := Lib.hid HK2.out.size
      go_wp2_with (at_builtin; refine wpList_pushes 84 5 Tryz.underlying84 infoByte rfl _ _ rfl B l v [c] _ _ rfl rfl 1 1 rfl _ (by simp [World.setCell]) rfl rfl HO2.out (by simp; omega) (by have := HZ2.out; omega) ?_)
      intro v' w' k1 k2 k3
      have HK1 := Lib.hid k1
      clear k1
      go_wp2
      go_ret
      rw [HN.out]
      exact ⟨⟨v', rfl, HK1.out⟩, HP2.out.kept (Below.kept (g := B) k2) ⟨hg, by omega⟩, hi1, HK2.out.sub.tr (Below.kept k2)⟩
    by_cases e47 : c = 47
    · have HN : Hid (R = .ok [c] (i + 1 + 1)) := Lib.hid (by rw [HQ.out]; simp [e47])
      have p34 : ((c.toNat : Int) == 34) = false := by rw [q34, e47]; rfl
      have p92 : ((c.toNat : Int) == 92) = false := by rw [q92, e47]; rfl
      have p47 : ((c.toNat : Int) == 47) = true := by rw [q47, e47]; rfl
      have p98 : ((c.toNat : Int) == 98) = false := by rw [q98, e47]; rfl
      have p102 : ((c.toNat : Int) == 102) = false := by rw [q102, e47]; rfl
      have p110 : ((c.toNat : Int) == 110) = false := by rw [q110, e47]; rfl
      have p114 : ((c.toNat : Int) == 114) = false := by rw [q114, e47]; rfl
      have p116 : ((c.toNat : Int) == 116) = false := by rw [q116, e47]; rfl
      have p117 : ((c.toNat : Int) == 117) = false := by rw [q117, e47]; rfl
      clear HQ e47 q34 q92 q47 q98 q102 q110 q114 q116 q117
      go_enter Tryz.func176, Tryz.ntmps176
      go_wp2_with fail
      rw [HW.out]
      refine C.out.mono ?_
      rintro x w' ⟨rfl, n, rfl⟩
      have HO2 := Lib.hid (((HO.out.drewN n).setCell (p := ⟨g, 1, none⟩) hg (.int .i64 ((i : Int) + 1 + 1))))
      have HP2 := Lib.hid ((HP.out.drewN n).setAt (i + 1 + 1) (.int .i64 ((i : Int) + 1 + 1)) (by congr 1))
      have HK2 := Lib.hid ((HK.out.drewN n).setCell (p := ⟨g, 1, none⟩) (.inr (by simp)) (.int .i64 ((i : Int) + 1 + 1)))
      have HZ2 : Hid (w.heap.size ≤ ((w0.drewN n).setCell ⟨g, 1, none⟩ (.int .i64 ((i : Int) + 1 + 1))).heap.size) := Lib.hid HK2.out.size
      go_wp2_with (at_builtin; refine wpList_pushes 84 5 Tryz.underlying84 infoByte rfl _ _ rfl B l v [c] _ _ rfl rfl 1 1 rfl _ (by simp [World.setCell]) rfl rfl HO2.out (by simp; omega) (by have := HZ2.out; omega) ?_)
      intro v' w' k1 k2 k3
      have HK1 := Lib.hid k1
      clear k1
      go_wp2
      go_ret
      rw [HN.out]
      exact ⟨⟨v', rfl, HK1.out⟩, HP2.out.kept (Below.kept (g := B) k2) ⟨hg, by omega⟩, hi1, HK2.out.sub.tr (Below.kept k2)⟩
    by_cases e98 : c = 98
    · have HN : Hid (R = .ok [8] (i + 1 + 1)) := Lib.hid (by rw [HQ.out]; simp [e98])
      have p34 : ((c.toNat : Int) == 34) = false := by rw [q34, e98]; rfl
      have p92 : ((c.toNat : Int) == 92) = false := by rw [q92, e98]; rfl
      have p47 : ((c.toNat : Int) == 47) = false := by rw [q47, e98]; rfl
      have p98 : ((c.toNat : Int) == 98) = true := by rw [q98, e98]; rfl
      have p102 : ((c.toNat : Int) == 102) = false := by rw [q102, e98]; rfl
      have p110 : ((c.toNat : Int) == 110) = false := by rw [q110, e98]; rfl
      have p114 : ((c.toNat : Int) == 114) = false := by rw [q114, e98]; rfl
      have p116 : ((c.toNat : Int) == 116) = false := by rw [q116, e98]; rfl
      have p117 : ((c.toNat : Int) == 117) = false := by rw [q117, e98]; rfl
      clear HQ e98 q34 q92 q47 q98 q102 q110 q114 q116 q117
      go_enter Tryz.func176, Tryz.ntmps176
      go_wp2_with fail
      rw [HW.out]
      refine C.out.mono ?_
      rintro x w' ⟨rfl, n, rfl⟩
      have HO2 := Lib.hid (((HO.out.drewN n).setCell (p := ⟨g, 1, none⟩) hg (.int .i64 ((i : Int) + 1 + 1))))
      have HP2 := Lib.hid ((HP.out.drewN n).setAt (i + 1 + 1) (.int .i64 ((i : Int) + 1 + 1)) (by congr 1))
      have HK2 := Lib.hid ((HK.out.drewN n).setCell (p := ⟨g, 1, none⟩) (.inr (by simp)) (.int .i64 ((i : Int) + 1 + 1)))
      have HZ2 : Hid (w.heap.size ≤ ((w0.drewN n).setCell ⟨g, 1, none⟩ (.int .i64 ((i : Int) + 1 + 1))).heap.size) := Lib.hid HK2.out.size
      go_wp2_with (at_builtin; refine wpList_pushes 84 5 Tryz.underlying84 infoByte rfl _ _ rfl B l v [8] _ _ rfl rfl 1 1 rfl _ (by simp [World.setCell]) rfl rfl HO2.out (by simp; omega) (by have := HZ2.out; omega) ?_)
      intro v' w' k1 k2 k3
      have HK1 := Lib.hid k1
      clear k1
      go_wp2
      go_ret
      rw [HN.out]
      exact ⟨⟨v', rfl, HK1.out⟩, HP2.out.kept (Below.kept (g := B) k2) ⟨hg, by omega⟩, hi1, HK2.out.sub.tr (Below.kept k2)⟩
    by_cases e102 : c = 102
    · have HN : Hid (R = .ok [12] (i + 1 + 1)) := Lib.hid (by rw [HQ.out]; simp [e102])
      have p34 : ((c.toNat : Int) == 34) = false := by rw [q34, e102]; rfl
      have p92 : ((c.toNat : Int) == 92) = false := by rw [q92, e102]; rfl
      have p47 : ((c.toNat : Int) == 47) = false := by rw [q47, e102]; rfl
      have p98 : ((c.toNat : Int) == 98) = false := by rw [q98, e102]; rfl
      have p102 : ((c.toNat : Int) == 102) = true := by rw [q102, e102]; rfl
      have p110 : ((c.toNat : Int) == 110) = false := by rw [q110, e102]; rfl
      have p114 : ((c.toNat : Int) == 114) = false := by rw [q114, e102]; rfl
      have p116 : ((c.toNat : Int) == 116) = false := by rw [q116, e102]; rfl
      have p117 : ((c.toNat : Int) == 117) = false := by rw [q117, e102]; rfl
      clear HQ e102 q34 q92 q47 q98 q102 q110 q114 q116 q117
      go_enter Tryz.func176, Tryz.ntmps176
      go_wp2_with fail
      rw [HW.out]
      refine C.out.mono ?_
      rintro x w' ⟨rfl, n, rfl⟩
      have HO2 := Lib.hid (((HO.out.drewN n).setCell (p := ⟨g, 1, none⟩) hg (.int .i64 ((i : Int) + 1 + 1))))
      have HP2 := Lib.hid ((HP.out.drewN n).setAt (i + 1 + 1) (.int .i64 ((i : Int) + 1 + 1)) (by congr 1))
      have HK2 := Lib.hid ((HK.out.drewN n).setCell (p := ⟨g, 1, none⟩) (.inr (by simp)) (.int .i64 ((i : Int) + 1 + 1)))
      have HZ2 : Hid (w.heap.size ≤ ((w0.drewN n).setCell ⟨g, 1, none⟩ (.int .i64 ((i : Int) + 1 + 1))).heap.size) := Lib.hid HK2.out.size
      go_wp2_with (at_builtin; refine wpList_pushes 84 5 Tryz.underlying84 infoByte rfl _ _ rfl B l v [12] _ _ rfl rfl 1 1 rfl _ (by simp [World.setCell]) rfl rfl HO2.out (by simp; omega) (by have := HZ2.out; omega) ?_)
      intro v' w' k1 k2 k3
      have HK1 := Lib.hid k1
      clear k1
      go_wp2
      go_ret
      rw [HN.out]
      exact ⟨⟨v', rfl, HK1.out⟩, HP2.out.kept (Below.kept (g := B) k2) ⟨hg, by omega⟩, hi1, HK2.out.sub.tr (Below.kept k2)⟩
    by_cases e110 : c = 110
    · have HN : Hid (R = .ok [10] (i + 1 + 1)) := Lib.hid (by rw [HQ.out]; simp [e110])
      have p34 : ((c.toNat : Int) == 34) = false := by rw [q34, e110]; rfl
      have p92 : ((c.toNat : Int) == 92) = false := by rw [q92, e110]; rfl
      have p47 : ((c.toNat : Int) == 47) = false := by rw [q47, e110]; rfl
      have p98 : ((c.toNat : Int) == 98) = false := by rw [q98, e110]; rfl
      have p102 : ((c.toNat : Int) == 102) = false := by rw [q102, e110]; rfl
      have p110 : ((c.toNat : Int) == 110) = true := by rw [q110, e110]; rfl
      have p114 : ((c.toNat : Int) == 114) = false := by rw [q114, e110]; rfl
      have p116 : ((c.toNat : Int) == 116) = false := by rw [q116, e110]; rfl
      have p117 : ((c.toNat : Int) == 117) = false := by rw [q117, e110]; rfl
      clear HQ e110 q34 q92 q47 q98 q102 q110 q114 q116 q117
      go_enter Tryz.func176, Tryz.ntmps176
      go_wp2_with fail
      rw [HW.out]
      refine C.out.mono ?_
      rintro x w' ⟨rfl, n, rfl⟩
      have HO2 := Lib.hid (((HO.out.drewN n).setCell (p := ⟨g, 1, none⟩) hg (.int .i64 ((i : Int) + 1 + 1))))
      have HP2 := Lib.hid ((HP.out.drewN n).setAt (i + 1 + 1) (.int .i64 ((i : Int) + 1 + 1)) (by congr 1))
      have HK2 := Lib.hid ((HK.out.drewN n).setCell (p := ⟨g, 1, none⟩) (.inr (by simp)) (.int .i64 ((i : Int) + 1 + 1)))
      have HZ2 : Hid (w.heap.size ≤ ((w0.drewN n).setCell ⟨g, 1, none⟩ (.int .i64 ((i : Int) + 1 + 1))).heap.size) := Lib.hid HK2.out.size
      go_wp2_with (at_builtin; refine wpList_pushes 84 5 Tryz.underlying84 infoByte rfl _ _ rfl B l v [10] _ _ rfl rfl 1 1 rfl _ (by simp [World.setCell]) rfl rfl HO2.out (by simp; omega) (by have := HZ2.out; omega) ?_)
      intro v' w' k1 k2 k3
      have HK1 := Lib.hid k1
      clear k1
      go_wp2
      go_ret
      rw [HN.out]
      exact ⟨⟨v', rfl, HK1.out⟩, HP2.out.kept (Below.kept (g := B) k2) ⟨hg, by omega⟩, hi1, HK2.out.sub.tr (Below.kept k2)⟩
    by_cases e114 : c = 114
    · have HN : Hid (R = .ok [13] (i + 1 + 1)) := Lib.hid (by rw [HQ.out]; simp [e114])
      have p34 : ((c.toNat : Int) == 34) = false := by rw [q34, e114]; rfl
      have p92 : ((c.toNat : Int) == 92) = false := by rw [q92, e114]; rfl
      have p47 : ((c.toNat : Int) == 47) = false := by rw [q47, e114]; rfl
      have p98 : ((c.toNat : Int) == 98) = false := by rw [q98, e114]; rfl
      have p102 : ((c.toNat : Int) == 102) = false := by rw [q102, e114]; rfl
      have p110 : ((c.toNat : Int) == 110) = false := by rw [q110, e114]; rfl
      have p114 : ((c.toNat : Int) == 114) = true := by rw [q114, e114]; rfl
      have p116 : ((c.toNat : Int) == 116) = false := by rw [q116, e114]; rfl
      have p117 : ((c.toNat : Int) == 117) = false := by rw [q117, e114]; rfl
      clear HQ e114 q34 q92 q47 q98 q102 q110 q114 q116 q117
      go_enter Tryz.func176, Tryz.ntmps176
      go_wp2_with fail
      rw [HW.out]
      refine C.out.mono ?_
      rintro x w' ⟨rfl, n, rfl⟩
      have HO2 := Lib.hid (((HO.out.drewN n).setCell (p := ⟨g, 1, none⟩) hg (.int .i64 ((i : Int) + 1 + 1))))
      have HP2 := Lib.hid ((HP.out.drewN n).setAt (i + 1 + 1) (.int .i64 ((i : Int) + 1 + 1)) (by congr 1))
      have HK2 := Lib.hid ((HK.out.drewN n).setCell (p := ⟨g, 1, none⟩) (.inr (by simp)) (.int .i64 ((i : Int) + 1 + 1)))
      have HZ2 : Hid (w.heap.size ≤ ((w0.drewN n).setCell ⟨g, 1, none⟩ (.int .i64 ((i : Int) + 1 + 1))).heap.size) := Lib.hid HK2.out.size
      go_wp2_with (at_builtin; refine wpList_pushes 84 5 Tryz.underlying84 infoByte rfl _ _ rfl B l v [13] _ _ rfl rfl 1 1 rfl _ (by simp [World.setCell]) rfl rfl HO2.out (by simp; omega) (by have := HZ2.out; omega) ?_)
      intro v' w' k1 k2 k3
      have HK1 := Lib.hid k1
      clear k1
      go_wp2
      go_ret
      rw [HN.out]
      exact ⟨⟨v', rfl, HK1.out⟩, HP2.out.kept (Below.kept (g := B) k2) ⟨hg, by omega⟩, hi1, HK2.out.sub.tr (Below.kept k2)⟩
    by_cases e116 : c = 116
    · have HN : Hid (R = .ok [9] (i + 1 + 1)) := Lib.hid (by rw [HQ.out]; simp [e116])
      have p34 : ((c.toNat : Int) == 34) = false := by rw [q34, e116]; rfl
      have p92 : ((c.toNat : Int) == 92) = false := by rw [q92, e116]; rfl
      have p47 : ((c.toNat : Int) == 47) = false := by rw [q47, e116]; rfl
      have p98 : ((c.toNat : Int) == 98) = false := by rw [q98, e116]; rfl
      have p102 : ((c.toNat : Int) == 102) = false := by rw [q102, e116]; rfl
      have p110 : ((c.toNat : Int) == 110) = false := by rw [q110, e116]; rfl
      have p114 : ((c.toNat : Int) == 114) = false := by rw [q114, e116]; rfl
      have p116 : ((c.toNat : Int) == 116) = true := by rw [q116, e116]; rfl
      have p117 : ((c.toNat : Int) == 117) = false := by rw [q117, e116]; rfl
      clear HQ e116 q34 q92 q47 q98 q102 q110 q114 q116 q117
      go_enter Tryz.func176, Tryz.ntmps176
      go_wp2_with fail
      rw [HW.out]
      refine C.out.mono ?_
      rintro x w' ⟨rfl, n, rfl⟩
      have HO2 := Lib.hid (((HO.out.drewN n).setCell (p := ⟨g, 1, none⟩) hg (.int .i64 ((i : Int) + 1 + 1))))
      have HP2 := Lib.hid ((HP.out.drewN n).setAt (i + 1 + 1) (.int .i64 ((i : Int) + 1 + 1)) (by congr 1))
      have HK2 := Lib.hid ((HK.out.drewN n).setCell (p := ⟨g, 1, none⟩) (.inr (by simp)) (.int .i64 ((i : Int) + 1 + 1)))
      have HZ2 : Hid (w.heap.size ≤ ((w0.drewN n).setCell ⟨g, 1, none⟩ (.int .i64 ((i : Int) + 1 + 1))).heap.size) := Lib.hid HK2.out.size
      go_wp2_with (at_builtin; refine wpList_pushes 84 5 Tryz.underlying84 infoByte rfl _ _ rfl B l v [9] _ _ rfl rfl 1 1 rfl _ (by simp [World.setCell]) rfl rfl HO2.out (by simp; omega) (by have := HZ2.out; omega) ?_)
      intro v' w' k1 k2 k3
      have HK1 := Lib.hid k1
      clear k1
      go_wp2
      go_ret
      rw [HN.out]
      exact ⟨⟨v', rfl, HK1.out⟩, HP2.out.kept (Below.kept (g := B) k2) ⟨hg, by omega⟩, hi1, HK2.out.sub.tr (Below.kept k2)⟩
    by_cases e117 : c = 117
    · have HN : Hid (R = (pointP s (i + 1 + 1)).bind fun n i => .ok (Lib.encodeRune n) i) := Lib.hid (by rw [HQ.out]; simp [e117])
      have p34 : ((c.toNat : Int) == 34) = false := by rw [q34, e117]; rfl
      have p92 : ((c.toNat : Int) == 92) = false := by rw [q92, e117]; rfl
      have p47 : ((c.toNat : Int) == 47) = false := by rw [q47, e117]; rfl
      have p98 : ((c.toNat : Int) == 98) = false := by rw [q98, e117]; rfl
      have p102 : ((c.toNat : Int) == 102) = false := by rw [q102, e117]; rfl
      have p110 : ((c.toNat : Int) == 110) = false := by rw [q110, e117]; rfl
      have p114 : ((c.toNat : Int) == 114) = false := by rw [q114, e117]; rfl
      have p116 : ((c.toNat : Int) == 116) = false := by rw [q116, e117]; rfl
      have p117 : ((c.toNat : Int) == 117) = true := by rw [q117, e117]; rfl
      clear HQ e117 q34 q92 q47 q98 q102 q110 q114 q116 q117 e34 e92 e47 e98 e102 e110 e114 e116
      go_enter Tryz.func176, Tryz.ntmps176
      go_wp2_with fail
      rw [HW.out]
      refine C.out.mono ?_
      rintro x w' ⟨rfl, n, rfl⟩
      have HO2 := Lib.hid (((HO.out.drewN n).setCell (p := ⟨g, 1, none⟩) hg (.int .i64 ((i : Int) + 1 + 1))))
      have HP2 := Lib.hid ((HP.out.drewN n).setAt (i + 1 + 1) (.int .i64 ((i : Int) + 1 + 1)) (by congr 1))
      have HK2 := Lib.hid ((HK.out.drewN n).setCell (p := ⟨g, 1, none⟩) (.inr (by simp)) (.int .i64 ((i : Int) + 1 + 1)))
      have D := Lib.hid (point_any g s (i + 1 + 1) d _ HP2.out hl hi1)
      go_wp2_with fail
      refine D.out.mono ?_
      cases hq : pointP s (i + 1 + 1) with
      | bad e j =>
        rintro x w2 ⟨rfl, hb, hk'⟩
        have HN2 : Hid (R = .bad e j) := Lib.hid (by rw [HN.out, hq]; rfl)
        clear hq D
        go_wp2
        rw [HN2.out]
        exact ⟨rfl, rfl, hb, HK2.out.sub.tr hk'.sub⟩
      | ok z j =>
        rintro x w2 ⟨rfl, hp2, hj, hk'⟩
        have HN2 : Hid (R = .ok (Lib.encodeRune z) j) := Lib.hid (by rw [HN.out, hq]; rfl)
        obtain ⟨hz0, hz1⟩ := pointP_rng hq
        have HO3 := HO2.out.kept hk' (fun b hb => by have := (HO2.out.lt b hb).1; omega)
        have hw2 := hk'.size
        have hw3 := HK2.out.size
        have D2 := Lib.hid (Tryz.utf8_AppendRune_plain B v l.length (Lib.byteCells l) z (by omega) (by omega) w2 HO3 (by omega) (by omega))
        have HP3 := Lib.hid hp2
        clear hq D hp2 HO3
        go_wp2_with fail
        refine D2.out.mono ?_
        rintro x w3 ⟨v', rfl, ho, o, hgr⟩
        have HO4 : Hid (OwnB 5 B v' (l ++ Lib.encodeRune z) w3) := Lib.hid (by
          unfold OwnB
          rw [Lib.byteCells_append, Lib.byteCells_encodeRune, List.length_append]
          have e : (Lib.encodeRune z).length = (Lib.runeCells z).length := by simp [Lib.encodeRune, Lib.runeCells]
          rw [e]
          exact ho)
        have hkg : Kept (fun k => k < B ∧ k ≠ g) w2 w3 := ((Kept.refl _ w2).alloc o).grown hgr (fun k hk => .inr (by have := (HO2.out.lt k hk).1; omega))
        have hkg2 : Kept (fun k => k < B) w2 w3 := ((Kept.refl _ w2).alloc o).grown hgr (fun k hk => .inr (by have := (HO2.out.lt k hk).1; omega))
        clear ho hgr
        go_wp2
        go_ret
        rw [HN2.out]
        exact ⟨⟨v', rfl, HO4.out⟩, HP3.out.kept hkg2 hg, hj, (HK2.out.sub.tr hk'.sub).tr hkg⟩
    have HN : Hid (R = .bad 40 (i + 1)) := Lib.hid (by rw [HQ.out]; simp [e34, e92, e47, e98, e102, e110, e114, e116, e117])
    rw [decide_eq_false e34] at q34
    rw [decide_eq_false e92] at q92
    rw [decide_eq_false e47] at q47
    rw [decide_eq_false e98] at q98
    rw [decide_eq_false e102] at q102
    rw [decide_eq_false e110] at q110
    rw [decide_eq_false e114] at q114
    rw [decide_eq_false e116] at q116
    rw [decide_eq_false e117] at q117
    clear HQ e34 e92 e47 e98 e102 e110 e114 e116 e117
    go_enter Tryz.func176, Tryz.ntmps176
    go_wp2_with fail
    rw [HW.out]
    refine C.out.mono ?_
    rintro x w' ⟨rfl, n, rfl⟩
    go_wp2_with fail
    refine (fail_any _ _ _ _ _ _ (HP.out.drewN _)).mono ?_
    rintro x w' ⟨rfl, rfl⟩
    go_wp2
    rw [HN.out]
    exact ⟨rfl, rfl, hi, (HK.out.drewN n).sub⟩
end Go.Proofs.YtpcgfhleloonfaaGreatDoor
