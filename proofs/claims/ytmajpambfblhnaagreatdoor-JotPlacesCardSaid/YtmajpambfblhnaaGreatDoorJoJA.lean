/- Walks of jot's methods that hand out a value (layer 4). -/
import Derived.Test.YtmajpambfblhnaaGreatDoorJoOA
import Derived.Test.YtmajpambfblhnaaGreatDoorJoPA
import Derived.Test.YtmajpambfblhnaaGreatDoorJKit
namespace Go.Proofs.YtmajpambfblhnaaGreatDoor
open Go.RowKit Jo

theorem JOwn.leaf (w : World) (k n : Int) (t : List UInt8) : JOwn w (.mk k n t [] []) (jotV k n t (.slice none 0 0) (.slice none 0 0)) [] :=
  .mk k n t [] [] _ _ [] [] rfl rfl (World.ownsRow_nil _ _ _ _) (World.ownsRow_nil _ _ _ _) (fun j x h => by simp at h)
set_option maxHeartbeats 400000 in
theorem nr_jot (n : Int) (w : World) : Calls Tryz.prog 161 #[.int .i64 n] w (JotQ w (J.nr n)) := by
  go_enter Tryz.func161, Tryz.ntmps161
  go_wp2
  exact bodyPost_ret (v := jotV 3 n [] (.slice none 0 0) (.slice none 0 0)) (by simp [results, Tryz.results161, go_sem]) rfl ⟨⟨_, [], rfl, JOwn.leaf _ _ _ _, List.nodup_nil, by simp⟩, (Kept.refl _ _).alloc _⟩
set_option maxHeartbeats 400000 in
theorem tx_jot (t : List UInt8) (w : World) : Calls Tryz.prog 162 #[S t] w (JotQ w (J.tx t)) := by
  go_enter Tryz.func162, Tryz.ntmps162
  go_wp2
  exact bodyPost_ret (v := jotV 4 0 t (.slice none 0 0) (.slice none 0 0)) (by simp [results, Tryz.results162, go_sem]) rfl ⟨⟨_, [], rfl, JOwn.leaf _ _ _ _, List.nodup_nil, by simp⟩, (Kept.refl _ _).alloc _⟩
set_option maxHeartbeats 400000 in
theorem null_jot (w : World) : Calls Tryz.prog 159 #[.agg #[]] w (JotQ w J.null) := by
  go_enter Tryz.func159, Tryz.ntmps159
  go_wp2
  exact bodyPost_ret (v := jotV 0 0 [] (.slice none 0 0) (.slice none 0 0)) (by simp [results, Tryz.results159, go_sem]) rfl ⟨⟨_, [], rfl, JOwn.leaf _ _ _ _, List.nodup_nil, by simp⟩, ((Kept.refl _ _).alloc _).alloc _⟩
set_option maxHeartbeats 400000 in
theorem fls_jot (w : World) : Calls Tryz.prog 160 #[.bool false] w (JotQ w J.fls) := by
  go_enter Tryz.func160, Tryz.ntmps160
  go_wp2
  exact bodyPost_ret (v := jotV 1 0 [] (.slice none 0 0) (.slice none 0 0)) (by simp [results, Tryz.results160, go_sem]) rfl ⟨⟨_, [], rfl, JOwn.leaf _ _ _ _, List.nodup_nil, by simp⟩, (Kept.refl _ _).alloc _⟩
set_option maxHeartbeats 400000 in
theorem tru_jot (w : World) : Calls Tryz.prog 160 #[.bool true] w (JotQ w J.tru) := by
  go_enter Tryz.func160, Tryz.ntmps160
  go_wp2
  exact bodyPost_ret (v := jotV 2 0 [] (.slice none 0 0) (.slice none 0 0)) (by simp [results, Tryz.results160, go_sem]) rfl ⟨⟨_, [], rfl, JOwn.leaf _ _ _ _, List.nodup_nil, by simp⟩, (Kept.refl _ _).alloc _⟩


/-- Calling 'jot' on the interface value u hands out x. -/
def JotC (u : Value) (x : J) : Prop := ∃ (t : TypeId) (v : Value) (K : FuncId) (a : Value), u = .iface t v ∧ (∀ w, (callMethod (.iface t v) "latchkey/jot.jot" #[]).run Tryz.prog w = .ok (.enter K #[a]) w) ∧
  ∀ (ok : Nat → Prop) (W : World), VIn ok W x u → Calls Tryz.prog K #[a] W (JotQ W x)
theorem method_null (w : World) : (callMethod (.iface 81 (.agg #[])) "latchkey/jot.jot" #[]).run Tryz.prog w = .ok (.enter 159 #[.agg #[]]) w := by kernel_rfl
theorem method_fls (w : World) : (callMethod (.iface 83 (.bool false)) "latchkey/jot.jot" #[]).run Tryz.prog w = .ok (.enter 160 #[.bool false]) w := by kernel_rfl
theorem method_tru (w : World) : (callMethod (.iface 83 (.bool true)) "latchkey/jot.jot" #[]).run Tryz.prog w = .ok (.enter 160 #[.bool true]) w := by kernel_rfl
theorem method_nr (n : Int) (w : World) : (callMethod (.iface 84 (.int .i64 n)) "latchkey/jot.jot" #[]).run Tryz.prog w = .ok (.enter 161 #[.int .i64 n]) w := by kernel_rfl
theorem method_tx (s : ByteArray) (w : World) : (callMethod (.iface 85 (.string s)) "latchkey/jot.jot" #[]).run Tryz.prog w = .ok (.enter 162 #[.string s]) w := by kernel_rfl
theorem method_list (a : Option Addr) (n c : Nat) (w : World) : (callMethod (.iface 89 (.slice a n c)) "latchkey/jot.jot" #[]).run Tryz.prog w = .ok (.enter 163 #[.slice a n c]) w := by kernel_rfl
theorem method_object (a : Option Addr) (n c : Nat) (w : World) : (callMethod (.iface 91 (.slice a n c)) "latchkey/jot.jot" #[]).run Tryz.prog w = .ok (.enter 164 #[.slice a n c]) w := by kernel_rfl
end Go.Proofs.YtmajpambfblhnaaGreatDoor

namespace Go.Proofs.YtmajpambfblhnaaGreatDoor
open Go.RowKit Jo

set_option maxHeartbeats 4000000 in
theorem list_jot (ok : Nat → Prop) (xs : List J) (v : Value) (us : Nat → Value) (w : World) (hl : xs.length ≤ 1000000) (hr : Row1 ok w v xs.length us) (hv : ∀ (j : Nat) x, xs[j]? = some x → VIn ok w x (us j)) (hj : ∀ (j : Nat) x, xs[j]? = some x → JotC (us j) x) :
    Calls Tryz.prog 163 #[v] w (JotQ w (J.list xs)) := by
  have HJ := Lib.hid hj
  have HVI := Lib.hid hv
  clear hj hv
  rcases hr with ⟨rfl, h0⟩ | ⟨b, cap, rfl, h1, h2, h3, h4⟩
  · obtain rfl : xs = [] := List.eq_nil_of_length_eq_zero h0
    go_enter Tryz.func163, Tryz.ntmps163
    go_wp2
    go_loopg [9] 0 (fun q k wr => k = .int .i64 0 ∧ OutAt (w.heap.size + 1) 5 0 [] (.slice none 0 0) (.slice none 0 0) wr ∧ OutAt w.heap.size 0 0 [] (.slice none 0 0) (.slice none 0 0) wr ∧ w.heap.size + 2 ≤ wr.heap.size ∧ Kept (fun _ => True) w wr)
    case atStart => exact ⟨rfl, by have := OutAt.new (w.alloc (.cells #[.int .i64 0, .int .i64 0, S [], .slice none 0 0, .slice none 0 0] 25)) 5 0 [] (.slice none 0 0) (.slice none 0 0); simpa using this, (OutAt.new w 0 0 [] (.slice none 0 0) (.slice none 0 0)).kept (ok := fun _ => True) ((Kept.refl _ _).alloc _) trivial, by simp, ((Kept.refl _ w).alloc _).alloc _⟩
    case round =>
      obtain ⟨rfl, hout, hbox, hz, hk⟩ := hrel
      obtain ⟨o0, o1, o2, o3, o4, o5, o6⟩ := hout.facts
      obtain ⟨g0, g1, g2, g3, g4, g5, g6⟩ := hbox.facts
      obtain ⟨f0, f1, f2, f3, f4⟩ := hbox.free
      clear hout hbox
      go_wp2
      refine bodyPost_ret (v := jotV 5 0 [] (.slice none 0 0) (.slice none 0 0)) (by simp [results, Tryz.results163, go_sem, g0, g1, g2, g3, g4]) rfl ?_
      exact JotQ.of (g := w.heap.size) ((OwnJ.nil (w.heap.size + 2) none _).value 5 0 [] (ns := []) (nv := .slice none 0 0) (World.ownsRow_nil _ _ _ _) (fun b hb => by cases hb)) (by omega) (Nat.le_refl _) (by omega) hk (kept_box _ _ _ _ _ _ _)
  · have H4 := Lib.hid h4
    clear h4
    go_enter Tryz.func163, Tryz.ntmps163
    go_wp2
    go_loopg [9] xs.length (fun q k wr => ∃ (j : Nat) (iv : Value), k = .int .i64 j ∧ q = xs.length - j ∧ j ≤ xs.length ∧ OutAt (w.heap.size + 1) 5 0 [] (.slice none 0 0) iv wr ∧ OutAt w.heap.size 0 0 [] (.slice none 0 0) (.slice none 0 0) wr ∧ OwnJ (w.heap.size + 2) none iv (xs.take j) wr ∧ w.heap.size + 2 ≤ wr.heap.size ∧ Kept (fun _ => True) w wr)
    case atStart =>
      exact ⟨0, _, rfl, by omega, Nat.zero_le _, by have := OutAt.new (w.alloc (.cells #[.int .i64 0, .int .i64 0, S [], .slice none 0 0, .slice none 0 0] 25)) 5 0 [] (.slice none 0 0) (.slice none 0 0); simpa using this, (OutAt.new w 0 0 [] (.slice none 0 0) (.slice none 0 0)).kept (ok := fun _ => True) ((Kept.refl _ _).alloc _) trivial, OwnJ.nil _ _ _, by simp, ((Kept.refl _ w).alloc _).alloc _⟩
    case round =>
      obtain ⟨j, iv, rfl, rfl, hjl, hout, hbox, ho, hz, hk⟩ := hrel
      obtain ⟨o0, o1, o2, o3, o4, o5, o6⟩ := hout.facts
      have HOUT := Lib.hid hout
      have HBOX := Lib.hid hbox
      have HO := Lib.hid ho
      clear hout hbox ho
      by_cases hlt : j < xs.length
      · obtain ⟨x, hx⟩ : ∃ x, xs[j]? = some x := ⟨xs[j]'hlt, List.getElem?_eq_getElem hlt⟩
        have hc : wr.cell? ⟨b, j, none⟩ = some (us j) := (hk.cell h3 trivial).trans (H4.out j hlt)
        obtain ⟨t, v0, K, a, hu, hm, hcall⟩ := HJ.out j x hx
        have HV1 := Lib.hid ((HVI.out j x hx).kept hk (fun _ _ _ => trivial))
        rw [hu] at hc
        have HCALL := Lib.hid hcall
        have HX := Lib.hid hx
        clear hu hcall hx
        go_wp2_with fail
        have HM := Lib.hid hm
        clear hm
        have hkd : Kept (fun _ => True) wr wr.drew := (Kept.refl _ wr).drew
        obtain ⟨us2, fss, q1, q2, q3, q4, q5, q6⟩ := HO.out
        have HQ := Lib.hid (And.intro q1 (And.intro q2 (And.intro q3 (And.intro q4 (And.intro q5 (And.intro q6 (mem_flat_lt q2 q4)))))))
        have htl : (xs.take j).length = j := by rw [List.length_take]; omega
        have HTL := Lib.hid htl
        clear q1 q2 q3 q4 q5 q6 HO htl
        go_region_law (first
          | (refine step_invoke t v0 "latchkey/jot.jot" rfl (.tmp 15) rfl rfl HM.out (HCALL.out _ wr.drew (HV1.out.kept hkd (fun _ _ _ => trivial))) ?_
             rintro e w2 ⟨⟨u, fp, rfl, hown, hnd, hfp⟩, hk2⟩
             obtain ⟨nv, iv2, rfl⟩ := hown.form
             have hz2 : wr.heap.size ≤ w2.heap.size := hk2.size
             have hz3 : w.heap.size + 1 < w2.heap.size := by omega
             have HOUT2 := Lib.hid (HOUT.out.kept (hkd.tr hk2) trivial)
             have HBOX2 := Lib.hid (HBOX.out.kept (hkd.tr hk2) trivial)
             obtain ⟨p0, p1, p2, p3, p4, p5, p6⟩ := HOUT2.out.facts
             have HN := Lib.hid (And.intro hown (And.intro hnd hfp))
             have HK2 := Lib.hid (hkd.tr hk2)
             clear hown hnd hfp hk2
             refine ⟨_, rfl, ?_⟩)
          | (refine step_pushOne 23 25 Tryz.underlying23 infoJot rfl (by decide) rfl (.tmp 14) (.tmp 17) rfl (w.heap.size + 2) iv (xs.take j).length (jotCells us2) (jotV x.kind x.num x.text nv iv2).cells.toList w2 _ rfl rfl rfl HN.out.1.ones 1 _ rfl rfl rfl (ownsRow_kept HQ.out.2.2.1 HK2.out (fun _ _ => trivial)) (by have := HTL.out; omega) (by decide) (by omega) ?_
             intro v' w8 k1 k2 k3
             obtain ⟨vb, vc, rfl⟩ := ownsRow_some k1
             have HOUT8 := Lib.hid (HOUT2.out.below k2 (by omega))
             have HBOX8 := Lib.hid (HBOX2.out.below k2 (by omega))
             obtain ⟨s0, s1, s2, s3, s4, s5, s6⟩ := HOUT8.out.facts
             have HK8 := Lib.hid (And.intro k1 (And.intro k2 k3))
             clear k1 k2 k3))
        all_goals
          have HX' := HX.out
          have hO : OwnJ (w.heap.size + 2) none (.slice (some ⟨vb, 0, none⟩) ((xs.take j).length + 1) vc) (xs.take j ++ [x]) w8 := by
            obtain ⟨q1, q2, q3, q4, q5, q6, q7⟩ := HQ.out
            obtain ⟨hown, hnd, hfp⟩ := HN.out
            refine ownJ_push q1 q2 (jown_kept q2 q4 HK2.out.size fun b hb => HK2.out.block b (q7 b hb) trivial) q5 q6 hown hnd (fun b hb => ⟨?_, ?_, by simp, ?_⟩) HK8.out.1 HK8.out.2.2
            · have h := hfp b hb; simp at h; omega
            · intro e
              have h := hfp b hb
              simp at h
              have := (q3.lt b e.symm).2
              omega
            · intro hin
              have h := hfp b hb
              simp at h
              have := q7 b hin
              omega
          have hk8 : Kept (fun _ => True) w w8 := (hk.tr HK2.out).trans (ok2 := fun k => k < w.heap.size + 2) ⟨HK8.out.2.1.os, HK8.out.2.1.tape, HK8.out.2.1.output, HK8.out.2.1.size, fun k _ h => HK8.out.2.1.block k h⟩ fun i hi _ => by omega
          have ht : xs.take j ++ [x] = xs.take (j + 1) := by rw [List.take_add_one, HX']; rfl
          rw [ht, HTL.out] at hO
          have HO8 := Lib.hid hO
          have hz8 := HK8.out.2.1.size
          clear hO ht HX'
          go_wp2
          go_roundg (xs.length - (j + 1))
          case rel => exact ⟨j + 1, _, by go_num, rfl, by omega, HOUT8.out.setItems _, HBOX8.out.kept (ok := fun k => k ≠ w.heap.size + 1) ((Kept.refl _ _).setCell (.inr (by simp)) _) (by omega), HO8.out.kept (ok := fun k => k ≠ w.heap.size + 1) ((Kept.refl _ _).setCell (.inr (by simp)) _) (fun b hb => by omega), by simp [World.setCell]; omega, hk8.setCell (.inl (by simp)) _⟩
          case measure => omega
      · obtain rfl : j = xs.length := by omega
        have HO2 := Lib.hid (show OwnJ (w.heap.size + 2) none iv xs wr by have := HO.out; rwa [List.take_of_length_le (Nat.le_refl _)] at this)
        obtain ⟨ia, il, ic, rfl⟩ := HO2.out.slice
        obtain ⟨g0, g1, g2, g3, g4, g5, g6⟩ := HBOX.out.facts
        obtain ⟨f0, f1, f2, f3, f4⟩ := HBOX.out.free
        clear HO
        go_wp2
        refine bodyPost_ret (v := jotV 5 0 [] (.slice none 0 0) (.slice ia il ic)) (by simp [results, Tryz.results163, go_sem, g0, g1, g2, g3, g4]) rfl ?_
        exact JotQ.of (g := w.heap.size) (HO2.out.value 5 0 [] (ns := []) (nv := .slice none 0 0) (World.ownsRow_nil _ _ _ _) (fun b hb => by cases hb)) (by omega) (Nat.le_refl _) (by omega) hk (kept_box _ _ _ _ _ _ _)
end Go.Proofs.YtmajpambfblhnaaGreatDoor

namespace Go.Proofs.YtmajpambfblhnaaGreatDoor
open Go.RowKit Jo

theorem Moved.keptK {v v' : Value} {w w' : World} {B : Nat} (h : Moved v v' w w') (hb : Below B w w') : Kept (fun b => some b ≠ v.ownBlock) w w' := ⟨hb.os, hb.tape, hb.output, h.kept.1, fun k hk hne => h.kept.2 k hk hne⟩
theorem ownsRow_moved {e f : TypeId} {size sz B C n m : Nat} {v v' u : Value} {xs ys : List Value} {w w' : World} (h : w.ownsRow B e size u n xs) (_ho : w.ownsRow C f sz v m ys) (hm : Moved v v' w w') (hne : ∀ b, v.ownBlock = some b → some b ≠ u.ownBlock) : w'.ownsRow B e size u n xs :=
  ownsRow_keptL h hm.kept.1 fun b hb => hm.kept.2 b (h.lt b hb).2 fun e => hne b e.symm hb.symm

set_option maxHeartbeats 8000000 in
set_option maxRecDepth 100000 in
theorem object_jot (ok : Nat → Prop) (ms : List (List UInt8 × J)) (v : Value) (us : Nat → Value) (w : World) (hl : ms.length ≤ 1000000) (hr : Row2 ok w v (ms.map (·.1)) us) (hv : ∀ (j : Nat) m, ms[j]? = some m → VIn ok w m.2 (us j)) (hj : ∀ (j : Nat) m, ms[j]? = some m → JotC (us j) m.2) :
    Calls Tryz.prog 164 #[v] w (JotQ w (J.obj ms)) := by
  have HJ := Lib.hid hj
  have HVI := Lib.hid hv
  clear hj hv
  rcases hr with ⟨rfl, h0⟩ | ⟨b, cap, rfl, h1, h2, h3, h4⟩
  · obtain rfl : ms = [] := by cases ms with | nil => rfl | cons _ _ => simp at h0
    go_enter Tryz.func164, Tryz.ntmps164
    go_wp2
    go_loopg [9] 0 (fun q k wr => k = .int .i64 0 ∧ OutAt (w.heap.size + 1) 6 0 [] (.slice none 0 0) (.slice none 0 0) wr ∧ OutAt w.heap.size 0 0 [] (.slice none 0 0) (.slice none 0 0) wr ∧ w.heap.size + 2 ≤ wr.heap.size ∧ Kept (fun _ => True) w wr)
    case atStart => exact ⟨rfl, by have := OutAt.new (w.alloc (.cells #[.int .i64 0, .int .i64 0, S [], .slice none 0 0, .slice none 0 0] 25)) 6 0 [] (.slice none 0 0) (.slice none 0 0); simpa using this, (OutAt.new w 0 0 [] (.slice none 0 0) (.slice none 0 0)).kept (ok := fun _ => True) ((Kept.refl _ _).alloc _) trivial, by simp, ((Kept.refl _ w).alloc _).alloc _⟩
    case round =>
      obtain ⟨rfl, hout, hbox, hz, hk⟩ := hrel
      obtain ⟨o0, o1, o2, o3, o4, o5, o6⟩ := hout.facts
      obtain ⟨g0, g1, g2, g3, g4, g5, g6⟩ := hbox.facts
      obtain ⟨f0, f1, f2, f3, f4⟩ := hbox.free
      clear hout hbox
      go_wp2
      refine bodyPost_ret (v := jotV 6 0 [] (.slice none 0 0) (.slice none 0 0)) (by simp [results, Tryz.results164, go_sem, g0, g1, g2, g3, g4]) rfl ?_
      exact JotQ.of (g := w.heap.size) ((OwnJ.nil (w.heap.size + 2) none _).value 6 0 [] (ns := []) (nv := .slice none 0 0) (World.ownsRow_nil _ _ _ _) (fun b hb => by cases hb)) (by omega) (Nat.le_refl _) (by omega) hk (kept_box _ _ _ _ _ _ _)
  · have H4 := Lib.hid h4
    clear h4
    rw [List.length_map] at h1 ⊢
    go_enter Tryz.func164, Tryz.ntmps164
    go_wp2
    go_loopg [9] ms.length (fun q k wr => ∃ (j : Nat) (nv iv : Value), k = .int .i64 j ∧ q = ms.length - j ∧ j ≤ ms.length ∧ OutAt (w.heap.size + 1) 6 0 [] nv iv wr ∧ OutAt w.heap.size 0 0 [] (.slice none 0 0) (.slice none 0 0) wr ∧
      wr.ownsRow (w.heap.size + 2) 9 1 nv j (((ms.take j).map (·.1)).map S) ∧ OwnJ (w.heap.size + 2) nv.ownBlock iv ((ms.take j).map (·.2)) wr ∧ Hid (∀ b, nv.ownBlock = some b → some b ≠ iv.ownBlock) ∧ w.heap.size + 2 ≤ wr.heap.size ∧ Kept (fun _ => True) w wr)
    case atStart =>
      exact ⟨0, _, _, rfl, by omega, Nat.zero_le _, by have := OutAt.new (w.alloc (.cells #[.int .i64 0, .int .i64 0, S [], .slice none 0 0, .slice none 0 0] 25)) 6 0 [] (.slice none 0 0) (.slice none 0 0); simpa using this, (OutAt.new w 0 0 [] (.slice none 0 0) (.slice none 0 0)).kept (ok := fun _ => True) ((Kept.refl _ _).alloc _) trivial, World.ownsRow_nil _ _ _ _, OwnJ.nil _ _ _, Lib.hid (fun b hb => by cases hb), by simp, ((Kept.refl _ w).alloc _).alloc _⟩
    case round =>
      obtain ⟨j, nv, iv, rfl, rfl, hjl, hout, hbox, hn, ho, hne, hz, hk⟩ := hrel
      have HOUT := Lib.hid hout
      have HBOX := Lib.hid hbox
      have HO := Lib.hid ho
      have HN := Lib.hid hn
      clear hout hbox ho hn
      by_cases hlt : j < ms.length
      · obtain ⟨L, hL⟩ : ∃ L, ((ms.take j).map (·.1)).map S = L := ⟨_, rfl⟩
        rw [hL] at HN
        have HL := Lib.hid hL
        clear hL
        obtain ⟨m, hm⟩ : ∃ m, ms[j]? = some m := ⟨ms[j]'hlt, List.getElem?_eq_getElem hlt⟩
        have hcc := H4.out j m.1 (by rw [List.getElem?_map, hm]; rfl)
        have hc0 : wr.cell? ⟨b, j * 2, none⟩ = some (S m.1) := (hk.cell h3 trivial).trans hcc.1
        have hc1 : wr.cell? ⟨b, j * 2 + 1, none⟩ = some (us j) := (hk.cell h3 trivial).trans hcc.2
        obtain ⟨t, v0, K, a, hu, hmeth, hcall⟩ := HJ.out j m hm
        have HV1 := Lib.hid ((HVI.out j m hm).kept hk (fun _ _ _ => trivial))
        rw [hu] at hc1
        have HCALL := Lib.hid hcall
        have HX := Lib.hid hm
        have HM := Lib.hid hmeth
        clear hu hcall hm hmeth hcc
        have hwm : w.heap.size + 1 < wr.heap.size := by omega
        -- the box of the member; the name appended
        have HOUTa := Lib.hid (HOUT.out.kept (ok := fun _ => True) ((Kept.refl _ wr).alloc (.cells #[S m.1, .iface t v0] 93)) trivial)
        obtain ⟨a0, a1, a2, a3, a4, a5, a6⟩ := HOUTa.out.facts
        have HNa := Lib.hid (World.ownsRow.alloc HN.out (.cells #[S m.1, .iface t v0] 93))
        go_wp2_with (at_builtin; refine wpList_pushOne' 22 9 Tryz.underlying22 infoStr rfl (by decide) rfl (.tmp 14) (.tmp 17) rfl (w.heap.size + 2) nv j _ [S m.1] (wr.alloc (.cells #[S m.1, .iface t v0] 93)) _ rfl rfl rfl (by intro y hy; simp at hy; subst hy; rfl) 1 _ (by simp) rfl rfl HNa.out (by omega) (by decide) (by simp; omega) ?_)
        intro nv' w3 k1 k2 k3
        obtain ⟨nb, nc, rfl⟩ := ownsRow_some k1
        have hz3 : wr.heap.size + 1 ≤ w3.heap.size := by have := k2.size; simpa using this
        have hka : Kept (fun _ => True) wr (wr.alloc (.cells #[S m.1, .iface t v0] 93)) := (Kept.refl _ wr).alloc _
        have hk3 := k3.keptK k2
        have hmne : some wr.heap.size ≠ nv.ownBlock := fun e => by have := (HN.out.lt _ e.symm).2; omega
        have hmem : w3.heap[wr.heap.size]? = some (.cells #[S m.1, .iface t v0] 93 (0, 0)) := (hk3.block _ (by simp) hmne).trans (heap_alloc_new wr _)
        have m0 : w3.cell? ⟨wr.heap.size, 0, none⟩ = some (S m.1) := by rw [cell_of_row w3 _ _ _ _ (0, 0) hmem]; rfl
        have m1 : w3.cell? ⟨wr.heap.size, 1, none⟩ = some (.iface t v0) := by rw [cell_of_row w3 _ _ _ _ (0, 0) hmem]; rfl
        have HOUT3 := Lib.hid (HOUTa.out.below k2 (by omega))
        have HBOX3 := Lib.hid ((HBOX.out.kept hka trivial).below k2 (by omega))
        obtain ⟨s0, s1, s2, s3, s4, s5, s6⟩ := HOUT3.out.facts
        obtain ⟨hom, hne3⟩ := (HO.out.kept hka (fun _ _ => trivial)).moved k3 hne.out
        have hks : Kept (· ≠ w.heap.size + 1) w3 (w3.setCell ⟨w.heap.size + 1, 3, none⟩ (.slice (some ⟨nb, 0, none⟩) (j + 1) nc)) := (Kept.refl _ w3).setCell (.inr (by simp)) _
        obtain ⟨W4, hW4⟩ : ∃ W4, w3.setCell ⟨w.heap.size + 1, 3, none⟩ (.slice (some ⟨nb, 0, none⟩) (j + 1) nc) = W4 := ⟨_, rfl⟩
        have M0 : W4.cell? ⟨wr.heap.size, 0, none⟩ = some (S m.1) := by rw [← hW4]; exact (hks.cell (by omega) (by omega)).trans m0
        have M1 : W4.cell? ⟨wr.heap.size, 1, none⟩ = some (.iface t v0) := by rw [← hW4]; exact (hks.cell (by omega) (by omega)).trans m1
        have HOUT4 := Lib.hid (HOUT3.out.setNames (.slice (some ⟨nb, 0, none⟩) (j + 1) nc))
        have HBOX4 := Lib.hid (HBOX3.out.kept hks (by omega))
        have HN4 := Lib.hid (ownsRow_kept k1 hks (fun b hb => by have := (k1.lt b hb).1; omega))
        have HO4 := Lib.hid (hom.kept hks (fun b hb => by omega))
        have hk4 : Kept (fun _ => True) w W4 := by
          rw [← hW4]
          exact ((hk.alloc _).trans (ok2 := fun k => k < w.heap.size + 2) ⟨k2.os, k2.tape, k2.output, k2.size, fun k _ h => k2.block k h⟩ (fun i hi _ => by omega)).trans hks fun i hi _ => by omega
        have HV4 : Hid (VIn ok W4 m.2 (us j)) := Lib.hid (by
          have h0 := (HVI.out j m HX.out).kept hk4 (fun _ _ _ => trivial)
          exact h0)
        have hz4 : w3.heap.size = W4.heap.size := by rw [← hW4]; simp [World.setCell]
        rw [hW4] at HOUT4 HBOX4 HN4 HO4
        have HW4 := Lib.hid hW4
        have HNE3 := Lib.hid hne3
        clear hom k1 k2 k3 hks HOUT HOUTa HNa HO HN a0 a1 a2 a3 a4 a5 a6 hne3 HV1 hW4
        obtain ⟨o0, o1, o2, o3, o4, o5, o6⟩ := HOUT4.out.facts
        obtain ⟨us2, fss, q1, q2, q3, q4, q5, q6⟩ := HO4.out
        have HQ := Lib.hid (And.intro q1 (And.intro q2 (And.intro q3 (And.intro q4 (And.intro q5 (And.intro q6 (mem_flat_lt q2 q4)))))))
        have htl : ((ms.take j).map (·.2)).length = j := by rw [List.length_map, List.length_take]; omega
        have HTL := Lib.hid htl
        have hkd : Kept (fun _ => True) W4 W4.drew := (Kept.refl _ W4).drew
        clear q1 q2 q3 q4 q5 q6 HO4 htl
        go_wp2_with fail
        rw [HW4.out]
        clear m0 m1 s0 s1 s2 s3 s4 s5 s6
        go_region_law (first
          | (refine step_invoke t v0 "latchkey/jot.jot" rfl (.tmp 23) rfl rfl HM.out (HCALL.out _ W4.drew (HV4.out.kept hkd (fun _ _ _ => trivial))) ?_
             rintro e w5 ⟨⟨u, fp, rfl, hown, hnd, hfp⟩, hk5⟩
             obtain ⟨nv2, iv2, rfl⟩ := hown.form
             have hz5 : W4.heap.size ≤ w5.heap.size := hk5.size
             have hz6 : w.heap.size + 1 < w5.heap.size := by omega
             have HOUT5 := Lib.hid (HOUT4.out.kept (hkd.tr hk5) trivial)
             have HBOX5 := Lib.hid (HBOX4.out.kept (hkd.tr hk5) trivial)
             obtain ⟨p0, p1, p2, p3, p4, p5, p6⟩ := HOUT5.out.facts
             have HN5 := Lib.hid (And.intro hown (And.intro hnd hfp))
             have HK5 := Lib.hid (hkd.tr hk5)
             clear hown hnd hfp hk5
             refine ⟨_, rfl, ?_⟩)
          | (refine step_pushOne 23 25 Tryz.underlying23 infoJot rfl (by decide) rfl (.tmp 21) (.tmp 25) rfl (w.heap.size + 2) iv ((ms.take j).map (·.2)).length (jotCells us2) (jotV m.2.kind m.2.num m.2.text nv2 iv2).cells.toList w5 _ rfl rfl rfl HN5.out.1.ones 1 _ rfl rfl rfl (ownsRow_kept HQ.out.2.2.1 HK5.out (fun _ _ => trivial)) (by have := HTL.out; omega) (by decide) (by omega) ?_
             intro v' w8 k1 k2 k3
             obtain ⟨vb, vc, rfl⟩ := ownsRow_some k1
             have HOUT8 := Lib.hid (HOUT5.out.below k2 (by omega))
             have HBOX8 := Lib.hid (HBOX5.out.below k2 (by omega))
             obtain ⟨s0, s1, s2, s3, s4, s5, s6⟩ := HOUT8.out.facts
             have HK8 := Lib.hid (And.intro k1 (And.intro k2 k3))
             clear k1 k2 k3))
        all_goals
          have HX' := HX.out
          have hks8 : Kept (· ≠ w.heap.size + 1) w8 (w8.setCell ⟨w.heap.size + 1, 4, none⟩ (.slice (some ⟨vb, 0, none⟩) (j + 1) vc)) := (Kept.refl _ _).setCell (.inr (by simp)) _
          have hO : OwnJ (w.heap.size + 2) (some nb) (.slice (some ⟨vb, 0, none⟩) (((ms.take j).map (·.2)).length + 1) vc) ((ms.take j).map (·.2) ++ [m.2]) w8 := by
            obtain ⟨q1, q2, q3, q4, q5, q6, q7⟩ := HQ.out
            obtain ⟨hown, hnd, hfp⟩ := HN5.out
            refine ownJ_push q1 q2 (jown_kept q2 q4 HK5.out.size fun b hb => HK5.out.block b (q7 b hb) trivial) q5 q6 hown hnd (fun b hb => ⟨?_, ?_, ?_, ?_⟩) HK8.out.1 HK8.out.2.2
            · have h := hfp b hb; simp at h; omega
            · intro e
              have h := hfp b hb
              simp at h
              have := (q3.lt b e.symm).2
              omega
            · intro e
              have h := hfp b hb
              simp at h
              have := (HN4.out.lt b e.symm).2
              omega
            · intro hin
              have h := hfp b hb
              simp at h
              have := q7 b hin
              omega
          have hrow : w8.ownsRow (w.heap.size + 2) 9 1 (.slice (some ⟨nb, 0, none⟩) (j + 1) nc) (j + 1) (L ++ [S m.1]) := by
            refine ownsRow_keptL (ownsRow_kept HN4.out HK5.out (fun _ _ => trivial)) HK8.out.2.1.size fun b hb => ?_
            refine HK8.out.2.2.kept.2 b ?_ fun e => HNE3.out b hb e
            exact Nat.lt_of_lt_of_le (HN4.out.lt b hb).2 HK5.out.size
          have hne8 : ∀ b, (Value.slice (some ⟨nb, 0, none⟩) (j + 1) nc).ownBlock = some b → some b ≠ (Value.slice (some ⟨vb, 0, none⟩) (j + 1) vc).ownBlock := by
            intro b hb e
            have h2 := HK8.out.2.2
            rcases h2 with ⟨e2, _⟩ | ⟨e2, _⟩
            · exact HNE3.out b hb (by rw [← e2]; rw [HTL.out]; exact e)
            · have := e2 b (by rw [HTL.out]; exact e.symm)
              have := (HN4.out.lt b hb).2
              have := HK5.out.size
              omega
          have hk8 : Kept (fun _ => True) w w8 := (hk4.tr HK5.out).trans (ok2 := fun k => k < w.heap.size + 2) ⟨HK8.out.2.1.os, HK8.out.2.1.tape, HK8.out.2.1.output, HK8.out.2.1.size, fun k _ h => HK8.out.2.1.block k h⟩ fun i hi _ => by omega
          have ht : (ms.take j).map (·.2) ++ [m.2] = (ms.take (j + 1)).map (·.2) := by rw [List.take_add_one, HX']; simp
          have ht1 : L ++ [S m.1] = ((ms.take (j + 1)).map (·.1)).map S := by rw [← HL.out, List.take_add_one, HX']; simp
          rw [ht, HTL.out] at hO
          rw [ht1] at hrow
          have HO8 := Lib.hid (hO.kept hks8 (fun b hb => by omega))
          have HR8 := Lib.hid (ownsRow_kept hrow hks8 (fun b hb => by have := (hrow.lt b hb).1; omega))
          have HNE8 := Lib.hid hne8
          have hz8 := HK8.out.2.1.size
          have HBOX9 := Lib.hid (HBOX8.out.kept hks8 (by omega))
          clear hO ht ht1 HX' hrow hne8 hks8
          go_wp2
          go_roundg (ms.length - (j + 1))
          case rel => exact ⟨j + 1, _, _, by go_num, rfl, by omega, HOUT8.out.setItems _, HBOX9.out, HR8.out, HO8.out, HNE8, by simp [World.setCell]; omega, hk8.setCell (.inl (by simp)) _⟩
          case measure => omega
      · obtain rfl : j = ms.length := by omega
        have HO2 := Lib.hid (show OwnJ (w.heap.size + 2) nv.ownBlock iv (ms.map (·.2)) wr by have := HO.out; rwa [List.take_of_length_le (Nat.le_refl _)] at this)
        have HN2 := Lib.hid (show wr.ownsRow (w.heap.size + 2) 9 1 nv (ms.map (·.1)).length ((ms.map (·.1)).map S) by have := HN.out; rw [List.length_map]; rwa [List.take_of_length_le (Nat.le_refl _)] at this)
        obtain ⟨ia, il, ic, rfl⟩ := HO2.out.slice
        obtain ⟨na, nl, nc, rfl⟩ := ownsRow_slice HN2.out
        obtain ⟨o0, o1, o2, o3, o4, o5, o6⟩ := HOUT.out.facts
        obtain ⟨g0, g1, g2, g3, g4, g5, g6⟩ := HBOX.out.facts
        obtain ⟨f0, f1, f2, f3, f4⟩ := HBOX.out.free
        clear HO HN
        go_wp2
        refine bodyPost_ret (v := jotV 6 0 [] (.slice na nl nc) (.slice ia il ic)) (by simp [results, Tryz.results164, go_sem, g0, g1, g2, g3, g4]) rfl ?_
        exact JotQ.of (g := w.heap.size) (HO2.out.value 6 0 [] (ns := ms.map (·.1)) HN2.out hne.out) (by omega) (Nat.le_refl _) (by omega) hk (kept_box _ _ _ _ _ _ _)
end Go.Proofs.YtmajpambfblhnaaGreatDoor
