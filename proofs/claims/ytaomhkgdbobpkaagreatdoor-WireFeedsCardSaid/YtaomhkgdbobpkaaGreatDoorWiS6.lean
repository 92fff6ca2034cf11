/- Walks of the reference of layer 5, its reader, sixth part: a text as an answer. -/
import Derived.Test.YtaomhkgdbobpkaaGreatDoorWiS5
import Derived.Test.YtaomhkgdbobpkaaGreatDoorWiW19
import Derived.Test.YtaomhkgdbobpkaaGreatDoorWiPB
namespace Go.Proofs.YtaomhkgdbobpkaaGreatDoor
open Go.RowKit Wi

set_option maxHeartbeats 8000000 in
set_option maxRecDepth 100000 in
theorem refParseAnswer_any (s : List UInt8) (w : World) (hl : s.length ≤ 1099511627776) :
    Calls Tryz.prog 61 #[S s] w (PaQ s w) := by
  have hsz : (⟨s.toArray⟩ : ByteArray).size = s.length := size_mk s
  obtain ⟨W0, hW0⟩ : ∃ W0, w.alloc (.cells #[.int .i64 0, .slice none 0 0, S []] 56) = W0 := ⟨_, rfl⟩
  have hk0 : Kept (fun _ => True) w W0 := by rw [← hW0]; exact (Kept.refl _ w).alloc _
  have hb0 : anat w.heap.size W0 := by rw [← hW0]; exact heap_alloc_new w _
  have hz0 : W0.heap.size = w.heap.size + 1 := by rw [← hW0]; simp
  have RD := Lib.hid (read_any s true W0 hl)
  have HK0 := Lib.hid hk0
  have HB0 := Lib.hid hb0
  have HZ0 := Lib.hid hz0
  clear hk0 hb0 hz0
  go_enter Tryz.func61, Tryz.ntmps61
  go_wp2_with fail
  refine RD.out.mono ?_
  rintro e w1 ⟨m, p, st, hv, hs, body, n, wh, E, rfl, ho, hk, hg⟩
  obtain ⟨oa, oc, rfl⟩ := row_slice ho
  obtain ⟨W1, hW1⟩ : ∃ W1, w1.alloc (.cells #[S m, S p, .int .i64 st, .slice oa hs.length oc, S body, .int .i64 (n : Nat), .bool wh, .int .i64 E] 85) = W1 := ⟨_, rfl⟩
  have hg1 : GotC w1.heap.size m p st (.slice oa hs.length oc) body n wh E W1 := by rw [← hW1]; exact heap_alloc_new w1 _
  have hk1 : Kept (fun _ => True) w1 W1 := by rw [← hW1]; exact (Kept.refl _ w1).alloc _
  have hba : anat w.heap.size W1 := (hk1.block _ (by have := HZ0.out; have := hk.size; omega) trivial).trans ((hk.block _ (by have := HZ0.out; omega) trivial).trans HB0.out)
  have HKW : Hid (Kept (fun _ => True) w W1) := Lib.hid ((HK0.out.tr hk).tr hk1)
  have HO := Lib.hid (ownsRow_kept ho hk1 fun _ _ => trivial)
  have HG1 := Lib.hid hg1
  have HLT : Hid (w1.heap.size ≠ w.heap.size) := Lib.hid (by have := HZ0.out; have := hk.size; omega)
  clear ho hk RD hW0 hg1 hk1
  obtain ⟨g0, g1, g2, g3, g4, g5, g6, g7⟩ := HG1.out.cells
  go_upto_if 10 with fail
  clear hW1
  obtain ⟨a0, a1, a2, a9⟩ := hba.facts
  have f0 := a9 0
  have f1 := a9 1
  have f2 := a9 2
  unfold GotIs at hg
  have HPA : Hid (parseA s = ofAns (ansP (begin' true) s)) := Lib.hid rfl
  cases hX : ansP (begin' true) s with
  | inr z =>
    rw [hX] at hg
    have HPE : Hid (parseA s = (⟨0, [], []⟩, [], z)) := Lib.hid (by rw [HPA.out, hX]; rfl)
    obtain ⟨rfl, hE⟩ := hg
    obtain ⟨W3, hW3, d0, d1, d2, hk3⟩ := hba.set (.int .i64 0) (.slice none 0 0) (S [])
    have HZ : Hid (PaQ s w (.returned (.tuple #[.agg #[.int .i64 0, .slice none 0 0, S []], S [], .int .i64 z])) W3) := Lib.hid ⟨.slice none 0 0, by rw [HPE.out], by rw [HPE.out]; exact World.ownsRow_nil _ _ _ _, fun b hb => (by cases hb), HKW.out.trans hk3 fun b hb _ => by omega⟩
    have hz : z ≠ 0 := (feed_inr s _ z hX).1
    have HK3 := Lib.hid hk3
    clear hX hba a9 hk3 HPA HPE
    by_cases h56 : z = 56
    · subst h56
      obtain rfl : E = 0 := hE
      go_wp2
      refine bodyPost_ret (v := .tuple #[.agg #[.int .i64 0, .slice none 0 0, S []], S [], .int .i64 56]) (by simp [results, Tryz.results61, go_sem, d0, d1, d2]) rfl ?_
      exact HZ.out
    · obtain rfl : E = z := hE.trans (if_neg h56)
      have q1 : (E != 0) = true := bne_iff_ne.2 hz
      have hss : W1.drew.cell? ⟨w1.heap.size, 7, none⟩ = some (.int .i64 E) := g7
      have hss3 : W3.drew.cell? ⟨w1.heap.size, 7, none⟩ = some (.int .i64 E) := (HK3.out.cell HG1.out.lt HLT.out).trans g7
      have HZD : Hid (PaQ s w (.returned (.tuple #[.agg #[.int .i64 0, .slice none 0 0, S []], S [], .int .i64 E])) W3.drew) := Lib.hid (by
        obtain ⟨hv, y1, y2, y3, y4⟩ := HZ.out
        have k : Kept (fun _ => True) W3 W3.drew := (Kept.refl _ _).drew
        exact ⟨hv, y1, ownsRow_kept y2 k fun _ _ => trivial, y3, y4.tr k⟩)
      clear hE hz h56 HZ
      go_wp2
      go_region_held3 (fun wz => wz.cell? ⟨w1.heap.size, 7, none⟩ = some (.int .i64 E)) (first | exact hss | (rw [hW3]; exact hss3) | exact hss3 | go_keep)
        (first
          | (go_at_call 64; fail))
      go_wp2
      refine bodyPost_ret (v := .tuple #[.agg #[.int .i64 0, .slice none 0 0, S []], S [], .int .i64 E]) (by simp [results, Tryz.results61, go_sem, d0, d1, d2]) rfl ?_
      exact HZD.out
  | inl x =>
    obtain ⟨r, rest⟩ := x
    rw [hX] at hg
    obtain ⟨rfl, rfl, rfl, rfl, hn, hrest, hst, -⟩ := hg
    obtain rfl := hst rfl
    have HPE : Hid (parseA s = (⟨(decP (r.first.getD 0 []) : Nat), r.hs, r.body⟩, s.drop n, 0)) := Lib.hid (by rw [HPA.out, hX, ← hrest]; rfl)
    obtain ⟨d, hd⟩ : ∃ d, decP (r.first.getD 0 []) = d := ⟨_, rfl⟩
    rw [hd] at HPE g2
    obtain ⟨body, hbd⟩ : ∃ body, r.body = body := ⟨_, rfl⟩
    rw [hbd] at HPE g4
    obtain ⟨W3, hW3, d0, d1, d2, hk3⟩ := hba.set (.int .i64 d) (.slice oa r.hs.length oc) (S body)
    have HZ : Hid (PaQ s w (.returned (.tuple #[.agg #[.int .i64 d, .slice oa r.hs.length oc, S body], S (s.drop n), .int .i64 0])) W3) := Lib.hid ⟨.slice oa r.hs.length oc, by rw [HPE.out], by
        rw [HPE.out]
        exact ownsRow_base (ownsRow_kept HO.out hk3 fun b hb => by have := own_base HO.out hb; have := HZ0.out; omega) (Nat.zero_le _), fun b hb => by have := own_base HO.out hb; have := HZ0.out; omega, HKW.out.trans hk3 fun b hb _ => by omega⟩
    have hi1 : (0 : Int) ≤ (n : Int) := by omega
    have hi2 : (n : Int) ≤ (s.length : Int) := by omega
    have hi3 : ¬ ((s.length : Int) < (n : Int)) := by omega
    have SLI : ∀ W, (Instr.sliceAt 9 (S s) (some (.int .i64 (n : Int))) none none).run Tryz.prog W = .ok (S (s.drop n)) W := fun W => by
      have e : ((n : Int)).toNat = n := by omega
      rw [run_sliceAt_string (h := Tryz.underlying9), run_slice_string_l W 9 ⟨s.toArray⟩ Tryz.underlying9 .i64 (n : Int) hi1 (by rw [hsz]; exact hi2), e, extract_ba, List.take_of_length_le (by rw [hsz, List.length_drop]; omega)]
    have EX : (⟨s.toArray⟩ : ByteArray).extract n s.length = ⟨(s.drop n).toArray⟩ := by rw [extract_ba, List.take_of_length_le (by rw [List.length_drop]; omega)]
    have SF : ∀ W : World, W.cell? ⟨w1.heap.size, 2, none⟩ = W1.cell? ⟨w1.heap.size, 2, none⟩ → W.cell? ⟨w1.heap.size, 3, none⟩ = W1.cell? ⟨w1.heap.size, 3, none⟩ → W.cell? ⟨w1.heap.size, 4, none⟩ = W1.cell? ⟨w1.heap.size, 4, none⟩ → W.cell? ⟨w1.heap.size, 5, none⟩ = W1.cell? ⟨w1.heap.size, 5, none⟩ → W.cell? ⟨w1.heap.size, 2, none⟩ = some (.int .i64 d) ∧ W.cell? ⟨w1.heap.size, 3, none⟩ = some (.slice oa r.hs.length oc) ∧ W.cell? ⟨w1.heap.size, 4, none⟩ = some (S body) ∧ W.cell? ⟨w1.heap.size, 5, none⟩ = some (.int .i64 (n : Nat)) := fun W k2 k3 k4 k5 => ⟨k2.trans g2, k3.trans g3, k4.trans g4, k5.trans g5⟩
    have hss := SF W1.drew rfl rfl rfl rfl
    have hss3 := SF W3.drew (hk3.cell HG1.out.lt HLT.out) (hk3.cell HG1.out.lt HLT.out) (hk3.cell HG1.out.lt HLT.out) (hk3.cell HG1.out.lt HLT.out)
    have HZD : Hid (PaQ s w (.returned (.tuple #[.agg #[.int .i64 d, .slice oa r.hs.length oc, S body], S (s.drop n), .int .i64 0])) W3.drew) := Lib.hid (by
      obtain ⟨hv, y1, y2, y3, y4⟩ := HZ.out
      have k : Kept (fun _ => True) W3 W3.drew := (Kept.refl _ _).drew
      exact ⟨hv, y1, ownsRow_kept y2 k fun _ _ => trivial, y3, y4.tr k⟩)
    clear hX hba a9 hk3 HPA HPE hn hrest hd hbd hst HZ SF
    go_wp2
    go_region_held3 (fun wz => wz.cell? ⟨w1.heap.size, 2, none⟩ = some (.int .i64 d) ∧ wz.cell? ⟨w1.heap.size, 3, none⟩ = some (.slice oa r.hs.length oc) ∧ wz.cell? ⟨w1.heap.size, 4, none⟩ = some (S body) ∧ wz.cell? ⟨w1.heap.size, 5, none⟩ = some (.int .i64 (n : Nat))) (first | exact hss | (rw [hW3]; exact hss3) | exact hss3 | go_keep)
      (first
        | (go_at_call 64; fail))
    go_wp2
    refine bodyPost_ret (v := .tuple #[.agg #[.int .i64 d, .slice oa r.hs.length oc, S body], S (s.drop n), .int .i64 0]) (by simp [results, Tryz.results61, go_sem, d0, d1, d2]) rfl ?_
    exact HZD.out
end Go.Proofs.YtaomhkgdbobpkaaGreatDoor
