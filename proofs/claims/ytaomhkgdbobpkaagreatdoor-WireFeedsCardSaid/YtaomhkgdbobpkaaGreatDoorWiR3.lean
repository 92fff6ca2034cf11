/- Walks of the reference of layer 5, third part: digits, what stands behind a first line, messages and answers printed. -/
import Derived.Test.YtaomhkgdbobpkaaGreatDoorWiR2
import Derived.Laws.BitsLemmas
namespace Go.Proofs.YtaomhkgdbobpkaaGreatDoor
open Go.RowKit Wi

abbrev digA : ByteArray := ⟨#[48, 49, 50, 51, 52, 53, 54, 55, 56, 57]⟩
theorem dig_piece_fin : ∀ d : Fin 10, digA.extract d.val (d.val + 1) = ⟨#[UInt8.ofNat (48 + d.val)]⟩ := by decide
theorem dig_piece (d : Nat) (h : d < 10) : digA.extract d (d + 1) = ⟨#[UInt8.ofNat (48 + d)]⟩ := dig_piece_fin ⟨d, h⟩
theorem run_dig (d : Nat) (h : d < 10) (w : World) : (Instr.sliceAt 9 (.string digA) (some (.int .i64 d)) (some (.int .i64 ((d : Int) + 1))) none).run Tryz.prog w = .ok (S [UInt8.ofNat (48 + d)]) w := by
  rw [run_sliceAt_string (h := Tryz.underlying9), run_slice_string w 9 digA .i64 .i64 d ((d : Int) + 1) Tryz.underlying9 (by omega) (by omega) (by show (d : Int) + 1 ≤ 10; omega)]
  have h2 : ((d : Int) + 1).toNat = d + 1 := by omega
  rw [Int.toNat_natCast, h2, dig_piece d h]
def dG (u : Nat) : List UInt8 := if u = 0 then [] else Lib.decDigits u
theorem dG_step (u : Nat) : Lib.decDigits u = dG (u / 10) ++ [UInt8.ofNat (48 + u % 10)] := by
  unfold dG
  by_cases h : u < 10
  · rw [if_pos (by omega), Lib.decDigits, dif_pos h, show u % 10 = u by omega]; rfl
  · rw [if_neg (by omega), Lib.decDigits, dif_neg h]
set_option maxHeartbeats 4000000 in
set_option maxRecDepth 100000 in
theorem refDigits_any (N : Nat) (w : World) (hN : N ≤ 1000000000) : Calls Tryz.prog 58 #[.int .i64 N] w fun e w' => e = .returned (S (Lib.itoa (N : Int))) ∧ Kept (fun _ => True) w w' := by
  have hIT : Hid (Lib.itoa (N : Int) = Lib.decDigits N) := Lib.hid (by unfold Lib.itoa; rw [if_neg (by omega)]; rfl)
  have HL : Hid ((Lib.decDigits N).length ≤ 100) := Lib.hid (by rw [Lib.decDigits_length]; have := nDigits_le 20 N (by simp only [Nat.reduceAdd, Nat.reducePow]; omega); omega)
  have fact : ∀ u : Nat, u ≤ 1000000000 → (u : Int).tdiv 10 = ((u / 10 : Nat) : Int) ∧ (u : Int).tmod 10 = ((u % 10 : Nat) : Int) ∧ (u : Int) / 10 = ((u / 10 : Nat) : Int) ∧ (u : Int) % 10 = ((u % 10 : Nat) : Int) ∧ IntKind.i64.wrap ((u / 10 : Nat) : Int) = ((u / 10 : Nat) : Int) ∧ IntKind.i64.wrap ((u % 10 : Nat) : Int) = ((u % 10 : Nat) : Int) ∧ IntKind.i64.wrap (((u % 10 : Nat) : Int) + 1) = ((u % 10 : Nat) : Int) + 1 := fun u hu => by
    refine ⟨?_, ?_, by omega, by omega, ?_, ?_, ?_⟩
    · rw [Int.tdiv_eq_ediv_of_nonneg (by omega)]; omega
    · rw [Int.tmod_eq_emod_of_nonneg (by omega)]; omega
    · rw [IntKind.wrap_i64]; omega
    · rw [IntKind.wrap_i64]; omega
    · rw [IntKind.wrap_i64]; omega
  have FA := Lib.hid fact
  have H0 := Lib.hid (dG_step N)
  obtain ⟨q1, q2, q3, q4, q5, q6, q7⟩ := fact N hN
  obtain ⟨a, ha⟩ : ∃ a, N / 10 = a := ⟨_, rfl⟩
  obtain ⟨b, hb⟩ : ∃ a, N % 10 = a := ⟨_, rfl⟩
  rw [ha] at q1 q3 q5 H0
  rw [hb] at q2 q4 q6 q7 H0
  have RP := run_dig b (by omega)
  obtain ⟨c, hc⟩ : ∃ c, UInt8.ofNat (48 + b) = c := ⟨_, rfl⟩
  rw [hc] at RP H0
  have hal : a ≤ 1000000000 := by omega
  clear fact ha hb hc
  go_enter Tryz.func58, Tryz.ntmps58
  go_wp2_with fail
  go_loopg [0, 3] a (fun q nv sv wr => ∃ (u : Nat) (t : List UInt8), nv = .int .i64 u ∧ sv = S t ∧ q = u ∧ u ≤ 1000000000 ∧ Hid (Lib.decDigits N = dG u ++ t) ∧ wr = w)
  case atStart => exact ⟨a, [c], rfl, rfl, rfl, hal, H0, rfl⟩
  case round =>
    clear q1 q2 q3 q4 q5 q6 q7 RP
    obtain ⟨u, t, rfl, rfl, hq, hu, HD, rfl⟩ := hrel
    have HQ := Lib.hid hq
    clear hq
    by_cases hp : 0 < u
    · obtain ⟨q1, q2, q3, q4, q5, q6, q7⟩ := FA.out u hu
      have HS := Lib.hid (dG_step u)
      have htl : t.length ≤ 100 := by have h1 := congrArg List.length HD.out; have h2 := HL.out; rw [List.length_append] at h1; omega
      obtain ⟨a2, ha⟩ : ∃ a, u / 10 = a := ⟨_, rfl⟩
      obtain ⟨b2, hb⟩ : ∃ a, u % 10 = a := ⟨_, rfl⟩
      rw [ha] at q1 q3 q5 HS
      rw [hb] at q2 q4 q6 q7 HS
      have RP := run_dig b2 (by omega)
      obtain ⟨c2, hc⟩ : ∃ c, UInt8.ofNat (48 + b2) = c := ⟨_, rfl⟩
      rw [hc] at RP HS
      have CT := run_cat (P := Tryz.prog) [c2] t (c2 :: t) rfl (by simp only [List.length_cons, List.length_nil]; omega)
      have hlt2 : a2 < u := by omega
      have HD2 : Hid (Lib.decDigits N = dG a2 ++ c2 :: t) := Lib.hid (by
        rw [HD.out, show dG u = Lib.decDigits u by unfold dG; rw [if_neg (by omega)], HS.out, List.append_assoc]; rfl)
      clear ha hb hc htl
      go_wp2
      go_roundg a2
      case rel => exact ⟨a2, c2 :: t, by first | rfl | (congr 1; assumption) | go_num, rfl, rfl, by omega, HD2, rfl⟩
      case measure => have := HQ.out; omega
    · obtain rfl : u = 0 := by omega
      have HZ : Hid (t = Lib.itoa (N : Int)) := Lib.hid (by rw [hIT.out, HD.out]; simp [dG])
      go_wp2
      go_ret
      exact ⟨ret_str HZ.out, Kept.refl _ _⟩
set_option maxHeartbeats 8000000 in
set_option maxRecDepth 100000 in
theorem laid_any (fs : List Fl) (v : Value) (body : List UInt8) (w : World) (hv : RowF (fun _ => True) w v fs) (h : restOk fs body = true) :
    Calls Tryz.prog 60 #[v, S body] w fun e w' => e = .returned (S (restP fs body)) ∧ Kept (fun _ => True) w w' := by
  obtain ⟨a, c, rfl⟩ := hv.slice
  have hr := rest_len h
  have hall : fs.all isHeaderP = true := by
    unfold restOk at h
    simp only [Bool.and_eq_true, decide_eq_true_eq] at h
    exact h.2
  have hn := restOk_len h
  have hb4 : body.length ≤ 4000 := by
    unfold restOk at h
    simp only [Bool.and_eq_true, decide_eq_true_eq] at h
    exact h.1.2
  have hbz : (⟨body.toArray⟩ : ByteArray).size = body.length := size_mk body
  have HV := Lib.hid hv
  have HA := Lib.hid hall
  have DG := Lib.hid (fun W => refDigits_any body.length W (by omega))
  have HRP : Hid (restP fs body = (fs.map headP).flatten ++ (toldN ++ (Lib.itoa body.length ++ 13 :: 10 :: 13 :: 10 :: body))) := Lib.hid rfl
  obtain ⟨D, hD⟩ : ∃ D, Lib.itoa (body.length : Int) = D := ⟨_, rfl⟩
  have hDl : D.length ≤ 20 := by rw [← hD]; exact itoa_len _ (by omega) (by omega)
  rw [hD] at DG HRP
  clear hv hall h hr hD
  go_enter Tryz.func60, Tryz.ntmps60
  go_wp2_with fail
  go_loopg [5, 6] fs.length (fun q ov n wr => ∃ i : Nat, n = .int .i64 i ∧ ov = S ((fs.take i).map headP).flatten ∧ q = fs.length - i ∧ i ≤ fs.length ∧ Hid (Kept (fun _ => True) w wr))
  case atStart => exact ⟨0, rfl, rfl, rfl, Nat.zero_le _, Lib.hid (Kept.refl _ _)⟩
  case round =>
    obtain ⟨i, rfl, rfl, rfl, hi, HK⟩ := hrel
    have hLl : (((fs.take i).map headP).flatten).length ≤ 40000 := by
      have h1 := heads_len (fs := fs.take i) (by
        rw [List.all_eq_true]
        intro f hf
        exact List.all_eq_true.1 HA.out f (List.mem_of_mem_take hf))
      rw [List.length_take] at h1
      omega
    by_cases hlt : i < fs.length
    · obtain ⟨b, off, rfl, hb, -, f, hfi, x0, x1⟩ := HV.out.at hlt
      have hfl := headP_len (List.all_eq_true.1 HA.out f (List.mem_of_getElem? hfi))
      have HH := Lib.hid (heads_take hfi)
      replace x0 := (HK.out.cell hb trivial).trans x0
      replace x1 := (HK.out.cell hb trivial).trans x1
      obtain ⟨L, hL⟩ : ∃ L, ((fs.take i).map headP).flatten = L := ⟨_, rfl⟩
      rw [hL] at HH hLl ⊢
      obtain ⟨f1, f2⟩ := f
      simp only at x0 x1
      have hz : (headP (f1, f2)).length = f1.length + f2.length + 4 := by simp only [headP, List.length_append, List.length_cons, List.length_nil]; omega
      have hf1 : f1.length ≤ 1002 ∧ f2.length ≤ 1002 := by omega
      obtain ⟨hf1, hf2⟩ := hf1
      obtain ⟨a1, ha1⟩ : ∃ t, L ++ f1 = t := ⟨_, rfl⟩
      obtain ⟨a2, ha2⟩ : ∃ t, a1 ++ [58, 32] = t := ⟨_, rfl⟩
      obtain ⟨a3, ha3⟩ : ∃ t, a2 ++ f2 = t := ⟨_, rfl⟩
      obtain ⟨a4, ha4⟩ : ∃ t, a3 ++ [13, 10] = t := ⟨_, rfl⟩
      have l1 : a1.length = L.length + f1.length := by rw [← ha1, List.length_append]
      have l2 : a2.length = a1.length + 2 := by rw [← ha2, List.length_append]; rfl
      have l3 : a3.length = a2.length + f2.length := by rw [← ha3, List.length_append]
      have CT1 := run_cat (P := Tryz.prog) L f1 a1 ha1 (by omega)
      have CT2 := run_cat (P := Tryz.prog) a1 [58, 32] a2 ha2 (by simp only [List.length_cons, List.length_nil]; omega)
      have CT3 := run_cat (P := Tryz.prog) a2 f2 a3 ha3 (by omega)
      have CT4 := run_cat (P := Tryz.prog) a3 [13, 10] a4 ha4 (by simp only [List.length_cons, List.length_nil]; omega)
      have HA4 : Hid (a4 = ((fs.take (i + 1)).map headP).flatten) := Lib.hid (by rw [HH.out, ← ha4, ← ha3, ← ha2, ← ha1]; simp [headP])
      clear hL hz ha1 ha2 ha3 ha4 l1 l2 l3 hfi hfl hLl
      go_wp2
      go_quiet (fail)
      go_wp2
      go_roundg (fs.length - (i + 1))
      case rel => exact ⟨i + 1, by go_num, congrArg S HA4.out, rfl, by omega, Lib.hid (HK.out.drewN _)⟩
      case measure => omega
    · obtain rfl : i = fs.length := by omega
      obtain ⟨L, hL⟩ : ∃ L, ((fs.take fs.length).map headP).flatten = L := ⟨_, rfl⟩
      have HLE : Hid ((fs.map headP).flatten = L) := Lib.hid (by rw [List.take_length] at hL; exact hL)
      rw [hL] at hLl ⊢
      obtain ⟨a1, ha1⟩ : ∃ t, L ++ toldN = t := ⟨_, rfl⟩
      obtain ⟨a2, ha2⟩ : ∃ t, a1 ++ D = t := ⟨_, rfl⟩
      obtain ⟨a3, ha3⟩ : ∃ t, a2 ++ [13, 10] = t := ⟨_, rfl⟩
      obtain ⟨a4, ha4⟩ : ∃ t, a3 ++ [13, 10] = t := ⟨_, rfl⟩
      obtain ⟨a5, ha5⟩ : ∃ t, a4 ++ body = t := ⟨_, rfl⟩
      have l1 : a1.length = L.length + 16 := by rw [← ha1, List.length_append]; rfl
      have l2 : a2.length = a1.length + D.length := by rw [← ha2, List.length_append]
      have l3 : a3.length = a2.length + 2 := by rw [← ha3, List.length_append]; rfl
      have l4 : a4.length = a3.length + 2 := by rw [← ha4, List.length_append]; rfl
      have CT1 := run_cat (P := Tryz.prog) L [67, 111, 110, 116, 101, 110, 116, 45, 76, 101, 110, 103, 116, 104, 58, 32] a1 ha1 (by simp only [List.length_cons, List.length_nil]; omega)
      have CT2 := run_cat (P := Tryz.prog) a1 D a2 ha2 (by omega)
      have CT3 := run_cat (P := Tryz.prog) a2 [13, 10] a3 ha3 (by simp only [List.length_cons, List.length_nil]; omega)
      have CT4 := run_cat (P := Tryz.prog) a3 [13, 10] a4 ha4 (by simp only [List.length_cons, List.length_nil]; omega)
      have CT5 := run_cat (P := Tryz.prog) a4 body a5 ha5 (by omega)
      have HR : Hid (a5 = restP fs body) := Lib.hid (by rw [HRP.out, HLE.out, ← ha5, ← ha4, ← ha3, ← ha2, ← ha1]; simp)
      clear hL ha1 ha2 ha3 ha4 ha5 l1 l2 l3 l4 hLl hlt
      go_wp2_with fail
      refine (DG.out _).mono ?_
      rintro e w2 ⟨rfl, hk2⟩
      have HK2 := Lib.hid (HK.out.tr hk2)
      clear hk2
      go_wp2
      go_ret
      exact ⟨ret_str HR.out, HK2.out⟩
end Go.Proofs.YtaomhkgdbobpkaaGreatDoor
