/- Walk of the reference's Rest (layer 4): a beginning is made whole, mark by mark. -/
import Derived.Test.YtmajpambfblhnaaGreatDoorJoRP
import Derived.Test.YtmajpambfblhnaaGreatDoorJoPlR
import Derived.Deep.RegionHeld3
import Derived.Deep.DeepCutAuto
import Derived.Deep.CutBlock
namespace Go.Proofs.YtmajpambfblhnaaGreatDoor
open Go.RowKit Jo
theorem marks_len : marks.length = 19 := rfl
def marksS : Value := .string ⟨marks.toArray⟩
/-- What Rest leaves: a text; with it behind it the beginning is whole. -/
def RestQ (s : List UInt8) (w : World) (e : Ending) (w' : World) : Prop := (∃ t, e = .returned (S t) ∧ t.length ≤ 300000 ∧ (readP (s ++ t)).2.1 = 0) ∧ Kept (fun _ => True) w w'
theorem endsR_cases {n : Nat} {u : List UInt8} (h : EndsR n u) : (readP u).2.1 = 0 ∨ ∃ (k i : Nat) (m : UInt8), n = k + 1 ∧ readP u = (J.null, 40, u.length) ∧ i < 19 ∧ marks[i]? = some m ∧ viabR (u ++ [m]) = true ∧ (∀ j c, j < i → marks[j]? = some c → viabR (u ++ [c]) = false) ∧ EndsR k (u ++ [m]) := by
  cases h with
  | fin h => exact .inl h
  | @step k _ m h1 h2 h3 =>
    refine .inr ⟨k, ?_⟩
    obtain ⟨hm, fs, bs, e, hb⟩ := List.find?_eq_some_iff_append.1 h2
    have hl : fs.length < 19 := by have := congrArg List.length e; rw [marks_len] at this; simp at this; omega
    refine ⟨fs.length, m, rfl, h1, hl, by rw [e]; simp, hm, fun j c hj hc => ?_, h3⟩
    rw [e, List.getElem?_append_left hj] at hc
    have := hb c (List.mem_of_getElem? hc)
    simpa using this
theorem viabR_test {t : List UInt8} {v : J} {f : Int} {p : Nat} (h : readP t = (v, f, p)) : viabR t = ((f == 0) || ((f == 40) && (p == t.length))) := by
  unfold viabR
  rw [h]
theorem mark_ex {i : Nat} {m : UInt8} (h : marks[i]? = some m) : (⟨marks.toArray⟩ : ByteArray).extract i (i + 1) = ⟨([m] : List UInt8).toArray⟩ := by
  have e := extract_mk marks i (i + 1)
  injection e with e
  rw [e]
  obtain ⟨hi, rfl⟩ := List.getElem?_eq_some_iff.1 h
  rw [List.drop_eq_getElem_cons hi, show i + 1 - i = 1 from by omega]
  rfl

set_option maxHeartbeats 16000000 in
set_option maxRecDepth 100000 in
theorem refRest_any (s : List UInt8) (w : World) (hs : s.length ≤ 4000) (hE : EndsR 300000 s) : Calls Tryz.prog 28 #[S s] w (RestQ s w) := by
  have HE := Lib.hid hE
  clear hE
  go_enter Tryz.func28, Tryz.ntmps28
  go_wp2_with fail
  go_loopg [3] 300000 (fun q ov wr => ∃ out : List UInt8, ov = S out ∧ out.length + q ≤ 300000 ∧ Hid (EndsR q (s ++ out)) ∧ Hid (Kept (fun _ => True) w wr))
  case atStart => exact ⟨[], rfl, by simp, Lib.hid (by rw [List.append_nil]; exact HE.out), Lib.hid (Kept.refl _ _)⟩
  case round =>
    clear HE
    obtain ⟨out, rfl, hol, HE, HK⟩ := hrel
    obtain ⟨u, hu⟩ : ∃ u, s ++ out = u := ⟨_, rfl⟩
    have hul : u.length = s.length + out.length := by rw [← hu, List.length_append]
    have hul2 : u.length ≤ 304000 := by omega
    have CT := run_cat (P := Tryz.prog) s out u hu (by omega)
    have hsz : (⟨u.toArray⟩ : ByteArray).size = u.length := size_mk u
    have HU := Lib.hid hu
    have HUL := Lib.hid hul
    rw [hu] at HE
    have RD := Lib.hid (fun W => refread_any u (by omega) W)
    obtain ⟨⟨v0, e0, p0⟩, hr⟩ : ∃ r, readP u = r := ⟨_, rfl⟩
    rw [hr] at RD
    have HR := Lib.hid hr
    clear hu hul hr
    go_wp2_with fail
    refine (RD.out _).mono ?_
    rintro e w2 ⟨⟨v, rfl, hj⟩, hk2⟩
    have HK2 := Lib.hid (HK.out.tr hk2)
    obtain ⟨na, nl, nc, ia, il, ic, rfl⟩ := hj.form
    clear hj hk2 RD HK
    rcases endsR_cases HE.out with h0 | ⟨k, i0, m, hq, hru, hi0, hm, hvm, hvn, hnx⟩
    · have he0 : e0 = 0 := by have := h0; rw [HR.out] at this; exact this
      subst he0
      have HF := Lib.hid h0
      clear h0
      go_wp2
      go_ret
      exact ⟨⟨out, rfl, by omega, by rw [HU.out]; exact HF.out⟩, HK2.out.tr ((Kept.refl _ _).alloc _)⟩
    · have h1 := HR.out
      rw [hru] at h1
      obtain ⟨rfl, rfl, rfl⟩ : J.null = v0 ∧ 40 = e0 ∧ u.length = p0 := by simpa using h1
      have HM := Lib.hid (And.intro hm (And.intro hvm (And.intro hvn hnx)))
      have HQ := Lib.hid hq
      clear h1 hru hm hvm hvn hnx hq HR HE
      obtain ⟨W2, hW2⟩ : ∃ W2, w2.alloc (.cells #[.int .i64 J.null.kind, .int .i64 J.null.num, S J.null.text, .slice na nl nc, .slice ia il ic] 25) = W2 := ⟨_, rfl⟩
      have HW2 := Lib.hid hW2
      have HK3 : Hid (Kept (fun _ => True) w W2) := Lib.hid (HK2.out.tr (by rw [← hW2]; exact (Kept.refl _ _).alloc _))
      clear hW2 HK2
      go_wp2_with fail
      rw [HW2.out]
      go_loopg [7, 8] 19 (fun q2 nv iv wx => ∃ i : Nat, iv = .int .i64 i ∧ ((nv = S [] ∧ i ≤ i0 ∧ q2 = 19 - i) ∨ (nv = S [m] ∧ i = i0 + 1 ∧ q2 = 0)) ∧ Hid (Kept (fun _ => True) w wx))
      case atStart => exact ⟨0, rfl, .inl ⟨rfl, by omega, rfl⟩, HK3⟩
      case round =>
        obtain ⟨i, rfl, hc, HKx⟩ := hrel
        rcases hc with ⟨rfl, hi, rfl⟩ | ⟨rfl, rfl, rfl⟩
        · have hi19 : i < 19 := by omega
          obtain ⟨c, hc⟩ : ∃ c, marks[i]? = some c := ⟨marks[i]'hi19, List.getElem?_eq_getElem hi19⟩
          have EX : ({ data := #[34, 93, 125, 58, 48, 44, 117, 108, 97, 115, 114, 101, 116, 100, 99, 92, 128, 144, 160] } : ByteArray).extract i (i + 1) = ⟨([c] : List UInt8).toArray⟩ := mark_ex hc
          have hsm : ({ data := #[34, 93, 125, 58, 48, 44, 117, 108, 97, 115, 114, 101, 116, 100, 99, 92, 128, 144, 160] } : ByteArray).size = 19 := rfl
          have CT2 := run_cat (P := Tryz.prog) u [c] (u ++ [c]) rfl (by simp only [List.length_cons, List.length_nil]; omega)
          have RD := Lib.hid (fun W => refread_any (u ++ [c]) (by simp only [List.length_append, List.length_cons, List.length_nil]; omega) W)
          obtain ⟨⟨v1, f, p1⟩, hr⟩ : ∃ r, readP (u ++ [c]) = r := ⟨_, rfl⟩
          rw [hr] at RD
          have HT := Lib.hid (viabR_test hr)
          have HC := Lib.hid hc
          have hi0' : (0 : Int) ≤ (i : Int) := by omega
          have hi1' : (i : Int) < 19 := by omega
          clear hc hr
          go_wp2_with fail
          refine (RD.out _).mono ?_
          rintro e w4 ⟨⟨v, rfl, hj⟩, hk4⟩
          obtain ⟨na4, nl4, nc4, ia4, il4, ic4, rfl⟩ := hj.form
          obtain ⟨W4, hW4⟩ : ∃ W4, w4.alloc (.cells #[.int .i64 v1.kind, .int .i64 v1.num, S v1.text, .slice na4 nl4 nc4, .slice ia4 il4 ic4] 25) = W4 := ⟨_, rfl⟩
          have HW4 := Lib.hid hW4
          have HK4 : Hid (Kept (fun _ => True) w W4) := Lib.hid ((HKx.out.tr hk4).tr (by rw [← hW4]; exact (Kept.refl _ _).alloc _))
          clear hW4 hk4 hj RD
          have hli : (u ++ [c]).length = u.length + 1 := by simp
          rw [hli] at HT
          by_cases hii : i = i0
          · subst hii
            obtain rfl : c = m := by have := HC.out; rw [HM.out.1] at this; exact (Option.some.inj this).symm
            have hv := HT.out
            rw [HM.out.2.1] at hv
            have hrel : ∀ wz, Kept (fun _ => True) w wz → True := fun _ _ => trivial
            by_cases hf0 : f = 0
            · subst hf0
              clear hv hli
              go_wp2_with fail
              rw [HW4.out]
              go_wp2
              go_roundg 0
              case rel => exact ⟨i + 1, by go_num, .inr ⟨rfl, rfl, rfl⟩, HK4⟩
              case measure => omega
            · have hb0 : ((f : Int) == 0) = false := by simpa using hf0
              rw [hb0, Bool.false_or] at hv
              obtain ⟨hf40, hp⟩ := Bool.and_eq_true_iff.1 hv.symm
              obtain rfl : f = 40 := by simpa using hf40
              obtain rfl : p1 = u.length + 1 := by simpa using hp
              clear hv hli hf40 hp hf0 hb0
              go_wp2_with fail
              rw [HW4.out]
              go_wp2
              go_roundg 0
              case rel => exact ⟨i + 1, by go_num, .inr ⟨rfl, rfl, rfl⟩, HK4⟩
              case measure => omega
          · have hv := HT.out
            rw [HM.out.2.2.1 i c (by omega) HC.out] at hv
            obtain ⟨hb0, hb1⟩ := Bool.or_eq_false_iff.1 hv.symm
            have hii2 : i + 1 ≤ i0 := by omega
            clear hv hli hii
            by_cases hf40 : f = 40
            · subst hf40
              have hp : ¬ p1 = u.length + 1 := by simpa using hb1
              have hp2 : ¬ (p1 : Int) = (u.length : Int) + 1 := by omega
              clear hb0 hb1 hp
              go_wp2_with fail
              rw [HW4.out]
              go_wp2
              go_roundg (19 - (i + 1))
              case rel => exact ⟨i + 1, by go_num, .inl ⟨rfl, hii2, rfl⟩, HK4⟩
              case measure => omega
            · have hb2 : ((f : Int) == 40) = false := by simpa using hf40
              clear hb1 hf40
              go_wp2_with fail
              rw [HW4.out]
              go_wp2
              go_roundg (19 - (i + 1))
              case rel => exact ⟨i + 1, by go_num, .inl ⟨rfl, hii2, rfl⟩, HK4⟩
              case measure => omega
        · have CT3 := run_cat (P := Tryz.prog) out [m] (out ++ [m]) rfl (by simp only [List.length_cons, List.length_nil]; omega)
          by_cases hlt : i0 + 1 < 19
          · have hl' : ((i0 : Int) + 1) < 19 := by omega
            go_wp2
            go_roundg k
            case rel => exact ⟨out ++ [m], rfl, by have := HQ.out; simp only [List.length_append, List.length_cons, List.length_nil]; omega, Lib.hid (by rw [← List.append_assoc, HU.out]; exact HM.out.2.2.2), HKx⟩
            case measure => have := HQ.out; omega
          · have hl' : ¬ ((i0 : Int) + 1) < 19 := by omega
            go_wp2
            go_roundg k
            case rel => exact ⟨out ++ [m], rfl, by have := HQ.out; simp only [List.length_append, List.length_cons, List.length_nil]; omega, Lib.hid (by rw [← List.append_assoc, HU.out]; exact HM.out.2.2.2), HKx⟩
            case measure => have := HQ.out; omega
end Go.Proofs.YtmajpambfblhnaaGreatDoor
