/- What the proof of this law needs, part 6: walks of the program's functions and plain laws (texts AcSC, AcSD, AcA1, AcK3, JoPA). -/
import Derived.Test.YtpcgfhleloonfaaGreatDoorZb5
import Derived.Sort.KeysCollected
import Derived.Sort.OwnSorted
import Derived.OwnWalk
namespace Go.Proofs.YtpcgfhleloonfaaGreatDoor
open Go.RowKit Jo Ac Go.Sort
def sumL (l : List (List UInt8)) : Nat := (l.map fun x => x.length + 1).sum
theorem sumL_snoc (l : List (List UInt8)) (x : List UInt8) : sumL (l ++ [x]) = sumL l + (x.length + 1) := by simp [sumL]
theorem sumL_le (l : List (List UInt8)) (h : ∀ x ∈ l, x.length ≤ 16) : sumL l ≤ 17 * l.length := by
  induction l with
  | nil => exact Nat.le_refl _
  | cons x r ih =>
    have h1 := ih fun y hy => h y (List.mem_cons_of_mem _ hy)
    have h2 := h x List.mem_cons_self
    simp only [sumL, List.map_cons, List.sum_cons, List.length_cons] at h1 ⊢
    omega
set_option maxRecDepth 100000 in
set_option maxHeartbeats 8000000 in
theorem told_any (b : Nat) (ns : List (List UInt8)) (w : World) (h : NM b ns w) (hn : ns.length ≤ 16777216) (hl : ∀ x ∈ ns, x.length ≤ 16) : Calls Tryz.prog 108 #[.map (some b)] w fun e w' =>
    ∃ ss : List (List UInt8), ss.Nodup ∧ (∀ x, x ∈ ss ↔ x ∈ ns) ∧ Kept (fun _ => True) w w' ∧
      if 8 < ss.length ∨ 61 < sumL ss then e = .returned (.tuple #[.slice none 0 0, .int .i64 61]) else ∃ v, e = .returned (.tuple #[v, .int .i64 0]) ∧ OwnS w.heap.size v (ss.mergeSort leB) w' := by
  obtain ⟨D0, hown, hh, hsz⟩ := h
  obtain ⟨i0, hi, hz0, hz1, hz2⟩ := info_parts infoStr
  have hbl := hown.lt
  obtain ⟨B, hB⟩ : ∃ B, w.heap.size = B := ⟨_, rfl⟩
  have HB := Lib.hid hB
  have hmax : Maps.size D0 ≤ 16777216 := by omega
  have HH := Lib.hid hh
  have HMEM2 := Lib.hid hl
  clear hh hl hsz hn
  rw [hB] at hbl ⊢
  go_enter Tryz.func108, Tryz.ntmps108
  go_wp2_with (first
    | (at_len; refine wpList_len_own _ rfl _ 146 rfl 9 3 Tryz.underlying146 _ b ns.length _ rfl hown ?_)
    | (at_make; refine wpList_make_own _ rfl _ _ 24 rfl B 9 i0 (S []) 1 Tryz.underlying24 hi hz0 hz1 _ _ _ (Maps.size D0) rfl rfl rfl (by rw [hz2]; omega) (by unfold maxLen; omega) (by rw [hB]; exact Nat.le_refl _) ?_; intro w1 hrow1 hg1)
    | (at_range; refine wpList_range_own _ rfl _ 146 rfl 9 3 keyedS Tryz.underlying146 _ b ns.length _ rfl (hown.kept hg1 (by simp)) ?_; intro w0 hrg0 hg0 hs0)
    | go_in)
  have HD := Lib.hid hown
  have HM := Lib.hid hmax
  have HBL : Hid (B ≤ w1.heap.size) := Lib.hid (by rw [← hB]; exact hg1.size)
  have HR0 := Lib.hid hrg0
  have HW0 := Lib.hid (hrow1.kept hg0 (Or.inr (by simp [Value.ownBlock])))
  have HK0 : Hid (Kept (fun _ => True) w w0) := Lib.hid ((Kept.of_grown hg1).mono (fun i _ _ => by simp) |>.tr ((Kept.of_grown hg0).mono (fun i _ _ => by simp)))
  clear hrg0 hg0 hs0 hrow1 hg1 hown hmax
  rw [HB.out] at HW0
  clear hB
  go_frame
  go_loopw [4, 5] (fun v q wr => ∃ (left : Lit → Bool) (cnt : Nat) (ss : List (List UInt8)), q = .int .i64 (sumL ss : Int) ∧ Hid (wr.ranges Tryz.prog 9 (plainElem Tryz.prog 3) b w1.heap.size ns.length D0 left cnt) ∧ ss.length + cnt ≤ Maps.size D0 ∧
      Hid (wr.ownsRow B 9 1 v ss.length (ss.map encStr)) ∧ Hid (v ≠ .slice none 0 0) ∧ Hid (Collected D0 left ss) ∧ Hid (Kept (fun _ => True) w wr))
    (fun _ _ wr => wr.rangeLeft b w1.heap.size)
  case atStart => exact ⟨_, _, [], rfl, HR0, by simp, HW0, Lib.hid (by simp), Lib.hid (Collected.start D0), HK0⟩
  case round =>
    obtain ⟨left, cnt, ss, rfl, HR, hcs, HW, HN, HC, HK⟩ := hrel
    have hsl : ss.length ≤ 16777216 := by have := HM.out; omega
    have HMEM : Hid (∀ x ∈ ss, x.length ≤ 16) := Lib.hid fun x hx => HMEM2.out x (by have := ((HC.out.2 x).1 hx).1; rw [HH.out] at this; exact of_decide_eq_true this)
    have hsu : sumL ss ≤ 17 * ss.length := sumL_le ss HMEM.out
    go_wp2_with (first
      | (at_next; refine wpList_next_ranges _ rfl _ rfl 9 keyedS (plainElem Tryz.prog 3) encStr (Value.int .i64) (fun key kl hk => by obtain ⟨x, hx, _⟩ := Maps.keyOf_str Tryz.underlying9 hk; exact ⟨x, hx⟩) (fun v y hv => by obtain ⟨c, rfl, _⟩ := plainElem_int_inv Tryz.underlying3 hv; exact ⟨c, rfl⟩) b w1.heap.size ns.length _ _ _ rfl HR.out ?_ ?_)
      | go_in)
    · intro hc0 hl0
      have HP : Hid (∀ x, x ∈ ss ↔ x ∈ ns) := Lib.hid fun x => by rw [HC.out.2 x, HH.out, hl0]; simp
      rcases HW.out.2 with ⟨hnil, _⟩ | ⟨g, cap, cur, rfl, hbase, hb, h1, h2, h3, h4⟩
      · exact absurd hnil HN.out
      have hH : Holds encStr wr g 0 ss.toArray := holds_of_block hb (by simpa using h4)
      have hgl : g < wr.heap.size := (Array.getElem?_eq_some_iff.1 hb).1
      have CS := Lib.hid (Tryz.slices_Sort_string g 0 cap ss wr hH hgl (by omega))
      have HSO : Hid (∀ n os, OwnS B (.slice (some ⟨g, 0, none⟩) ss.length cap) (ss.mergeSort leB) (grow (putRow encStr (Sort.ahead wr n) g 0 (ss.mergeSort leB).toArray) os)) := Lib.hid fun n os => by
        have hl : (ss.mergeSort leB).length = ss.length := List.length_mergeSort ss
        have := ownsRow_sorted (n := n) (os := os) (ts := ss.mergeSort leB) hl hbase hb h1 h2 h3
        unfold OwnS
        rw [hl]
        exact this
      have HKS : Hid (∀ n os, Kept (fun _ => True) w (grow (putRow encStr (Sort.ahead wr n) g 0 (ss.mergeSort leB).toArray) os)) := Lib.hid fun n os => HK.out.grown (grownBy_sorted _) fun k hk => by cases hk; left; rw [HB.out]; exact hbase
      have HND := Lib.hid HC.out.1
      have HBG : Hid ((8 < ss.length ∨ 61 < sumL ss) ↔ ((8 < ss.length) ∨ (61 < sumL ss))) := Lib.hid Iff.rfl
      clear hb h1 h2 h3 h4 hbase hH hgl HW HN HR HC hc0 hl0
      by_cases h8 : 8 < ss.length
      · have h8' : (8 : Int) < (ss.length : Int) := by omega
        go_wp2
        go_ret2
        exact ⟨ss, HND.out, HP.out, HK.out, by rw [if_pos (Or.inl h8)]; rfl⟩
      · have h8' : ¬ (8 : Int) < (ss.length : Int) := by omega
        by_cases h61 : 61 < sumL ss
        · have h61' : (61 : Int) < (sumL ss : Int) := by omega
          go_wp2
          go_ret2
          exact ⟨ss, HND.out, HP.out, HK.out, by rw [if_pos (Or.inr h61)]; rfl⟩
        · have h61' : ¬ (61 : Int) < (sumL ss : Int) := by omega
          go_wp2_with fail
          refine CS.out.mono ?_
          rintro e w' ⟨rfl, nn, os, rfl⟩
          go_wp2
          go_ret2
          exact ⟨ss, HND.out, HP.out, HKS.out nn os, by rw [if_neg (by omega)]; exact ⟨_, rfl, HSO.out nn os⟩⟩
    · intro x c kl yd yp w2 cnt2 hkey hlk hv hat hrg2 hlt hg2 hs2 hen
      obtain ⟨x', ex, rfl, _⟩ := Maps.keyOf_str Tryz.underlying9 hkey
      obtain rfl : x = x' := encStr_inj ex
      have hrow2 := HW.out.kept hg2 (Or.inr (row_ne_iter HW.out HR.out).symm)
      have HC2 := Lib.hid (HC.out.step hlk hat)
      have hxm : x.length ≤ 16 := HMEM2.out x (by have := (HC2.out.2 x).1 (by simp); rw [HH.out] at this; exact of_decide_eq_true this.1)
      have HS2 := Lib.hid hs2
      clear hs2
      have HR2 := Lib.hid hrg2
      have HG2 := Lib.hid hg2
      clear hrg2 hg2
      obtain ⟨oa, oc, hov⟩ := row_slice HW.out
      have HO2 := Lib.hid hrow2
      have hbz : B ≤ w2.heap.size := by have := HK.out.size; have := HG2.out.size; have := HB.out; omega
      have hL1 : ss.length + 1 ≤ 1099511627776 := by omega
      have HNE1 : Hid (some b ≠ u4.ownBlock) := Lib.hid (row_ne_low HW.out hbl)
      have HNE2 : Hid (some w1.heap.size ≠ u4.ownBlock) := Lib.hid (row_ne_iter HW.out HR.out)
      have HRW : Hid (∀ j, u4.ownBlock = some j → B ≤ j) := Lib.hid fun j hj => (HW.out.lt j hj).1
      clear hrow2 hat hlk
      subst hov
      go_wp2_with (at_builtin; refine wpList_pushOne' 24 9 Tryz.underlying24 infoStr rfl (by decide) rfl _ _ rfl B (.slice oa ss.length oc) ss.length (ss.map encStr) [encStr x] w2 _ rfl rfl rfl (by intro u hu; simp at hu; rw [hu]; rfl) 1 _ rfl rfl rfl HO2.out hL1 (by decide) hbz ?_)
      intro v' w3 k1 k2 k3
      have hg3 : w2.grownBy w3 (Value.slice oa ss.length oc).ownBlock := ⟨k2.os, k2.tape, k2.output, k2.size, fun j hj hne => k3.kept.2 j hj hne⟩
      have HR3 := Lib.hid (HR2.out.kept hg3 HNE1.out HNE2.out)
      have HW3 : Hid (w3.ownsRow B 9 1 v' (ss ++ [x]).length ((ss ++ [x]).map encStr)) := Lib.hid (by rw [List.length_append, List.map_append]; exact k1)
      have HN3 : Hid (v' ≠ .slice none 0 0) := Lib.hid fun e => by
        rcases HW3.out.2 with ⟨_, h0⟩ | ⟨g, cap, cur, hv, _⟩
        · simp at h0
        · rw [e] at hv
          cases hv
      have HK3 : Hid (Kept (fun _ => True) w w3) := Lib.hid ((HK.out.grown HG2.out fun k hk => by cases hk; left; rw [HB.out]; exact HBL.out).grown hg3 fun k hk => by left; rw [HB.out]; exact HRW.out k hk)
      have HSU : Hid (sumL (ss ++ [x]) = sumL ss + (x.length + 1)) := Lib.hid (sumL_snoc ss x)
      have hsz := size_mk x
      clear k1 k2 k3 hg3 hen
      go_wp2
      go_roundw
      case rel => exact ⟨_, cnt2, ss ++ [x], by rw [HSU.out]; go_num, HR3, by rw [List.length_append, List.length_singleton]; omega, HW3, HN3, HC2, HK3⟩
      case measure => rw [HR3.out.left_eq, HR.out.left_eq]; exact hlt
end Go.Proofs.YtpcgfhleloonfaaGreatDoor
namespace Go.Proofs.YtpcgfhleloonfaaGreatDoor
open Go.RowKit Jo Ac Go.Sort
theorem ltB_lt (a b : List UInt8) : ltB a b = decide (a < b) := by rw [← Jo.bytesLess_eq, Go.Proofs.bytesLess_eq]
abbrev Srt (l : List (List UInt8)) : Prop := l.Pairwise fun a b => ltB a b = true
theorem Srt.nodup {l : List (List UInt8)} (h : Srt l) : l.Nodup := h.imp fun {a b} hab e => by rw [e, ltB_irrefl] at hab; cases hab
theorem insS_srt {s : List UInt8} : ∀ {l : List (List UInt8)}, Srt l → s ∉ l → Srt (insS s l)
  | [], _, _ => by simp [insS]
  | x :: r, h, hs => by
    have h1 := List.pairwise_cons.1 h
    unfold insS
    by_cases e : ltB s x = true
    · rw [if_pos e]
      refine List.pairwise_cons.2 ⟨fun y hy => ?_, h⟩
      rcases List.mem_cons.1 hy with rfl | hy
      · exact e
      · exact ltB_trans e (h1.1 y hy)
    · rw [if_neg e]
      have hxs : ltB x s = true := ltB_total (by simpa using e) fun e => hs (by rw [e]; exact List.mem_cons_self)
      refine List.pairwise_cons.2 ⟨fun y hy => ?_, insS_srt h1.2 fun hy => hs (List.mem_cons_of_mem _ hy)⟩
      rcases (mem_insS s r y).1 hy with rfl | hy
      · exact hxs
      · exact h1.1 y hy
theorem withP_srt {s : List UInt8} {l : List (List UInt8)} (h : Srt l) : Srt (withP l s) := by
  unfold withP
  by_cases e : l.contains s = true
  · rw [if_pos e]; exact h
  · rw [if_neg e]
    exact insS_srt h fun hm => e (List.contains_iff_mem.2 hm)
theorem parF_all : ∀ (l acc : List (List UInt8)), Srt acc → (l.all nameP = true ∧ ∃ L, parF acc l = some L ∧ Srt L ∧ ∀ x, x ∈ L ↔ x ∈ acc ∨ x ∈ l) ∨ (l.all nameP = false ∧ parF acc l = none)
  | [], acc, h => .inl ⟨rfl, acc, rfl, h, fun x => by simp⟩
  | x :: r, acc, h => by
    unfold parF
    cases e : nameP x with
    | false => exact .inr ⟨by rw [List.all_cons, e]; rfl, by rw [if_neg (by decide)]⟩
    | true =>
      rw [if_pos rfl]
      rcases parF_all r (withP acc x) (withP_srt h) with ⟨h1, L, h2, h3, h4⟩ | ⟨h1, h2⟩
      · refine .inl ⟨by rw [List.all_cons, e, h1]; rfl, L, h2, h3, fun y => ?_⟩
        rw [h4, mem_withP, List.mem_cons]
        constructor
        · rintro ((h | h) | h)
          · exact .inr (.inl h)
          · exact .inl h
          · exact .inr (.inr h)
        · rintro (h | h | h)
          · exact .inl (.inr h)
          · exact .inl (.inl h)
          · exact .inr h
      · exact .inr ⟨by rw [List.all_cons, e, h1]; rfl, h2⟩
theorem sort_srt {ss : List (List UInt8)} (h : ss.Nodup) : Srt (ss.mergeSort leB) := by
  have tr : ∀ a b c : List UInt8, leB a b = true → leB b c = true → leB a c = true := fun a b c h1 h2 => by simp only [leB, decide_eq_true_eq] at *; exact List.le_trans h1 h2
  have tot : ∀ a b : List UInt8, (leB a b || leB b a) = true := fun a b => by simp only [leB, Bool.or_eq_true, decide_eq_true_eq]; exact List.le_total a b
  have h1 := List.pairwise_mergeSort tr tot ss
  have h2 : (ss.mergeSort leB).Nodup := (List.mergeSort_perm ss leB).nodup_iff.2 h
  refine (h1.and h2).imp fun {a b} hab => ?_
  cases e : ltB a b with
  | true => rfl
  | false =>
    have := ltB_total e hab.2
    rw [ltB_lt, decide_eq_true_eq] at this
    have h3 := hab.1
    simp only [leB, decide_eq_true_eq] at h3
    exact absurd this (by rw [List.not_lt]; exact h3)
theorem sort_eq {ss L : List (List UInt8)} (h : ss.Nodup) (hL : Srt L) (hm : ∀ x, x ∈ ss ↔ x ∈ L) : ss.mergeSort leB = L :=
  asc_unique (sort_srt h) hL (((List.mergeSort_perm ss leB)).trans ((List.perm_ext_iff_of_nodup h hL.nodup).2 hm))
theorem sumL_text : ∀ (l : List (List UInt8)), l ≠ [] → sumL l = (txP l).length + 1
  | [], h => absurd rfl h
  | [x], _ => by simp [sumL, txP, Lib.join_one]
  | x :: y :: r, _ => by
    have ih := sumL_text (y :: r) (by simp)
    simp only [sumL, List.map_cons, List.sum_cons, txP, Lib.join_cons, Lib.joinTail, List.flatten_cons, List.length_append, List.length_cons, List.length_nil]  at ih ⊢
    omega
theorem sumL_perm {l m : List (List UInt8)} (h : l.Perm m) : sumL l = sumL m := (h.map _).sum_nat
theorem fits_iff {ss L : List (List UInt8)} (h : ss.Nodup) (hL : Srt L) (hm : ∀ x, x ∈ ss ↔ x ∈ L) (hne : L ≠ []) : (8 < ss.length ∨ 61 < sumL ss) ↔ fitsP L = false := by
  have hp : ss.Perm L := (List.perm_ext_iff_of_nodup h hL.nodup).2 hm
  rw [sumL_perm hp, hp.length_eq, sumL_text L hne]
  unfold fitsP
  rw [Bool.and_eq_false_iff, decide_eq_false_iff_not, decide_eq_false_iff_not]
  omega
theorem spl_nil (d : UInt8) (s : List UInt8) : spl d s ≠ [] := by obtain ⟨x, r, h⟩ := spl_ne d s; rw [h]; simp
set_option maxRecDepth 100000 in
set_option maxHeartbeats 4000000 in
theorem scopeParse_any (s : List UInt8) (w : World) (hs : s.length ≤ 16777215) (hm : ∃ m, w.cell? ⟨2, 0, none⟩ = some (.int .i64 m)) : Calls Tryz.prog 80 #[S s] w fun e w' => ∃ v, e = .returned (.tuple #[v, .int .i64 (parseS s).2]) ∧ OwnS w.heap.size v (parseS s).1 w' ∧ Kept (fun _ => True) w w' := by
  cases s with
  | nil =>
    go_enter Tryz.func80, Tryz.ntmps80
    go_wp2
    go_ret2
    exact ⟨_, rfl, ⟨rfl, .inl ⟨rfl, rfl⟩⟩, Kept.refl _ _⟩
  | cons c0 s0 =>
    obtain ⟨s, hse⟩ : ∃ s, c0 :: s0 = s := ⟨_, rfl⟩
    have hne : (s == []) = false := by rw [← hse]; rfl
    have HP : Hid (parseS s = match parF [] (spl 32 s) with | none => ([], 60) | some l => if fitsP l = true then (l, 0) else ([], 61)) := Lib.hid (by
      unfold parseS
      rw [if_neg (by rw [← hse]; simp)]
      rfl)
    rw [hse] at hs ⊢
    have CS := Lib.hid (split_any s 32 w (by omega) hm)
    have hcl := count_le 32 s
    have hle := spl_le 32 s
    have hnn := spl_nil 32 s
    obtain ⟨ps, hps⟩ : ∃ ps, spl 32 s = ps := ⟨_, rfl⟩
    rw [hps] at HP CS hcl hle hnn
    have HCL : Hid (ps.length ≤ 16777216) := Lib.hid (by omega)
    have HLE : Hid (∀ x ∈ ps, x.length ≤ 16777216) := Lib.hid fun x hx => by have := hle x hx; omega
    have HNN := Lib.hid hnn
    clear hps hse hs hcl hle hnn hm
    go_enter Tryz.func80, Tryz.ntmps80
    go_wp2_with fail
    refine CS.out.mono ?_
    rintro e w1 ⟨v1, rfl, ho1, hk1⟩
    have HS1 := Lib.hid ho1
    have HK1 := Lib.hid hk1
    have HZ1 : Hid (w.heap.size ≤ w1.heap.size) := Lib.hid hk1.size
    clear ho1 hk1 CS
    rcases parF_all ps [] List.Pairwise.nil with ⟨h1, L, h2, h3, h4⟩ | ⟨h1, h2⟩
    · have CG := Lib.hid (scopeGather_any v1 ps w1 HS1.out HCL.out HLE.out true h1)
      have HN16 : Hid (∀ x ∈ ps, x.length ≤ 16) := Lib.hid fun x hx => (name_len (List.all_eq_true.1 h1 x hx)).2
      have HP2 : Hid (parseS s = if fitsP L = true then (L, 0) else ([], 61)) := Lib.hid (by rw [HP.out, h2])
      have HL := Lib.hid (And.intro h3 h4)
      clear h1 h2 h3 h4
      go_wp2_with fail
      refine CG.out.mono ?_
      rintro e w2 ⟨hk2, hx⟩
      rw [if_pos trivial] at hx
      obtain ⟨b, rfl, hnm⟩ := hx
      have CT := Lib.hid (told_any b ps w2 hnm HCL.out HN16.out)
      have HK2 := Lib.hid (HK1.out.tr hk2)
      clear hnm hk2
      go_wp2_with fail
      refine CT.out.mono ?_
      rintro e w3 ⟨ss, hnd, hmm, hk3, hx⟩
      have HM : Hid (∀ x, x ∈ ss ↔ x ∈ L) := Lib.hid fun x => by rw [hmm, HL.out.2]; simp
      have HLN : L ≠ [] := fun e => by
        obtain ⟨y, r, hy⟩ := List.exists_cons_of_ne_nil HNN.out
        have := (HL.out.2 y).2 (.inr (by rw [hy]; exact List.mem_cons_self))
        rw [e] at this
        cases this
      have HF := Lib.hid (fits_iff hnd HL.out.1 HM.out HLN)
      have HE := Lib.hid (sort_eq hnd HL.out.1 HM.out)
      have HK3 := Lib.hid (HK2.out.tr hk3)
      have HZ2 := Lib.hid HK2.out.size
      by_cases hbig : 8 < ss.length ∨ 61 < sumL ss
      · rw [if_pos hbig] at hx
        subst hx
        have HP3 : Hid (parseS s = ([], 61)) := Lib.hid (by rw [HP2.out, HF.out.1 hbig, if_neg (by decide)])
        clear hnd hmm hk3 HLN hbig
        go_wp2
        go_ret2
        exact ⟨_, by rw [HP3.out]; rfl, by rw [HP3.out]; exact ⟨rfl, .inl ⟨rfl, rfl⟩⟩, HK3.out⟩
      · rw [if_neg hbig] at hx
        obtain ⟨v3, rfl, ho3⟩ := hx
        have hf : fitsP L = true := by
          cases e : fitsP L with
          | true => rfl
          | false => exact absurd (HF.out.2 e) hbig
        have HP3 : Hid (parseS s = (L, 0)) := Lib.hid (by rw [HP2.out, hf, if_pos rfl])
        have HO3 : Hid (OwnS w.heap.size v3 L w3) := Lib.hid (by rw [HE.out] at ho3; exact ownsRow_base ho3 HZ2.out)
        clear hnd hmm hk3 HLN hbig hf ho3
        go_wp2
        go_ret2
        exact ⟨_, by rw [HP3.out]; rfl, by rw [HP3.out]; exact HO3.out, HK3.out⟩
    · have CG := Lib.hid (scopeGather_any v1 ps w1 HS1.out HCL.out HLE.out false h1)
      have HP2 : Hid (parseS s = ([], 60)) := Lib.hid (by rw [HP.out, h2])
      clear h1 h2
      go_wp2_with fail
      refine CG.out.mono ?_
      rintro e w2 ⟨hk2, hx⟩
      simp only [Bool.false_eq_true, if_false] at hx
      subst hx
      have HK2 := Lib.hid (HK1.out.tr hk2)
      clear hk2
      go_wp2
      go_ret2
      exact ⟨_, by rw [HP2.out]; rfl, by rw [HP2.out]; exact ⟨rfl, .inl ⟨rfl, rfl⟩⟩, HK2.out⟩
end Go.Proofs.YtpcgfhleloonfaaGreatDoor
namespace Go.Proofs.YtpcgfhleloonfaaGreatDoor
open Go.RowKit Jo Ac
structure Ky where
  num : Int
  secret : List UInt8
  fr : Int
  till : Int
abbrev Ky.v (k : Ky) : Value := .agg #[.int .i64 k.num, S k.secret, .int .i64 k.fr, .int .i64 k.till]
structure Cl where
  client : List UInt8
  subject : List UInt8
  scope : List (List UInt8)
  family : Int
  number : Int
  issued : Int
  till : Int
abbrev Cl.vs (c : Cl) (sv : Value) : List Value := [S c.client, S c.subject, sv, .int .i64 c.family, .int .i64 c.number, .int .i64 c.issued, .int .i64 c.till]
abbrev Cl.v (c : Cl) (sv : Value) : Value := .agg (c.vs sv).toArray
def timeP (n : Int) : Bool := decide (0 ≤ n) && decide (n ≤ 1099511627776)
def inP (n : Int) : Bool := decide (1 ≤ n) && decide (n ≤ 9007199254740991)
def keyP (k : Ky) : Bool := decide (1 ≤ k.num) && decide (k.num ≤ 1073741824) && decide (k.secret.length = 24) && timeP k.fr && timeP k.till && decide (k.fr ≤ k.till)
def claimP (c : Cl) : Bool := nameP c.client && nameP c.subject && scopeP c.scope && inP c.family && inP c.number && timeP c.issued && timeP c.till && decide (c.issued ≤ c.till)
/-- Cells that are known, in a block. -/
def At (g : Nat) (vs : List Value) (w : World) : Prop := (∀ (j : Nat) v, vs[j]? = some v → w.cell? ⟨g, j, none⟩ = some v) ∧ g < w.heap.size
theorem At.kept {g : Nat} {vs : List Value} {w w' : World} (h : At g vs w) (hk : Kept (fun _ => True) w w') : At g vs w' := ⟨fun j v hj => (hk.cell h.2 trivial).trans (h.1 j v hj), Nat.lt_of_lt_of_le h.2 hk.size⟩
theorem At.made (w : World) (vs : List Value) (T : TypeId) : At w.heap.size vs (w.alloc (.cells vs.toArray T)) := ⟨fun j v hj => by
  rw [cell_of_row _ w.heap.size j _ _ _ (heap_alloc_new w _)]
  simpa using hj, by simp⟩
theorem isTime_any (n : Int) (w : World) : Calls Tryz.prog 57 #[.int .i64 n] w fun e w' => e = .returned (.bool (timeP n)) ∧ w' = w := by
  unfold timeP
  go_enter Tryz.func57, Tryz.ntmps57
  by_cases h1 : 0 ≤ n
  · by_cases h2 : n ≤ 1099511627776
    · go_wp2
      go_ret
      exact ⟨by simp; omega, rfl⟩
    · go_wp2
      go_ret
      exact ⟨by simp; omega, rfl⟩
  · go_wp2
    go_ret
    exact ⟨by simp; omega, rfl⟩
theorem in_any (n : Int) (w : World) : Calls Tryz.prog 58 #[.int .i64 n] w fun e w' => e = .returned (.bool (inP n)) ∧ w' = w := by
  unfold inP
  go_enter Tryz.func58, Tryz.ntmps58
  by_cases h1 : 1 ≤ n
  · by_cases h2 : n ≤ 9007199254740991
    · go_wp2
      go_ret
      exact ⟨by simp; omega, rfl⟩
    · go_wp2
      go_ret
      exact ⟨by simp; omega, rfl⟩
  · go_wp2
    go_ret
    exact ⟨by simp; omega, rfl⟩
set_option maxRecDepth 100000 in
set_option maxHeartbeats 4000000 in
theorem isKey_any (k : Ky) (w : World) (hs : k.secret.length ≤ 16777216) : Calls Tryz.prog 31 #[k.v] w fun e w' => e = .returned (.bool (keyP k)) ∧ Kept (fun _ => True) w w' := by
  obtain ⟨n, s, f, u⟩ := k
  have hsz : (⟨s.toArray⟩ : ByteArray).size = s.length := size_mk s
  obtain ⟨N, hN⟩ : ∃ N, s.length = N := ⟨_, rfl⟩
  rw [hN] at hsz
  have CF := Lib.hid (fun w => isTime_any f w)
  have CU := Lib.hid (fun w => isTime_any u w)
  have HE : Hid (keyP ⟨n, s, f, u⟩ = (decide (1 ≤ n) && decide (n ≤ 1073741824) && decide (N = 24) && timeP f && timeP u && decide (f ≤ u))) := Lib.hid (by rw [← hN]; rfl)
  have hN2 : N ≤ 16777216 := by simp only at hs; omega
  clear hN hs
  have HK : Hid (Kept (fun _ => True) w (w.alloc (.cells #[.int .i64 n, S s, .int .i64 f, .int .i64 u] 23))) := Lib.hid ((Kept.refl _ _).alloc _)
  go_enter Tryz.func31, Tryz.ntmps31
  by_cases h1 : 1 ≤ n
  rotate_left
  · have HF : Hid ((keyP ⟨n, s, f, u⟩) = false) := Lib.hid (by rw [HE.out]; simp [h1])
    go_wp2
    go_ret
    exact ⟨by rw [HF.out]; rfl, HK.out⟩
  by_cases h2 : n ≤ 1073741824
  rotate_left
  · have HF : Hid ((keyP ⟨n, s, f, u⟩) = false) := Lib.hid (by rw [HE.out]; simp [h2])
    go_wp2
    go_ret
    exact ⟨by rw [HF.out]; rfl, HK.out⟩
  by_cases h3 : N = 24
  rotate_left
  · have HF : Hid ((keyP ⟨n, s, f, u⟩) = false) := Lib.hid (by rw [HE.out]; simp [h3])
    have h3' : ((N : Int) == 24) = false := by simp; omega
    go_wp2
    go_ret
    exact ⟨by rw [HF.out]; rfl, HK.out⟩
  have h3' : ((N : Int) == 24) = true := by simp; omega
  cases h4 : timeP f with
  | false =>
    have HF : Hid ((keyP ⟨n, s, f, u⟩) = false) := Lib.hid (by rw [HE.out]; simp [h4])
    rw [h4] at CF
    clear h4
    go_wp2_with fail
    refine (CF.out _).mono ?_
    rintro e w1 ⟨rfl, rfl⟩
    go_wp2
    go_ret
    exact ⟨by rw [HF.out]; rfl, HK.out⟩
  | true =>
    have hh4 := Lib.hid h4
    rw [h4] at CF
    clear h4
    cases h5 : timeP u with
    | false =>
      have HF : Hid ((keyP ⟨n, s, f, u⟩) = false) := Lib.hid (by rw [HE.out]; simp [h5])
      rw [h5] at CU
      clear h5
      go_wp2_with fail
      refine (CF.out _).mono ?_
      rintro e w1 ⟨rfl, rfl⟩
      go_wp2_with fail
      refine (CU.out _).mono ?_
      rintro e w2 ⟨rfl, rfl⟩
      go_wp2
      go_ret
      exact ⟨by rw [HF.out]; rfl, HK.out⟩
    | true =>
      have hh5 := Lib.hid h5
      rw [h5] at CU
      clear h5
      by_cases h6 : f ≤ u
      rotate_left
      · have HF : Hid ((keyP ⟨n, s, f, u⟩) = false) := Lib.hid (by rw [HE.out]; simp [h6])
        have h6' : decide (f ≤ u) = false := by simp; omega
        go_wp2_with fail
        refine (CF.out _).mono ?_
        rintro e w1 ⟨rfl, rfl⟩
        go_wp2_with fail
        refine (CU.out _).mono ?_
        rintro e w2 ⟨rfl, rfl⟩
        go_wp2
        go_ret
        exact ⟨by rw [HF.out]; rfl, HK.out⟩
      have h6' : decide (f ≤ u) = true := by simp; omega
      have HF : Hid ((keyP ⟨n, s, f, u⟩) = true) := Lib.hid (by rw [HE.out]; simp [h1, h2, h3, hh4.out, hh5.out, h6])
      go_wp2_with fail
      refine (CF.out _).mono ?_
      rintro e w1 ⟨rfl, rfl⟩
      go_wp2_with fail
      refine (CU.out _).mono ?_
      rintro e w2 ⟨rfl, rfl⟩
      go_wp2
      go_ret
      exact ⟨by rw [HF.out]; rfl, HK.out⟩
set_option maxRecDepth 100000 in
set_option maxHeartbeats 4000000 in
theorem claimed_any (c : Cl) (sv : Value) (w : World) (h : SL w sv c.scope) (h1 : c.client.length ≤ 16777216) (h2 : c.subject.length ≤ 16777216) (hn : c.scope.length ≤ 1048576) (hl : ∀ s ∈ c.scope, s.length ≤ 16777216) : Calls Tryz.prog 33 #[c.v sv] w fun e w' => e = .returned (.bool (claimP c)) ∧ Kept (fun _ => True) w w' := by
  obtain ⟨cl, su, sc, fa, nu, is, ti⟩ := c
  simp only at h h1 h2 hn hl
  have C1 := Lib.hid (fun w => isName_any cl w h1)
  have C2 := Lib.hid (fun w => isName_any su w h2)
  have C3 := Lib.hid (fun w' (hk : Kept (fun _ => True) w w') => scopeRight_any sv sc w' (h.kept hk) hn hl)
  have C4 := Lib.hid (fun w => in_any fa w)
  have C5 := Lib.hid (fun w => in_any nu w)
  have C6 := Lib.hid (fun w => isTime_any is w)
  have C7 := Lib.hid (fun w => isTime_any ti w)
  have HE : Hid (claimP ⟨cl, su, sc, fa, nu, is, ti⟩ = (nameP cl && nameP su && scopeP sc && inP fa && inP nu && timeP is && timeP ti && decide (is ≤ ti))) := Lib.hid rfl
  clear h h1 h2 hn hl
  go_enter Tryz.func33, Tryz.ntmps33
  obtain ⟨W, hW⟩ : ∃ W, w.alloc (.cells #[S cl, S su, sv, .int .i64 fa, .int .i64 nu, .int .i64 is, .int .i64 ti] 26) = W := ⟨_, rfl⟩
  have HK : Hid (Kept (fun _ => True) w W) := Lib.hid (by rw [← hW]; exact (Kept.refl _ _).alloc _)
  have HA : Hid (At w.heap.size [S cl, S su, sv, .int .i64 fa, .int .i64 nu, .int .i64 is, .int .i64 ti] W) := Lib.hid (by rw [← hW]; exact At.made _ _ _)
  have c0_0 := HA.out.1 0 _ rfl
  cases h1 : nameP cl with
  | false =>
    have HF : Hid ((claimP ⟨cl, su, sc, fa, nu, is, ti⟩) = false) := Lib.hid (by rw [HE.out]; simp [h1])
    rw [h1] at C1
    clear h1
    go_wp2_with fail
    refine (C1.out _).mono ?_
    rintro e w1 ⟨rfl, hk1⟩
    have HK1 := Lib.hid (HK.out.tr hk1)
    have HB1 := Lib.hid (HA.out.kept hk1)
    have c1_1 := HB1.out.1 1 _ rfl
    have c1_2 := HB1.out.1 2 _ rfl
    have c1_3 := HB1.out.1 3 _ rfl
    have c1_4 := HB1.out.1 4 _ rfl
    have c1_5 := HB1.out.1 5 _ rfl
    have c1_6 := HB1.out.1 6 _ rfl
    clear hk1
    go_wp2
    go_ret
    exact ⟨by rw [HF.out]; rfl, HK1.out⟩
  | true =>
    have hh1 := Lib.hid h1
    rw [h1] at C1
    clear h1
    cases h2 : nameP su with
    | false =>
      have HF : Hid ((claimP ⟨cl, su, sc, fa, nu, is, ti⟩) = false) := Lib.hid (by rw [HE.out]; simp [h2])
      rw [h2] at C2
      clear h2
      go_wp2_with fail
      refine (C1.out _).mono ?_
      rintro e w1 ⟨rfl, hk1⟩
      have HK1 := Lib.hid (HK.out.tr hk1)
      have HB1 := Lib.hid (HA.out.kept hk1)
      have c1_1 := HB1.out.1 1 _ rfl
      have c1_2 := HB1.out.1 2 _ rfl
      have c1_3 := HB1.out.1 3 _ rfl
      have c1_4 := HB1.out.1 4 _ rfl
      have c1_5 := HB1.out.1 5 _ rfl
      have c1_6 := HB1.out.1 6 _ rfl
      clear hk1
      go_wp2_with fail
      refine (C2.out _).mono ?_
      rintro e w2 ⟨rfl, hk2⟩
      have HK2 := Lib.hid (HK1.out.tr hk2)
      have HB2 := Lib.hid (HB1.out.kept hk2)
      have c2_1 := HB2.out.1 1 _ rfl
      have c2_2 := HB2.out.1 2 _ rfl
      have c2_3 := HB2.out.1 3 _ rfl
      have c2_4 := HB2.out.1 4 _ rfl
      have c2_5 := HB2.out.1 5 _ rfl
      have c2_6 := HB2.out.1 6 _ rfl
      clear hk2
      go_wp2
      go_ret
      exact ⟨by rw [HF.out]; rfl, HK2.out⟩
    | true =>
      have hh2 := Lib.hid h2
      rw [h2] at C2
      clear h2
      cases h3 : scopeP sc with
      | false =>
        have HF : Hid ((claimP ⟨cl, su, sc, fa, nu, is, ti⟩) = false) := Lib.hid (by rw [HE.out]; simp [h3])
        rw [h3] at C3
        clear h3
        go_wp2_with fail
        refine (C1.out _).mono ?_
        rintro e w1 ⟨rfl, hk1⟩
        have HK1 := Lib.hid (HK.out.tr hk1)
        have HB1 := Lib.hid (HA.out.kept hk1)
        have c1_1 := HB1.out.1 1 _ rfl
        have c1_2 := HB1.out.1 2 _ rfl
        have c1_3 := HB1.out.1 3 _ rfl
        have c1_4 := HB1.out.1 4 _ rfl
        have c1_5 := HB1.out.1 5 _ rfl
        have c1_6 := HB1.out.1 6 _ rfl
        clear hk1
        go_wp2_with fail
        refine (C2.out _).mono ?_
        rintro e w2 ⟨rfl, hk2⟩
        have HK2 := Lib.hid (HK1.out.tr hk2)
        have HB2 := Lib.hid (HB1.out.kept hk2)
        have c2_1 := HB2.out.1 1 _ rfl
        have c2_2 := HB2.out.1 2 _ rfl
        have c2_3 := HB2.out.1 3 _ rfl
        have c2_4 := HB2.out.1 4 _ rfl
        have c2_5 := HB2.out.1 5 _ rfl
        have c2_6 := HB2.out.1 6 _ rfl
        clear hk2
        go_wp2_with fail
        refine (C3.out _ HK2.out).mono ?_
        rintro e w3 ⟨rfl, hk3⟩
        have HK3 := Lib.hid (HK2.out.tr hk3)
        have HB3 := Lib.hid (HB2.out.kept hk3)
        have c3_1 := HB3.out.1 1 _ rfl
        have c3_2 := HB3.out.1 2 _ rfl
        have c3_3 := HB3.out.1 3 _ rfl
        have c3_4 := HB3.out.1 4 _ rfl
        have c3_5 := HB3.out.1 5 _ rfl
        have c3_6 := HB3.out.1 6 _ rfl
        clear hk3
        go_wp2
        go_ret
        exact ⟨by rw [HF.out]; rfl, HK3.out⟩
      | true =>
        have hh3 := Lib.hid h3
        rw [h3] at C3
        clear h3
        cases h4 : inP fa with
        | false =>
          have HF : Hid ((claimP ⟨cl, su, sc, fa, nu, is, ti⟩) = false) := Lib.hid (by rw [HE.out]; simp [h4])
          rw [h4] at C4
          clear h4
          go_wp2_with fail
          refine (C1.out _).mono ?_
          rintro e w1 ⟨rfl, hk1⟩
          have HK1 := Lib.hid (HK.out.tr hk1)
          have HB1 := Lib.hid (HA.out.kept hk1)
          have c1_1 := HB1.out.1 1 _ rfl
          have c1_2 := HB1.out.1 2 _ rfl
          have c1_3 := HB1.out.1 3 _ rfl
          have c1_4 := HB1.out.1 4 _ rfl
          have c1_5 := HB1.out.1 5 _ rfl
          have c1_6 := HB1.out.1 6 _ rfl
          clear hk1
          go_wp2_with fail
          refine (C2.out _).mono ?_
          rintro e w2 ⟨rfl, hk2⟩
          have HK2 := Lib.hid (HK1.out.tr hk2)
          have HB2 := Lib.hid (HB1.out.kept hk2)
          have c2_1 := HB2.out.1 1 _ rfl
          have c2_2 := HB2.out.1 2 _ rfl
          have c2_3 := HB2.out.1 3 _ rfl
          have c2_4 := HB2.out.1 4 _ rfl
          have c2_5 := HB2.out.1 5 _ rfl
          have c2_6 := HB2.out.1 6 _ rfl
          clear hk2
          go_wp2_with fail
          refine (C3.out _ HK2.out).mono ?_
          rintro e w3 ⟨rfl, hk3⟩
          have HK3 := Lib.hid (HK2.out.tr hk3)
          have HB3 := Lib.hid (HB2.out.kept hk3)
          have c3_1 := HB3.out.1 1 _ rfl
          have c3_2 := HB3.out.1 2 _ rfl
          have c3_3 := HB3.out.1 3 _ rfl
          have c3_4 := HB3.out.1 4 _ rfl
          have c3_5 := HB3.out.1 5 _ rfl
          have c3_6 := HB3.out.1 6 _ rfl
          clear hk3
          go_wp2_with fail
          refine (C4.out _).mono ?_
          rintro e w4 ⟨rfl, rfl⟩
          go_wp2
          go_ret
          exact ⟨by rw [HF.out]; rfl, HK3.out⟩
        | true =>
          have hh4 := Lib.hid h4
          rw [h4] at C4
          clear h4
          cases h5 : inP nu with
          | false =>
            have HF : Hid ((claimP ⟨cl, su, sc, fa, nu, is, ti⟩) = false) := Lib.hid (by rw [HE.out]; simp [h5])
            rw [h5] at C5
            clear h5
            go_wp2_with fail
            refine (C1.out _).mono ?_
            rintro e w1 ⟨rfl, hk1⟩
            have HK1 := Lib.hid (HK.out.tr hk1)
            have HB1 := Lib.hid (HA.out.kept hk1)
            have c1_1 := HB1.out.1 1 _ rfl
            have c1_2 := HB1.out.1 2 _ rfl
            have c1_3 := HB1.out.1 3 _ rfl
            have c1_4 := HB1.out.1 4 _ rfl
            have c1_5 := HB1.out.1 5 _ rfl
            have c1_6 := HB1.out.1 6 _ rfl
            clear hk1
            go_wp2_with fail
            refine (C2.out _).mono ?_
            rintro e w2 ⟨rfl, hk2⟩
            have HK2 := Lib.hid (HK1.out.tr hk2)
            have HB2 := Lib.hid (HB1.out.kept hk2)
            have c2_1 := HB2.out.1 1 _ rfl
            have c2_2 := HB2.out.1 2 _ rfl
            have c2_3 := HB2.out.1 3 _ rfl
            have c2_4 := HB2.out.1 4 _ rfl
            have c2_5 := HB2.out.1 5 _ rfl
            have c2_6 := HB2.out.1 6 _ rfl
            clear hk2
            go_wp2_with fail
            refine (C3.out _ HK2.out).mono ?_
            rintro e w3 ⟨rfl, hk3⟩
            have HK3 := Lib.hid (HK2.out.tr hk3)
            have HB3 := Lib.hid (HB2.out.kept hk3)
            have c3_1 := HB3.out.1 1 _ rfl
            have c3_2 := HB3.out.1 2 _ rfl
            have c3_3 := HB3.out.1 3 _ rfl
            have c3_4 := HB3.out.1 4 _ rfl
            have c3_5 := HB3.out.1 5 _ rfl
            have c3_6 := HB3.out.1 6 _ rfl
            clear hk3
            go_wp2_with fail
            refine (C4.out _).mono ?_
            rintro e w4 ⟨rfl, rfl⟩
            go_wp2_with fail
            refine (C5.out _).mono ?_
            rintro e w5 ⟨rfl, rfl⟩
            go_wp2
            go_ret
            exact ⟨by rw [HF.out]; rfl, HK3.out⟩
          | true =>
            have hh5 := Lib.hid h5
            rw [h5] at C5
            clear h5
            cases h6 : timeP is with
            | false =>
              have HF : Hid ((claimP ⟨cl, su, sc, fa, nu, is, ti⟩) = false) := Lib.hid (by rw [HE.out]; simp [h6])
              rw [h6] at C6
              clear h6
              go_wp2_with fail
              refine (C1.out _).mono ?_
              rintro e w1 ⟨rfl, hk1⟩
              have HK1 := Lib.hid (HK.out.tr hk1)
              have HB1 := Lib.hid (HA.out.kept hk1)
              have c1_1 := HB1.out.1 1 _ rfl
              have c1_2 := HB1.out.1 2 _ rfl
              have c1_3 := HB1.out.1 3 _ rfl
              have c1_4 := HB1.out.1 4 _ rfl
              have c1_5 := HB1.out.1 5 _ rfl
              have c1_6 := HB1.out.1 6 _ rfl
              clear hk1
              go_wp2_with fail
              refine (C2.out _).mono ?_
              rintro e w2 ⟨rfl, hk2⟩
              have HK2 := Lib.hid (HK1.out.tr hk2)
              have HB2 := Lib.hid (HB1.out.kept hk2)
              have c2_1 := HB2.out.1 1 _ rfl
              have c2_2 := HB2.out.1 2 _ rfl
              have c2_3 := HB2.out.1 3 _ rfl
              have c2_4 := HB2.out.1 4 _ rfl
              have c2_5 := HB2.out.1 5 _ rfl
              have c2_6 := HB2.out.1 6 _ rfl
              clear hk2
              go_wp2_with fail
              refine (C3.out _ HK2.out).mono ?_
              rintro e w3 ⟨rfl, hk3⟩
              have HK3 := Lib.hid (HK2.out.tr hk3)
              have HB3 := Lib.hid (HB2.out.kept hk3)
              have c3_1 := HB3.out.1 1 _ rfl
              have c3_2 := HB3.out.1 2 _ rfl
              have c3_3 := HB3.out.1 3 _ rfl
              have c3_4 := HB3.out.1 4 _ rfl
              have c3_5 := HB3.out.1 5 _ rfl
              have c3_6 := HB3.out.1 6 _ rfl
              clear hk3
              go_wp2_with fail
              refine (C4.out _).mono ?_
              rintro e w4 ⟨rfl, rfl⟩
              go_wp2_with fail
              refine (C5.out _).mono ?_
              rintro e w5 ⟨rfl, rfl⟩
              go_wp2_with fail
              refine (C6.out _).mono ?_
              rintro e w6 ⟨rfl, rfl⟩
              go_wp2
              go_ret
              exact ⟨by rw [HF.out]; rfl, HK3.out⟩
            | true =>
              have hh6 := Lib.hid h6
              rw [h6] at C6
              clear h6
              cases h7 : timeP ti with
              | false =>
                have HF : Hid ((claimP ⟨cl, su, sc, fa, nu, is, ti⟩) = false) := Lib.hid (by rw [HE.out]; simp [h7])
                rw [h7] at C7
                clear h7
                go_wp2_with fail
                refine (C1.out _).mono ?_
                rintro e w1 ⟨rfl, hk1⟩
                have HK1 := Lib.hid (HK.out.tr hk1)
                have HB1 := Lib.hid (HA.out.kept hk1)
                have c1_1 := HB1.out.1 1 _ rfl
                have c1_2 := HB1.out.1 2 _ rfl
                have c1_3 := HB1.out.1 3 _ rfl
                have c1_4 := HB1.out.1 4 _ rfl
                have c1_5 := HB1.out.1 5 _ rfl
                have c1_6 := HB1.out.1 6 _ rfl
                clear hk1
                go_wp2_with fail
                refine (C2.out _).mono ?_
                rintro e w2 ⟨rfl, hk2⟩
                have HK2 := Lib.hid (HK1.out.tr hk2)
                have HB2 := Lib.hid (HB1.out.kept hk2)
                have c2_1 := HB2.out.1 1 _ rfl
                have c2_2 := HB2.out.1 2 _ rfl
                have c2_3 := HB2.out.1 3 _ rfl
                have c2_4 := HB2.out.1 4 _ rfl
                have c2_5 := HB2.out.1 5 _ rfl
                have c2_6 := HB2.out.1 6 _ rfl
                clear hk2
                go_wp2_with fail
                refine (C3.out _ HK2.out).mono ?_
                rintro e w3 ⟨rfl, hk3⟩
                have HK3 := Lib.hid (HK2.out.tr hk3)
                have HB3 := Lib.hid (HB2.out.kept hk3)
                have c3_1 := HB3.out.1 1 _ rfl
                have c3_2 := HB3.out.1 2 _ rfl
                have c3_3 := HB3.out.1 3 _ rfl
                have c3_4 := HB3.out.1 4 _ rfl
                have c3_5 := HB3.out.1 5 _ rfl
                have c3_6 := HB3.out.1 6 _ rfl
                clear hk3
                go_wp2_with fail
                refine (C4.out _).mono ?_
                rintro e w4 ⟨rfl, rfl⟩
                go_wp2_with fail
                refine (C5.out _).mono ?_
                rintro e w5 ⟨rfl, rfl⟩
                go_wp2_with fail
                refine (C6.out _).mono ?_
                rintro e w6 ⟨rfl, rfl⟩
                go_wp2_with fail
                refine (C7.out _).mono ?_
                rintro e w7 ⟨rfl, rfl⟩
                go_wp2
                go_ret
                exact ⟨by rw [HF.out]; rfl, HK3.out⟩
              | true =>
                have hh7 := Lib.hid h7
                rw [h7] at C7
                clear h7
                by_cases h8 : is ≤ ti
                rotate_left
                · have HF : Hid ((claimP ⟨cl, su, sc, fa, nu, is, ti⟩) = false) := Lib.hid (by rw [HE.out]; simp [h8])
                  have h8' : decide (is ≤ ti) = false := by simp; omega
                  go_wp2_with fail
                  refine (C1.out _).mono ?_
                  rintro e w1 ⟨rfl, hk1⟩
                  have HK1 := Lib.hid (HK.out.tr hk1)
                  have HB1 := Lib.hid (HA.out.kept hk1)
                  have c1_1 := HB1.out.1 1 _ rfl
                  have c1_2 := HB1.out.1 2 _ rfl
                  have c1_3 := HB1.out.1 3 _ rfl
                  have c1_4 := HB1.out.1 4 _ rfl
                  have c1_5 := HB1.out.1 5 _ rfl
                  have c1_6 := HB1.out.1 6 _ rfl
                  clear hk1
                  go_wp2_with fail
                  refine (C2.out _).mono ?_
                  rintro e w2 ⟨rfl, hk2⟩
                  have HK2 := Lib.hid (HK1.out.tr hk2)
                  have HB2 := Lib.hid (HB1.out.kept hk2)
                  have c2_1 := HB2.out.1 1 _ rfl
                  have c2_2 := HB2.out.1 2 _ rfl
                  have c2_3 := HB2.out.1 3 _ rfl
                  have c2_4 := HB2.out.1 4 _ rfl
                  have c2_5 := HB2.out.1 5 _ rfl
                  have c2_6 := HB2.out.1 6 _ rfl
                  clear hk2
                  go_wp2_with fail
                  refine (C3.out _ HK2.out).mono ?_
                  rintro e w3 ⟨rfl, hk3⟩
                  have HK3 := Lib.hid (HK2.out.tr hk3)
                  have HB3 := Lib.hid (HB2.out.kept hk3)
                  have c3_1 := HB3.out.1 1 _ rfl
                  have c3_2 := HB3.out.1 2 _ rfl
                  have c3_3 := HB3.out.1 3 _ rfl
                  have c3_4 := HB3.out.1 4 _ rfl
                  have c3_5 := HB3.out.1 5 _ rfl
                  have c3_6 := HB3.out.1 6 _ rfl
                  clear hk3
                  go_wp2_with fail
                  refine (C4.out _).mono ?_
                  rintro e w4 ⟨rfl, rfl⟩
                  go_wp2_with fail
                  refine (C5.out _).mono ?_
                  rintro e w5 ⟨rfl, rfl⟩
                  go_wp2_with fail
                  refine (C6.out _).mono ?_
                  rintro e w6 ⟨rfl, rfl⟩
                  go_wp2_with fail
                  refine (C7.out _).mono ?_
                  rintro e w7 ⟨rfl, rfl⟩
                  go_wp2
                  go_ret
                  exact ⟨by rw [HF.out]; rfl, HK3.out⟩
                have h8' : decide (is ≤ ti) = true := by simp; omega
                have HF : Hid ((claimP ⟨cl, su, sc, fa, nu, is, ti⟩) = true) := Lib.hid (by rw [HE.out]; simp [hh1.out, hh2.out, hh3.out, hh4.out, hh5.out, hh6.out, hh7.out, h8])
                go_wp2_with fail
                refine (C1.out _).mono ?_
                rintro e w1 ⟨rfl, hk1⟩
                have HK1 := Lib.hid (HK.out.tr hk1)
                have HB1 := Lib.hid (HA.out.kept hk1)
                have c1_1 := HB1.out.1 1 _ rfl
                have c1_2 := HB1.out.1 2 _ rfl
                have c1_3 := HB1.out.1 3 _ rfl
                have c1_4 := HB1.out.1 4 _ rfl
                have c1_5 := HB1.out.1 5 _ rfl
                have c1_6 := HB1.out.1 6 _ rfl
                clear hk1
                go_wp2_with fail
                refine (C2.out _).mono ?_
                rintro e w2 ⟨rfl, hk2⟩
                have HK2 := Lib.hid (HK1.out.tr hk2)
                have HB2 := Lib.hid (HB1.out.kept hk2)
                have c2_1 := HB2.out.1 1 _ rfl
                have c2_2 := HB2.out.1 2 _ rfl
                have c2_3 := HB2.out.1 3 _ rfl
                have c2_4 := HB2.out.1 4 _ rfl
                have c2_5 := HB2.out.1 5 _ rfl
                have c2_6 := HB2.out.1 6 _ rfl
                clear hk2
                go_wp2_with fail
                refine (C3.out _ HK2.out).mono ?_
                rintro e w3 ⟨rfl, hk3⟩
                have HK3 := Lib.hid (HK2.out.tr hk3)
                have HB3 := Lib.hid (HB2.out.kept hk3)
                have c3_1 := HB3.out.1 1 _ rfl
                have c3_2 := HB3.out.1 2 _ rfl
                have c3_3 := HB3.out.1 3 _ rfl
                have c3_4 := HB3.out.1 4 _ rfl
                have c3_5 := HB3.out.1 5 _ rfl
                have c3_6 := HB3.out.1 6 _ rfl
                clear hk3
                go_wp2_with fail
                refine (C4.out _).mono ?_
                rintro e w4 ⟨rfl, rfl⟩
                go_wp2_with fail
                refine (C5.out _).mono ?_
                rintro e w5 ⟨rfl, rfl⟩
                go_wp2_with fail
                refine (C6.out _).mono ?_
                rintro e w6 ⟨rfl, rfl⟩
                go_wp2_with fail
                refine (C7.out _).mono ?_
                rintro e w7 ⟨rfl, rfl⟩
                go_wp2
                go_ret
                exact ⟨by rw [HF.out]; rfl, HK3.out⟩
end Go.Proofs.YtpcgfhleloonfaaGreatDoor
namespace Go.Proofs.YtpcgfhleloonfaaGreatDoor
open Go.RowKit Jo Ac
section
variable {P : Program} {ops : Array Oper} {Q : Exit → Act → World → Prop}
def updV (vs : Nat → Value) (i : Nat) (v : Value) : Nat → Value := fun j => if j = i then v else vs j
theorem updV_same (vs : Nat → Value) (i : Nat) (v : Value) : updV vs i v i = v := if_pos rfl
theorem updV_ne {vs : Nat → Value} {i : Nat} {v : Value} {j : Nat} (h : j ≠ i) : updV vs i v j = vs j := if_neg h
theorem seen_ne {L : Nat → Bool} {i j : Nat} (h : j ≠ i) : seen L i j = L j := if_neg h
theorem seen_same (L : Nat → Bool) (i : Nat) : seen L i i = true := if_pos rfl
/-- What is known ahead of a step. -/
structure Pre (ops : Array Oper) (ds : List (Option Nat)) (base : Act) (L : Nat → Bool) (vs : Nat → Value) (a : Act) (i : Nat) (o : Oper) : Prop where
  lt : i < ds.length
  isAt : ops[i]? = some o
  fresh : L i = false
  aft : ∀ e ∈ o.after, Region.binds .any e = true → L e.on = true
  clo : ∀ (j : Nat) (o' : Oper), ops[j]? = some o' → L j = true → ∀ e ∈ o'.after, Region.binds .any e = true → L e.on = true
  kn : ∀ j k, ds[j]? = some (some k) → L j = true → a.tmps[k]? = some (vs j)
  oth : ∀ k, some k ∉ ds → a.tmps[k]? = base.tmps[k]?
theorem Pre.dep {ds : List (Option Nat)} {base : Act} {L : Nat → Bool} {vs : Nat → Value} {a : Act} {i : Nat} {o : Oper} (h : Pre ops ds base L vs a i o) (k : Nat) (hk : (o.after.toList.any fun e => Region.binds .any e && e.on == k) = true) : L k = true := by
  obtain ⟨e, h1, h2⟩ := List.any_eq_true.1 hk
  simp only [Bool.and_eq_true, beq_iff_eq] at h2
  rw [← h2.2]
  exact h.aft e (Array.mem_toList_iff.1 h1) h2.1
/-- The value of an operation that has come up, where it stands. -/
theorem Pre.val {ds : List (Option Nat)} {base : Act} {L : Nat → Bool} {vs : Nat → Value} {a : Act} {i : Nat} {o : Oper} (h : Pre ops ds base L vs a i o) (j k : Nat) (hj : ds[j]? = some (some k)) (hL : L j = true) : a.eval (.tmp k) = vs j := by
  simp [Act.eval, Array.getD_eq_getD_getElem?, h.kn j k hj hL]
theorem Pre.old {ds : List (Option Nat)} {base : Act} {L : Nat → Bool} {vs : Nat → Value} {a : Act} {i : Nat} {o : Oper} (h : Pre ops ds base L vs a i o) (k : Nat) (hk : ds.all (fun d => d != some k) = true) : a.eval (.tmp k) = base.eval (.tmp k) := by
  have := h.oth k (fun hm => by have := List.all_eq_true.1 hk _ hm; simp at this)
  simp [Act.eval, Array.getD_eq_getD_getElem?, this]
theorem wp_flow2 {id : Nat} {base : Act} {w0 : World} (hm : P.follows .mixedOrders = true) (ds : List (Option Nat)) (hds : ops.toList.map (·.dst) = ds) (hnd : (ds.filterMap _root_.id).Nodup) (hlt' : ds.all (fun d => (d.map fun k => decide (k < base.tmps.size)).getD true) = true)
    (hac' : ops.toList.zipIdx.all (fun p => p.1.after.toList.all fun e => !(Region.binds .any e) || decide (e.on < p.2)) = true) (WI : (Nat → Bool) → (Nat → Value) → World → Prop) (h0 : ∀ vs, WI (fun _ => false) vs w0.drew)
    (step : ∀ (i : Nat) (o : Oper) L vs a w, Pre ops ds base L vs a i o → WI L vs w → wpOp P ops Q i (fun a' w' => ∃ v, a' = a.put o.dst v ∧ WI (seen L i) (updV vs i v) w') a w)
    (fin : ∀ vs w L, (∀ i, i < ds.length → L i = true) → WI L vs w → Q .normal (putAll ds vs 0 base) w) : (Code.region id ops true).wp P Q base w0 := by
  have hlt : ∀ k, some k ∈ ds → k < base.tmps.size := fun k hk => by
    have := List.all_eq_true.1 hlt' _ hk
    simpa using this
  have hac : ∀ (i : Nat) (o : Oper), ops[i]? = some o → ∀ e ∈ o.after, Region.binds .any e = true → e.on < i := fun i o ho e he hb => by
    have := List.all_eq_true.1 hac' (o, i) (List.mk_mem_zipIdx_iff_getElem?.2 (by rw [Array.getElem?_toList]; exact ho))
    have := List.all_eq_true.1 this e (Array.mem_toList_iff.2 he)
    simpa [hb] using this
  have hsz : ops.size = ds.length := by rw [← hds]; simp
  have hdst : ∀ (i : Nat) (o : Oper), ops[i]? = some o → ds[i]? = some o.dst := fun i o ho => by
    rw [← hds, List.getElem?_map, Array.getElem?_toList, ho]
    rfl
  have huni : ∀ (ds : List (Option Nat)) (i j k : Nat), (ds.filterMap _root_.id).Nodup → ds[i]? = some (some k) → ds[j]? = some (some k) → i = j := by
    intro ds
    induction ds with
    | nil => intro i j k _ h; simp at h
    | cons d ds ih =>
      intro i j k hn hi hj
      have hn' : (ds.filterMap _root_.id).Nodup := by
        cases d with
        | none => simpa using hn
        | some d => simp only [List.filterMap_cons, _root_.id, List.nodup_cons] at hn; exact hn.2
      cases i with
      | zero =>
        cases j with
        | zero => rfl
        | succ j =>
          simp only [List.getElem?_cons_zero, Option.some.injEq] at hi
          subst hi
          simp only [List.filterMap_cons, _root_.id, List.nodup_cons] at hn
          exact absurd (List.mem_filterMap.2 ⟨some k, List.mem_of_getElem? hj, rfl⟩ : k ∈ List.filterMap _root_.id ds) hn.1
      | succ i =>
        cases j with
        | zero =>
          simp only [List.getElem?_cons_zero, Option.some.injEq] at hj
          subst hj
          simp only [List.filterMap_cons, _root_.id, List.nodup_cons] at hn
          exact absurd (List.mem_filterMap.2 ⟨some k, List.mem_of_getElem? hi, rfl⟩ : k ∈ List.filterMap _root_.id ds) hn.1
        | succ j => rw [ih i j k hn' hi hj]
  refine wp_region_any hm ?_
  refine wpAny_inv (fun listed a w => ∃ vs, a.defers = base.defers ∧ a.tmps.size = base.tmps.size ∧ (∀ k, some k ∉ ds → a.tmps[k]? = base.tmps[k]?) ∧ (∀ j k, ds[j]? = some (some k) → listed.getD j false = true → a.tmps[k]? = some (vs j)) ∧
    (∀ (j : Nat) (o : Oper), ops[j]? = some o → listed.getD j false = true → ∀ e ∈ o.after, Region.binds .any e = true → listed.getD e.on false = true) ∧ WI (fun i => listed.getD i false) vs w) ?_ ?_ ops.size _ _ _ (by simp) (by simp) ?_
  · intro listed a w i hls hf haft ⟨vs, i1, i2, i3, i4, i5, i6⟩
    have hil : i < ops.size := by
      apply Nat.lt_of_not_le
      intro hn
      rw [Array.getD_eq_getD_getElem?, Array.getElem?_eq_none (by omega)] at hf
      cases hf
    have hf' : listed.getD i false = false := by
      rw [Array.getD_eq_getD_getElem?] at hf ⊢
      cases hx : listed[i]? with
      | none => rfl
      | some b => rw [hx] at hf; exact hf
    obtain ⟨o, ho⟩ : ∃ o, ops[i]? = some o := ⟨_, Array.getElem?_eq_getElem hil⟩
    have haft' := haft o ho
    refine wpOp_mono (fun a' w' h' => ?_) (step i o (fun j => listed.getD j false) vs a w ⟨by omega, ho, hf', haft', i5, i4, i3⟩ i6)
    obtain ⟨v, rfl, hw⟩ := h'
    have hset := getD_set listed i (by omega)
    refine ⟨updV vs i v, by rw [put_defers, i1], by rw [put_size, i2], fun k hk => ?_, fun j k hj hL => ?_, fun j o' ho' hL e he hb => ?_, by rw [hset]; exact hw⟩
    · rw [put_ne (fun e => hk (by rw [← e]; exact List.mem_of_getElem? (hdst i o ho)))]
      exact i3 k hk
    · have hL' : seen (fun j => listed.getD j false) i j = true := by rw [← hset]; exact hL
      by_cases e : j = i
      · subst e
        have : o.dst = some k := by have := (hdst j o ho).symm.trans hj; exact Option.some.inj this
        rw [this, updV_same]
        exact put_eq (by rw [i2]; exact hlt k (List.mem_of_getElem? hj))
      · have : o.dst ≠ some k := fun e2 => by
          have h1 := hdst i o ho
          rw [e2] at h1
          exact e (huni ds j i k hnd hj h1)
        rw [put_ne this, updV_ne e]
        refine i4 j k hj ?_
        rwa [seen_ne e] at hL'
    · have hL' : seen (fun j => listed.getD j false) i j = true := by rw [← hset]; exact hL
      show (fun j => (listed.setIfInBounds i true).getD j false) e.on = true
      rw [hset]
      by_cases e1 : e.on = i
      · rw [e1, seen_same]
      · rw [seen_ne e1]
        by_cases e2 : j = i
        · subst e2
          obtain rfl := Option.some.inj (ho.symm.trans ho')
          exact haft' e he hb
        · rw [seen_ne e2] at hL'
          exact i5 j o' ho' hL' e he hb
  · intro listed a w hls hr ⟨vs, i1, i2, i3, i4, i5, i6⟩
    have hall : ∀ n i, i < n → i < ops.size → listed.getD i false = true := by
      intro n
      induction n with
      | zero => intro i h; omega
      | succ n ih =>
        intro i hin hio
        by_cases hi : i < n
        · exact ih i hi hio
        · obtain rfl : i = n := by omega
          obtain ⟨o, ho⟩ : ∃ o, ops[i]? = some o := ⟨_, Array.getElem?_eq_getElem hio⟩
          cases hL : listed.getD i true with
          | true =>
            rw [Array.getD_eq_getD_getElem?, Array.getElem?_eq_getElem (by omega)] at hL ⊢
            exact hL
          | false =>
            refine absurd (mem_ready.2 ⟨hL, o, ho, fun e he hb => ?_⟩) (hr i)
            have := hac i o ho e he hb
            exact ih e.on this (by omega)
    have ha : a = putAll ds vs 0 base := by
      refine act_ext (by rw [putAll_defers, i1]) fun k => ?_
      by_cases hk : some k ∈ ds
      · obtain ⟨j, hj⟩ := List.mem_iff_getElem?.1 hk
        have hjl := (List.getElem?_eq_some_iff.1 hj).1
        rw [putAll_at ds vs 0 base hnd (hlt k hk) hj, Nat.zero_add]
        exact i4 j k hj (hall (j + 1) j (by omega) (by omega))
      · rw [putAll_other ds vs 0 base hk]
        exact i3 k hk
    rw [ha]
    exact fin vs w _ (fun i hi => hall (i + 1) i (by omega) (by omega)) i6
  · refine ⟨fun _ => undef, rfl, rfl, fun _ _ => rfl, fun j k hj hL => ?_, fun j o ho hL => ?_, ?_⟩
    · simp [Array.getD_eq_getD_getElem?, Array.getElem?_replicate] at hL
      split at hL <;> simp at hL
    · simp [Array.getD_eq_getD_getElem?, Array.getElem?_replicate] at hL
      split at hL <;> simp at hL
    · have : (fun i => (Array.replicate ops.size false).getD i false) = fun _ => false := by
        funext i
        simp only [Array.getD_eq_getD_getElem?, Array.getElem?_replicate]
        split <;> rfl
      rw [this]
      exact h0 _
/-- A variable that the region makes (al: by which operation) or finds (adr), and writes (st) with what another one yields (src). -/
structure Tgt where
  al : Option Nat
  adr : Nat
  st : Nat
  src : Nat
  T : TypeId
  n : Nat
def Tgt.on (t : Tgt) (L : Nat → Bool) : Prop := ∀ i, t.al = some i → L i = true
/-- What holds in the region: W the world it began in, R what each operation yields. -/
def WIs (W : World) (R : Nat → (Nat → Prop) → Value → World → Prop) (tgs : List Tgt) (L : Nat → Bool) (vs : Nat → Value) (w : World) : Prop :=
  ∃ (ok : Nat → Prop) (G : Nat → Nat), Kept ok W w ∧ (∀ b, ¬ ok b → b < w.heap.size) ∧ (∀ b, b < W.heap.size → (∀ t ∈ tgs, t.al = none → b ≠ t.adr) → ok b) ∧ (∀ i, L i = true → R i ok (vs i) w) ∧
    (∀ (k : Nat) t, tgs[k]? = some t → t.on L → ¬ ok (G k) ∧ (∀ i, t.al = some i → vs i = .pointer (some ⟨G k, 0, none⟩) ∧ W.heap.size ≤ G k) ∧ (t.al = none → G k = t.adr) ∧ ∃ cs : Array Value, w.heap[G k]? = some (.cells cs t.T (0, 0)) ∧ cs.size = t.n ∧ (L t.st = true → cs = (vs t.src).cells)) ∧
    (∀ (k l : Nat) t u, tgs[k]? = some t → tgs[l]? = some u → k ≠ l → t.on L → u.on L → G k ≠ G l)
/-- R lasts. -/
structure Lasts (R : Nat → (Nat → Prop) → Value → World → Prop) : Prop where
  kept : ∀ i ok v w w', R i ok v w → Kept ok w w' → R i ok v w'
  mono : ∀ i ok ok2 v w, R i ok v w → (∀ b, b < w.heap.size → ok b → ok2 b) → R i ok2 v w
variable {W : World} {R : Nat → (Nat → Prop) → Value → World → Prop} {tgs : List Tgt} {L : Nat → Bool} {vs : Nat → Value} {w w' : World} {i : Nat} {v : Value}
theorem WIs.value (h : WIs W R tgs L vs w) (hR : Lasts R) (hi : L i = false) (hT : ∀ t ∈ tgs, t.al ≠ some i ∧ t.st ≠ i ∧ (L t.st = true → t.src ≠ i)) (hk : Kept (fun _ => True) w w') (hv : ∀ ok : Nat → Prop, (∀ b, w.heap.size ≤ b → ok b) → R i ok v w') : WIs W R tgs (seen L i) (updV vs i v) w' := by
  obtain ⟨ok, G, h1, h2, h2', h3, h4, h5⟩ := h
  have hon : ∀ t ∈ tgs, t.on (seen L i) → t.on L := fun t ht ho j hj => by
    have := ho j hj
    rwa [seen_ne (fun e => (hT t ht).1 (by rw [hj, e]))] at this
  refine ⟨ok, G, h1.trans hk fun _ _ _ => trivial, fun b hb => Nat.lt_of_lt_of_le (h2 b hb) hk.size, h2', fun j hj => ?_, fun k t ht ho => ?_, fun k l t u ht hu hkl ho hp => h5 k l t u ht hu hkl (hon t (List.mem_of_getElem? ht) ho) (hon u (List.mem_of_getElem? hu) hp)⟩
  · by_cases e : j = i
    · subst e
      rw [updV_same]
      exact hv ok fun b hb => Classical.byContradiction fun hn => by have := h2 b hn; omega
    · rw [seen_ne e] at hj
      rw [updV_ne e]
      exact hR.kept _ _ _ _ _ (h3 j hj) ⟨hk.os, hk.tape, hk.output, hk.size, fun b hb _ => hk.block b hb trivial⟩
  · have hm := List.mem_of_getElem? ht
    obtain ⟨k1, k2, k3, cs, k4, k5, k6⟩ := h4 k t ht (hon t hm ho)
    refine ⟨k1, fun j hj => ?_, k3, cs, (hk.block _ (Array.getElem?_eq_some_iff.1 k4).1 trivial).trans k4, k5, fun hL => ?_⟩
    · rw [updV_ne fun e => (hT t hm).1 (by rw [hj, e])]
      exact k2 j hj
    · rw [seen_ne (hT t hm).2.1] at hL
      rw [updV_ne ((hT t hm).2.2 hL)]
      exact k6 hL
theorem WIs.start (hb : ∀ (k : Nat) t, tgs[k]? = some t → t.al = none → ∃ cs : Array Value, W.heap[t.adr]? = some (.cells cs t.T (0, 0)) ∧ cs.size = t.n) (hd : ∀ (k l : Nat) t u, tgs[k]? = some t → tgs[l]? = some u → k ≠ l → t.al = none → u.al = none → t.adr ≠ u.adr) : WIs W R tgs (fun _ => false) vs W.drew := by
  refine ⟨fun b => ∀ t ∈ tgs, t.al = none → b ≠ t.adr, fun k => (tgs[k]?.map (·.adr)).getD 0, (Kept.refl _ _).drew, fun b hb' => ?_, fun b _ h => h, fun i hi => (by cases hi), fun k t ht ho => ?_, fun k l t u ht hu hkl ho hp => ?_⟩
  · refine Classical.byContradiction fun hn => hb' fun t ht hal e => ?_
    obtain ⟨k, hk⟩ := List.mem_iff_getElem?.1 ht
    obtain ⟨cs, h1, _⟩ := hb k t hk hal
    have := (Array.getElem?_eq_some_iff.1 h1).1
    subst e
    exact hn this
  · have hal : t.al = none := by
      cases e : t.al with
      | none => rfl
      | some j => have := ho j e; cases this
    obtain ⟨cs, h1, h2⟩ := hb k t ht hal
    simp only [ht, Option.map_some, Option.getD_some]
    exact ⟨fun h => h t (List.mem_of_getElem? ht) hal rfl, fun i hi => (by rw [hal] at hi; cases hi), fun _ => trivial, cs, h1, h2, fun h => (by cases h)⟩
  · have h1 : t.al = none := by
      cases e : t.al with
      | none => rfl
      | some j => have := ho j e; cases this
    have h2 : u.al = none := by
      cases e : u.al with
      | none => rfl
      | some j => have := hp j e; cases this
    simp only [ht, hu, Option.map_some, Option.getD_some]
    exact hd k l t u ht hu hkl h1 h2
theorem WIs.alloc (h : WIs W R tgs L vs w) (hR : Lasts R) (hi : L i = false) {q : Nat} {t : Tgt} (ht : tgs[q]? = some t) (hal : t.al = some i) (hT : ∀ (k : Nat) u, tgs[k]? = some u → (k ≠ q → u.al ≠ some i) ∧ u.st ≠ i ∧ u.src ≠ i) (hst : L t.st = false) {cs : Array Value} (hcs : cs.size = t.n) (hv : ∀ ok : Nat → Prop, R i ok (.pointer (some ⟨w.heap.size, 0, none⟩)) (w.alloc (.cells cs t.T))) :
    WIs W R tgs (seen L i) (updV vs i (.pointer (some ⟨w.heap.size, 0, none⟩))) (w.alloc (.cells cs t.T)) := by
  obtain ⟨ok, G, h1, h2, h2', h3, h4, h5⟩ := h
  have hk : Kept (fun _ => True) w (w.alloc (.cells cs t.T)) := (Kept.refl _ _).alloc _
  have hz : (w.alloc (.cells cs t.T)).heap.size = w.heap.size + 1 := by simp
  have hon : ∀ (k : Nat) u, tgs[k]? = some u → k ≠ q → u.on (seen L i) → u.on L := fun k u hu hkq ho j hj => by
    have := ho j hj
    rwa [seen_ne (fun e => (hT k u hu).1 hkq (by rw [hj, e]))] at this
  have hG : ∀ (k : Nat) u, tgs[k]? = some u → k ≠ q → u.on (seen L i) → G k < w.heap.size := fun k u hu hkq ho => h2 _ (h4 k u hu (hon k u hu hkq ho)).1
  have hW : W.heap.size ≤ w.heap.size := h1.size
  obtain ⟨G', hG1, hG2⟩ : ∃ G' : Nat → Nat, G' q = w.heap.size ∧ ∀ k, k ≠ q → G' k = G k := ⟨fun k => if k = q then w.heap.size else G k, if_pos rfl, fun k hk => if_neg hk⟩
  refine ⟨fun b => ok b ∧ b ≠ w.heap.size, G', (h1.trans hk fun _ _ _ => trivial).mono fun b hb hb2 => hb2.1, fun b hb => ?_, fun b hb hb2 => ⟨h2' b hb hb2, by omega⟩, fun j hj => ?_, fun k u hu ho => ?_, fun k l u u2 hu hu2 hkl ho hp => ?_⟩
  · rw [hz]
    by_cases e : b = w.heap.size
    · omega
    · have := h2 b fun h => hb ⟨h, e⟩
      omega
  · by_cases e : j = i
    · subst e
      rw [updV_same]
      exact hv _
    · rw [seen_ne e] at hj
      rw [updV_ne e]
      exact hR.kept _ _ _ _ _ (hR.mono _ _ _ _ _ (h3 j hj) fun b hb hb2 => ⟨hb2, by omega⟩) ⟨hk.os, hk.tape, hk.output, hk.size, fun b hb _ => hk.block b hb trivial⟩
  · by_cases e : k = q
    · subst e
      obtain rfl := Option.some.inj (ht.symm.trans hu)
      rw [hG1]
      refine ⟨fun h => h.2 rfl, fun j hj => ?_, fun hn => (by rw [hal] at hn; cases hn), cs, heap_alloc_new w _, hcs, fun hL => ?_⟩
      · rw [hal] at hj
        cases hj
        exact ⟨updV_same _ _ _, hW⟩
      · rw [seen_ne (hT k t hu).2.1, hst] at hL
        cases hL
    · rw [hG2 k e]
      obtain ⟨k1, k2, k3, cs2, k4, k5, k6⟩ := h4 k u hu (hon k u hu e ho)
      refine ⟨fun h => k1 h.1, fun j hj => ?_, k3, cs2, (hk.block _ (Array.getElem?_eq_some_iff.1 k4).1 trivial).trans k4, k5, fun hL => ?_⟩
      · rw [updV_ne fun e2 => (hT k u hu).1 e (by rw [hj, e2])]
        exact k2 j hj
      · rw [seen_ne (hT k u hu).2.1] at hL
        rw [updV_ne (hT k u hu).2.2]
        exact k6 hL
  · by_cases e : k = q
    · subst e
      have := hG l u2 hu2 (Ne.symm hkl) hp
      rw [hG1, hG2 l (Ne.symm hkl)]
      omega
    · by_cases e2 : l = q
      · subst e2
        have := hG k u hu e ho
        rw [hG2 k e, hG1]
        omega
      · rw [hG2 k e, hG2 l e2]
        exact h5 k l u u2 hu hu2 hkl (hon k u hu e ho) (hon l u2 hu2 e2 hp)
/-- The block that is to be written: what the operation needs ahead, and what holds behind it. -/
theorem WIs.store (h : WIs W R tgs L vs w) (hR : Lasts R) (hi : L i = false) {q : Nat} {t : Tgt} (ht : tgs[q]? = some t) (hst : t.st = i) (hon : t.on L) (hT : ∀ (k : Nat) u, tgs[k]? = some u → u.al ≠ some i ∧ u.src ≠ i ∧ (k ≠ q → u.st ≠ i)) (hv : ∀ ok w', R i ok undef w') (hn : (vs t.src).cells.size = t.n) :
    ∃ g, (∀ j, t.al = some j → vs j = .pointer (some ⟨g, 0, none⟩)) ∧ (t.al = none → g = t.adr) ∧ w.there g 0 t.n ∧ WIs W R tgs (seen L i) (updV vs i undef) (w.setCells g 0 (vs t.src).cells.toList) := by
  obtain ⟨ok, G, h1, h2, h2', h3, h4, h5⟩ := h
  obtain ⟨k1, k2, k3, cs, k4, k5, k6⟩ := h4 q t ht hon
  have hu : ∀ (k : Nat) u, tgs[k]? = some u → u.on (seen L i) → u.on L := fun k u hu ho j hj => by
    have := ho j hj
    rwa [seen_ne (fun e => (hT k u hu).1 (by rw [hj, e]))] at this
  have hKG : Kept (fun b => b ≠ G q) w (w.setCells (G q) 0 (vs t.src).cells.toList) := Kept.setCells (.inr fun h => h rfl) _ _ (Kept.refl _ _)
  have hrow : (w.setCells (G q) 0 (vs t.src).cells.toList).heap[G q]? = some (.cells (vs t.src).cells t.T (0, 0)) := by
    have := setCells_row k4 (vs := (vs t.src).cells.toList) (by rw [k5, ← hn]; exact (Array.length_toList).symm)
    simpa using this
  refine ⟨G q, fun j hj => (k2 j hj).1, k3, fun j hj => ?_, ok, G, h1.trans hKG fun b _ hb => fun e => k1 (by rw [← e]; exact hb), fun b hb => Nat.lt_of_lt_of_le (h2 b hb) hKG.size, h2', fun j hj => ?_, fun k u hu2 ho => ?_, fun k l u u2 hk hl hkl ho hp => h5 k l u u2 hk hl hkl (hu k u hk ho) (hu l u2 hl hp)⟩
  · rw [Nat.zero_add, cell_of_row _ _ _ _ _ _ k4, frozen_row k4]
    simp [k5, hj]
  · by_cases e : j = i
    · subst e
      rw [updV_same]
      exact hv _ _
    · rw [seen_ne e] at hj
      rw [updV_ne e]
      exact hR.kept _ _ _ _ _ (h3 j hj) (hKG.mono fun b _ hb e => k1 (by rw [← e]; exact hb))
  · obtain ⟨l1, l2, l3, cs2, l4, l5, l6⟩ := h4 k u hu2 (hu k u hu2 ho)
    by_cases e : k = q
    · subst e
      obtain rfl := Option.some.inj (ht.symm.trans hu2)
      exact ⟨l1, fun j hj => by rw [updV_ne fun e2 => (hT k t hu2).1 (by rw [hj, e2])]; exact l2 j hj, l3, _, hrow, hn, fun _ => by rw [updV_ne (hT k t hu2).2.1]⟩
    · have hne : G k ≠ G q := h5 k q u t hu2 ht e (hu k u hu2 ho) hon
      refine ⟨l1, fun j hj => by rw [updV_ne fun e2 => (hT k u hu2).1 (by rw [hj, e2])]; exact l2 j hj, l3, cs2, (hKG.block _ (Array.getElem?_eq_some_iff.1 l4).1 hne).trans l4, l5, fun hL => ?_⟩
      rw [seen_ne ((hT k u hu2).2.2 e)] at hL
      rw [updV_ne (hT k u hu2).2.1]
      exact l6 hL
end
end Go.Proofs.YtpcgfhleloonfaaGreatDoor
namespace Go.Proofs.YtpcgfhleloonfaaGreatDoor
open Go.RowKit Jo
set_option maxHeartbeats 400000 in
theorem fail_any (g : Nat) (s : List UInt8) (i d : Nat) (e : Int) (w : World) (hp : PA g s i d w) :
    Calls Tryz.prog 128 #[.pointer (some ⟨g, 0, none⟩), .int .i64 e] w fun x w' => x = gaveUp e i ∧ w' = w := by
  obtain ⟨h0, h1, h2, h3, h4⟩ := hp.facts
  go_enter Tryz.func128, Tryz.ntmps128
  go_wp2
  exact ⟨rfl, rfl, rfl⟩
set_option maxHeartbeats 400000 in
theorem here_ok (g : Nat) (s : List UInt8) (i d : Nat) (w : World) (c : UInt8) (hc : s[i]? = some c) (hp : PA g s i d w) (_hl : s.length ≤ 4000) :
    Calls Tryz.prog 150 #[.pointer (some ⟨g, 0, none⟩)] w fun x w' => x = .returned (.int .u8 c.toNat) ∧ ∃ n, w' = w.drewN n := by
  obtain ⟨h0, h1, h2, h3, h4⟩ := hp.facts
  obtain ⟨hi, hci⟩ := List.getElem?_eq_some_iff.1 hc
  have hsz := size_mk s
  have hix := run_index_str (P := Tryz.prog) Tryz.underlying9 ⟨s.toArray⟩ i i rfl (by rw [hsz]; exact hi) c hci
  have q : ((i : Int) == (s.length : Int)) = false := by simp; omega
  clear hc hci hsz
  go_enter Tryz.func150, Tryz.ntmps150
  go_wp2
  go_quiet (fail)
  go_wp2
  go_quiet (fail)
  go_wp2
  go_ret
  exact ⟨rfl, _, World.drewN_drewN _ _ _⟩
set_option maxHeartbeats 400000 in
theorem here_bad (g : Nat) (s : List UInt8) (i d : Nat) (w : World) (hc : s[i]? = none) (hp : PA g s i d w) (_hl : s.length ≤ 4000) (hi : i ≤ s.length) :
    Calls Tryz.prog 150 #[.pointer (some ⟨g, 0, none⟩)] w fun x w' => x = gaveUp 40 i ∧ ∃ n, w' = w.drewN n := by
  obtain ⟨h0, h1, h2, h3, h4⟩ := hp.facts
  obtain rfl : i = s.length := by rw [List.getElem?_eq_none_iff] at hc; omega
  have q : ((s.length : Int) == (s.length : Int)) = true := by simp
  have HP := Lib.hid hp
  clear hc hp
  go_enter Tryz.func150, Tryz.ntmps150
  go_wp2
  go_quiet (fail)
  go_wp2_with fail
  refine (fail_any _ _ _ _ _ _ (HP.out.drewN _)).mono ?_
  rintro x w' ⟨rfl, rfl⟩
  go_wp2
  exact ⟨rfl, rfl, _, rfl⟩
/-- want, where the byte stands there. -/
theorem want_ok (g : Nat) (s : List UInt8) (i d : Nat) (c : UInt8) (w : World) (hc : s[i]? = some c) (hp : PA g s i d w) (hl : s.length ≤ 4000) :
    Calls Tryz.prog 175 #[.pointer (some ⟨g, 0, none⟩), .int .u8 c.toNat] w fun x w' => x = .returned (.tuple #[]) ∧ PA g s (i + 1) d w' ∧ i + 1 ≤ s.length ∧ Kept (· ≠ g) w w' := by
  obtain ⟨h0, h1, h2, h3, h4⟩ := hp.facts
  obtain ⟨hi, -⟩ := List.getElem?_eq_some_iff.1 hc
  have C := Lib.hid (here_ok g s i d w c hc hp hl)
  have q : ((c.toNat : Int) != (c.toNat : Int)) = false := by simp
  have HP := Lib.hid hp
  clear hc hp
  go_enter Tryz.func175, Tryz.ntmps175
  go_wp2_with fail
  refine C.out.mono ?_
  rintro x w' ⟨rfl, n, rfl⟩
  go_wp2
  go_end0
  exact ⟨rfl, (HP.out.drewN n).setAt _ _ rfl, hi, ((Kept.refl _ w).drewN n).setCell (.inr (by simp)) _⟩
theorem want_bad (g : Nat) (s : List UInt8) (i d : Nat) (c : UInt8) (w : World) (hc : s[i]? ≠ some c) (hp : PA g s i d w) (hl : s.length ≤ 4000) (hi : i ≤ s.length) :
    Calls Tryz.prog 175 #[.pointer (some ⟨g, 0, none⟩), .int .u8 c.toNat] w fun x w' => x = gaveUp 40 i ∧ Kept (· ≠ g) w w' := by
  cases hs : s[i]? with
  | none =>
    have C := Lib.hid (here_bad g s i d w hs hp hl hi)
    clear hc hp hs
    go_enter Tryz.func175, Tryz.ntmps175
    go_wp2_with fail
    refine C.out.mono ?_
    rintro x w' ⟨rfl, n, rfl⟩
    go_wp2
    exact ⟨rfl, rfl, (Kept.refl _ w).drewN n⟩
  | some b =>
    have C := Lib.hid (here_ok g s i d w b hs hp hl)
    have q : ((b.toNat : Int) != (c.toNat : Int)) = true := by
      simp only [bne_iff_ne, ne_eq]
      intro e
      apply hc
      rw [hs, show b = c from UInt8.toNat_inj.1 (by omega)]
    have HP := Lib.hid hp
    clear hc hp hs
    go_enter Tryz.func175, Tryz.ntmps175
    go_wp2_with fail
    refine C.out.mono ?_
    rintro x w' ⟨rfl, n, rfl⟩
    go_wp2_with fail
    refine (fail_any _ _ _ _ _ _ (HP.out.drewN _)).mono ?_
    rintro x w' ⟨rfl, rfl⟩
    go_wp2
    exact ⟨rfl, rfl, (Kept.refl _ w).drewN n⟩
/-- want computes wantP. -/
theorem want_any (g : Nat) (s : List UInt8) (i d : Nat) (c : UInt8) (w : World) (hp : PA g s i d w) (hl : s.length ≤ 4000) (hi : i ≤ s.length) :
    Calls Tryz.prog 175 #[.pointer (some ⟨g, 0, none⟩), .int .u8 c.toNat] w (Reads g s d w (wantP s c i) fun _ e _ => e = .returned (.tuple #[])) := by
  unfold wantP
  by_cases h : s[i]? = some c
  · rw [if_pos h]
    exact (want_ok g s i d c w h hp hl).mono fun e w' ⟨h1, h2, h3, h4⟩ => ⟨h1, h2, h3, h4⟩
  · rw [if_neg h]
    exact (want_bad g s i d c w h hp hl hi).mono fun e w' ⟨h1, h2⟩ => ⟨h1, hi, h2⟩
end Go.Proofs.YtpcgfhleloonfaaGreatDoor
namespace Go.Proofs.YtpcgfhleloonfaaGreatDoor
open Go.RowKit Jo
theorem drop_cons {α : Type} {l : List α} {j : Nat} {c : α} (h : l[j]? = some c) : l.drop j = c :: l.drop (j + 1) := by
  obtain ⟨hj, rfl⟩ := List.getElem?_eq_some_iff.1 h
  exact List.drop_eq_getElem_cons hj
set_option maxHeartbeats 1000000 in
theorem word_any (g : Nat) (s t : List UInt8) (i d : Nat) (w : World) (hp : PA g s i d w) (hl : s.length ≤ 4000) (ht : t.length ≤ 4000) (hi : i ≤ s.length) :
    Calls Tryz.prog 151 #[.pointer (some ⟨g, 0, none⟩), S t] w (Reads g s d w (wordP s t i) fun _ e _ => e = .returned (.tuple #[])) := by
  have hsz : (⟨t.toArray⟩ : ByteArray).size = t.length := size_mk t
  obtain ⟨R, hR⟩ : ∃ R, wordP s t i = R := ⟨_, rfl⟩
  have HR := Lib.hid hR
  rw [hR]
  clear hR
  go_enter Tryz.func151, Tryz.ntmps151
  go_wp2
  go_loopw [7] (fun k wr => ∃ j : Nat, k = .int .i64 j ∧ j ≤ t.length ∧ PA g s (i + j) d wr ∧ i + j ≤ s.length ∧ Kept (· ≠ g) w wr ∧ Hid (wordP s (t.drop j) (i + j) = R)) (fun k _ => t.length - (intOf k).toNat)
  case atStart => exact ⟨0, rfl, Nat.zero_le _, hp, hi, Kept.refl _ _, HR⟩
  case round =>
    obtain ⟨j, rfl, hj, hpj, hij, hkj, hRj⟩ := hrel
    have HP := Lib.hid hpj
    clear hpj
    by_cases hlt : j < t.length
    · obtain ⟨c, hc⟩ : ∃ c, t[j]? = some c := ⟨t[j]'hlt, List.getElem?_eq_getElem hlt⟩
      have hd := drop_cons hc
      have hix := run_index_str (P := Tryz.prog) Tryz.underlying9 ⟨t.toArray⟩ j j rfl (by rw [hsz]; exact hlt) c (List.getElem?_eq_some_iff.1 hc).2
      rw [hd] at hRj
      have C1 := Lib.hid (fun h => want_ok g s (i + j) d c wr h HP.out hl)
      have C2 := Lib.hid (fun h => want_bad g s (i + j) d c wr h HP.out hl hij)
      clear hc hd
      by_cases h : s[i + j]? = some c
      · have HN : Hid (wordP s (t.drop (j + 1)) (i + j + 1) = R) := Lib.hid (by rw [← hRj.out, wordP, if_pos h])
        have C := Lib.hid (C1.out h)
        clear C1 C2 h hRj
        go_wp2_with fail
        refine C.out.mono ?_
        rintro x w' ⟨rfl, hp', hi', hk'⟩
        have HP' := Lib.hid hp'
        clear hp'
        go_wp2
        go_roundw
        case rel => exact ⟨j + 1, by go_num, by omega, HP'.out, hi', hkj.tr hk', HN⟩
        case measure => simp [intOf]; omega
      · have HN : Hid (R = .bad 40 (i + j)) := Lib.hid (by rw [← hRj.out, wordP, if_neg h])
        have C := Lib.hid (C2.out h)
        clear C1 C2 h hRj
        go_wp2_with fail
        refine C.out.mono ?_
        rintro x w' ⟨rfl, hk'⟩
        go_wp2
        rw [HN.out]
        exact ⟨rfl, ⟨rfl, hij, hkj.tr hk'⟩⟩
    · have HN : Hid (R = .ok () (i + j)) := Lib.hid (by rw [← hRj.out, List.drop_of_length_le (by omega)]; rfl)
      go_wp2
      go_end0
      rw [HN.out]
      exact ⟨rfl, HP.out, hij, hkj⟩
theorem blank_find : ∀ x : Fin 256, decide (0 ≤ Lib.indexByte [32, 9, 10, 13] (x.val.toUInt8)) = isBl (x.val.toUInt8) := by decide +kernel
theorem blank_at (c : UInt8) : (decide (Lib.indexByte [32, 9, 10, 13] c ≥ 0)) = isBl c := by
  have h := blank_find ⟨c.toNat, c.toNat_lt⟩
  simpa using h
set_option maxHeartbeats 1000000 in
/-- blanks takes those that there are. -/
theorem blanks_any (g : Nat) (s : List UInt8) (i d : Nat) (w : World) (hp : PA g s i d w) (hl : s.length ≤ 4000) (hi : i ≤ s.length) :
    Calls Tryz.prog 127 #[.pointer (some ⟨g, 0, none⟩)] w fun e w' => e = .returned (.tuple #[]) ∧ PA g s (bl s i) d w' ∧ bl s i ≤ s.length ∧ Kept (· ≠ g) w w' := by
  have hsz : (⟨s.toArray⟩ : ByteArray).size = s.length := size_mk s
  obtain ⟨R, hR⟩ : ∃ R, bl s i = R := ⟨_, rfl⟩
  have HR := Lib.hid hR
  have HM : Hid (R ≤ s.length) := Lib.hid (by rw [← hR]; exact bl_max s i hi)
  rw [hR]
  clear hR
  go_enter Tryz.func127, Tryz.ntmps127
  go_wp2
  go_loopg [24] (s.length - i) (fun m _ wr => ∃ j : Nat, m = s.length - j ∧ j ≤ s.length ∧ PA g s j d wr ∧ Kept (· ≠ g) w wr ∧ Hid (bl s j = R))
  case atStart => exact ⟨i, rfl, hi, hp, Kept.refl _ _, HR⟩
  case round =>
    obtain ⟨j, rfl, hj, hpj, hkj, hRj⟩ := hrel
    obtain ⟨h0, h1, h2, h3, h4⟩ := hpj.facts
    have HP := Lib.hid hpj
    clear hpj
    by_cases hlt : j < s.length
    · obtain ⟨c, hc⟩ : ∃ c, s[j]? = some c := ⟨s[j]'hlt, List.getElem?_eq_getElem hlt⟩
      have hix := run_index_str (P := Tryz.prog) Tryz.underlying9 ⟨s.toArray⟩ j j rfl (by rw [hsz]; exact hlt) c (List.getElem?_eq_some_iff.1 hc).2
      have HC : Hid (s[j]? = some c) := Lib.hid hc
      have hb := blank_at c
      have CI := fun w => Tryz.strings_IndexByte ⟨#[32, 9, 10, 13]⟩ (c.toNat : Int) w
      clear hc
      cases hbl : isBl c with
      | true =>
        have HN : Hid (bl s (j + 1) = R) := Lib.hid ((bl_yes s j c HC.out hbl).symm.trans hRj.out)
        rw [hbl] at hb
        go_wp2
        go_quiet ((go_at_call 156; exact Calls.quiet_of_same (CI _)))
        go_wp2
        go_roundg (s.length - (j + 1))
        case rel => exact ⟨j + 1, rfl, by omega, (HP.out.drewN _).setAt _ _ rfl, (hkj.drewN _).setCell (.inr (by simp)) _, HN⟩
        case measure => omega
      | false =>
        have HN : Hid (R = j) := Lib.hid (hRj.out.symm.trans (bl_no s j c HC.out hbl))
        rw [hbl] at hb
        go_wp2
        go_quiet ((go_at_call 156; exact Calls.quiet_of_same (CI _)))
        go_wp2
        go_end0
        rw [HN.out]
        exact ⟨rfl, HP.out.drewN _, hj, hkj.drewN _⟩
    · have HN : Hid (R = j) := Lib.hid (hRj.out.symm.trans (bl_end s j (by omega)))
      have hd : decide (j < s.length) = false := by simpa using hlt
      go_wp2
      go_quiet (fail)
      go_wp2
      go_end0
      rw [HN.out]
      exact ⟨rfl, HP.out.drewN _, hj, hkj.drewN _⟩
set_option maxHeartbeats 1000000 in
/-- digit tells whether a digit stands here. -/
theorem digit_some (g : Nat) (s : List UInt8) (i d : Nat) (c : UInt8) (hc : s[i]? = some c) (w : World) (hp : PA g s i d w) (_hl : s.length ≤ 4000) :
    Calls Tryz.prog 184 #[.pointer (some ⟨g, 0, none⟩)] w fun e w' => e = .returned (.bool (isDig c)) ∧ ∃ n, w' = w.drewN n := by
  have hsz : (⟨s.toArray⟩ : ByteArray).size = s.length := size_mk s
  obtain ⟨h0, h1, h2, h3, h4⟩ := hp.facts
  obtain ⟨hi, hci⟩ := List.getElem?_eq_some_iff.1 hc
  have hix := run_index_str (P := Tryz.prog) Tryz.underlying9 ⟨s.toArray⟩ i i rfl (by rw [hsz]; exact hi) c hci
  have e : isDig c = (decide (c.toNat ≥ 48) && decide (c.toNat ≤ 57)) := by simp [isDig, UInt8.le_iff_toNat_le]
  clear hp hc hci
  by_cases hge : 48 ≤ c.toNat
  · have q1 : decide (48 ≤ (c.toNat : Int)) = true := by simp; omega
    have HE : Hid (isDig c = decide ((c.toNat : Int) ≤ 57)) := Lib.hid (by rw [e, decide_eq_true hge, Bool.true_and]; congr 1; simp; omega)
    clear e
    go_enter Tryz.func184, Tryz.ntmps184
    go_wp2
    go_quiet (fail)
    go_wp2
    go_ret
    rw [HE.out]
    exact ⟨rfl, _, rfl⟩
  · have q1 : decide (48 ≤ (c.toNat : Int)) = false := by simp; omega
    have HE : Hid (isDig c = false) := Lib.hid (by rw [e, decide_eq_false hge, Bool.false_and])
    clear e
    go_enter Tryz.func184, Tryz.ntmps184
    go_wp2
    go_quiet (fail)
    go_wp2
    go_ret
    rw [HE.out]
    exact ⟨rfl, _, rfl⟩
set_option maxHeartbeats 1000000 in
theorem digit_none (g : Nat) (s : List UInt8) (i d : Nat) (hc : s[i]? = none) (w : World) (hp : PA g s i d w) (_hl : s.length ≤ 4000) (hi : i ≤ s.length) :
    Calls Tryz.prog 184 #[.pointer (some ⟨g, 0, none⟩)] w fun e w' => e = .returned (.bool false) ∧ ∃ n, w' = w.drewN n := by
  obtain ⟨h0, h1, h2, h3, h4⟩ := hp.facts
  obtain rfl : i = s.length := by rw [List.getElem?_eq_none_iff] at hc; omega
  have hd : decide (s.length < s.length) = false := by simp
  clear hp hc
  go_enter Tryz.func184, Tryz.ntmps184
  go_wp2
  go_quiet (fail)
  go_wp2
  go_ret
  exact ⟨rfl, _, rfl⟩
end Go.Proofs.YtpcgfhleloonfaaGreatDoor
namespace Go.Proofs.YtpcgfhleloonfaaGreatDoor
open Go.RowKit Jo
set_option maxHeartbeats 4000000 in
theorem number_any (g : Nat) (s : List UInt8) (i d : Nat) (w : World) (hp : PA g s i d w) (hl : s.length ≤ 4000) (hi : i ≤ s.length) :
    Calls Tryz.prog 155 #[.pointer (some ⟨g, 0, none⟩)] w (Reads g s d w (numP s i) fun n e _ => e = .returned (.iface 218 (.int .i64 n))) := by
  obtain ⟨R, hR⟩ : ∃ R, numP s i = R := ⟨_, rfl⟩
  have HR := Lib.hid hR
  rw [hR]
  clear hR
  have hsz : (⟨s.toArray⟩ : ByteArray).size = s.length := size_mk s
  cases hc : s[i]? with
  | none =>
    have HN : Hid (R = .bad 40 i) := Lib.hid (by rw [← HR.out, numP, hc, if_neg (by simp), numQ, hc])
    have C := Lib.hid (here_bad g s i d w hc hp hl hi)
    clear hc
    go_enter Tryz.func155, Tryz.ntmps155
    go_wp2_with fail
    refine C.out.mono ?_
    rintro x w' ⟨rfl, n, rfl⟩
    go_wp2
    rw [HN.out]
    exact ⟨rfl, rfl, hi, (Kept.refl _ w).drewN n⟩
  | some c =>
    have C := Lib.hid (here_ok g s i d w c hc hp hl)
    have hi1 : i + 1 ≤ s.length := (List.getElem?_eq_some_iff.1 hc).1
    have HC : Hid (s[i]? = some c) := Lib.hid hc
    have HP := Lib.hid hp
    clear hc hp
    go_enter Tryz.func155, Tryz.ntmps155
    go_wp2_with fail
    refine C.out.mono ?_
    rintro x w' ⟨rfl, n, rfl⟩
    go_upto_if 7 with fail
    go_cut [3] (fun sg wx => ∃ (z : Int) (j : Nat), sg = .int .i64 z ∧ PA g s j d wx ∧ j ≤ s.length ∧ Kept (· ≠ g) w wx ∧ Hid (numQ s z j = R) ∧ -1 ≤ z ∧ z ≤ 1)
    case first =>
      obtain ⟨h0, h1, h2, h3, h4⟩ := HP.out.facts
      by_cases hm : c = 45
      · have q : ((c.toNat : Int) == 45) = true := by rw [hm]; rfl
        have HN : Hid (numQ s (-1) (i + 1) = R) := Lib.hid (by rw [← HR.out, numP, HC.out, if_pos (by rw [hm])])
        clear hm
        go_wp2
        go_meet
        exact ⟨-1, i + 1, rfl, (HP.out.drewN n).setAt _ _ rfl, hi1, ((Kept.refl _ w).drewN n).setCell (.inr (by simp)) _, HN, by omega, by omega⟩
      · have q : ((c.toNat : Int) == 45) = false := by
          simp only [beq_eq_false_iff_ne, ne_eq]
          intro e
          exact hm (UInt8.toNat_inj.1 (by simpa using (by omega : c.toNat = 45)))
        have HN : Hid (numQ s 1 i = R) := Lib.hid (by rw [← HR.out, numP, HC.out, if_neg (by simpa using hm)])
        clear hm
        go_wp2
        go_meet
        exact ⟨1, i, rfl, HP.out.drewN n, hi, (Kept.refl _ w).drewN n, HN, by omega, by omega⟩
    case rest =>
      obtain ⟨z, j, rfl, hp, hj, hk, HQ, hz0, hz1⟩ := hcut
      clear HR HP C hi1 HC
      cases hc : s[j]? with
      | none =>
        have HN : Hid (R = .bad 40 j) := Lib.hid (by rw [← HQ.out, numQ, hc])
        have C := Lib.hid (here_bad g s j d wc hc hp hl hj)
        clear hc HQ
        go_wp2_with fail
        refine C.out.mono ?_
        rintro x w' ⟨rfl, n, rfl⟩
        go_wp2
        rw [HN.out]
        exact ⟨rfl, rfl, hj, hk.drewN n⟩
      | some b =>
        have C := Lib.hid (here_ok g s j d wc b hc hp hl)
        have D := Lib.hid (fun w hp => digit_some g s j d b hc w hp hl)
        have HP := Lib.hid hp
        have hj1 : j + 1 ≤ s.length := (List.getElem?_eq_some_iff.1 hc).1
        have HQ2 : Hid (R = if isDig b = false then .bad 40 j else if b = 48 then .ok 0 (j + 1) else (digP 0 (s.drop j) j).bind fun n j => .ok (z * n) j) := Lib.hid (by rw [← HQ.out, numQ, hc])
        have HC : Hid (s[j]? = some b) := Lib.hid hc
        clear hc hp HQ
        go_wp2_with fail
        refine C.out.mono ?_
        rintro x w' ⟨rfl, n, rfl⟩
        go_wp2_with fail
        refine (D.out _ (HP.out.drewN n)).mono ?_
        rintro x w' ⟨rfl, n2, rfl⟩
        cases hdig : isDig b with
        | false =>
          have HN : Hid (R = .bad 40 j) := Lib.hid (by rw [HQ2.out, if_pos hdig])
          clear HQ2
          go_wp2_with fail
          refine (fail_any _ _ _ _ _ _ (HP.out.drewN _)).mono ?_
          rintro x w' ⟨rfl, rfl⟩
          go_wp2
          rw [HN.out]
          exact ⟨rfl, rfl, hj, hk.drewN _⟩
        | true =>
          obtain ⟨h0, h1, h2, h3, h4⟩ := HP.out.facts
          have hix := run_index_str (P := Tryz.prog) Tryz.underlying9 ⟨s.toArray⟩ j j rfl (by rw [hsz]; exact hj1) b (List.getElem?_eq_some_iff.1 HC.out).2
          by_cases hb : b = 48
          · have q : ((b.toNat : Int) == 48) = true := by rw [hb]; rfl
            have HN : Hid (R = .ok 0 (j + 1)) := Lib.hid (by rw [HQ2.out, if_neg (by simp [hdig]), if_pos hb])
            clear HQ2 hb
            go_wp2
            go_quiet (fail)
            go_wp2
            go_ret
            rw [HN.out]
            exact ⟨rfl, (HP.out.drewN _).setAt _ _ rfl, hj1, (hk.drewN _).setCell (.inr (by simp)) _⟩
          · have q : ((b.toNat : Int) == 48) = false := by
              simp only [beq_eq_false_iff_ne, ne_eq]
              intro e
              exact hb (UInt8.toNat_inj.1 (by simpa using (by omega : b.toNat = 48)))
            have HN : Hid ((digP 0 (s.drop j) j).bind (fun n j => .ok (z * n) j) = R) := Lib.hid (by rw [HQ2.out, if_neg (by simp [hdig]), if_neg hb])
            clear HQ2 hb
            go_wp2
            go_quiet (fail)
            go_wp2
            go_loopg [4] (s.length - j) (fun q v wr => ∃ (m : Int) (k : Nat), q = s.length - k ∧ v = .int .i64 m ∧ 0 ≤ m ∧ m ≤ 9007199254740991 ∧ k ≤ s.length ∧ PA g s k d wr ∧ Kept (· ≠ g) w wr ∧ Hid ((digP m (s.drop k) k).bind (fun n j => .ok (z * n) j) = R))
            case atStart => exact ⟨0, j, rfl, rfl, by omega, by omega, hj, (HP.out.drewN _).drewN _, (hk.drewN _).drewN _, HN⟩
            case round =>
              clear HN hix h0 h1 h2 h3 h4 q C D HC HP hj1 hk hdig
              obtain ⟨m, k, rfl, rfl, hm0, hm1, hkl, hpk, hkk, HRk⟩ := hrel
              cases hc : s[k]? with
              | none =>
                have HN : Hid (R = .ok (z * m) k) := Lib.hid (by
                  rw [← HRk.out, List.drop_of_length_le (by rw [List.getElem?_eq_none_iff] at hc; exact hc)]
                  rfl)
                have D := Lib.hid (digit_none g s k d hc wr hpk hl hkl)
                clear hc
                go_wp2_with fail
                refine D.out.mono ?_
                rintro x w' ⟨rfl, n3, rfl⟩
                have b0 : -9007199254740991 ≤ z * m := by rcases (by omega : z = -1 ∨ z = 0 ∨ z = 1) with rfl | rfl | rfl <;> omega
                have b1 : z * m ≤ 9007199254740991 := by rcases (by omega : z = -1 ∨ z = 0 ∨ z = 1) with rfl | rfl | rfl <;> omega
                go_wp2
                go_ret
                rw [HN.out]
                exact ⟨rfl, hpk.drewN _, hkl, hkk.drewN _⟩
              | some c =>
                have hk1 : k + 1 ≤ s.length := (List.getElem?_eq_some_iff.1 hc).1
                have hd := drop_cons hc
                have hix := run_index_str (P := Tryz.prog) Tryz.underlying9 ⟨s.toArray⟩ k k rfl (by rw [hsz]; exact hk1) c (List.getElem?_eq_some_iff.1 hc).2
                have D := Lib.hid (digit_some g s k d c hc wr hpk hl)
                have HP := Lib.hid hpk
                obtain ⟨h0, h1, h2, h3, h4⟩ := hpk.facts
                rw [hd] at HRk
                clear hc hd hpk
                cases hdig : isDig c with
                | false =>
                  have HN : Hid (R = .ok (z * m) k) := Lib.hid (by rw [← HRk.out, digP, if_neg (by simp [hdig])]; rfl)
                  rw [hdig] at D
                  go_wp2_with fail
                  refine D.out.mono ?_
                  rintro x w' ⟨rfl, n3, rfl⟩
                  have b0 : -9007199254740991 ≤ z * m := by rcases (by omega : z = -1 ∨ z = 0 ∨ z = 1) with rfl | rfl | rfl <;> omega
                  have b1 : z * m ≤ 9007199254740991 := by rcases (by omega : z = -1 ∨ z = 0 ∨ z = 1) with rfl | rfl | rfl <;> omega
                  go_wp2
                  go_ret
                  rw [HN.out]
                  exact ⟨rfl, HP.out.drewN _, hkl, hkk.drewN _⟩
                | true =>
                  have hdc : 48 ≤ c.toNat ∧ c.toNat ≤ 57 := by simpa [isDig, UInt8.le_iff_toNat_le] using hdig
                  obtain ⟨hc0, hc1⟩ := hdc
                  have HRk2 : Hid ((if 10 * m + ((c.toNat : Int) - 48) > 9007199254740991 then PR.bad 43 k else digP (10 * m + ((c.toNat : Int) - 48)) (s.drop (k + 1)) (k + 1)).bind (fun n j => .ok (z * n) j) = R) := Lib.hid (by rw [← HRk.out, digP, if_pos hdig])
                  rw [hdig] at D
                  clear hdig HRk
                  by_cases hbig : 10 * m + ((c.toNat : Int) - 48) > 9007199254740991
                  · have HN : Hid (R = .bad 43 k) := Lib.hid (by rw [← HRk2.out, if_pos hbig]; rfl)
                    clear HRk2
                    go_wp2_with fail
                    refine D.out.mono ?_
                    rintro x w' ⟨rfl, n3, rfl⟩
                    go_wp2_with fail
                    go_quiet (fail)
                    go_wp2_with fail
                    refine (fail_any _ _ _ _ _ _ (HP.out.drewN _)).mono ?_
                    rintro x w' ⟨rfl, rfl⟩
                    go_wp2
                    rw [HN.out]
                    exact ⟨rfl, rfl, hkl, hkk.drewN _⟩
                  · have HN : Hid ((digP (10 * m + ((c.toNat : Int) - 48)) (s.drop (k + 1)) (k + 1)).bind (fun n j => .ok (z * n) j) = R) := Lib.hid (by rw [← HRk2.out, if_neg hbig])
                    clear HRk2
                    go_wp2_with fail
                    refine D.out.mono ?_
                    rintro x w' ⟨rfl, n3, rfl⟩
                    go_wp2_with fail
                    go_quiet (fail)
                    go_wp2
                    go_roundg (s.length - (k + 1))
                    case rel => exact ⟨10 * m + ((c.toNat : Int) - 48), k + 1, rfl, rfl, by omega, by omega, hk1, (HP.out.drewN _).setAt _ _ rfl, (hkk.drewN _).setCell (.inr (by simp)) _, HN⟩
                    case measure => omega
end Go.Proofs.YtpcgfhleloonfaaGreatDoor
namespace Go.Proofs.YtpcgfhleloonfaaGreatDoor
open Go.RowKit Jo
def behindZ (c : Int) : Int × Int × Int :=
  (if c = 224 then 160 else if c = 240 then 144 else 128, if c = 237 then 159 else if c = 244 then 143 else 191,
    if 194 ≤ c ∧ c ≤ 223 then 1 else if 224 ≤ c ∧ c ≤ 239 then 2 else if 240 ≤ c ∧ c ≤ 244 then 3 else 0)
theorem ret_behind {R : Int × Int × Int} {a b m : Int} (h : R = (a, b, m)) : Ending.returned (.tuple #[.int .u8 a, .int .u8 b, .int .i64 m]) = Ending.returned (.tuple #[.int .u8 R.1, .int .u8 R.2.1, .int .i64 R.2.2]) := by rw [h]
set_option maxHeartbeats 4000000 in
theorem behind_any (c : Int) (h0 : 0 ≤ c) (h1 : c ≤ 255) (w : World) :
    Calls Tryz.prog 205 #[.int .u8 c] w fun e w' => e = .returned (.tuple #[.int .u8 (behindZ c).1, .int .u8 (behindZ c).2.1, .int .i64 (behindZ c).2.2]) ∧ w' = w := by
  by_cases hq : c = 224 ∨ c = 237 ∨ c = 240 ∨ c = 244
  · rcases hq with rfl | rfl | rfl | rfl
    all_goals
      go_enter Tryz.func205, Tryz.ntmps205
      go_wp2
      go_ret3
      exact ⟨rfl, rfl⟩
  · have e1 : (c == 224) = false := by simp; omega
    have e2 : (c == 237) = false := by simp; omega
    have e3 : (c == 240) = false := by simp; omega
    have e4 : (c == 244) = false := by simp; omega
    rcases (by omega : c < 194 ∨ (194 ≤ c ∧ c ≤ 223) ∨ (224 ≤ c ∧ c ≤ 239) ∨ (240 ≤ c ∧ c ≤ 244) ∨ 245 ≤ c) with h | ⟨h, h'⟩ | ⟨h, h'⟩ | ⟨h, h'⟩ | h
    all_goals
      clear hq
      go_enter Tryz.func205, Tryz.ntmps205
      go_wp2
      go_ret3
      exact ⟨ret_behind (by unfold behindZ; simp at e1 e2 e3 e4; repeat (first | rw [if_neg (by omega)] | rw [if_pos (by omega)])), rfl⟩
theorem behind_eq (c : UInt8) : behindZ c.toNat = (((behindP c).1.toNat : Int), ((behindP c).2.1.toNat : Int), ((behindP c).2.2 : Int)) := by
  have h : ∀ x : Fin 256, behindZ (x.val : Int) = (((behindP x.val.toUInt8).1.toNat : Int), ((behindP x.val.toUInt8).2.1.toNat : Int), ((behindP x.val.toUInt8).2.2 : Int)) := by decide +kernel
  have := h ⟨c.toNat, c.toNat_lt⟩
  simpa using this
theorem behindP_max (c : UInt8) : (behindP c).2.2 ≤ 3 := by
  unfold behindP; simp only; split
  · omega
  · split
    · omega
    · split <;> omega
set_option maxHeartbeats 4000000 in
theorem letter_any (g : Nat) (s : List UInt8) (i d : Nat) (w : World) (hp : PA g s i d w) (hl : s.length ≤ 4000) (hi : i ≤ s.length) :
    Calls Tryz.prog 177 #[.pointer (some ⟨g, 0, none⟩)] w (Reads g s d w (letterP s i) fun _ e _ => e = .returned (.tuple #[])) := by
  obtain ⟨R, hR⟩ : ∃ R, letterP s i = R := ⟨_, rfl⟩
  have HR := Lib.hid hR
  rw [hR]
  clear hR
  cases hc : s[i]? with
  | none =>
    have HN : Hid (R = .bad 40 i) := Lib.hid (by rw [← HR.out, letterP, hc])
    have C := Lib.hid (here_bad g s i d w hc hp hl hi)
    clear hc
    go_enter Tryz.func177, Tryz.ntmps177
    go_wp2_with fail
    refine C.out.mono ?_
    rintro x w' ⟨rfl, n, rfl⟩
    go_wp2
    rw [HN.out]
    exact ⟨rfl, rfl, hi, (Kept.refl _ w).drewN n⟩
  | some c =>
    have C := Lib.hid (here_ok g s i d w c hc hp hl)
    have hi1 : i + 1 ≤ s.length := (List.getElem?_eq_some_iff.1 hc).1
    have HQ : Hid (R = if c < 128 then .ok () (i + 1) else if (behindP c).2.2 = 0 then .bad 40 i else followP s (behindP c).2.2 (behindP c).1 (behindP c).2.1 (i + 1)) := Lib.hid (by rw [← HR.out, letterP, hc])
    have HP := Lib.hid hp
    obtain ⟨h0, h1, h2, h3, h4⟩ := hp.facts
    have hcl := c.toNat_lt
    clear hc hp HR
    by_cases hlt : c.toNat < 128
    · have HN : Hid (R = .ok () (i + 1)) := Lib.hid (by rw [HQ.out, if_pos (by rw [UInt8.lt_iff_toNat_lt]; exact hlt)])
      have q : decide ((c.toNat : Int) < 128) = true := by simp; omega
      go_enter Tryz.func177, Tryz.ntmps177
      go_wp2_with fail
      refine C.out.mono ?_
      rintro x w' ⟨rfl, n, rfl⟩
      go_wp2
      refine bodyPost_ret (v := .tuple #[]) (results_none rfl _ _ _) rfl ?_
      rw [HN.out]
      exact ⟨rfl, (HP.out.drewN _).setAt _ _ rfl, hi1, ((Kept.refl _ w).drewN _).setCell (.inr (by simp)) _⟩
    · have q : decide ((c.toNat : Int) < 128) = false := by simp; omega
      have B := Lib.hid (fun w => behind_any (c.toNat : Int) (by omega) (by omega) w)
      rw [behind_eq c] at B
      have hm := behindP_max c
      have HQ2 : Hid (R = if (behindP c).2.2 = 0 then .bad 40 i else followP s (behindP c).2.2 (behindP c).1 (behindP c).2.1 (i + 1)) := Lib.hid (by rw [HQ.out, if_neg (by rw [UInt8.lt_iff_toNat_lt]; exact hlt)])
      clear HQ
      obtain ⟨⟨lo, hi', m⟩, hbp⟩ : ∃ t, behindP c = t := ⟨_, rfl⟩
      rw [hbp] at B hm HQ2
      simp only at B hm HQ2
      clear hbp
      by_cases hm0 : m = 0
      · subst hm0
        have HN : Hid (R = .bad 40 i) := Lib.hid (by rw [HQ2.out, if_pos rfl])
        go_enter Tryz.func177, Tryz.ntmps177
        go_wp2_with fail
        refine C.out.mono ?_
        rintro x w' ⟨rfl, n, rfl⟩
        go_wp2_with fail
        refine (B.out _).mono ?_
        rintro x w' ⟨rfl, rfl⟩
        go_wp2_with fail
        refine (fail_any _ _ _ _ _ _ (HP.out.drewN _)).mono ?_
        rintro x w' ⟨rfl, rfl⟩
        go_wp2
        rw [HN.out]
        exact ⟨rfl, rfl, hi, (Kept.refl _ w).drewN n⟩
      · have HN : Hid (followP s m lo hi' (i + 1) = R) := Lib.hid (by rw [HQ2.out, if_neg hm0])
        have q2 : ((m : Int) == 0) = false := by simp; omega
        go_enter Tryz.func177, Tryz.ntmps177
        go_wp2_with fail
        refine C.out.mono ?_
        rintro x w' ⟨rfl, n, rfl⟩
        go_wp2_with fail
        refine (B.out _).mono ?_
        rintro x w' ⟨rfl, rfl⟩
        go_wp2_with fail
        clear HQ2 C B
        go_loopg [3, 4, 36] m (fun q x y z wr => ∃ (lo hi : UInt8) (k j : Nat), x = .int .u8 lo.toNat ∧ y = .int .u8 hi.toNat ∧ z = .int .i64 j ∧ j ≤ m ∧ q = m - j ∧ k ≤ s.length ∧ PA g s k d wr ∧ Kept (· ≠ g) w wr ∧ Hid (followP s (m - j) lo hi k = R))
        case atStart => exact ⟨lo, hi', i + 1, 0, rfl, rfl, rfl, Nat.zero_le _, rfl, hi1, (HP.out.drewN _).setAt _ _ rfl, ((Kept.refl _ w).drewN _).setCell (.inr (by simp)) _, HN⟩
        case round =>
          clear h0 h1 h2 h3 h4 HN q HP hcl hlt
          obtain ⟨lo, hh, k, j, rfl, rfl, rfl, hj, rfl, hk, hpk, hkk, HRk⟩ := hrel
          by_cases hjm : j < m
          · have hmj : m - j = (m - j - 1) + 1 := by omega
            cases hc : s[k]? with
            | none =>
              have HN : Hid (R = .bad 40 k) := Lib.hid (by rw [← HRk.out, hmj, followP, hc])
              have C := Lib.hid (here_bad g s k d wr hc hpk hl hk)
              clear hc hpk hmj HRk
              go_wp2_with fail
              refine C.out.mono ?_
              rintro x w' ⟨rfl, n3, rfl⟩
              go_wp2
              rw [HN.out]
              exact ⟨rfl, rfl, hk, hkk.drewN _⟩
            | some b =>
              have hk1 : k + 1 ≤ s.length := (List.getElem?_eq_some_iff.1 hc).1
              have C := Lib.hid (here_ok g s k d wr b hc hpk hl)
              have HQ : Hid (R = if b < lo ∨ hh < b then .bad 40 k else followP s (m - (j + 1)) 128 191 (k + 1)) := Lib.hid (by
                rw [← HRk.out, hmj, followP, hc, show m - (j + 1) = m - j - 1 from by omega])
              have HP := Lib.hid hpk
              obtain ⟨h0, h1, h2, h3, h4⟩ := hpk.facts
              clear hc hpk hmj HRk
              by_cases hlo : b.toNat < lo.toNat
              · have q1 : decide (b.toNat < lo.toNat) = true := by simpa using hlo
                have HN : Hid (R = .bad 40 k) := Lib.hid (by rw [HQ.out, if_pos (.inl (by rw [UInt8.lt_iff_toNat_lt]; exact hlo))])
                clear HQ
                go_wp2_with fail
                refine C.out.mono ?_
                rintro x w' ⟨rfl, n3, rfl⟩
                go_wp2_with fail
                refine (fail_any _ _ _ _ _ _ (HP.out.drewN _)).mono ?_
                rintro x w' ⟨rfl, rfl⟩
                go_wp2
                rw [HN.out]
                exact ⟨rfl, rfl, hk, hkk.drewN _⟩
              · have q1 : decide (b.toNat < lo.toNat) = false := by simpa using hlo
                by_cases hhi : hh.toNat < b.toNat
                · have q2 : decide (hh.toNat < b.toNat) = true := by simpa using hhi
                  have HN : Hid (R = .bad 40 k) := Lib.hid (by rw [HQ.out, if_pos (.inr (by rw [UInt8.lt_iff_toNat_lt]; exact hhi))])
                  clear HQ
                  go_wp2_with fail
                  refine C.out.mono ?_
                  rintro x w' ⟨rfl, n3, rfl⟩
                  go_wp2_with fail
                  refine (fail_any _ _ _ _ _ _ (HP.out.drewN _)).mono ?_
                  rintro x w' ⟨rfl, rfl⟩
                  go_wp2
                  rw [HN.out]
                  exact ⟨rfl, rfl, hk, hkk.drewN _⟩
                · have q2 : decide (hh.toNat < b.toNat) = false := by simpa using hhi
                  have HN : Hid (followP s (m - (j + 1)) 128 191 (k + 1) = R) := Lib.hid (by
                    rw [HQ.out, if_neg]
                    rw [UInt8.lt_iff_toNat_lt, UInt8.lt_iff_toNat_lt]
                    omega)
                  clear HQ
                  go_wp2_with fail
                  refine C.out.mono ?_
                  rintro x w' ⟨rfl, n3, rfl⟩
                  go_wp2
                  go_roundg (m - (j + 1))
                  case rel => exact ⟨128, 191, k + 1, j + 1, rfl, rfl, by go_num, by omega, rfl, hk1, (HP.out.drewN _).setAt _ _ rfl, (hkk.drewN _).setCell (.inr (by simp)) _, HN⟩
                  case measure => omega
          · have HN : Hid (R = .ok () k) := Lib.hid (by rw [← HRk.out, show m - j = 0 from by omega]; rfl)
            go_wp2
            go_end0
            rw [HN.out]
            exact ⟨rfl, hpk, hk, hkk⟩
end Go.Proofs.YtpcgfhleloonfaaGreatDoor
