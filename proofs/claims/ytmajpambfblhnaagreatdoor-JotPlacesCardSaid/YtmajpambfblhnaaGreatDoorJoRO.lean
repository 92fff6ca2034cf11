/- Walks of the reference's reader (layer 4), tenth part: objects. -/
import Derived.Test.YtmajpambfblhnaaGreatDoorJoR8
namespace Go.Proofs.YtmajpambfblhnaaGreatDoor
open Go.RowKit Jo

/-- The contract of 'member' for an object that has some already. -/
def MemC (g : Nat) (s : List UInt8) (d k : Nat) : Prop := ∀ (N0 i : Nat) (w : World) (ms : List (List UInt8 × J)) (b nc b2 ic n : Nat), ms.length = n → RA g s i 0 d w → i ≤ s.length → g < N0 → N0 ≤ w.heap.size → Asc ms → n ≤ 1000000 →
  w.ownsRow N0 9 1 (.slice (some ⟨b, 0, none⟩) n nc) n ((ms.map (·.1)).map S) → OwnR N0 (.slice (some ⟨b2, 0, none⟩) n ic) (ms.map (·.2)) w →
  Calls Tryz.prog 102 #[.pointer (some ⟨g, 0, none⟩), jotV 6 0 [] (.slice (some ⟨b, 0, none⟩) n nc) (.slice (some ⟨b2, 0, none⟩) n ic)] w
    (RRd g s d w (memR s k ms i) (MemQ N0 ms) fun e => e = .returned (.tuple #[jotV 6 0 [] (.slice (some ⟨b, 0, none⟩) n nc) (.slice (some ⟨b2, 0, none⟩) n ic), .bool false]))

/-- The rows of an object that is being read. -/
def ObSt (N0 : Nat) (ms : List (List UInt8 × J)) (nv iv : Value) (w : World) : Prop := (ms = [] ∧ nv = .slice none 0 0 ∧ iv = .slice none 0 0) ∨
  ∃ b nc b2 ic, nv = .slice (some ⟨b, 0, none⟩) ms.length nc ∧ iv = .slice (some ⟨b2, 0, none⟩) ms.length ic ∧ w.ownsRow N0 9 1 nv ms.length ((ms.map (·.1)).map S) ∧ OwnR N0 iv (ms.map (·.2)) w
theorem ObSt.kept {N0 : Nat} {ok : Nat → Prop} {ms : List (List UInt8 × J)} {nv iv : Value} {w w' : World} (h : ObSt N0 ms nv iv w) (hk : Kept ok w w') (ho : ∀ b, N0 ≤ b → ok b) : ObSt N0 ms nv iv w' := by
  rcases h with h | ⟨b, nc, b2, ic, h1, h2, h3, h4⟩
  · exact .inl h
  · exact .inr ⟨b, nc, b2, ic, h1, h2, ownsRow_kept h3 hk fun c hc => ho c (h3.lt c hc).1, h4.kept hk ho⟩
theorem ObSt.slice {N0 : Nat} {ms : List (List UInt8 × J)} {nv iv : Value} {w : World} (h : ObSt N0 ms nv iv w) : ∃ na nl nc ia il ic, nv = .slice na nl nc ∧ iv = .slice ia il ic := by
  rcases h with ⟨_, h1, h2⟩ | ⟨b, nc, b2, ic, h1, h2, _⟩
  · exact ⟨_, _, _, _, _, _, h1, h2⟩
  · exact ⟨_, _, _, _, _, _, h1, h2⟩
theorem ObSt.of {N0 : Nat} {ms : List (List UInt8 × J)} {m : List UInt8 × J} {e : Ending} {w : World} (h : MemQ N0 ms m e w) : ∃ na nl nc ia il ic, e = .returned (.tuple #[jotV 6 0 [] (.slice na nl nc) (.slice ia il ic), .bool true]) ∧ ObSt N0 (insM m ms) (.slice na nl nc) (.slice ia il ic) w := by
  obtain ⟨na, nl, nc, ia, il, ic, h1, h2, h3⟩ := h
  have hl : (insM m ms).length = ms.length + 1 := (insM_perm m ms).length_eq
  refine ⟨na, nl, nc, ia, il, ic, h1, .inr ?_⟩
  rw [List.length_map] at h2
  obtain ⟨us, u1, u2, u3⟩ := id h3
  rw [List.length_map] at u2
  rw [hl] at h2 u2 ⊢
  obtain ⟨b, c, hb⟩ := ownsRow_some h2
  obtain ⟨b', c', hb'⟩ := ownsRow_some u2
  exact ⟨b, c, b', c', hb, hb', h2, h3⟩
theorem ObSt.value {N0 : Nat} {ms : List (List UInt8 × J)} {nv iv : Value} {w : World} (h : ObSt N0 ms nv iv w) (hl : ms.length ≤ 1000000) (hn : ∀ l ∈ ms.map (·.1), l.length ≤ 4611686018427387904) : JIn (fun b => N0 ≤ b) w (J.obj ms) (jotV 6 0 [] nv iv) := by
  have hr : Rng 6 0 [] (ms.map (·.1)) (ms.map (·.2)).length := by
    unfold Rng
    refine ⟨by omega, by omega, by omega, by omega, by simp, by rw [List.length_map]; omega, fun l hl => by have := hn l hl; omega, by rw [List.length_map]; omega⟩
  rcases h with ⟨rfl, rfl, rfl⟩ | ⟨b, nc, b2, ic, rfl, rfl, h3, h4⟩
  · exact (OwnR.nil N0 w).value 6 0 [] (ns := []) (World.ownsRow_nil _ _ _ _) hr
  · exact h4.value 6 0 [] (by rw [List.length_map]; exact h3) hr
/-- The contract of 'member', for any object. -/
theorem refmember_all (g : Nat) (s : List UInt8) (d k : Nat) (hv : RefV g s d k) (hM : MemC g s d k) (hl : s.length ≤ 1000000) (N0 i : Nat) (w : World) (ms : List (List UInt8 × J)) (nv iv : Value) (hp : RA g s i 0 d w) (hi : i ≤ s.length) (hN : g < N0) (hN0 : N0 ≤ w.heap.size) (ha : Asc ms) (hml : ms.length ≤ 1000000) (ho : ObSt N0 ms nv iv w) :
    Calls Tryz.prog 102 #[.pointer (some ⟨g, 0, none⟩), jotV 6 0 [] nv iv] w (RRd g s d w (memR s k ms i) (MemQ N0 ms) fun e => e = .returned (.tuple #[jotV 6 0 [] nv iv, .bool false])) := by
  rcases ho with ⟨rfl, rfl, rfl⟩ | ⟨b, nc, b2, ic, rfl, rfl, h3, h4⟩
  · exact refmember_nil g s d k hv N0 i w hp hi hl hN hN0
  · exact hM N0 i w ms b nc b2 ic ms.length rfl hp hi hN hN0 ha hml h3 h4

set_option maxHeartbeats 8000000 in
set_option maxRecDepth 100000 in
theorem refobject_any (g : Nat) (s : List UInt8) (i d k : Nat) (hv : RefV g s (d + 1) k) (hM : MemC g s (d + 1) k) (w : World) (hp : RA g s i 0 d w) (hd : d < 16) (hi : i < s.length) (hl : s.length ≤ 1000000) :
    Calls Tryz.prog 80 #[.pointer (some ⟨g, 0, none⟩)] w (RRd g s d w (objP s (valP s k) i) (fun ms e w' => RVal w (J.obj (sortM ms)) e w') RNo) := by
  obtain ⟨R, hR⟩ : ∃ R, objP s (valP s k) i = R := ⟨_, rfl⟩
  have HR : Hid ((if s[bl s (i + 1)]? = some 125 then .ok [] (bl s (i + 1) + 1) else objL s (valP s k) (s.length + 1) [] (bl s (i + 1))) = R) := Lib.hid (by rw [← hR, objP_ref])
  rw [hR]
  clear hR
  have HM := Lib.hid (refmember_all g s (d + 1) k hv hM hl)
  clear hv hM
  have hgl := hp.lt
  obtain ⟨W0, hW0⟩ : ∃ W0, (w.alloc (.cells #[.int .i64 0, .int .i64 0, S [], .slice none 0 0, .slice none 0 0] 25)).alloc (.cells #[.int .i64 6, .int .i64 0, S [], .slice none 0 0, .slice none 0 0] 25) = W0 := ⟨_, rfl⟩
  have hk0 : Kept (· ≠ g) w W0 := by rw [← hW0]; exact ((Kept.refl _ w).alloc _).alloc _
  have hz0 : W0.heap.size = w.heap.size + 2 := by rw [← hW0]; simp
  have hbox0 : OutAt w.heap.size 0 0 [] (.slice none 0 0) (.slice none 0 0) W0 := by rw [← hW0]; exact (OutAt.new w 0 0 [] (.slice none 0 0) (.slice none 0 0)).kept (ok := fun _ => True) ((Kept.refl _ _).alloc _) trivial
  have hout0 : OutAt (w.heap.size + 1) 6 0 [] (.slice none 0 0) (.slice none 0 0) W0 := by
    rw [← hW0]
    have := OutAt.new (w.alloc (.cells #[.int .i64 0, .int .i64 0, S [], .slice none 0 0, .slice none 0 0] 25)) 6 0 [] (.slice none 0 0) (.slice none 0 0)
    simpa using this
  have hp0 : RA g s i 0 d W0 := hp.kept (ok := fun _ => True) (by rw [← hW0]; exact ((Kept.refl _ w).alloc _).alloc _) trivial
  have O := Lib.hid (refopens_any g s i d W0 hp0 hd hi hl)
  have HW0 := Lib.hid hW0
  have HZ0 := Lib.hid hz0
  have HB0 := Lib.hid hbox0
  have HO0 := Lib.hid hout0
  clear hp hp0 hW0 hz0 hbox0 hout0
  go_enter Tryz.func80, Tryz.ntmps80
  go_wp2_with fail
  rw [show (({ data := #[] } : ByteArray)) = ⟨([] : List UInt8).toArray⟩ from rfl, HW0.out]
  refine O.out.mono ?_
  rintro e w1 ⟨rfl, hp1, hj1, hk1⟩
  have C := Lib.hid (refis_any g s (bl s (i + 1)) (d + 1) 0 125 w1 hp1 hj1 hl)
  have HP1 := Lib.hid hp1
  have hbj := bl_idem s (i + 1)
  obtain ⟨j1, hj1e⟩ : ∃ j, bl s (i + 1) = j := ⟨_, rfl⟩
  rw [hj1e] at C HP1 HR hj1 hbj
  have HBJ := Lib.hid hbj
  clear hp1 hj1e hbj O
  go_wp2_with fail
  refine C.out.mono ?_
  rintro e w2 ⟨rfl, n, rfl⟩
  have hB := hk1.size
  have HK1 := Lib.hid (((hk0.tr hk1).drewN n))
  have hz0 := HZ0.out
  have HB1 := Lib.hid (HB0.out.kept (hk1.drewN n) (by omega))
  have HO1 := Lib.hid (HO0.out.kept (hk1.drewN n) (by omega))
  have HPn := Lib.hid (HP1.out.drewN n)
  clear HB0 HO0 HP1 C hk0 hk1
  go_wp2_with fail
  go_loopg [6] (s.length + 2) (fun q mo wr => ∃ (acc : List (List UInt8 × J)) (nv iv : Value) (j : Nat) (t : Bool), mo = .bool t ∧ OutAt (w.heap.size + 1) 6 0 [] nv iv wr ∧ OutAt w.heap.size 0 0 [] (.slice none 0 0) (.slice none 0 0) wr ∧ ObSt (w.heap.size + 2) (sortM acc) nv iv wr ∧ w.heap.size + 2 ≤ wr.heap.size ∧ Kept (· ≠ g) w wr ∧ RA g s j 0 (d + 1) wr ∧ j ≤ s.length ∧ acc.length ≤ j ∧ Hid ((acc.map (·.1)).Nodup ∧ ∀ l ∈ acc.map (·.1), l.length ≤ 4000000) ∧
    Hid ((t = true ∧ j + 1 ≤ s.length ∧ R = .ok acc (j + 1)) ∨ (t = false ∧ bl s j = j ∧ ∃ f, q = f + 1 ∧ s.length + 1 ≤ j + f ∧ objL s (valP s k) f acc j = R)))
  case atStart =>
    refine ⟨[], _, _, j1, _, rfl, HO1.out, HB1.out, .inl ⟨rfl, rfl, rfl⟩, by simp; omega, HK1.out, HPn.out, hj1, by simp, Lib.hid ⟨List.nodup_nil, fun l hl => by cases hl⟩, Lib.hid ?_⟩
    by_cases h125 : s[j1]? = some 125
    · exact .inl ⟨decide_eq_true h125, (List.getElem?_eq_some_iff.1 h125).1, by rw [← HR.out, if_pos h125]⟩
    · exact .inr ⟨decide_eq_false h125, HBJ.out, _, rfl, by omega, by rw [← HR.out, if_neg h125]⟩
  case round =>
    clear HR HB1 HO1 HPn HK1 HBJ
    obtain ⟨acc, nv, iv, j, t, rfl, hout, hbox, ho, hz, hk, hpj, hj, hal, HND, H⟩ := hrel
    obtain ⟨na, nl, nc, ia, il, ic, rfl, rfl⟩ := ho.slice
    have HO := Lib.hid ho
    have HOUT := Lib.hid hout
    have HBOX := Lib.hid hbox
    have HP := Lib.hid hpj
    have hlen : (sortM acc).length = acc.length := (sortM_perm acc).length_eq
    have HLEN := Lib.hid hlen
    clear ho hout hbox hpj hlen
    cases t with
    | true =>
      obtain ⟨hj2, hR⟩ : j + 1 ≤ s.length ∧ R = .ok acc (j + 1) := by
        rcases H.out with h | h
        · exact h.2
        · cases h.1
      have HN := Lib.hid hR
      obtain ⟨h0, h1, h2, h3, h4, h5, h6⟩ := HP.out.facts
      obtain ⟨o0, o1, o2, o3, o4, o5, o6⟩ := HOUT.out.facts
      obtain ⟨g0, g1, g2, g3, g4, g5, g6⟩ := HBOX.out.facts
      obtain ⟨f0, f1, f2, f3, f4⟩ := HBOX.out.free
      have hg1 : g ≠ w.heap.size + 1 := by omega
      have hg2 : g ≠ w.heap.size := by omega
      clear hR H
      go_wp2
      refine bodyPost_ret (v := .tuple #[jotV 6 0 [] (.slice na nl nc) (.slice ia il ic), .bool true]) (by simp [results, Tryz.results80, go_sem, g0, g1, g2, g3, g4]) rfl ?_
      rw [HN.out]
      have hkr : Kept (fun b => b ≠ g) wr ((wr.setCell ⟨g, 1, none⟩ (.int .i64 ((j : Int) + 1))).setCell ⟨g, 3, none⟩ (.int .i64 (d : Int))) := ((Kept.refl _ wr).setCell (.inr (by simp)) _).setCell (.inr (by simp)) _
      have hkb := fun (W : World) => kept_box W w.heap.size (.int .i64 6) (.int .i64 0) (S []) (.slice na nl nc) (.slice ia il ic)
      refine ⟨⟨_, rfl, (((HO.out.kept hkr fun b hb => by omega).kept (hkb _) fun b hb => by omega).value (by rw [HLEN.out]; omega) fun l hl => ?_).mono fun b _ hb => by omega⟩, ?_, hj2, ?_⟩
      · have := HND.out.2 l ((sortM_mem acc l).1 hl)
        omega
      · exact ((HP.out.setAt (j + 1) (.int .i64 ((j : Int) + 1)) rfl).setDeep d (.int .i64 (d : Int)) rfl).kept (hkb _) hg2
      · exact (hk.tr hkr).trans (hkb _) fun b hb _ => by omega
    | false =>
      obtain ⟨hbj, f, rfl, hfu, hR⟩ : bl s j = j ∧ ∃ f, gk = f + 1 ∧ s.length + 1 ≤ j + f ∧ objL s (valP s k) f acc j = R := by
        rcases H.out with h | h
        · cases h.1
        · exact h.2
      obtain ⟨q, rfl⟩ : ∃ q, f = q + 1 := ⟨f - 1, by omega⟩
      have M := Lib.hid (HM.out (w.heap.size + 2) j wr (sortM acc) _ _ HP.out hj (by omega) hz (sortM_asc acc HND.out.1) (by rw [HLEN.out]; omega) HO.out)
      have HR0 : Hid (R = (memR s k (sortM acc) j).bind fun m i => match s[bl s i]? with
        | none => .bad 40 (bl s i)
        | some c => if c = 44 then objL s (valP s k) q (acc ++ [m]) (bl s i + 1) else if c = 125 then .ok (acc ++ [m]) (bl s i + 1) else .bad 40 (bl s i)) := Lib.hid (by rw [← hR, objL_ref, hbj]; rfl)
      obtain ⟨o0, o1, o2, o3, o4, o5, o6⟩ := HOUT.out.facts
      clear H hR hbj
      cases hx : memR s k (sortM acc) j with
      | bad e j' =>
        have HN : Hid (R = .bad e j') := Lib.hid (by rw [HR0.out, hx]; rfl)
        rw [hx] at M
        clear hx HR0
        go_wp2_with fail
        refine M.out.mono ?_
        rintro x w' ⟨rfl, hr, hb, hk'⟩
        have hz' := hk'.size
        have HOUT2 := Lib.hid (HOUT.out.kept hk' (by omega))
        have HBOX2 := Lib.hid (HBOX.out.kept hk' (by omega))
        clear o0 o1 o2 o3 o4 o5 o6
        obtain ⟨o0, o1, o2, o3, o4, o5, o6⟩ := HOUT2.out.facts
        obtain ⟨v0, v1, v2, v3, v4⟩ := HOUT2.out.free
        obtain ⟨g0, g1, g2, g3, g4, g5, g6⟩ := HBOX2.out.facts
        obtain ⟨f0, f1, f2, f3, f4⟩ := HBOX2.out.free
        go_wp2
        refine bodyPost_ret (v := .tuple #[jotV 6 0 [] (.slice na nl nc) (.slice ia il ic), .bool false]) (by simp [results, Tryz.results80, go_sem, g0, g1, g2, g3, g4]) rfl ?_
        rw [HN.out]
        have hkb := fun (W : World) => kept_box W w.heap.size (.int .i64 6) (.int .i64 0) (S []) (.slice na nl nc) (.slice ia il ic)
        have hkb2 := kept_box w' (w.heap.size + 1) (.int .i64 6) (.int .i64 0) (S []) (.slice na nl nc) (.slice ia il ic)
        obtain ⟨d', hr⟩ := hr
        exact ⟨⟨_, _, _, _, _, _, _, _, _, rfl⟩, ⟨d', (hr.kept hkb2 (by omega)).kept (hkb _) (by omega)⟩, hb, ((hk.tr hk').trans hkb2 fun b hb _ => by omega).trans (hkb _) fun b hb _ => by omega⟩
      | ok m j1 =>
        obtain ⟨hjj, hnm, hml⟩ := memR_le hx
        have HQ : Hid (R = match s[bl s j1]? with
          | none => .bad 40 (bl s j1)
          | some c => if c = 44 then objL s (valP s k) q (acc ++ [m]) (bl s j1 + 1) else if c = 125 then .ok (acc ++ [m]) (bl s j1 + 1) else .bad 40 (bl s j1)) := Lib.hid (by rw [HR0.out, hx]; rfl)
        rw [hx] at M
        clear hx HR0
        go_wp2_with fail
        refine M.out.mono ?_
        rintro _ w2 ⟨hm, hp2, hj1, hk2⟩
        obtain ⟨na', nl', nc', ia', il', ic', rfl, ho2⟩ := ObSt.of hm
        rw [← sortM_snoc] at ho2
        have HND2 : Hid (((acc ++ [m]).map (·.1)).Nodup ∧ ∀ l ∈ (acc ++ [m]).map (·.1), l.length ≤ 4000000) := Lib.hid ⟨nodup_snoc (n := m.1) (x := m.2) HND.out.1 fun h => hnm ((sortM_mem acc _).2 h), fun l hl => by
          rw [List.map_append, List.mem_append] at hl
          rcases hl with hl | hl
          · exact HND.out.2 l hl
          · obtain rfl : l = m.1 := by simpa using hl
            omega⟩
        have hz2 := hk2.size
        have hwk : Kept (· ≠ g) w w2 := hk.tr hk2
        have HO2 := Lib.hid ho2
        have HOUT2 := Lib.hid (HOUT.out.kept hk2 (by omega))
        have HBOX2 := Lib.hid (HBOX.out.kept hk2 (by omega))
        have HP2 := Lib.hid hp2
        clear o0 o1 o2 o3 o4 o5 o6 hm ho2 hp2 HO HOUT HBOX HP hnm hml
        obtain ⟨v0, v1, v2, v3, v4⟩ := HOUT2.out.free
        obtain ⟨o0, o1, o2, o3, o4, o5, o6⟩ := HOUT2.out.facts
        have HL2 : Hid ((acc ++ [m]).length = acc.length + [m].length) := Lib.hid List.length_append
        go_wp2_with fail
        have hkb2 := kept_box w2 (w.heap.size + 1) (.int .i64 6) (.int .i64 0) (S []) (.slice na' nl' nc') (.slice ia' il' ic')
        have HP4 := Lib.hid (HP2.out.kept hkb2 (by omega))
        have HOUT4 := Lib.hid (HOUT2.out.five 6 0 [] (.slice na' nl' nc') (.slice ia' il' ic'))
        have HBOX4 := Lib.hid (HBOX2.out.kept hkb2 (by omega))
        have HO4 := Lib.hid (HO2.out.kept hkb2 fun b hb => by omega)
        have hwk4 := hwk.trans hkb2 fun b hb _ => by omega
        have hz5 := hkb2.size
        refine (refblanks_any g s j1 (d + 1) _ HP4.out hl hj1).mono ?_
        rintro e w5 ⟨rfl, hp5, hb5, hk5⟩
        have hz6 := hk5.size
        have HBX5 := Lib.hid (HBOX4.out.kept hk5 (by omega))
        have HOT5 := Lib.hid (HOUT4.out.kept hk5 (by omega))
        have HO5 := Lib.hid (HO4.out.kept hk5 fun b hb => by omega)
        have HK5 := Lib.hid (hwk4.tr hk5)
        have C := Lib.hid (refis_any g s (bl s j1) (d + 1) 0 125 w5 hp5 hb5 hl)
        have HP5 := Lib.hid hp5
        have hbi := bl_le s j1
        have hbm := bl_idem s j1
        obtain ⟨j2, hj2⟩ : ∃ y, bl s j1 = y := ⟨_, rfl⟩
        rw [hj2] at HQ C HP5 hb5 hbi hbm
        have HBM := Lib.hid hbm
        clear hj2 HP4 HOUT4 HBOX4 HO4 hp5 hk5 hbm hwk4 hkb2 hk2 hwk HOUT2 HBOX2 HO2 HP2 o0 o1 o2 o3 o4 o5 o6 v0 v1 v2 v3 v4
        by_cases h125 : s[j2]? = some 125
        · have hj3 : j2 + 1 ≤ s.length := (List.getElem?_eq_some_iff.1 h125).1
          have HN : Hid (R = .ok (acc ++ [m]) (j2 + 1)) := Lib.hid (by rw [HQ.out, h125]; rfl)
          rw [decide_eq_true h125] at C
          clear h125 HQ
          go_wp2_with fail
          refine C.out.mono ?_
          rintro e w6 ⟨rfl, n6, rfl⟩
          go_wp2
          go_roundg (q + 1)
          case rel => exact ⟨acc ++ [m], _, _, j2, true, rfl, HOT5.out.kept ((Kept.refl (fun _ => True) w5).drewN n6) trivial, HBX5.out.kept ((Kept.refl (fun _ => True) w5).drewN n6) trivial, HO5.out.kept ((Kept.refl (fun _ => True) w5).drewN n6) fun _ _ => trivial, Nat.le_trans (by omega) (Nat.le_of_eq (rfl : w5.heap.size = (w5.drewN n6).heap.size)), HK5.out.drewN n6, HP5.out.drewN n6, hb5, by rw [HL2.out, List.length_singleton]; omega, HND2, Lib.hid (.inl ⟨rfl, hj3, HN.out⟩)⟩
          case measure => omega
        · rw [decide_eq_false h125] at C
          by_cases h44 : s[j2]? = some 44
          · have HN : Hid (objL s (valP s k) q (acc ++ [m]) (j2 + 1) = R) := Lib.hid (by rw [HQ.out, h44]; rfl)
            have hj3 : j2 + 1 ≤ s.length := (List.getElem?_eq_some_iff.1 h44).1
            have hW : wantP s 44 j2 = .ok () (j2 + 1) := by unfold wantP; rw [if_pos h44]
            have M := Lib.hid (fun n => reftakes_any g s j2 (d + 1) 44 (w5.drewN n) (HP5.out.drewN n) hb5 hl)
            rw [hW] at M
            clear h44 h125 HQ hW
            go_wp2_with fail
            refine C.out.mono ?_
            rintro e w6 ⟨rfl, n6, rfl⟩
            go_wp2_with fail
            refine (M.out n6).mono ?_
            rintro e w7 ⟨rfl, hp7, hj7, hk7⟩
            have B := Lib.hid (refblanks_any g s (j2 + 1) (d + 1) w7 hp7 hl hj3)
            have hk57 : Kept (· ≠ g) w5 w7 := ((Kept.refl _ w5).drewN n6).tr hk7
            clear M C hp7 hk7
            go_wp2_with fail
            refine B.out.mono ?_
            rintro e w8 ⟨rfl, hp8, hb8, hk8⟩
            have hk58 : Kept (· ≠ g) w5 w8 := hk57.tr hk8
            have hz8 := hk58.size
            have hb9 := bl_le s (j2 + 1)
            go_wp2
            obtain ⟨q2, rfl⟩ : ∃ q2, q = q2 + 1 := ⟨q - 1, by omega⟩
            go_roundg (q2 + 1 + 1)
            case rel => exact ⟨acc ++ [m], _, _, bl s (j2 + 1), false, rfl, HOT5.out.kept hk58 (by omega), HBX5.out.kept hk58 (by omega), HO5.out.kept hk58 fun b hb => by omega, by omega, HK5.out.tr hk58, hp8, hb8, by rw [HL2.out, List.length_singleton]; omega, HND2, Lib.hid (.inr ⟨rfl, bl_idem s (j2 + 1), q2 + 1, rfl, by omega, by rw [objL_bl]; exact HN.out⟩)⟩
            case measure => omega
          · have HN : Hid (R = .bad 40 j2) := Lib.hid (by
              rw [HQ.out]
              cases h : s[j2]? with
              | none => rfl
              | some c =>
                simp only
                rw [if_neg (fun e => h44 (by rw [h, e])), if_neg (fun e => h125 (by rw [h, e]))])
            have hW : wantP s 44 j2 = .bad 40 j2 := by unfold wantP; rw [if_neg h44]
            have M := Lib.hid (fun n => reftakes_any g s j2 (d + 1) 44 (w5.drewN n) (HP5.out.drewN n) hb5 hl)
            rw [hW] at M
            clear h44 h125 HQ hW
            go_wp2_with fail
            refine C.out.mono ?_
            rintro e w6 ⟨rfl, n6, rfl⟩
            go_wp2_with fail
            refine (M.out n6).mono ?_
            rintro e w7 ⟨rfl, ⟨d', hp7⟩, hj7, hk7⟩
            have hk57 : Kept (· ≠ g) w5 w7 := ((Kept.refl _ w5).drewN n6).tr hk7
            have hz7 := hk57.size
            have HOUT2 := Lib.hid (HOT5.out.kept hk57 (by omega))
            have HBOX2 := Lib.hid (HBX5.out.kept hk57 (by omega))
            obtain ⟨o0, o1, o2, o3, o4, o5, o6⟩ := HOUT2.out.facts
            obtain ⟨g0, g1, g2, g3, g4, g5, g6⟩ := HBOX2.out.facts
            obtain ⟨f0, f1, f2, f3, f4⟩ := HBOX2.out.free
            clear M C hk7
            go_wp2
            refine bodyPost_ret (v := .tuple #[jotV 6 0 [] (.slice na' nl' nc') (.slice ia' il' ic'), .bool false]) (by simp [results, Tryz.results80, go_sem, g0, g1, g2, g3, g4]) rfl ?_
            rw [HN.out]
            have hkb := fun (W : World) => kept_box W w.heap.size (.int .i64 6) (.int .i64 0) (S []) (.slice na' nl' nc') (.slice ia' il' ic')
            exact ⟨⟨_, _, _, _, _, _, _, _, _, rfl⟩, ⟨d', hp7.kept (hkb _) (by omega)⟩, hb5, (HK5.out.tr hk57).trans (hkb _) fun b hb _ => by omega⟩
end Go.Proofs.YtmajpambfblhnaaGreatDoor
