/- Walk of the law's turns (layer 4): what was lent is written over where it lies. -/
import Derived.Test.YtmajpambfblhnaaGreatDoorJoM5
namespace Go.Proofs.YtmajpambfblhnaaGreatDoor
open Go.RowKit Jo

theorem getD_mem_flat {fss : List (List Nat)} {j b : Nat} (h : b ∈ fss.getD j []) : b ∈ fss.flatten := by
  rw [List.getD_eq_getElem?_getD] at h
  rcases hj : fss[j]? with _ | f
  · rw [hj] at h; cases h
  · rw [hj] at h
    exact List.mem_flatten.2 ⟨f, List.mem_of_getElem? hj, h⟩
theorem flat_apart : ∀ {fss : List (List Nat)}, fss.flatten.Nodup → (∀ j, (fss.getD j []).Nodup) ∧ ∀ i j b, i ≠ j → b ∈ fss.getD i [] → b ∉ fss.getD j [] := by
  intro fss
  induction fss with
  | nil => intro _; exact ⟨fun j => by simp, fun i j b _ h => by simp at h⟩
  | cons f r ih =>
    intro h
    rw [List.flatten_cons] at h
    obtain ⟨h1, h2, h3⟩ := List.nodup_append.1 h
    obtain ⟨q1, q2⟩ := ih h2
    refine ⟨fun j => ?_, fun i j b hij hb hc => ?_⟩
    · cases j with
      | zero => simpa using h1
      | succ j => simpa using q1 j
    · cases i with
      | zero => cases j with
        | zero => omega
        | succ j => exact h3 b (by simpa using hb) b (getD_mem_flat (by simpa using hc)) rfl
      | succ i => cases j with
        | zero => exact h3 b (by simpa using hc) b (getD_mem_flat (by simpa using hb)) rfl
        | succ j => exact q2 i j b (by omega) (by simpa using hb) (by simpa using hc)
/-- How the items stand when j pairs have been turned. -/
def Swapped (il j : Nat) (us us' : List Value) : Prop := us'.length = il ∧ (∀ u ∈ us', u.cells.size = 5) ∧ ∀ p, p < il → us'[p]? = if p < j ∨ il ≤ p + j then us[il - 1 - p]? else us[p]?

theorem Swapped.zero {us : List Value} {il : Nat} (hl : us.length = il) (h5 : ∀ u ∈ us, u.cells.size = 5) : Swapped il 0 us us := ⟨hl, h5, fun p hp => by rw [if_neg (by omega)]⟩
theorem Swapped.next {us us' : List Value} {il j p : Nat} {u1 u2 : Value} (h : Swapped il j us us') (hp : il - 1 - j = p) (hj : j < il / 2) (h1 : us[j]? = some u1) (h2 : us[p]? = some u2) (s1 : u1.cells.size = 5) (s2 : u2.cells.size = 5) : Swapped il (j + 1) us ((us'.set j u2).set p u1) := by
  obtain ⟨a, b, c⟩ := h
  refine ⟨by simpa using a, fun u hu => ?_, fun q hq => ?_⟩
  · rcases List.mem_or_eq_of_mem_set hu with hu | rfl
    · rcases List.mem_or_eq_of_mem_set hu with hu | rfl
      · exact b u hu
      · exact s2
    · exact s1
  · by_cases e1 : q = p
    · subst e1
      rw [List.getElem?_set_self (by simp; omega), if_pos (by omega), show il - 1 - q = j by omega, h1]
    · rw [List.getElem?_set_ne (Ne.symm e1)]
      by_cases e2 : q = j
      · subst e2
        rw [List.getElem?_set_self (by omega), if_pos (by omega), hp, h2]
      · rw [List.getElem?_set_ne (Ne.symm e2), c q hq]
        by_cases e3 : q < j ∨ il ≤ q + j
        · rw [if_pos e3, if_pos (by omega)]
        · rw [if_neg e3, if_neg (by omega)]
theorem Swapped.done {us us' : List Value} {il : Nat} (h : Swapped il (il / 2) us us') : ∀ p, p < il → us'[p]? = us[il - 1 - p]? := by
  intro p hp
  rw [h.2.2 p hp]
  split
  · rfl
  · rw [show il - 1 - p = p by omega]
theorem kept_five (w : World) (g o0 o1 o2 o3 o4 : Nat) (a b c d e : Value) : Kept (· ≠ g) w (((((w.setCell ⟨g, o0, none⟩ a).setCell ⟨g, o1, none⟩ b).setCell ⟨g, o2, none⟩ c).setCell ⟨g, o3, none⟩ d).setCell ⟨g, o4, none⟩ e) :=
  (((((Kept.refl _ w).setCell (.inr (by simp)) _).setCell (.inr (by simp)) _).setCell (.inr (by simp)) _).setCell (.inr (by simp)) _).setCell (.inr (by simp)) _

/-- How the items stand when i of them have been seen to. -/
structure Seen (fss : List (List Nat)) (xs : List J) (us ri : List Value) (il : Nat) (ia : Option Addr) (i : Nat) (vs : List Value) (w : World) : Prop where
  len : vs.length = il
  form : ∀ (j : Nat) u, vs[j]? = some u → ∃ k n t na nl nc ia il ic, u = jotV k n t (.slice na nl nc) (.slice ia il ic)
  row : RowU w ia vs ri
  old : ∀ j, i ≤ j → j < il → vs[j]? = us[il - 1 - j]?
  own : ∀ j, i ≤ j → j < il → ∀ x, xs[il - 1 - j]? = some x → JOwn w x (us.getD (il - 1 - j) .nilIface) (fss.getD (il - 1 - j) [])
  new : ∀ j, j < i → ∀ x, xs[il - 1 - j]? = some x → JIn (· ∈ fss.getD (il - 1 - j) []) w (bumpJ (turnP x)) (vs.getD j .nilIface)
theorem Seen.five {fss : List (List Nat)} {xs : List J} {us ri : List Value} {il : Nat} {ia : Option Addr} {i : Nat} {vs : List Value} {w : World} (h : Seen fss xs us ri il ia i vs w) : ∀ u ∈ vs, u.cells.size = 5 := by
  intro u hu
  obtain ⟨j, hj⟩ := List.mem_iff_getElem?.1 hu
  obtain ⟨_, _, _, _, _, _, _, _, _, rfl⟩ := h.form j u hj
  rfl
theorem JOwn.keptB {w w' : World} {x : J} {v : Value} {fp : List Nat} {ok : Nat → Prop} (h : JOwn w x v fp) (hk : Kept ok w w') (ho : ∀ b ∈ fp, ok b) : JOwn w' x v fp := h.kept hk.size fun b hb => hk.block b (h.lt b hb) (ho b hb)
/-- Blocks elsewhere are written. -/
theorem Seen.kept {fss : List (List Nat)} {xs : List J} {us ri : List Value} {il : Nat} {ia : Option Addr} {i : Nat} {vs : List Value} {w w' : World} {ok : Nat → Prop} (h : Seen fss xs us ri il ia i vs w) (hk : Kept ok w w') (h1 : ∀ b, b ∈ fss.flatten → ok b) (h2 : ∀ g, ia = some ⟨g, 0, none⟩ → g < w.heap.size ∧ ok g) : Seen fss xs us ri il ia i vs w' :=
  ⟨h.len, h.form, h.row.kept hk (fun g e => (h2 g e).1) (fun g e => (h2 g e).2), h.old, fun j h3 h4 x hx => (h.own j h3 h4 x hx).keptB hk fun b hb => h1 b (getD_mem_flat hb), fun j h3 x hx => (h.new j h3 x hx).kept hk fun b _ hb => h1 b (getD_mem_flat hb)⟩
theorem set_same {α : Type} {l : List α} {i : Nat} {u : α} (h : l[i]? = some u) : l.set i u = l := by
  apply List.ext_getElem?
  intro j
  by_cases e : i = j
  · subst e
    rw [List.getElem?_set_self (List.getElem?_eq_some_iff.1 h).1, h]
  · rw [List.getElem?_set_ne e]
/-- One item more. -/
theorem Seen.next {fss : List (List Nat)} {xs : List J} {us ri : List Value} {il : Nat} {ia : Option Addr} {i : Nat} {vs : List Value} {w w' : World} {u' : Value} (h : Seen fss xs us ri il ia i vs w) (hi : i < il) (hd : ∀ i j b, i ≠ j → b ∈ fss.getD i [] → b ∉ fss.getD j [])
    (hg : ∀ g, ia = some ⟨g, 0, none⟩ → g ∉ fss.flatten) (hk : Kept (fun b => b ∉ fss.getD (il - 1 - i) [] ∧ ia ≠ some ⟨b, 0, none⟩) w w') (hr : RowU w' ia (vs.set i u') ri) (hu : ∃ k n t na nl nc ia il ic, u' = jotV k n t (.slice na nl nc) (.slice ia il ic))
    (hJ : ∀ x, xs[il - 1 - i]? = some x → JIn (· ∈ fss.getD (il - 1 - i) []) w' (bumpJ (turnP x)) u') : Seen fss xs us ri il ia (i + 1) (vs.set i u') w' := by
  have hok : ∀ j, j ≠ i → j < il → ∀ b, b ∈ fss.getD (il - 1 - j) [] → b ∉ fss.getD (il - 1 - i) [] ∧ ia ≠ some ⟨b, 0, none⟩ := fun j hj hl b hb => ⟨hd _ _ b (by omega) hb, fun e => hg b e (getD_mem_flat hb)⟩
  refine ⟨by rw [List.length_set]; exact h.len, fun j u hj => ?_, hr, fun j h3 h4 => ?_, fun j h3 h4 x hx => ?_, fun j h3 x hx => ?_⟩
  · by_cases e : i = j
    · subst e
      rw [List.getElem?_set_self (by have := h.len; omega)] at hj
      obtain rfl : u' = u := by simpa using hj
      exact hu
    · rw [List.getElem?_set_ne e] at hj
      exact h.form j u hj
  · rw [List.getElem?_set_ne (by omega)]
    exact h.old j (by omega) h4
  · exact (h.own j (by omega) h4 x hx).keptB hk (hok j (by omega) h4)
  · by_cases e : i = j
    · subst e
      have e2 : (vs.set i u').getD i .nilIface = u' := by rw [List.getD_eq_getElem?_getD, List.getElem?_set_self (by have := h.len; omega)]; rfl
      rw [e2]
      exact hJ x hx
    · have e2 : (vs.set i u').getD j .nilIface = vs.getD j .nilIface := by rw [List.getD_eq_getElem?_getD, List.getElem?_set_ne e, ← List.getD_eq_getElem?_getD]
      rw [e2]
      exact (h.new j (by omega) x hx).kept hk fun b _ hb => hok j (by omega) (by omega) b hb
theorem JIn.bump {ok : Nat → Prop} {w : World} {x : J} {nv iv : Value} {k n : Int} {t : List UInt8} (h : JIn ok w x (jotV k n t nv iv)) (hk : k = 3) : JIn ok w (bumpJ x) (jotV k (IntKind.i64.wrap (n + 1)) t nv iv) := by
  cases h with | mk _ _ _ ns xs _ _ us hr hn hi h =>
  subst hk
  rw [bumpJ, if_pos rfl]
  refine .mk _ _ _ ns xs nv iv us ⟨hr.1, hr.2.1, ?_, ?_, hr.2.2.2.2⟩ hn hi h <;> rw [IntKind.wrap_i64] <;> omega
theorem JIn.nobump {ok : Nat → Prop} {w : World} {x : J} {nv iv : Value} {k n : Int} {t : List UInt8} (h : JIn ok w x (jotV k n t nv iv)) (hk : k ≠ 3) : JIn ok w (bumpJ x) (jotV k n t nv iv) := by
  cases h with | mk _ _ _ ns xs _ _ us hr hn hi h =>
  rw [bumpJ, if_neg hk]
  exact .mk _ _ _ ns xs nv iv us hr hn hi h
/-- What turns leaves. -/
theorem Seen.turned {fss : List (List Nat)} {xs : List J} {us ri rn : List Value} {il nl : Nat} {na ia : Option Addr} {vs : List Value} {w : World} {fp : List Nat} {ns : List (List UInt8)} {nc ic : Nat} {k n : Int} {t : List UInt8} (h : Seen fss xs us ri il ia il vs w) (hx : xs.length = il) (hn : ns.length = nl) (hr : Rng k n t ns xs.length) (hs : ∀ l ∈ ns, l.length ≤ 4611686018427387904)
    (hN : RowN w na (ns.map (· ++ [122])) rn) (hci : ∀ g, ia = some ⟨g, 0, none⟩ → il ≤ ic) (hcn : ∀ g, na = some ⟨g, 0, none⟩ → nl ≤ nc) (hD : ∀ j b, b ∈ fss.getD j [] → b ∈ fp) (hDi : ∀ g, ia = some ⟨g, 0, none⟩ → g ∈ fp ∧ g < w.heap.size) (hDn : ∀ g, na = some ⟨g, 0, none⟩ → g ∈ fp ∧ g < w.heap.size) :
    JIn (· ∈ fp) w (turnP (.mk k n t ns xs)) (jotV k n t (.slice na nl nc) (.slice ia il ic)) := by
  rw [turnP]
  have hl := turnAll_len xs
  refine .mk _ _ _ _ _ _ _ (fun j => vs.getD j .nilIface) ⟨hr.1, hr.2.1, hr.2.2.1, hr.2.2.2.1, hr.2.2.2.2.1, by rw [List.length_map]; exact hr.2.2.2.2.2.1, fun l hl => ?_, by rw [hl]; exact hr.2.2.2.2.2.2.2⟩ ?_ ?_ fun j y hy => ?_
  · obtain ⟨m, hm, rfl⟩ := List.mem_map.1 hl
    have := hs m hm
    rw [List.length_append]
    simp only [List.length_cons, List.length_nil]
    omega
  · rcases hN with e | ⟨g, e, hg⟩
    · have e0 : nl = 0 := by rw [← hn]; have := congrArg List.length e; simpa using this
      exact .inl ⟨_, _, by rw [e0], e⟩
    · refine .inr ⟨g, 0, nc, by rw [e, List.length_map, hn], by rw [List.length_map, hn]; exact hcn g e, (hDn g e).1, (hDn g e).2, fun j l hj => ?_⟩
      rw [Nat.zero_add]
      exact RowN.cell hg hj
  · rw [hl, hx]
    rcases h.row with e | ⟨g, e, hg⟩
    · have e0 : il = 0 := by rw [← h.len, e]; rfl
      exact .inl ⟨_, _, by rw [e0], e0⟩
    · refine .inr ⟨g, 0, ic, by rw [e], hci g e, (hDi g e).1, (hDi g e).2, fun j hj => ?_⟩
      obtain ⟨u, hu⟩ : ∃ u, vs[j]? = some u := ⟨vs[j]'(by have := h.len; omega), List.getElem?_eq_getElem _⟩
      obtain ⟨k', n', t', a1, a2, a3, a4, a5, a6, rfl⟩ := h.form j u hu
      obtain ⟨c0, c1, c2, c3, c4⟩ := RowU.cells hg h.five hu
      have e2 : vs.getD j .nilIface = jotV k' n' t' (.slice a1 a2 a3) (.slice a4 a5 a6) := by rw [List.getD_eq_getElem?_getD, hu]; rfl
      show Cells5 w g (0 + j * 5) (vs.getD j .nilIface)
      rw [e2, Nat.zero_add]
      exact ⟨_, _, _, _, _, _, _, _, _, rfl, c0, c1, c2, c3, c4⟩
  · obtain ⟨hj, x, hxj, rfl⟩ := turnAll_at hy
    rw [hx] at hj hxj
    exact (h.new j hj x hxj).mono fun b _ hb => hD _ b hb

set_option maxHeartbeats 16000000 in
set_option maxRecDepth 100000 in
theorem turns_any : ∀ x : J, ∀ (v : Value) (fp : List Nat) (w : World), JOwn w x v fp → fp.Nodup → Fine x → Few 1000000 x → Short9 x →
    Calls Tryz.prog 15 #[v] w fun e w' => e = .returned (.tuple #[]) ∧ JIn (· ∈ fp) w' (turnP x) v ∧ Kept (· ∉ fp) w w' := by
  refine J.ind fun k n t ns xs IH => ?_
  intro v fp w hx hnd hfine hf hs
  have hltA := hx.lt
  cases hx with
  | mk _ _ _ _ _ nv iv us fss hu hfl hn hi h =>
  have hform : ∀ (p : Nat) u, us[p]? = some u → ∃ k n t na nl nc ia il ic, u = jotV k n t (.slice na nl nc) (.slice ia il ic) := by
    intro p u hp
    have hlt := (List.getElem?_eq_some_iff.1 hp).1
    obtain ⟨a1, a2, a3, a4, a5, a6, e⟩ := (h p (xs[p]'(by omega)) (List.getElem?_eq_getElem _)).form2
    rw [List.getD_eq_getElem?_getD, hp] at e
    exact ⟨_, _, _, _, _, _, _, _, _, e⟩
  have h5 : ∀ u ∈ us, u.cells.size = 5 := by
    intro u hu2
    obtain ⟨p, hp⟩ := List.mem_iff_getElem?.1 hu2
    obtain ⟨_, _, _, _, _, _, _, _, _, rfl⟩ := hform p u hp
    rfl
  have hltn := hn.lt
  have hlti := hi.lt
  obtain ⟨na, nc, rn, rfl, hRN, hcn, hbn⟩ := RowN.of hn rfl
  obtain ⟨ia, ic, ri, rfl, hRU, hci, hbi⟩ := RowU.of hi hu.symm
  obtain ⟨hr, hfx⟩ := hfine.inv
  obtain ⟨hf1, hf2, hf3⟩ := hf.inv
  obtain ⟨hs1, hs2, hs3⟩ := hs.inv
  simp only [J.names, J.items, J.kind, J.num, J.text] at hr hfx hf1 hf2 hf3 hs1 hs2 hs3
  obtain ⟨nl, hnl⟩ : ∃ y, ns.length = y := ⟨_, rfl⟩
  obtain ⟨il, hil⟩ : ∃ y, us.length = y := ⟨_, rfl⟩
  have hxl : xs.length = il := by omega
  obtain ⟨hp1, hp2, hp3⟩ := List.nodup_append.1 hnd
  obtain ⟨hp4, hp5, hp6⟩ := List.nodup_append.1 hp1
  obtain ⟨hd1, hd2⟩ := flat_apart hp2
  have hDn : ∀ g, na = some ⟨g, 0, none⟩ → g ∈ (Value.slice na ns.length nc).ownBlock.toList ++ (Value.slice ia us.length ic).ownBlock.toList ++ fss.flatten ∧ g ∉ fss.flatten ∧ ia ≠ some ⟨g, 0, none⟩ ∧ g < w.heap.size := by
    rintro g rfl
    have hg : g ∈ (Value.slice (some ⟨g, 0, none⟩) ns.length nc).ownBlock.toList := by simp [Value.ownBlock]
    refine ⟨List.mem_append_left _ (List.mem_append_left _ hg), fun e => hp3 g (List.mem_append_left _ hg) g e rfl, ?_, (hltn g rfl).2⟩
    rintro rfl
    exact hp6 g hg g (by simp [Value.ownBlock]) rfl
  have hDi : ∀ g, ia = some ⟨g, 0, none⟩ → g ∈ (Value.slice na ns.length nc).ownBlock.toList ++ (Value.slice ia us.length ic).ownBlock.toList ++ fss.flatten ∧ g ∉ fss.flatten ∧ g < w.heap.size := by
    rintro g rfl
    have hg : g ∈ (Value.slice (some ⟨g, 0, none⟩) us.length ic).ownBlock.toList := by simp [Value.ownBlock]
    exact ⟨List.mem_append_left _ (List.mem_append_right _ hg), fun e => hp3 g (List.mem_append_right _ hg) g e rfl, (hlti g rfl).2⟩
  have hDs : ∀ j b, b ∈ fss.getD j [] → b ∈ (Value.slice na ns.length nc).ownBlock.toList ++ (Value.slice ia us.length ic).ownBlock.toList ++ fss.flatten := fun j b hb => List.mem_append_right _ (getD_mem_flat hb)
  obtain ⟨fp, hfp⟩ : ∃ fp, (Value.slice na ns.length nc).ownBlock.toList ++ (Value.slice ia us.length ic).ownBlock.toList ++ fss.flatten = fp := ⟨_, rfl⟩
  rw [hfp] at hDn hDi hDs hnd hltA ⊢
  have HDL := Lib.hid hltA
  rw [hnl] at hcn ⊢
  rw [hil] at hci ⊢
  have HD := Lib.hid (And.intro hDn (And.intro hDi (And.intro hDs (And.intro hd1 hd2))))
  have HU := Lib.hid (And.intro hform (And.intro h5 (And.intro hRU (And.intro hRN (And.intro hil (And.intro hnl (And.intro hxl hfl)))))))
  have HI := Lib.hid h
  have HIH := Lib.hid IH
  have HRR := Lib.hid (And.intro hr (And.intro hfx (And.intro hf3 (And.intro hs2 hs3))))
  have hil6 : il ≤ 1000000 := by omega
  have hnl6 : nl ≤ 1000000 := by omega
  have HC := Lib.hid (And.intro hcn hci)
  clear hDn hDi hDs hd1 hd2 hp1 hp2 hp3 hp4 hp5 hp6 hform h5 hRU hRN hil hnl hxl hfl h IH hr hfx hf1 hf2 hf3 hs1 hs2 hs3 hnd hfp hn hi hu hfine hf hs hltn hlti hbn hbi hcn hci hltA
  obtain ⟨W0, hW0⟩ : ∃ W0, w.alloc (.cells #[.int .i64 k, .int .i64 n, S t, .slice na nl nc, .slice ia il ic] 25) = W0 := ⟨_, rfl⟩
  have hk0 : Kept (fun _ => True) w W0 := by rw [← hW0]; exact (Kept.refl _ w).alloc _
  have hz0 : W0.heap.size = w.heap.size + 1 := by rw [← hW0]; simp
  have hbox : OutAt w.heap.size k n t (.slice na nl nc) (.slice ia il ic) W0 := by rw [← hW0]; exact OutAt.new w _ _ _ _ _
  obtain ⟨o0, o1, o2, o3, o4, o5, o6⟩ := hbox.facts
  have HBOX := Lib.hid hbox
  have HK0 := Lib.hid (And.intro hk0 hz0)
  clear hbox hk0 hz0
  go_enter Tryz.func15, Tryz.ntmps15
  go_wp2
  go_loopg [3] (il / 2) (fun q i wr => ∃ (j : Nat) (us' : List Value), i = .int .i64 j ∧ q = il / 2 - j ∧ j ≤ il / 2 ∧ Hid (Swapped il j us us') ∧ Hid (RowU wr ia us' ri) ∧ OutAt w.heap.size k n t (.slice na nl nc) (.slice ia il ic) wr ∧ Kept (fun b => ia ≠ some ⟨b, 0, none⟩) W0 wr)
  case atStart =>
    exact ⟨0, us, rfl, by omega, Nat.zero_le _, Lib.hid (Swapped.zero HU.out.2.2.2.2.1 HU.out.2.1), Lib.hid (HU.out.2.2.1.kept (HK0.out.1) fun g e => (HD.out.2.1 g e).2.2), HBOX.out, Kept.refl _ _⟩
  case round =>
    obtain ⟨j, us', rfl, rfl, hjl, hsw, hru, hbo, hk⟩ := hrel
    clear hW0 o0 o1 o2 o3 o4 o5 o6
    obtain ⟨o0, o1, o2, o3, o4, o5, o6⟩ := hbo.facts
    by_cases hlt : j < il / 2
    · obtain ⟨p, hp⟩ : ∃ p, il - 1 - j = p := ⟨_, rfl⟩
      have hu1 : us'[j]? = us[j]? := by rw [hsw.out.2.2 j (by omega), if_neg (by omega)]
      have hu2 : us'[p]? = us[p]? := by rw [hsw.out.2.2 p (by omega), if_neg (by omega)]
      have hul := HU.out.2.2.2.2.1
      obtain ⟨u1, hv1⟩ : ∃ u1, us[j]? = some u1 := ⟨us[j]'(by omega), List.getElem?_eq_getElem _⟩
      obtain ⟨u2, hv2⟩ : ∃ u2, us[p]? = some u2 := ⟨us[p]'(by omega), List.getElem?_eq_getElem _⟩
      obtain ⟨k1, n1, t1, na1, nl1, nc1, ia1, il1, ic1, rfl⟩ := HU.out.1 j u1 hv1
      obtain ⟨k2, n2, t2, na2, nl2, nc2, ia2, il2, ic2, rfl⟩ := HU.out.1 p u2 hv2
      rw [hv1] at hu1
      rw [hv2] at hu2
      obtain ⟨gi, rfl, hrow⟩ : ∃ g, ia = some ⟨g, 0, none⟩ ∧ wr.heap[g]? = some (.cells (jotCells us' ++ ri).toArray 25 (0, 0)) := by
        rcases hru.out with e | e
        · rw [e] at hu1; simp at hu1
        · exact e
      obtain ⟨c0, c1, c2, c3, c4⟩ := RowU.cells hrow hsw.out.2.1 hu1
      obtain ⟨d0, d1, d2, d3, d4⟩ := RowU.cells hrow hsw.out.2.1 hu2
      have hpix : (il : Int) - 1 - (j : Int) = (p : Int) := by omega
      have hpl : p < il := by omega
      have hjil : j < il := by omega
      have hlt' : (j : Int) < (il : Int) / 2 := by omega
      have HROW := Lib.hid hrow
      have HUU := Lib.hid (And.intro hu1 hu2)
      have HBO := Lib.hid hbo
      have HJP := Lib.hid hp
      have HU1 := Lib.hid (And.intro hv1 hv2)
      clear hul hv1 hv2 hrow hru hp hbo
      go_wp2
      obtain ⟨W1, hW1⟩ : ∃ W1, wr.alloc (.cells #[.int .i64 k1, .int .i64 n1, S t1, .slice na1 nl1 nc1, .slice ia1 il1 ic1] 25) = W1 := ⟨_, rfl⟩
      have hka : Kept (fun _ => True) wr W1 := by rw [← hW1]; exact (Kept.refl _ _).alloc _
      have hbx : OutAt wr.heap.size k1 n1 t1 (.slice na1 nl1 nc1) (.slice ia1 il1 ic1) W1 := by rw [← hW1]; exact OutAt.new _ _ _ _ _ _
      have hrow1 := (hka.block gi (Array.getElem?_eq_some_iff.1 HROW.out).1 trivial).trans HROW.out
      have hbo1 := HBO.out.kept hka trivial
      rw [hW1]
      clear c0 c1 c2 c3 c4 d0 d1 d2 d3 d4 o0 o1 o2 o3 o4 o5 o6 hW1
      obtain ⟨c0, c1, c2, c3, c4⟩ := RowU.cells hrow1 hsw.out.2.1 hu1
      obtain ⟨d0, d1, d2, d3, d4⟩ := RowU.cells hrow1 hsw.out.2.1 hu2
      obtain ⟨o0, o1, o2, o3, o4, o5, o6⟩ := hbo1.facts
      have fz : ∀ o, W1.frozen? ⟨gi, o, none⟩ = false := fun o => frozen_row hrow1 o
      have f0 := fz (j * 5)
      have f1 := fz (j * 5 + 1)
      have f2 := fz (j * 5 + 2)
      have f3 := fz (j * 5 + 3)
      have f4 := fz (j * 5 + 4)
      have HR1 := Lib.hid hrow1
      have HBX := Lib.hid hbx
      have HBO1 := Lib.hid hbo1
      have HKA := Lib.hid hka
      clear hu1 hu2 hrow1 hbx hbo1 hka fz
      have HDg := (HD.out.2.1 gi rfl)
      go_region
      all_goals
        obtain ⟨W2, hW2⟩ : ∃ W2, (((((W1.setCell ⟨gi, j * 5, none⟩ (.int .i64 k2)).setCell ⟨gi, j * 5 + 1, none⟩ (.int .i64 n2)).setCell ⟨gi, j * 5 + 2, none⟩ (S t2)).setCell ⟨gi, j * 5 + 3, none⟩ (.slice na2 nl2 nc2)).setCell ⟨gi, j * 5 + 4, none⟩ (.slice ia2 il2 ic2)).drew = W2 := ⟨_, rfl⟩
        have hrow2 : W2.heap[gi]? = some (.cells (jotCells (us'.set j (jotV k2 n2 t2 (.slice na2 nl2 nc2) (.slice ia2 il2 ic2))) ++ ri).toArray 25 (0, 0)) := by
          rw [← hW2]
          exact RowU.set HR1.out hsw.out.2.1 HUU.out.1 _ _ _ _ _
        have hk12 : Kept (· ≠ gi) W1 W2 := by rw [← hW2]; exact (kept_five _ _ _ _ _ _ _ _ _ _ _ _).drew
        rw [hW2]
        have hg0 := HK0.out.2
        have hgr := hk.size
        have hbo2 := HBO1.out.kept hk12 (by omega)
        have hbx2 := HBX.out.kept hk12 (by omega)
        have hu1 := HUU.out.1
        have hu2 := HUU.out.2
        have hjp := HJP.out
        have fz2 : ∀ o, W2.frozen? ⟨gi, o, none⟩ = false := fun o => frozen_row hrow2 o
        clear c0 c1 c2 c3 c4 d0 d1 d2 d3 d4 o0 o1 o2 o3 o4 o5 o6 f0 f1 f2 f3 f4 hW2
        obtain ⟨o0, o1, o2, o3, o4, o5, o6⟩ := hbo2.facts
        obtain ⟨b0, b1, b2, b3, b4, b5, b6⟩ := hbx2.facts
        have f0 := fz2 (p * 5)
        have f1 := fz2 (p * 5 + 1)
        have f2 := fz2 (p * 5 + 2)
        have f3 := fz2 (p * 5 + 3)
        have f4 := fz2 (p * 5 + 4)
        have hne : j ≠ p := by omega
        have hu2' : (us'.set j (jotV k2 n2 t2 (.slice na2 nl2 nc2) (.slice ia2 il2 ic2)))[p]? = some (jotV k2 n2 t2 (.slice na2 nl2 nc2) (.slice ia2 il2 ic2)) := by rw [List.getElem?_set_ne hne]; exact hu2
        have h52 : ∀ u ∈ us'.set j (jotV k2 n2 t2 (.slice na2 nl2 nc2) (.slice ia2 il2 ic2)), u.cells.size = 5 := fun u hu => by
          rcases List.mem_or_eq_of_mem_set hu with hu | rfl
          · exact hsw.out.2.1 u hu
          · rfl
        obtain ⟨e0, e1, e2, e3, e4⟩ := RowU.cells hrow2 h52 hu2'
        have HR2 := Lib.hid (RowU.set hrow2 h52 hu2' (.int .i64 k1) (.int .i64 n1) (S t1) (.slice na1 nl1 nc1) (.slice ia1 il1 ic1))
        have HSW := Lib.hid (hsw.out.next hjp (by omega) (HU1.out.1) (HU1.out.2) rfl rfl)
        have HK2 : Hid (Kept (fun b => some (⟨gi, 0, none⟩ : Addr) ≠ some ⟨b, 0, none⟩) W0 W2) := Lib.hid ((hk.tr (HKA.out.mono fun _ _ _ => trivial)).trans hk12 fun i hi h e => h (by rw [e]))
        have HBO2 := Lib.hid hbo2
        clear hu1 hu2 hu2' h52 hbx2 hbo2 hrow2 hk12 fz2 hjp hne
        go_wp2
        go_roundg (il / 2 - (j + 1))
        case rel =>
          refine ⟨j + 1, _, by go_num, rfl, by omega, HSW, Lib.hid (.inr ⟨gi, rfl, HR2.out⟩), (HBO2.out.kept (kept_five _ _ _ _ _ _ _ _ _ _ _ _) (by omega)), HK2.out.trans (kept_five _ _ _ _ _ _ _ _ _ _ _ _) fun i hi h e => h (by rw [e])⟩
        case measure => omega
    · obtain rfl : j = il / 2 := by omega
      have hsd := hsw.out.done
      have hkd : ∀ b, b ∈ fss.flatten → ia ≠ some ⟨b, 0, none⟩ := fun b hb e => (HD.out.2.1 b e).2.1 hb
      have hk0 := HK0.out
      have hkw : Kept (fun b => ia ≠ some ⟨b, 0, none⟩) w wr := (hk0.1.mono fun _ _ _ => trivial).trans hk fun _ _ h => h
      have hseen : Seen fss xs us ri il ia 0 us' wr := by
        refine ⟨hsw.out.1, fun j u hj => ?_, hru.out, fun j _ hj => hsd j hj, fun j _ hj x hx => (HI.out _ x hx).keptB hkw fun b hb => hkd b (getD_mem_flat hb), fun j hj => by omega⟩
        have hjl : j < il := by rw [← hsw.out.1]; exact (List.getElem?_eq_some_iff.1 hj).1
        rw [hsd j hjl] at hj
        exact HU.out.1 _ u hj
      have HS0 := Lib.hid hseen
      have HN0 := Lib.hid (HU.out.2.2.2.1.kept hkw (fun g e => (HD.out.1 g e).2.2.2) (fun g e => (HD.out.1 g e).2.2.1))
      have HKW : Hid (Kept (· ∉ fp) W0 wr) := Lib.hid (hk.mono fun b _ h e => h (HD.out.2.1 b e).1)
      have HBO := Lib.hid hbo
      clear hsd hkd hkw hseen hsw hru hk hbo hk0
      go_wp2
      go_loopg [5] il (fun q i wr => ∃ (j : Nat) (vs : List Value), i = .int .i64 j ∧ q = il - j ∧ j ≤ il ∧ Hid (Seen fss xs us ri il ia j vs wr) ∧ Hid (RowN wr na ns rn) ∧ OutAt w.heap.size k n t (.slice na nl nc) (.slice ia il ic) wr ∧ Kept (· ∉ fp) W0 wr)
      case atStart => exact ⟨0, us', rfl, by omega, Nat.zero_le _, HS0, HN0, HBO.out, HKW.out⟩
      case round =>
        clear HS0 HN0 HBO HKW o0 o1 o2 o3 o4 o5 o6 hlt
        obtain ⟨j, vs, rfl, rfl, hjl, hseen, hrn, hbo, hk⟩ := hrel
        have hgr := hk.size
        have hg0 := HK0.out.2
        obtain ⟨o0, o1, o2, o3, o4, o5, o6⟩ := hbo.facts
        have HBO := Lib.hid hbo
        clear hbo
        by_cases hlt : j < il
        · obtain ⟨x, hx⟩ : ∃ x, xs[il - 1 - j]? = some x := ⟨xs[il - 1 - j]'(by have := HU.out.2.2.2.2.2.2.1; omega), List.getElem?_eq_getElem _⟩
          have hown := hseen.out.own j (Nat.le_refl _) hlt x hx
          have hold := hseen.out.old j (Nat.le_refl _) hlt
          obtain ⟨ax, al, ac, bx, bl, bc, hvx⟩ := hown.form2
          have hvj : vs[j]? = some (jotV x.kind x.num x.text (.slice ax al ac) (.slice bx bl bc)) := by
            rw [hold, ← hvx, List.getD_eq_getElem?_getD, List.getElem?_eq_getElem (by have := HU.out.2.2.2.2.1; omega)]
            rfl
          rw [hvx] at hown
          obtain ⟨gi, rfl, hrow⟩ : ∃ g, ia = some ⟨g, 0, none⟩ ∧ wr.heap[g]? = some (.cells (jotCells vs ++ ri).toArray 25 (0, 0)) := by
            rcases hseen.out.row with e | e
            · rw [e] at hvj; simp at hvj
            · exact e
          have hgi := HD.out.2.1 gi rfl
          have hfr : gi ∉ fss.getD (il - 1 - j) [] := fun e => hgi.2.1 (getD_mem_flat e)
          obtain ⟨c0, c1, c2, c3, c4⟩ := RowU.cells hrow hseen.out.five hvj
          have hcall := HIH.out x (List.mem_of_getElem? hx) _ _ wr hown (HD.out.2.2.2.1 _) (HRR.out.2.1 _ x hx) (HRR.out.2.2.1 _ x hx) (HRR.out.2.2.2.2 _ x hx)
          obtain ⟨fr, hfrr⟩ : ∃ fr, fss.getD (il - 1 - j) [] = fr := ⟨_, rfl⟩
          rw [hfrr] at hcall hfr
          have HF : Hid (fss.getD (il - 1 - j) [] = fr ∧ ∀ b ∈ fr, b ∈ fp) := Lib.hid ⟨hfrr, fun b hb => HD.out.2.2.1 (il - 1 - j) b (by rw [hfrr]; exact hb)⟩
          have HX := Lib.hid hx
          have HVJ := Lib.hid hvj
          have HROW := Lib.hid hrow
          obtain ⟨kx, hkx⟩ : ∃ y, x.kind = y := ⟨_, rfl⟩
          obtain ⟨nx, hnx⟩ : ∃ y, x.num = y := ⟨_, rfl⟩
          obtain ⟨tx, htx⟩ : ∃ y, x.text = y := ⟨_, rfl⟩
          rw [hkx, hnx, htx] at hcall HVJ
          rw [hkx] at c0
          rw [hnx] at c1
          rw [htx] at c2
          clear hown hold hvx hvj hrow hfrr hx hkx hnx htx
          go_wp2_with fail
          refine hcall.mono ?_
          rintro e w5 ⟨rfl, hin5, hk5⟩
          have hbo5 := HBO.out.kept hk5 (fun e => by have := HF.out.2 _ e; have := HDL.out _ this; omega)
          have hrow5 := (hk5.block gi (by omega) hfr).trans HROW.out
          clear c0 c1 c2 c3 c4 o0 o1 o2 o3 o4 o5 o6 hcall
          obtain ⟨o0, o1, o2, o3, o4, o5, o6⟩ := hbo5.facts
          obtain ⟨c0, c1, c2, c3, c4⟩ := RowU.cells hrow5 hseen.out.five HVJ.out
          have HBO5 := Lib.hid hbo5
          have HROW5 := Lib.hid hrow5
          have HIN5 := Lib.hid hin5
          have HK5 := Lib.hid hk5
          have hz5 := hk5.size
          have hrn5 := hrn.out.kept hk5 (fun g e => by have := (HD.out.1 g e).2.2.2; omega) (fun g e h => (HD.out.1 g e).2.1 (getD_mem_flat (by rw [HF.out.1]; exact h)))
          have HRN5 := Lib.hid hrn5
          have hdd := HD.out.2.2.2.2
          have HDD := Lib.hid hdd
          clear hbo5 hrow5 hin5 hk5 hrn5 hdd
          by_cases hk3 : kx = 3
          · subst hk3
            obtain ⟨nz, hnz⟩ : ∃ nz, IntKind.i64.wrap (nx + 1) = nz := ⟨_, rfl⟩
            have hnz2 : wrap64 (nx + 1) = nz := by rw [← hnz, IntWalk.i64_left]
            have hfz : w5.frozen? ⟨gi, j * 5 + 1, none⟩ = false := frozen_row HROW5.out _
            have HNZ := Lib.hid hnz
            go_wp2
            have hks : Kept (· ≠ gi) w5 (w5.setCell ⟨gi, j * 5 + 1, none⟩ (.int .i64 nz)) := (Kept.refl _ _).setCell (.inr (by simp)) _
            have hnext : Seen fss xs us ri il (some ⟨gi, 0, none⟩) (j + 1) (vs.set j (jotV 3 nz tx (.slice ax al ac) (.slice bx bl bc))) (w5.setCell ⟨gi, j * 5 + 1, none⟩ (.int .i64 nz)) := by
              refine hseen.out.next hlt HDD.out (fun g e => (HD.out.2.1 g e).2.1) ?_ (.inr ⟨gi, rfl, RowU.set1 HROW5.out hseen.out.five HVJ.out _⟩) ⟨_, _, _, _, _, _, _, _, _, rfl⟩ (fun y hy => ?_)
              · refine (HK5.out.mono fun b _ h => ?_).trans hks fun b _ h e => h.2 (by rw [e])
                rw [HF.out.1] at h
                exact h.1
              · obtain rfl : x = y := by have := HX.out; rw [this] at hy; simpa using hy
                rw [HF.out.1]
                have hbb := HIN5.out.bump rfl
                rw [HNZ.out] at hbb
                exact hbb.kept hks fun b _ hb e => hfr (by rw [← e]; exact hb)
            go_roundg (il - (j + 1))
            case rel =>
              exact ⟨j + 1, _, by go_num, rfl, by omega, Lib.hid hnext, Lib.hid (HRN5.out.kept hks (fun g e => by have := (HD.out.1 g e).2.2.2; omega) (fun g e h => (HD.out.1 g e).2.2.1 (by rw [h]))), HBO5.out.kept hks (by omega), (hk.trans HK5.out fun b _ h e => h (HF.out.2 b e)).trans hks fun b _ h e => h (by rw [e]; exact hgi.1)⟩
            case measure => omega
          · have hk3' : ¬ (kx = 3) := hk3
            go_wp2
            have hnext : Seen fss xs us ri il (some ⟨gi, 0, none⟩) (j + 1) (vs.set j (jotV kx nx tx (.slice ax al ac) (.slice bx bl bc))) w5 := by
              refine hseen.out.next hlt HDD.out (fun g e => (HD.out.2.1 g e).2.1) ?_ (.inr ⟨gi, rfl, by rw [set_same HVJ.out]; exact HROW5.out⟩) ⟨_, _, _, _, _, _, _, _, _, rfl⟩ (fun y hy => ?_)
              · refine HK5.out.mono fun b _ h => ?_
                rw [HF.out.1] at h
                exact h.1
              · obtain rfl : x = y := by have := HX.out; rw [this] at hy; simpa using hy
                rw [HF.out.1]
                exact HIN5.out.nobump hk3
            go_roundg (il - (j + 1))
            case rel =>
              exact ⟨j + 1, _, by go_num, rfl, by omega, Lib.hid hnext, HRN5, HBO5.out, hk.trans HK5.out fun b _ h e => h (HF.out.2 b e)⟩
            case measure => omega
        · obtain rfl : il = j := by omega
          have HKR := Lib.hid hk
          clear hlt hk
          go_wp2
          go_loopg [6] nl (fun q i wr => ∃ j : Nat, i = .int .i64 j ∧ q = nl - j ∧ j ≤ nl ∧ Hid (Seen fss xs us ri il ia il vs wr) ∧ Hid (RowN wr na ((ns.take j).map (· ++ [122]) ++ ns.drop j) rn) ∧ OutAt w.heap.size k n t (.slice na nl nc) (.slice ia il ic) wr ∧ Kept (· ∉ fp) W0 wr)
          case atStart => exact ⟨0, rfl, by omega, Nat.zero_le _, hseen, Lib.hid (by rw [List.take_zero, List.map_nil, List.nil_append, List.drop_zero]; exact hrn.out), HBO.out, HKR.out⟩
          case round =>
            clear hseen hrn HBO HKR o0 o1 o2 o3 o4 o5 o6 hgr
            obtain ⟨j, rfl, rfl, hjl, hseen, hrn, hbo, hk⟩ := hrel
            have hgr := hk.size
            obtain ⟨o0, o1, o2, o3, o4, o5, o6⟩ := hbo.facts
            have HBO := Lib.hid hbo
            clear hbo
            by_cases hlt : j < nl
            · obtain ⟨l, hl⟩ : ∃ l, ns[j]? = some l := ⟨ns[j]'(by have := HU.out.2.2.2.2.2.1; omega), List.getElem?_eq_getElem _⟩
              have htl : ((ns.take j).map (· ++ [122])).length = j := by have := HU.out.2.2.2.2.2.1; rw [List.length_map, List.length_take]; omega
              have hlj : ((ns.take j).map (· ++ [122]) ++ ns.drop j)[j]? = some l := by rw [List.getElem?_append_right (by omega), htl, Nat.sub_self, List.getElem?_drop, Nat.add_zero]; exact hl
              obtain ⟨gn, rfl, hrow⟩ : ∃ g, na = some ⟨g, 0, none⟩ ∧ wr.heap[g]? = some (.cells (((ns.take j).map (· ++ [122]) ++ ns.drop j).map S ++ rn).toArray 9 (0, 0)) := by
                rcases hrn.out with e | e
                · rw [e] at hlj; simp at hlj
                · exact e
              have hcell := RowN.cell hrow hlj
              have hset := RowN.set hrow (i := j) (by rw [List.length_append, htl, List.length_drop]; have := HU.out.2.2.2.2.2.1; omega) (l ++ [122])
              have hnew : ((ns.take j).map (· ++ [122]) ++ ns.drop j).set j (l ++ [122]) = (ns.take (j + 1)).map (· ++ [122]) ++ ns.drop (j + 1) := by
                rw [List.set_append_right _ _ (by omega), htl, Nat.sub_self, List.take_add_one, hl, List.drop_eq_getElem_cons (by have := HU.out.2.2.2.2.2.1; omega), List.set_cons_zero, List.map_append, List.append_assoc]
                rfl
              rw [hnew] at hset
              have hfz : wr.frozen? ⟨gn, j, none⟩ = false := frozen_row hrow _
              have hll := HRR.out.2.2.2.1 l (List.mem_of_getElem? hl)
              obtain ⟨z, hz⟩ : ∃ z, l ++ [122] = z := ⟨_, rfl⟩
              have CT := run_cat (P := Tryz.prog) l [122] z hz (by simp only [List.length_cons, List.length_nil]; omega)
              rw [hz] at hset
              have HSET := Lib.hid hset
              have hgn := HD.out.1 gn rfl
              clear hset hz hll hrow hnew hlj htl hl
              go_wp2
              go_region
              all_goals
                have hks : Kept (· ≠ gn) wr (wr.setCell ⟨gn, j, none⟩ (S z)) := (Kept.refl _ _).setCell (.inr (by simp)) _
                have hks2 : Kept (· ≠ gn) wr (wr.setCell ⟨gn, j, none⟩ (S z)).drew := hks.drew
                go_wp2
                go_roundg (nl - (j + 1))
                case rel => exact ⟨j + 1, by go_num, rfl, by omega, Lib.hid (hseen.out.kept hks2 (fun b hb e => hgn.2.1 (by rw [← e]; exact hb)) (fun g e => ⟨by have := (HD.out.2.1 g e).2.2; omega, fun e2 => hgn.2.2.1 (by rw [e, e2])⟩)), Lib.hid (.inr ⟨gn, rfl, HSET.out⟩), HBO.out.kept hks2 (by omega), hk.trans hks2 fun b _ h e => h (by rw [e]; exact hgn.1)⟩
                case measure => omega
            · obtain rfl : nl = j := by omega
              go_wp2
              go_end0
              have hk0 := HK0.out
              refine ⟨rfl, hseen.out.turned (rn := rn) HU.out.2.2.2.2.2.2.1 HU.out.2.2.2.2.2.1 HRR.out.1 HRR.out.2.2.2.1 ?_ HC.out.2 HC.out.1 HD.out.2.2.1 (fun g e => ⟨(HD.out.2.1 g e).1, by have := (HD.out.2.1 g e).2.2; omega⟩) (fun g e => ⟨(HD.out.1 g e).1, by have := (HD.out.1 g e).2.2.2; omega⟩), (hk0.1.mono fun _ _ _ => trivial).trans hk fun _ _ h => h⟩
              have h9 := hrn.out
              rw [List.take_of_length_le (by have := HU.out.2.2.2.2.2.1; omega), List.drop_eq_nil_of_le (by have := HU.out.2.2.2.2.2.1; omega), List.append_nil] at h9
              exact h9
end Go.Proofs.YtmajpambfblhnaaGreatDoor
