/- The law of layer 5: two readers, and the document's, what came out of them, step by step. -/
import Derived.Test.YtaomhkgdbobpkaaGreatDoorWiTC
import Derived.Test.YtaomhkgdbobpkaaGreatDoorWiRow
namespace Go.Proofs.YtaomhkgdbobpkaaGreatDoor
open Go.RowKit Wi

/-- Lists of messages that came out: their rows, and where their headers' lists are among those of fields. -/
structure ColN (B : Nat) (us ws : List Value) (fs : List (List Fl)) (ms ns : List Value) (L N : List (List (R × Value))) (w : World) : Prop where
  lm : ms.length = L.length
  ln : ns.length = N.length
  ll : L.length = N.length
  om : ∀ (j : Nat) u l, ms[j]? = some u → L[j]? = some l → w.ownsRow 0 50 4 u l.length (outCells l)
  on : ∀ (j : Nat) u l, ns[j]? = some u → N[j]? = some l → w.ownsRow 0 50 4 u l.length (outCells l)
  same : ∀ (j : Nat) l k, L[j]? = some l → N[j]? = some k → msO l = msO k
  hm : ∀ l ∈ L, ∀ x ∈ l, ∃ j : Nat, us[j]? = some x.2 ∧ fs[j]? = some x.1.hs
  hn : ∀ l ∈ N, ∀ x ∈ l, ∃ j : Nat, ws[j]? = some x.2 ∧ fs[j]? = some x.1.hs
  nd : (blks ms).Nodup
  lo : ∀ b ∈ blks ms, B ≤ b
theorem ColN.nil (B : Nat) (w : World) : ColN B [] [] [] [] [] [] [] w := ⟨rfl, rfl, rfl, by simp, by simp, by simp, by simp, by simp, by simp [blks], by simp [blks]⟩
section
variable {B : Nat} {us ws : List Value} {fs : List (List Fl)} {ms ns : List Value} {L N : List (List (R × Value))} {w w' : World}
theorem ColN.kept {ok : Nat → Prop} (h : ColN B us ws fs ms ns L N w) (hk : Kept ok w w') (ho : ∀ (g : Nat) (c : Array Value), w.heap[g]? = some (.cells c 50 (0, 0)) → ok g) : ColN B us ws fs ms ns L N w' := by
  have k : ∀ (C : Nat) (v : Value) (n : Nat) (ys : List Value), w.ownsRow C 50 4 v n ys → w'.ownsRow C 50 4 v n ys := fun C v n ys h => ownsRow_kept h hk fun b hb => by
    obtain ⟨c, hc⟩ := own_typ h hb
    exact ho b c hc
  exact ⟨h.lm, h.ln, h.ll, fun j u l hu hl => k _ _ _ _ (h.om j u l hu hl), fun j u l hu hl => k _ _ _ _ (h.on j u l hu hl), h.same, h.hm, h.hn, h.nd, h.lo⟩
theorem ColN.keptT (h : ColN B us ws fs ms ns L N w) (hk : Kept (fun _ => True) w w') : ColN B us ws fs ms ns L N w' := h.kept hk fun _ _ _ => trivial
theorem ColN.colM (h : ColN B us ws fs ms ns L N w) (hc : ColF B us ws fs w) : ColM B ms ns L N w := by
  refine ⟨h.lm, h.ln, h.ll, h.om, h.on, h.same, fun l hl x hx => ?_, fun l hl x hx => ?_, h.nd, h.lo⟩
  · obtain ⟨j, h1, h2⟩ := h.hm l hl x hx
    exact hc.ou j _ _ h1 h2
  · obtain ⟨j, h1, h2⟩ := h.hn l hl x hx
    obtain ⟨u, hu⟩ := get_len h2 hc.lu.symm
    exact ⟨hc.ow j _ _ h1 h2, (hc.ou j _ _ hu h2).2⟩
theorem ColN.lt (h : ColN B us ws fs ms ns L N w) : ∀ b ∈ blks ms, b < w.heap.size := fun b hb => by
  obtain ⟨u, hu, hub⟩ := List.mem_filterMap.1 hb
  obtain ⟨j, hj, rfl⟩ := List.getElem_of_mem hu
  obtain ⟨l, hl⟩ := get_len (List.getElem?_eq_getElem hj) h.lm
  exact ((h.om j _ l (List.getElem?_eq_getElem hj) hl).lt b hub).2
theorem hvs_get {l : List (R × Value)} {x : R × Value} (hx : x ∈ l) : ∃ j : Nat, (hvs l)[j]? = some x.2 ∧ (hfs l)[j]? = some x.1.hs := by
  obtain ⟨j, hj, rfl⟩ := List.getElem_of_mem hx
  exact ⟨j, by unfold hvs; rw [List.getElem?_map, List.getElem?_eq_getElem hj]; rfl, by unfold hfs; rw [List.getElem?_map, List.getElem?_eq_getElem hj]; rfl⟩
/-- One list more. -/
theorem ColN.add {va vb : Value} {l k : List (R × Value)} (h : ColN B us ws fs ms ns L N w) (lu : us.length = fs.length) (lw : ws.length = fs.length) (h1 : w.ownsRow 0 50 4 va l.length (outCells l)) (h2 : w.ownsRow 0 50 4 vb k.length (outCells k)) (hm : msO l = msO k) (hb : ∀ b, va.ownBlock = some b → B ≤ b ∧ b ∉ blks ms) :
    ColN B (us ++ hvs l) (ws ++ hvs k) (fs ++ hfs l) (ms ++ [va]) (ns ++ [vb]) (L ++ [l]) (N ++ [k]) w := by
  have app : ∀ {α : Type} {a b : List α} {j : Nat} {x : α}, a[j]? = some x → (a ++ b)[j]? = some x := fun {α a b j x} hx => by
    rw [List.getElem?_append_left (List.getElem?_eq_some_iff.1 hx).1]; exact hx
  have app2 : ∀ {α : Type} {a b : List α} {j : Nat} {x : α}, b[j]? = some x → (a ++ b)[a.length + j]? = some x := fun {α a b j x} hx => by
    rw [List.getElem?_append_right (by omega), Nat.add_sub_cancel_left]; exact hx
  have hkk := hfs_eq hm
  refine ⟨by simp [h.lm], by simp [h.ln], by simp [h.ll], fun j u x hu hx => ?_, fun j u x hu hx => ?_, fun j x y hx hy => ?_, fun x hx y hy => ?_, fun x hx y hy => ?_, ?_, fun b hm => ?_⟩
  · rcases get_snoc hu with hu | ⟨rfl, rfl⟩
    · rcases get_snoc hx with hx | ⟨rfl, rfl⟩
      · exact h.om j u x hu hx
      · have := (List.getElem?_eq_some_iff.1 hu).1; rw [h.lm] at this; omega
    · rcases get_snoc hx with hx | ⟨_, rfl⟩
      · have := (List.getElem?_eq_some_iff.1 hx).1; rw [← h.lm] at this; omega
      · exact h1
  · rcases get_snoc hu with hu | ⟨rfl, rfl⟩
    · rcases get_snoc hx with hx | ⟨rfl, rfl⟩
      · exact h.on j u x hu hx
      · have := (List.getElem?_eq_some_iff.1 hu).1; rw [h.ln] at this; omega
    · rcases get_snoc hx with hx | ⟨_, rfl⟩
      · have := (List.getElem?_eq_some_iff.1 hx).1; rw [← h.ln] at this; omega
      · exact h2
  · rcases get_snoc hx with hx | ⟨rfl, rfl⟩
    · rcases get_snoc hy with hy | ⟨rfl, rfl⟩
      · exact h.same j x y hx hy
      · have := (List.getElem?_eq_some_iff.1 hx).1; rw [h.ll] at this; omega
    · rcases get_snoc hy with hy | ⟨_, rfl⟩
      · have := (List.getElem?_eq_some_iff.1 hy).1; rw [← h.ll] at this; omega
      · exact hm
  · rcases List.mem_append.1 hx with hx | hx
    · obtain ⟨j, e1, e2⟩ := h.hm x hx y hy
      exact ⟨j, app e1, app e2⟩
    · obtain rfl : x = l := by simpa using hx
      obtain ⟨j, e1, e2⟩ := hvs_get hy
      exact ⟨us.length + j, app2 e1, by rw [lu]; exact app2 e2⟩
  · rcases List.mem_append.1 hx with hx | hx
    · obtain ⟨j, e1, e2⟩ := h.hn x hx y hy
      exact ⟨j, app e1, app e2⟩
    · obtain rfl : x = k := by simpa using hx
      obtain ⟨j, e1, e2⟩ := hvs_get hy
      exact ⟨ws.length + j, app2 e1, by rw [lw, hkk]; exact app2 e2⟩
  · rw [blks_app, blks_one]
    refine List.nodup_append.2 ⟨h.nd, ?_, fun a ha b hb' e => ?_⟩
    · cases va.ownBlock <;> simp
    · subst e
      cases hub : va.ownBlock with
      | none => rw [hub] at hb'; simp at hb'
      | some c =>
        rw [hub] at hb'
        obtain rfl : a = c := by simpa using hb'
        exact (hb a hub).2 ha
  · rw [blks_app, blks_one] at hm
    rcases List.mem_append.1 hm with hm | hm
    · exact h.lo b hm
    · cases hub : va.ownBlock with
      | none => rw [hub] at hm; simp at hm
      | some c =>
        rw [hub] at hm
        obtain rfl : b = c := by simpa using hm
        exact (hb b hub).1
end
/-- The two readers at pp, the document's at qq, the book; what holds ahead of each piece. -/
structure Fs (gb B gr gy : Nat) (pp qq : Nat → Nat) (n : Nat) (fpf : Nat → List Nat) (us ws : List Value) (fs : List (List Fl)) (ms ns : List Value) (L N : List (List (R × Value))) (w : World) : Prop where
  rr : w.heap[gr]? = some (.cells #[.pointer (some ⟨pp 0, 0, none⟩), .pointer (some ⟨pp 1, 0, none⟩)] 27 (0, 0))
  yy : w.heap[gy]? = some (.cells #[.pointer (some ⟨qq 0, 0, none⟩), .pointer (some ⟨qq 1, 0, none⟩)] 30 (0, 0))
  rk : ∀ k, k < 2 → Rk B (pp k) (qq k) n (fpf k) w
  pd : ∀ j k, j < 2 → k < 2 → j ≠ k → pp j ≠ pp k
  qd : ∀ j k, j < 2 → k < 2 → j ≠ k → qq j ≠ qq k
  fd : ∀ j k, j < 2 → k < 2 → j ≠ k → ∀ b ∈ fpf j, b ∉ fpf k
  col : ColR gb B us ws fs ms ns w
  cn : ColN B us ws fs ms ns L N w
  apu : ∀ k, k < 2 → ∀ b ∈ fpf k, b ∉ blks us ∧ b ∉ blks ws
  lens : us.length ≤ n ∧ ∀ l ∈ L, l.length ≤ n
theorem ColF.ltw {B : Nat} {us ws : List Value} {fs : List (List Fl)} {w : World} (h : ColF B us ws fs w) : ∀ b ∈ blks ws, b < w.heap.size := fun b hb => by
  obtain ⟨u, hu, hub⟩ := List.mem_filterMap.1 hb
  obtain ⟨j, hj, rfl⟩ := List.getElem_of_mem hu
  obtain ⟨f, hf⟩ := get_len (List.getElem?_eq_getElem hj) h.lw
  exact ((h.ow j _ f (List.getElem?_eq_getElem hj) hf).lt b hub).2
theorem ColF.keptU {B : Nat} {us ws : List Value} {fs : List (List Fl)} {w w' : World} {ok : Nat → Prop} (h : ColF B us ws fs w) (hk : Kept ok w w') (ho : ∀ b ∈ blks us, ok b) (ho2 : ∀ b ∈ blks ws, ok b) : ColF B us ws fs w' :=
  ⟨h.lu, h.lw, fun j u f hu hf => ⟨ownsRow_kept (h.ou j u f hu hf).1 hk fun b hb => ho b (mem_blks hu hb), (h.ou j u f hu hf).2⟩, fun j u f hu hf => ownsRow_kept (h.ow j u f hu hf) hk fun b hb => ho2 b (mem_blks hu hb), h.nd, h.lo⟩
theorem ColF.typU {B : Nat} {us ws : List Value} {fs : List (List Fl)} {w : World} (h : ColF B us ws fs w) : ∀ b ∈ blks us, ∃ c, w.heap[b]? = some (.cells c 61 (0, 0)) := fun b hb => by
  obtain ⟨u, hu, hub⟩ := List.mem_filterMap.1 hb
  obtain ⟨j, hj, rfl⟩ := List.getElem_of_mem hu
  obtain ⟨f, hf⟩ := get_len (List.getElem?_eq_getElem hj) h.lu
  exact own_typ (h.ou j _ f (List.getElem?_eq_getElem hj) hf).1 hub
theorem ColF.typW {B : Nat} {us ws : List Value} {fs : List (List Fl)} {w : World} (h : ColF B us ws fs w) : ∀ b ∈ blks ws, ∃ c, w.heap[b]? = some (.cells c 61 (0, 0)) := fun b hb => by
  obtain ⟨u, hu, hub⟩ := List.mem_filterMap.1 hb
  obtain ⟨j, hj, rfl⟩ := List.getElem_of_mem hu
  obtain ⟨f, hf⟩ := get_len (List.getElem?_eq_getElem hj) h.lw
  exact own_typ (h.ow j _ f (List.getElem?_eq_getElem hj) hf) hub
theorem Outs.keptN {B : Nat} {v : Value} {l : List (R × Value)} {fp : List Nat} {w w' : World} {ok : Nat → Prop} (h : Outs B v l fp w) (hk : Kept ok w w') (h1 : ∀ (g : Nat) (c : Array Value), w.heap[g]? = some (.cells c 50 (0, 0)) → ok g) (h2 : ∀ (g : Nat) (c : Array Value), w.heap[g]? = some (.cells c 61 (0, 0)) → ok g) : Outs B v l fp w' := by
  refine ⟨ownsRow_kept h.row hk fun b hb => ?_, fun x hx => ⟨ownsRow_kept (h.hs x hx).1 hk fun b hb => ?_, (h.hs x hx).2⟩, h.nodup, h.apart⟩
  · obtain ⟨c, hc⟩ := own_typ h.row hb; exact h1 b c hc
  · obtain ⟨c, hc⟩ := own_typ (h.hs x hx).1 hb; exact h2 b c hc
/-- What holds ahead of the lists being noted. -/
structure Fd (gb B gr gy : Nat) (pp qq : Nat → Nat) (n m k : Nat) (fpf : Nat → List Nat) (fp' : List Nat) (us ws : List Value) (fs : List (List Fl)) (ms ns : List Value) (L N : List (List (R × Value))) (v v2 : Value) (l kk : List (R × Value)) (w : World) : Prop where
  rr : w.heap[gr]? = some (.cells #[.pointer (some ⟨pp 0, 0, none⟩), .pointer (some ⟨pp 1, 0, none⟩)] 27 (0, 0))
  yy : w.heap[gy]? = some (.cells #[.pointer (some ⟨qq 0, 0, none⟩), .pointer (some ⟨qq 1, 0, none⟩)] 30 (0, 0))
  rkk : Rk B (pp k) (qq k) (n + m) fp' w
  rkj : ∀ j, j < 2 → j ≠ k → Rk B (pp j) (qq j) n (fpf j) w
  col : ColR gb B us ws fs ms ns w
  cn : ColN B us ws fs ms ns L N w
  h1 : w.ownsRow 0 50 4 v l.length (outCells l)
  h2 : w.ownsRow 0 50 4 v2 kk.length (outCells kk)
  hl : ∀ x ∈ l, OwnF x.2 x.1.hs w ∧ x.1.hs.length ≤ 32
  hk : ∀ x ∈ kk, OwnF x.2 x.1.hs w ∧ x.1.hs.length ≤ 32
  hm : msO l = msO kk
  hd : (l.filterMap fun x => x.2.ownBlock).Nodup
  hb : ∀ x ∈ l, ∀ b, x.2.ownBlock = some b → B ≤ b ∧ b ∉ blks us
  hv : ∀ b, v.ownBlock = some b → B ≤ b ∧ b ∉ blks ms
  a1 : ∀ b ∈ fp', b ∉ blks us ∧ b ∉ blks ws ∧ b ∉ blks (hvs l) ∧ b ∉ blks (hvs kk)
  a2 : ∀ j, j < 2 → j ≠ k → ∀ b ∈ fpf j, b ∉ blks (hvs l) ∧ b ∉ blks (hvs kk) ∧ b ∉ fp'
  ll : l.length ≤ m
theorem mem_hvs {l : List (R × Value)} {b : Nat} (h : b ∈ blks (hvs l)) : ∃ x ∈ l, x.2.ownBlock = some b := by
  rw [blks_hvs] at h
  exact List.mem_filterMap.1 h
theorem Fs.fed {gb B gr gy n k : Nat} {pp qq : Nat → Nat} {fpf : Nat → List Nat} {fp' : List Nat} {us ws : List Value} {fs : List (List Fl)} {ms ns : List Value} {L N : List (List (R × Value))} {v v2 : Value} {l kk : List (R × Value)} {s : List UInt8} {E : Int} {w w1 w2 w3 : World}
    (h : Fs gb B gr gy pp qq n fpf us ws fs ms ns L N w) (hk2 : k < 2) (a1 : Outs w.heap.size v l fp' w1) (a2 : ∀ b ∈ fp', b ∈ fpf k ∨ w.heap.size ≤ b) (a3 : ∀ x ∈ l, ∀ b, x.2.ownBlock = some b → b ∈ fpf k ∨ w.heap.size ≤ b) (a4 : l.length ≤ s.length) (a5 : Md B (pp k) (qq k) n s fp' l E w1) (a6 : Kept (· ∉ fpf k) w w1)
    (b1 : Outs w1.heap.size v2 kk [] w2) (b2 : ∀ x ∈ kk, ∀ b, x.2.ownBlock = some b → w1.heap.size ≤ b) (b3 : msO l = msO kk) (b4 : Rk B (pp k) (qq k) (n + s.length) fp' w2) (b5 : Kept (· ≠ qq k) w1 w2) (c : Kept (fun _ => True) w2 w3) :
    Fd gb B gr gy pp qq n s.length k fpf fp' us ws fs ms ns L N v v2 l kk w3 := by
  have hR := h.rk k hk2
  obtain ⟨qc, hqb⟩ := hR.qbox
  have hkP : Kept (fun b => b ∉ fpf k ∧ b ≠ qq k) w w3 := ((a6.mono fun _ _ h => h.1).trans b5 fun _ _ h => h.2).trans c fun _ _ _ => trivial
  have hsz := h.col.size
  have hw1 : w.heap.size ≤ w1.heap.size := a6.size
  have ok1 : ∀ {T : TypeId} {g : Nat} {cs : Array Value}, w.heap[g]? = some (.cells cs T (0, 0)) → T ≠ 76 → T ≠ 83 → T ≠ 73 → T ≠ 5 → T ≠ 9 → T ≠ 61 → T ≠ 78 → g ∉ fpf k ∧ g ≠ qq k := fun hg h0 h1 h2 h3 h4 h5 h6 => ⟨hR.tyN hg h0 h1 h2 h3 h4 h5, ty_ne hg hqb h6⟩
  have hqw1 : w1.heap[qq k]? = some (.cells qc 78 (0, 0)) := (a6.block _ (Array.getElem?_eq_some_iff.1 hqb).1 (hR.tyN hqb (by decide) (by decide) (by decide) (by decide) (by decide) (by decide))).trans hqb
  have hA2 : Outs w.heap.size v l fp' w2 := a1.keptN b5 (fun g cs hg => ty_ne hg hqw1 (by decide)) (fun g cs hg => ty_ne hg hqw1 (by decide))
  have hA3 := hA2.keptT c
  have hB3 := b1.keptT c
  obtain ⟨⟨vs, xs, hbk, hxs⟩, hcf⟩ := h.col
  have hltk := hR.lt
  refine ⟨?_, ?_, b4.keptT c, fun j hj hjk => ?_, ⟨⟨vs, xs, ?_, hxs⟩, ?_⟩, ?_, ownsRow_base hA3.row (Nat.zero_le _), ownsRow_base hB3.row (Nat.zero_le _), hA3.hs, hB3.hs, b3, hA3.nodup, fun x hx b hb => ?_, fun b hb => ?_, fun b hb => ?_, fun j hj hjk b hb => ?_, a4⟩
  · exact (hkP.block gr (Array.getElem?_eq_some_iff.1 h.rr).1 (ok1 h.rr (by decide) (by decide) (by decide) (by decide) (by decide) (by decide) (by decide))).trans h.rr
  · exact (hkP.block gy (Array.getElem?_eq_some_iff.1 h.yy).1 (ok1 h.yy (by decide) (by decide) (by decide) (by decide) (by decide) (by decide) (by decide))).trans h.yy
  · refine (h.rk j hj).keptN hkP (fun b hb => ⟨h.fd j k hj hk2 hjk b hb, fun e => ?_⟩) (fun cs hcs => ⟨hR.other hcs (h.pd j k hj hk2 hjk), ty_ne hcs hqb (by decide)⟩) ?_
    · subst e
      exact (h.rk j hj).tyN hqb (by decide) (by decide) (by decide) (by decide) (by decide) (by decide) hb
    · obtain ⟨qc2, hq2⟩ := (h.rk j hj).qbox
      exact ⟨hR.tyN hq2 (by decide) (by decide) (by decide) (by decide) (by decide) (by decide), h.qd j k hj hk2 hjk⟩
  · refine hbk.kept hkP fun g cs T hg hT => ?_
    rcases hT with rfl | rfl | rfl | rfl <;> exact ok1 hg (by decide) (by decide) (by decide) (by decide) (by decide) (by decide) (by decide)
  · refine hcf.keptU hkP (fun b hb => ?_) fun b hb => ?_
    · obtain ⟨cs, hcs⟩ := hcf.typU b hb
      exact ⟨fun hm => (h.apu k hk2 b hm).1 hb, ty_ne hcs hqb (by decide)⟩
    · obtain ⟨cs, hcs⟩ := hcf.typW b hb
      exact ⟨fun hm => (h.apu k hk2 b hm).2 hb, ty_ne hcs hqb (by decide)⟩
  · exact h.cn.kept hkP fun g cs hg => ok1 hg (by decide) (by decide) (by decide) (by decide) (by decide) (by decide) (by decide)
  · rcases a3 x hx b hb with e | e
    · exact ⟨hR.lo b e, (h.apu k hk2 b e).1⟩
    · exact ⟨by omega, fun hm => by have := hcf.lt b hm; omega⟩
  · have := own_base a1.row hb
    exact ⟨by omega, fun hm => by have := h.cn.lt b hm; omega⟩
  · have hlt := a5.lt b hb
    refine ⟨fun hm => ?_, fun hm => ?_, fun hm => ?_, fun hm => ?_⟩
    · rcases a2 b hb with e | e
      · exact (h.apu k hk2 b e).1 hm
      · have := hcf.lt b hm; omega
    · rcases a2 b hb with e | e
      · exact (h.apu k hk2 b e).2 hm
      · have := hcf.ltw b hm; omega
    · obtain ⟨x, hx, hxb⟩ := mem_hvs hm
      exact a1.apart x hx b hxb hb
    · obtain ⟨x, hx, hxb⟩ := mem_hvs hm
      have := b2 x hx b hxb
      omega
  · have hlt := (h.rk j hj).lt b hb
    refine ⟨fun hm => ?_, fun hm => ?_, fun hm => ?_⟩
    · obtain ⟨x, hx, hxb⟩ := mem_hvs hm
      rcases a3 x hx b hxb with e | e
      · exact h.fd j k hj hk2 hjk b hb e
      · omega
    · obtain ⟨x, hx, hxb⟩ := mem_hvs hm
      have := b2 x hx b hxb
      omega
    · rcases a2 b hm with e | e
      · exact h.fd j k hj hk2 hjk b hb e
      · omega
/-- Behind the lists being noted. -/
theorem Fd.next {gb B gr gy n m k : Nat} {pp qq : Nat → Nat} {fpf : Nat → List Nat} {fp' : List Nat} {us ws : List Value} {fs : List (List Fl)} {ms ns : List Value} {L N : List (List (R × Value))} {v v2 : Value} {l kk : List (R × Value)} {w0 w w' : World}
    (h : Fd gb B gr gy pp qq n m k fpf fp' us ws fs ms ns L N v v2 l kk w) (h0 : Fs gb B gr gy pp qq n fpf us ws fs ms ns L N w0) (hk2 : k < 2) (hc : ColR gb B (us ++ hvs l) (ws ++ hvs kk) (fs ++ hfs l) (ms ++ [v]) (ns ++ [v2]) w') (hk : Kept (FBk B w) w w') :
    Fs gb B gr gy pp qq (n + m) (up fpf k fp') (us ++ hvs l) (ws ++ hvs kk) (fs ++ hfs l) (ms ++ [v]) (ns ++ [v2]) (L ++ [l]) (N ++ [kk]) w' := by
  have hcf := h.col.2
  have okP : ∀ {T : TypeId} {g : Nat} {cs : Array Value}, w.heap[g]? = some (.cells cs T (0, 0)) → T ≠ 48 → T ≠ 3 → T ≠ 39 → T ≠ 38 → w'.heap[g]? = w.heap[g]? := fun hg h1 h2 h3 h4 => hk.block _ (Array.getElem?_eq_some_iff.1 hg).1 (.of hg h1 h2 h3 h4)
  have rkS : ∀ {p q n' : Nat} {fp : List Nat}, Rk B p q n' fp w → Rk B p q n' fp w' := fun {p q n' fp} hr => by
    obtain ⟨qc, hq⟩ := hr.qbox
    exact hr.keptN hk (fun b hb => .inr (hr.nbk b hb)) (fun cs hcs => .of hcs (by decide) (by decide) (by decide) (by decide)) (.of hq (by decide) (by decide) (by decide) (by decide))
  refine ⟨(okP h.rr (by decide) (by decide) (by decide) (by decide)).trans h.rr, (okP h.yy (by decide) (by decide) (by decide) (by decide)).trans h.yy, fun j hj => ?_, h0.pd, h0.qd, fun i j hi hj hij b hb => ?_, hc, ?_, fun j hj b hb => ?_, ?_, fun x hx => ?_⟩
  · by_cases e : j = k
    · subst e
      rw [up_same]
      exact rkS h.rkk
    · rw [up_other _ _ e]
      exact (rkS (h.rkj j hj e)).mono (by omega)
  · by_cases e1 : i = k
    · subst e1
      rw [up_same] at hb
      rw [up_other _ _ (Ne.symm hij)]
      exact fun hm => (h.a2 j hj (Ne.symm hij) b hm).2.2 hb
    · rw [up_other _ _ e1] at hb
      by_cases e2 : j = k
      · subst e2
        rw [up_same]
        exact (h.a2 i hi e1 b hb).2.2
      · rw [up_other _ _ e2]
        exact h0.fd i j hi hj hij b hb
  · exact (h.cn.kept hk fun g c hg => .of hg (by decide) (by decide) (by decide) (by decide)).add hcf.lu hcf.lw (fbk_ownM hk h.h1) (fbk_ownM hk h.h2) h.hm h.hv
  · rw [blks_app, blks_app]
    by_cases e : j = k
    · subst e
      rw [up_same] at hb
      obtain ⟨g1, g2, g3, g4⟩ := h.a1 b hb
      exact ⟨fun hm => (List.mem_append.1 hm).elim g1 g3, fun hm => (List.mem_append.1 hm).elim g2 g4⟩
    · rw [up_other _ _ e] at hb
      obtain ⟨g1, g2⟩ := h0.apu j hj b hb
      obtain ⟨g3, g4, _⟩ := h.a2 j hj e b hb
      exact ⟨fun hm => (List.mem_append.1 hm).elim g1 g3, fun hm => (List.mem_append.1 hm).elim g2 g4⟩
  · have := h0.lens.1
    have := h.ll
    rw [List.length_append]
    simp only [hvs, List.length_map]
    omega
  · have := h.ll
    rcases List.mem_append.1 hx with hx | hx
    · have := h0.lens.2 x hx; omega
    · obtain rfl : x = l := by simpa using hx
      omega
theorem Fs.keptT {gb B gr gy n : Nat} {pp qq : Nat → Nat} {fpf : Nat → List Nat} {us ws : List Value} {fs : List (List Fl)} {ms ns : List Value} {L N : List (List (R × Value))} {w w' : World} (h : Fs gb B gr gy pp qq n fpf us ws fs ms ns L N w) (hk : Kept (fun _ => True) w w') : Fs gb B gr gy pp qq n fpf us ws fs ms ns L N w' :=
  ⟨(hk.block gr (Array.getElem?_eq_some_iff.1 h.rr).1 trivial).trans h.rr, (hk.block gy (Array.getElem?_eq_some_iff.1 h.yy).1 trivial).trans h.yy, fun k hk2 => (h.rk k hk2).keptT hk, h.pd, h.qd, h.fd, h.col.keptT hk, h.cn.keptT hk, h.apu, h.lens⟩
theorem Fs.cells {gb B gr gy n : Nat} {pp qq : Nat → Nat} {fpf : Nat → List Nat} {us ws : List Value} {fs : List (List Fl)} {ms ns : List Value} {L N : List (List (R × Value))} {w : World} (h : Fs gb B gr gy pp qq n fpf us ws fs ms ns L N w) {k : Nat} (hk : k < 2) : w.cell? ⟨gr, k, none⟩ = some (.pointer (some ⟨pp k, 0, none⟩)) ∧ w.cell? ⟨gy, k, none⟩ = some (.pointer (some ⟨qq k, 0, none⟩)) := by
  rw [cell_of_row w gr _ _ _ (0, 0) h.rr, cell_of_row w gy _ _ _ (0, 0) h.yy]
  match k, hk with
  | 0, _ => exact ⟨rfl, rfl⟩
  | 1, _ => exact ⟨rfl, rfl⟩
end Go.Proofs.YtaomhkgdbobpkaaGreatDoor
