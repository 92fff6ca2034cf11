/- JotPlaces in plain Lean: what a reading of a beginning tells of the reading of more; mark by mark the reading comes to its end, in so many marks. No program in sight. -/
import Derived.Test.YtmajpambfblhnaaGreatDoorJoPlainA
namespace Go.Proofs.YtmajpambfblhnaaGreatDoor
namespace Jo

def PR.pos {α : Type} : PR α → Nat | .ok _ i => i | .bad _ i => i
/-- Behind a place; what is wrong may stand at it. -/
def PR.Above {α : Type} (n : Nat) : PR α → Prop | .ok _ j => n < j | .bad _ j => n ≤ j
/-- What a reading of a beginning (of n bytes) tells of the reading of more. -/
def Rel {α : Type} (d : Prop) (n : Nat) (r r' : PR α) : Prop := match r with
  | .ok _ j => j ≤ n ∧ (r' = r ∨ (d ∧ j = n ∧ n ≤ r'.pos))
  | .bad e j => (j < n ∧ e ≠ 0 ∧ r' = r) ∨ (j = n ∧ e = 40 ∧ r'.Above n)

theorem PR.Above.le {α : Type} {i : Nat} {r : PR α} (h : r.Above i) : i ≤ r.pos := by
  cases r with
  | ok a j => exact Nat.le_of_lt h
  | bad e j => exact h
theorem PR.Above.weak {α : Type} {i j : Nat} {r : PR α} (h : r.Above j) (k : i ≤ j) : r.Above i := by
  cases r with
  | ok a l => exact Nat.lt_of_le_of_lt k h
  | bad e l => exact Nat.le_trans k h
theorem PR.Above.bind {α β : Type} {i : Nat} {x : PR α} {f : α → Nat → PR β} (h : x.Above i) (k : ∀ a j, j ≤ (f a j).pos) : (x.bind f).Above i := by
  cases x with
  | ok a j =>
    have h1 : i < j := h
    have h2 := k a j
    rw [PR.bind_ok]
    cases hf : f a j with
    | ok b l => rw [hf] at h2; exact Nat.lt_of_lt_of_le h1 h2
    | bad e l => rw [hf] at h2; exact Nat.le_of_lt (Nat.lt_of_lt_of_le h1 h2)
  | bad e j => exact h
theorem PR.pos_bind {α β : Type} {i : Nat} {x : PR α} {f : α → Nat → PR β} (h : i ≤ x.pos) (k : ∀ a j, j ≤ (f a j).pos) : i ≤ (x.bind f).pos := by
  cases x with
  | ok a j => exact Nat.le_trans h (k a j)
  | bad e j => exact h
theorem PR.bind_congr {α β : Type} {x : PR α} {f g : α → Nat → PR β} (h : ∀ a j, x = .ok a j → f a j = g a j) : x.bind f = x.bind g := by
  cases x with
  | ok a j => exact h a j rfl
  | bad e j => rfl

/-- A byte at a place. -/
def atP {α : Type} (s : List UInt8) (i : Nat) (g : UInt8 → PR α) : PR α := match s[i]? with | none => .bad 40 i | some c => g c
theorem atP_some {α : Type} {s : List UInt8} {i : Nat} {c : UInt8} {g : UInt8 → PR α} (h : s[i]? = some c) : atP s i g = g c := by unfold atP; rw [h]
theorem atP_none {α : Type} {s : List UInt8} {i : Nat} {g : UInt8 → PR α} (h : s.length ≤ i) : atP s i g = .bad 40 i := by unfold atP; rw [List.getElem?_eq_none h]
theorem atP_above {α : Type} {s : List UInt8} {i : Nat} {g : UInt8 → PR α} (h : ∀ c, (g c).Above i) : (atP s i g).Above i := by
  unfold atP; split
  · exact Nat.le_refl _
  · exact h _

-- places only grow
theorem wantP_above (s : List UInt8) (c : UInt8) (i : Nat) : (wantP s c i).Above i := by
  unfold wantP; split
  · exact Nat.lt_succ_self i
  · exact Nat.le_refl i
theorem wordP_pos (s : List UInt8) : ∀ (w : List UInt8) (i : Nat), i ≤ (wordP s w i).pos
  | [], _ => Nat.le_refl _
  | c :: w, i => by
    unfold wordP; split
    · exact Nat.le_trans (Nat.le_succ i) (wordP_pos s w (i + 1))
    · exact Nat.le_refl i
theorem wordP_above (s : List UInt8) (c : UInt8) (w : List UInt8) (i : Nat) : (wordP s (c :: w) i).Above i := by
  have h := wordP_pos s w (i + 1)
  unfold wordP; split
  · cases hw : wordP s w (i + 1) with
    | ok a j => rw [hw] at h; exact h
    | bad e j => rw [hw] at h; exact Nat.le_of_succ_le h
  · exact Nat.le_refl i
theorem hexP_above (s : List UInt8) (lo hi : Int) (i : Nat) : (hexP s lo hi i).Above i := by
  unfold hexP; split
  · exact Nat.le_refl i
  · split
    · exact Nat.le_refl i
    · exact Nat.lt_succ_self i
theorem hexP_pos (s : List UInt8) (lo hi : Int) (i : Nat) : i ≤ (hexP s lo hi i).pos := (hexP_above s lo hi i).le
theorem pointP_above (s : List UInt8) (i : Nat) : (pointP s i).Above i := by
  unfold pointP
  refine (hexP_above s 0 15 i).bind fun a i => PR.pos_bind (hexP_pos ..) fun b i => PR.pos_bind (hexP_pos ..) fun c i => PR.pos_bind (hexP_pos ..) fun d i => ?_
  split
  · exact Nat.le_refl i
  · exact PR.pos_bind (wordP_pos ..) fun _ i => PR.pos_bind (hexP_pos ..) fun e i => PR.pos_bind (hexP_pos ..) fun f i => PR.pos_bind (hexP_pos ..) fun g i => PR.pos_bind (hexP_pos ..) fun h i => Nat.le_refl i
theorem followP_pos (s : List UInt8) : ∀ (m : Nat) (lo hi : UInt8) (i : Nat), i ≤ (followP s m lo hi i).pos
  | 0, _, _, i => Nat.le_refl i
  | m + 1, lo, hi, i => by
    unfold followP; split
    · exact Nat.le_refl i
    · split
      · exact Nat.le_refl i
      · exact Nat.le_trans (Nat.le_succ i) (followP_pos s m 128 191 (i + 1))
theorem letterP_above (s : List UInt8) (i : Nat) : (letterP s i).Above i := by
  unfold letterP; split
  · exact Nat.le_refl i
  · rename_i c _
    split
    · exact Nat.lt_succ_self i
    · split
      · exact Nat.le_refl i
      · have h := followP_pos s (behindP c).2.2 (behindP c).1 (behindP c).2.1 (i + 1)
        cases hw : followP s (behindP c).2.2 (behindP c).1 (behindP c).2.1 (i + 1) with
        | ok a j => rw [hw] at h; exact h
        | bad e j => rw [hw] at h; exact Nat.le_of_succ_le h
theorem escP_above (s : List UInt8) (i : Nat) : (escP s i).Above i := by
  unfold escP; split
  · exact Nat.le_refl i
  · repeat' split
    all_goals first
      | exact Nat.lt_succ_self i
      | exact Nat.le_refl i
      | exact ((pointP_above s (i + 1)).weak (Nat.le_succ i)).bind fun n j => Nat.le_refl j
theorem textL_above (s : List UInt8) (seen : List (List UInt8)) : ∀ (f : Nat) (acc : List UInt8) (i : Nat), (textL s seen f acc i).Above i
  | 0, _, i => Nat.le_refl i
  | f + 1, acc, i => by
    unfold textL; split
    · exact Nat.le_refl i
    · split
      · split
        · exact Nat.le_refl i
        · exact Nat.lt_succ_self i
      · split
        · exact ((escP_above s (i + 1)).weak (Nat.le_succ i)).bind fun x j => (textL_above s seen f _ j).le
        · split
          · exact Nat.le_refl i
          · exact (letterP_above s i).bind fun x j => (textL_above s seen f _ j).le
theorem textP_above (s : List UInt8) (seen : List (List UInt8)) (i : Nat) : (textP s seen i).Above i := (wantP_above s 34 i).bind fun _ j => (textL_above s seen _ _ j).le
theorem digP_pos : ∀ (l : List UInt8) (n : Int) (i : Nat), i ≤ (digP n l i).pos
  | [], _, i => Nat.le_refl i
  | c :: r, n, i => by
    unfold digP; split
    · split
      · exact Nat.le_refl i
      · exact Nat.le_trans (Nat.le_succ i) (digP_pos r _ (i + 1))
    · exact Nat.le_refl i
theorem digP_above (c : UInt8) (r : List UInt8) (n : Int) (i : Nat) (h : isDig c = true) : (digP n (c :: r) i).Above i := by
  unfold digP; rw [if_pos h]; split
  · exact Nat.le_refl i
  · have h := digP_pos r (10 * n + ((c.toNat : Int) - 48)) (i + 1)
    cases hw : digP (10 * n + ((c.toNat : Int) - 48)) r (i + 1) with
    | ok a j => rw [hw] at h; exact h
    | bad e j => rw [hw] at h; exact Nat.le_of_succ_le h
theorem numQ_above (s : List UInt8) (z : Int) (i : Nat) : (numQ s z i).Above i := by
  unfold numQ; split
  · exact Nat.le_refl i
  · rename_i c hc
    obtain ⟨hi, rfl⟩ := List.getElem?_eq_some_iff.1 hc
    split
    · exact Nat.le_refl i
    · rename_i hd
      split
      · exact Nat.lt_succ_self i
      · rw [List.drop_eq_getElem_cons hi]
        exact (digP_above _ _ 0 i (by simpa using hd)).bind fun n j => Nat.le_refl j
theorem numP_above (s : List UInt8) (i : Nat) : (numP s i).Above i := by
  unfold numP; split
  · exact (numQ_above s (-1) (i + 1)).weak (Nat.le_succ i)
  · exact numQ_above s 1 i
theorem listL_above {s : List UInt8} {val : Nat → PR J} (hv : ∀ i, (val i).Above i) : ∀ (f : Nat) (acc : List J) (i : Nat), (listL s val f acc i).Above i
  | 0, _, i => Nat.le_refl i
  | f + 1, acc, i => by
    unfold listL
    refine (hv i).bind fun x j => Nat.le_trans (bl_le s j) ?_
    split
    · exact Nat.le_refl _
    · split
      · exact Nat.le_trans (Nat.le_succ _) (listL_above hv f _ _).le
      · split
        · exact Nat.le_succ _
        · exact Nat.le_refl _
theorem listP_above {s : List UInt8} {val : Nat → PR J} (hv : ∀ i, (val i).Above i) (i : Nat) : (listP s val i).Above i := by
  have h := bl_le s (i + 1)
  refine PR.Above.weak (j := bl s (i + 1)) ?_ (by omega)
  unfold listP; split
  · exact Nat.le_refl _
  · split
    · exact Nat.lt_succ_self _
    · exact listL_above hv _ _ _
theorem objL_above {s : List UInt8} {val : Nat → PR J} (hv : ∀ i, (val i).Above i) : ∀ (f : Nat) (acc : List (List UInt8 × J)) (i : Nat), (objL s val f acc i).Above i
  | 0, _, i => Nat.le_refl i
  | f + 1, acc, i => by
    unfold objL
    refine ((textP_above s (acc.map (·.1)) (bl s i)).weak (bl_le s i)).bind fun x j => PR.pos_bind (Nat.le_trans (bl_le s j) (wantP_above ..).le) fun _ j => PR.pos_bind (hv j).le fun v j => Nat.le_trans (bl_le s j) ?_
    split
    · exact Nat.le_refl _
    · split
      · exact Nat.le_trans (Nat.le_succ _) (objL_above hv f _ _).le
      · split
        · exact Nat.le_succ _
        · exact Nat.le_refl _
theorem objP_above {s : List UInt8} {val : Nat → PR J} (hv : ∀ i, (val i).Above i) (i : Nat) : (objP s val i).Above i := by
  have h := bl_le s (i + 1)
  refine PR.Above.weak (j := bl s (i + 1)) ?_ (by omega)
  unfold objP; split
  · exact Nat.le_refl _
  · split
    · exact Nat.lt_succ_self _
    · exact objL_above hv _ _ _
theorem valQ_above {s : List UInt8} {li : Nat → PR (List J)} {ob : Nat → PR (List (List UInt8 × J))} (hl : ∀ i, (li i).Above i) (ho : ∀ i, (ob i).Above i) (i : Nat) : (valQ s li ob i).Above i := by
  unfold valQ; split
  · exact Nat.le_refl _
  · repeat' split
    all_goals first
      | exact (wordP_above ..).bind fun _ j => Nat.le_refl j
      | exact (textP_above ..).bind fun _ j => Nat.le_refl j
      | exact (hl i).bind fun _ j => Nat.le_refl j
      | exact (ho i).bind fun _ j => Nat.le_refl j
      | exact (numP_above ..).bind fun _ j => Nat.le_refl j
theorem valP_above (s : List UInt8) : ∀ (k i : Nat), (valP s k i).Above i
  | 0, i => (valQ_above (li := fun i => .bad 41 i) (ob := fun i => .bad 41 i) (fun i => Nat.le_refl i) (fun i => Nat.le_refl i) (bl s i)).weak (bl_le s i)
  | k + 1, i => (valQ_above (listP_above (valP_above s k)) (objP_above (valP_above s k)) (bl s i)).weak (bl_le s i)
end Jo
end Go.Proofs.YtmajpambfblhnaaGreatDoor
namespace Go.Proofs.YtmajpambfblhnaaGreatDoor
namespace Jo

theorem getE_app {u x : List UInt8} {i : Nat} (h : i < u.length) : (u ++ x)[i]? = u[i]? := List.getElem?_append_left h
theorem getE_none {u : List UInt8} {i : Nat} (h : u.length ≤ i) : u[i]? = none := List.getElem?_eq_none h

theorem Rel.ok {α : Type} {d : Prop} {n j : Nat} {a : α} (h : j ≤ n) : Rel d n (.ok a j) (.ok a j) := ⟨h, .inl rfl⟩
theorem Rel.bad {α : Type} {d : Prop} {n j : Nat} {e : Int} (h : j < n) (he : e ≠ 0 := by decide) : Rel d n (.bad e j : PR α) (.bad e j) := .inl ⟨h, he, rfl⟩
theorem Rel.edge {α : Type} {d : Prop} {n : Nat} {r : PR α} (h : r.Above n) : Rel d n (.bad 40 n) r := .inr ⟨rfl, rfl, h⟩
theorem Rel.up {α : Type} {d : Prop} {n : Nat} {r r' : PR α} (h : Rel False n r r') : Rel d n r r' := by
  cases r with
  | ok a j =>
    obtain ⟨h1, h2⟩ := h
    exact ⟨h1, h2.elim .inl fun k => k.1.elim⟩
  | bad e j => exact h
theorem Rel.bind {α β : Type} {d : Prop} {n : Nat} {r r' : PR α} {f f' : α → Nat → PR β} (h : Rel False n r r') (hf : ∀ a j, j ≤ n → r = .ok a j → Rel d n (f a j) (f' a j)) (hm : ∀ a j, j ≤ (f' a j).pos) : Rel d n (r.bind f) (r'.bind f') := by
  cases r with
  | ok a j =>
    obtain ⟨h1, h2⟩ := h
    rcases h2 with rfl | k
    · exact hf a j h1 rfl
    · exact k.1.elim
  | bad e j =>
    rcases h with ⟨h1, h0, rfl⟩ | ⟨rfl, rfl, h1⟩
    · exact .inl ⟨h1, h0, rfl⟩
    · exact .inr ⟨rfl, rfl, h1.bind hm⟩
theorem Rel.map {α β : Type} {d : Prop} {n : Nat} {r r' : PR α} {g : α → β} (h : Rel d n r r') : Rel d n (r.bind fun a i => .ok (g a) i) (r'.bind fun a i => .ok (g a) i) := by
  cases r with
  | ok a j =>
    obtain ⟨h1, h2⟩ := h
    rcases h2 with rfl | ⟨k, rfl, h3⟩
    · exact .ok h1
    · exact ⟨h1, .inr ⟨k, rfl, PR.pos_bind h3 fun _ j => Nat.le_refl j⟩⟩
  | bad e j =>
    rcases h with ⟨h1, h0, rfl⟩ | ⟨rfl, rfl, h1⟩
    · exact .inl ⟨h1, h0, rfl⟩
    · exact .inr ⟨rfl, rfl, h1.bind fun _ j => Nat.le_refl j⟩
/-- Behind a number at the end: what follows asks for a byte. -/
theorem Rel.bindN {α β : Type} {d : Prop} {n : Nat} {r r' : PR α} {f f' : α → Nat → PR β} (h : Rel d n r r') (hf : ∀ a j, j ≤ n → r = .ok a j → Rel False n (f a j) (f' a j)) (he : ∀ a, f a n = .bad 40 n) (hm : ∀ a j, (f' a j).Above j) : Rel False n (r.bind f) (r'.bind f') := by
  cases r with
  | ok a j =>
    obtain ⟨h1, h2⟩ := h
    rcases h2 with rfl | ⟨_, rfl, h3⟩
    · exact hf a j h1 rfl
    · rw [PR.bind_ok, he a]
      refine .edge ?_
      cases r' with
      | ok b l => exact (hm b l).weak h3
      | bad e l => exact h3
  | bad e j =>
    rcases h with ⟨h1, h0, rfl⟩ | ⟨rfl, rfl, h1⟩
    · exact .inl ⟨h1, h0, rfl⟩
    · exact .inr ⟨rfl, rfl, h1.bind fun a j => (hm a j).le⟩
theorem Rel.at {α : Type} {d : Prop} {u x : List UInt8} {i : Nat} {g g' : UInt8 → PR α} (hi : i ≤ u.length) (hg : ∀ c, i < u.length → u[i]? = some c → Rel d u.length (g c) (g' c)) (hm : ∀ c, (g' c).Above i) : Rel d u.length (atP u i g) (atP (u ++ x) i g') := by
  by_cases h : i < u.length
  · have e := List.getElem?_eq_getElem h
    rw [atP_some e, atP_some ((getE_app h).trans e)]
    exact hg _ h e
  · obtain rfl : i = u.length := by omega
    rw [atP_none (Nat.le_refl _)]
    exact .edge (atP_above hm)

theorem takeW_app (u x : List UInt8) : (u ++ x).takeWhile isBl = if (u.takeWhile isBl).length = u.length then u ++ x.takeWhile isBl else u.takeWhile isBl := List.takeWhile_append
theorem bl_appR {u x : List UInt8} {i : Nat} (hi : i ≤ u.length) (h : bl u i < u.length) : bl (u ++ x) i = bl u i := by
  unfold bl at *
  rw [List.drop_append_of_le_length hi, takeW_app, if_neg]
  rw [List.length_drop]; omega
theorem bl_app_ge {u x : List UInt8} {i : Nat} (hi : i ≤ u.length) (h : bl u i = u.length) : u.length ≤ bl (u ++ x) i := by
  unfold bl at *
  rw [List.drop_append_of_le_length hi, takeW_app, if_pos (by rw [List.length_drop]; omega), List.length_append, List.length_drop]
  omega
theorem bl_app_eq {u : List UInt8} {m : UInt8} {x : List UInt8} {i : Nat} (hi : i ≤ u.length) (h : bl u i = u.length) (hm : isBl m = false) : bl (u ++ m :: x) i = u.length := by
  unfold bl at *
  rw [List.drop_append_of_le_length hi, takeW_app, if_pos (by rw [List.length_drop]; omega), List.takeWhile_cons, if_neg (by simp [hm])]
  simp
  omega
theorem Rel.bl {α : Type} {d : Prop} {u x : List UInt8} {i : Nat} {g g' : Nat → PR α} (hi : i ≤ u.length) (hg : ∀ j, i ≤ j → j ≤ u.length → Rel d u.length (g j) (g' j)) (he : g u.length = .bad 40 u.length) (hm : ∀ j, (g' j).Above j) : Rel d u.length (g (bl u i)) (g' (bl (u ++ x) i)) := by
  have h1 := bl_max u i hi
  by_cases h : Jo.bl u i < u.length
  · rw [bl_appR hi h]; exact hg _ (bl_le u i) h1
  · have h2 : Jo.bl u i = u.length := by omega
    rw [h2, he]
    exact .edge ((hm _).weak (bl_app_ge hi h2))

theorem wantP_rel {u x : List UInt8} {c : UInt8} {i : Nat} (hi : i ≤ u.length) : Rel False u.length (wantP u c i) (wantP (u ++ x) c i) := by
  by_cases h : i < u.length
  · unfold wantP; rw [getE_app h]; split
    · exact .ok h
    · exact .bad h
  · obtain rfl : i = u.length := by omega
    rw [show wantP u c u.length = .bad 40 u.length from by unfold wantP; rw [getE_none (Nat.le_refl _)]; rfl]
    exact .edge (wantP_above ..)
theorem wordP_rel {u x : List UInt8} : ∀ (w : List UInt8) {i : Nat}, i ≤ u.length → Rel False u.length (wordP u w i) (wordP (u ++ x) w i)
  | [], i, hi => .ok hi
  | c :: w, i, hi => by
    by_cases h : i < u.length
    · unfold wordP; rw [getE_app h]; split
      · exact wordP_rel w h
      · exact .bad h
    · obtain rfl : i = u.length := by omega
      rw [show wordP u (c :: w) u.length = .bad 40 u.length from by unfold wordP; rw [getE_none (Nat.le_refl _)]; rfl]
      exact .edge (wordP_above ..)
theorem hexP_eq (s : List UInt8) (lo hi : Int) (i : Nat) : hexP s lo hi i = atP s i fun c => if hexZ c < lo ∨ hi < hexZ c then .bad 40 i else .ok (hexZ c) (i + 1) := rfl
theorem hexP_rel {u x : List UInt8} {lo hi : Int} {i : Nat} (h : i ≤ u.length) : Rel False u.length (hexP u lo hi i) (hexP (u ++ x) lo hi i) := by
  rw [hexP_eq, hexP_eq]
  refine .at h (fun c hl _ => ?_) fun c => ?_
  · split
    · exact .bad hl
    · exact .ok hl
  · split
    · exact Nat.le_refl i
    · exact Nat.lt_succ_self i
theorem pointP_rel {u x : List UInt8} {i : Nat} (h : i ≤ u.length) : Rel False u.length (pointP u i) (pointP (u ++ x) i) := by
  unfold pointP
  refine .bind (hexP_rel h) (fun a i h _ => .bind (hexP_rel h) (fun b i h _ => .bind (hexP_rel h) (fun c i h _ => .bind (hexP_rel h) (fun d i h _ => ?_) ?_) ?_) ?_) ?_
  · split
    · exact .ok h
    · refine .bind (wordP_rel _ h) (fun _ i h _ => .bind (hexP_rel h) (fun e i h _ => .bind (hexP_rel h) (fun f i h _ => .bind (hexP_rel h) (fun g i h _ => .bind (hexP_rel h) (fun h' i h _ => .ok h) ?_) ?_) ?_) ?_) ?_
      all_goals intros
      all_goals repeat' first | exact Nat.le_refl _ | refine PR.pos_bind (hexP_pos ..) fun _ _ => ?_
  all_goals intros
  all_goals repeat' first | exact Nat.le_refl _ | refine PR.pos_bind (hexP_pos ..) fun _ _ => ?_ | refine PR.pos_bind (wordP_pos ..) fun _ _ => ?_ | split
theorem followP_rel {u x : List UInt8} : ∀ (m : Nat) {lo hi : UInt8} {i : Nat}, i ≤ u.length → Rel False u.length (followP u m lo hi i) (followP (u ++ x) m lo hi i)
  | 0, _, _, i, h => .ok h
  | m + 1, lo, hi, i, h => by
    by_cases hl : i < u.length
    · unfold followP; rw [getE_app hl]
      split
      · exact .bad hl
      · split
        · exact .bad hl
        · exact followP_rel m hl
    · obtain rfl : i = u.length := by omega
      rw [show followP u (m + 1) lo hi u.length = .bad 40 u.length from by unfold followP; rw [getE_none (Nat.le_refl _)]]
      refine .edge ?_
      unfold followP; split
      · exact Nat.le_refl _
      · split
        · exact Nat.le_refl _
        · have h := followP_pos (u ++ x) m 128 191 (u.length + 1)
          cases hw : followP (u ++ x) m 128 191 (u.length + 1) with
          | ok a j => rw [hw] at h; exact h
          | bad e j => rw [hw] at h; exact Nat.le_of_succ_le h
theorem letterP_eqR (s : List UInt8) (i : Nat) : letterP s i = atP s i fun c => if c < 128 then .ok () (i + 1) else if (behindP c).2.2 = 0 then .bad 40 i else followP s (behindP c).2.2 (behindP c).1 (behindP c).2.1 (i + 1) := rfl
theorem letterP_rel {u x : List UInt8} {i : Nat} (h : i ≤ u.length) : Rel False u.length (letterP u i) (letterP (u ++ x) i) := by
  by_cases hl : i < u.length
  · unfold letterP; rw [getE_app hl]
    split
    · exact .bad hl
    · split
      · exact .ok hl
      · split
        · exact .bad hl
        · exact followP_rel _ hl
  · obtain rfl : i = u.length := by omega
    rw [letterP_eqR u, atP_none (Nat.le_refl _)]
    exact .edge (letterP_above ..)
theorem escP_rel {u x : List UInt8} {i : Nat} (h : i ≤ u.length) : Rel False u.length (escP u i) (escP (u ++ x) i) := by
  by_cases hl : i < u.length
  · unfold escP; rw [getE_app hl]
    split
    · exact .bad hl
    · repeat' split
      all_goals first
        | exact .ok hl
        | exact .bad hl
        | exact .map (pointP_rel hl)
  · obtain rfl : i = u.length := by omega
    rw [show escP u u.length = .bad 40 u.length from by unfold escP; rw [getE_none (Nat.le_refl _)]]
    exact .edge (escP_above ..)
theorem digP_rel {x : List UInt8} : ∀ (l : List UInt8) (n : Int) (i : Nat), Rel (∃ c r, x = c :: r ∧ isDig c = true) (i + l.length) (digP n l i) (digP n (l ++ x) i)
  | [], n, i => by
    refine ⟨Nat.le_refl _, ?_⟩
    rw [List.nil_append]
    cases x with
    | nil => exact .inl rfl
    | cons c r =>
      by_cases hc : isDig c = true
      · exact .inr ⟨⟨c, r, rfl, hc⟩, rfl, digP_pos _ _ _⟩
      · left; unfold digP; rw [if_neg hc]
  | c :: r, n, i => by
    rw [List.cons_append]
    unfold digP
    split
    · split
      · exact .bad (by simp)
      · have h := digP_rel (x := x) r (10 * n + ((c.toNat : Int) - 48)) (i + 1)
        rw [show i + 1 + r.length = i + (c :: r).length from by simp; omega] at h
        exact h
    · exact .ok (by simp)
theorem numQ_rel {u x : List UInt8} {z : Int} {i : Nat} (h : i ≤ u.length) : Rel (∃ c r, x = c :: r ∧ isDig c = true) u.length (numQ u z i) (numQ (u ++ x) z i) := by
  by_cases hl : i < u.length
  · unfold numQ; rw [getE_app hl]
    split
    · exact .bad hl
    · split
      · exact .bad hl
      · split
        · exact .ok hl
        · rw [List.drop_append_of_le_length h]
          have h2 := digP_rel (x := x) (u.drop i) 0 i
          rw [List.length_drop, show i + (u.length - i) = u.length from by omega] at h2
          exact .map h2
  · obtain rfl : i = u.length := by omega
    rw [show numQ u z u.length = .bad 40 u.length from by unfold numQ; rw [getE_none (Nat.le_refl _)]]
    exact .edge (numQ_above ..)
theorem numP_rel {u x : List UInt8} {i : Nat} (h : i ≤ u.length) : Rel (∃ c r, x = c :: r ∧ isDig c = true) u.length (numP u i) (numP (u ++ x) i) := by
  by_cases hl : i < u.length
  · unfold numP; rw [getE_app hl]
    split
    · exact numQ_rel hl
    · exact numQ_rel h
  · obtain rfl : i = u.length := by omega
    rw [show numP u u.length = .bad 40 u.length from by unfold numP numQ; rw [getE_none (Nat.le_refl _)]; rfl]
    exact .edge (numP_above ..)
end Jo
end Go.Proofs.YtmajpambfblhnaaGreatDoor
namespace Go.Proofs.YtmajpambfblhnaaGreatDoor
namespace Jo

-- no more rounds than bytes
theorem textL_fuel (s : List UInt8) (seen : List (List UInt8)) : ∀ (f f' : Nat) (acc : List UInt8) (i : Nat), s.length - i < f → s.length - i < f' → textL s seen f acc i = textL s seen f' acc i
  | 0, _, _, _, h, _ => absurd h (by omega)
  | _ + 1, 0, _, _, _, h => absurd h (by omega)
  | f + 1, f' + 1, acc, i, h, h' => by
    rw [textL, textL]
    cases hc : s[i]? with
    | none => rfl
    | some c =>
      have hi : i < s.length := (List.getElem?_eq_some_iff.1 hc).1
      dsimp only
      split
      · rfl
      · split
        · refine PR.bind_congr fun a j ha => ?_
          have h1 := escP_above s (i + 1)
          rw [ha] at h1
          have h1 : i + 1 < j := h1
          exact textL_fuel s seen f f' _ j (by omega) (by omega)
        · split
          · rfl
          · refine PR.bind_congr fun a j ha => ?_
            have h1 := letterP_above s i
            rw [ha] at h1
            have h1 : i < j := h1
            exact textL_fuel s seen f f' _ j (by omega) (by omega)
theorem listL_fuel (s : List UInt8) {val : Nat → PR J} (hv : ∀ i, (val i).Above i) : ∀ (f f' : Nat) (acc : List J) (i : Nat), s.length - i < f → s.length - i < f' → listL s val f acc i = listL s val f' acc i
  | 0, _, _, _, h, _ => absurd h (by omega)
  | _ + 1, 0, _, _, _, h => absurd h (by omega)
  | f + 1, f' + 1, acc, i, h, h' => by
    rw [listL, listL]
    refine PR.bind_congr fun a j ha => ?_
    have h1 := hv i
    rw [ha] at h1
    have h1 : i < j := h1
    have h2 := bl_le s j
    cases hc : s[bl s j]? with
    | none => rfl
    | some c =>
      have hi : bl s j < s.length := (List.getElem?_eq_some_iff.1 hc).1
      dsimp only
      split
      · exact listL_fuel s hv f f' _ _ (by omega) (by omega)
      · rfl
theorem objL_fuel (s : List UInt8) {val : Nat → PR J} (hv : ∀ i, (val i).Above i) : ∀ (f f' : Nat) (acc : List (List UInt8 × J)) (i : Nat), s.length - i < f → s.length - i < f' → objL s val f acc i = objL s val f' acc i
  | 0, _, _, _, h, _ => absurd h (by omega)
  | _ + 1, 0, _, _, _, h => absurd h (by omega)
  | f + 1, f' + 1, acc, i, h, h' => by
    rw [objL, objL]
    refine PR.bind_congr fun a j ha => PR.bind_congr fun b j2 hb => PR.bind_congr fun x j3 hx => ?_
    have h1 := textP_above s (acc.map (·.1)) (bl s i)
    rw [ha] at h1
    have h1 : bl s i < j := h1
    have h2 := wantP_above s 58 (bl s j)
    rw [hb] at h2
    have h2 : bl s j < j2 := h2
    have h3 := hv j2
    rw [hx] at h3
    have h3 : j2 < j3 := h3
    have b1 := bl_le s i
    have b2 := bl_le s j
    have b3 := bl_le s j3
    cases hc : s[bl s j3]? with
    | none => rfl
    | some c =>
      have hi : bl s j3 < s.length := (List.getElem?_eq_some_iff.1 hc).1
      dsimp only
      split
      · exact objL_fuel s hv f f' _ _ (by omega) (by omega)
      · rfl

/-- The rest of a text, of a list, of an object, with rounds enough. -/
def TL (s : List UInt8) (seen : List (List UInt8)) (acc : List UInt8) (i : Nat) : PR (List UInt8) := textL s seen (s.length + 1) acc i
def LL (s : List UInt8) (val : Nat → PR J) (acc : List J) (i : Nat) : PR (List J) := listL s val (s.length + 1) acc i
def OL (s : List UInt8) (val : Nat → PR J) (acc : List (List UInt8 × J)) (i : Nat) : PR (List (List UInt8 × J)) := objL s val (s.length + 1) acc i

def tailT (s : List UInt8) (seen : List (List UInt8)) (acc : List UInt8) (i : Nat) (c : UInt8) : PR (List UInt8) :=
  if c = 34 then (if acc ∈ seen then .bad 42 i else .ok acc (i + 1))
  else if c = 92 then (escP s (i + 1)).bind fun x j => TL s seen (acc ++ x) j
  else if c < 32 then .bad 40 i
  else (letterP s i).bind fun _ j => TL s seen (acc ++ (s.drop i).take (j - i)) j
theorem TL_eq (s : List UInt8) (seen : List (List UInt8)) (acc : List UInt8) (i : Nat) : TL s seen acc i = atP s i (tailT s seen acc i) := by
  unfold TL
  rw [textL]
  unfold atP
  cases hc : s[i]? with
  | none => rfl
  | some c =>
    have hi : i < s.length := (List.getElem?_eq_some_iff.1 hc).1
    dsimp only
    unfold tailT
    split
    · rfl
    · split
      · refine PR.bind_congr fun a j ha => ?_
        have h1 := escP_above s (i + 1)
        rw [ha] at h1
        have h1 : i + 1 < j := h1
        exact textL_fuel s seen _ _ _ j (by omega) (by omega)
      · split
        · rfl
        · refine PR.bind_congr fun a j ha => ?_
          have h1 := letterP_above s i
          rw [ha] at h1
          have h1 : i < j := h1
          exact textL_fuel s seen _ _ _ j (by omega) (by omega)
/-- Behind an item. -/
def tailL (s : List UInt8) (val : Nat → PR J) (acc : List J) (b : Nat) (c : UInt8) : PR (List J) := if c = 44 then LL s val acc (b + 1) else if c = 93 then .ok acc (b + 1) else .bad 40 b
def tailO (s : List UInt8) (val : Nat → PR J) (acc : List (List UInt8 × J)) (b : Nat) (c : UInt8) : PR (List (List UInt8 × J)) := if c = 44 then OL s val acc (b + 1) else if c = 125 then .ok acc (b + 1) else .bad 40 b
theorem LL_eq (s : List UInt8) {val : Nat → PR J} (hv : ∀ i, (val i).Above i) (acc : List J) (i : Nat) : LL s val acc i = (val i).bind fun x j => atP s (bl s j) (tailL s val (acc ++ [x]) (bl s j)) := by
  unfold LL
  rw [listL]
  refine PR.bind_congr fun a j ha => ?_
  have h1 := hv i
  rw [ha] at h1
  have h1 : i < j := h1
  have h2 := bl_le s j
  unfold atP
  cases hc : s[bl s j]? with
  | none => rfl
  | some c =>
    have hi : bl s j < s.length := (List.getElem?_eq_some_iff.1 hc).1
    dsimp only
    unfold tailL
    split
    · exact listL_fuel s hv _ _ _ _ (by omega) (by omega)
    · rfl
def memO (s : List UInt8) (val : Nat → PR J) (acc : List (List UInt8 × J)) (n : List UInt8) (j : Nat) : PR (List (List UInt8 × J)) := (val j).bind fun x j => atP s (bl s j) (tailO s val (acc ++ [(n, x)]) (bl s j))
def nameO (s : List UInt8) (val : Nat → PR J) (acc : List (List UInt8 × J)) (n : List UInt8) (j : Nat) : PR (List (List UInt8 × J)) := (wantP s 58 (bl s j)).bind fun _ j => memO s val acc n j
theorem OL_eq (s : List UInt8) {val : Nat → PR J} (hv : ∀ i, (val i).Above i) (acc : List (List UInt8 × J)) (i : Nat) : OL s val acc i = (textP s (acc.map (·.1)) (bl s i)).bind (nameO s val acc) := by
  unfold OL
  rw [objL]
  refine PR.bind_congr fun a j ha => PR.bind_congr fun b j2 hb => PR.bind_congr fun x j3 hx => ?_
  have h1 := textP_above s (acc.map (·.1)) (bl s i)
  rw [ha] at h1
  have h1 : bl s i < j := h1
  have h2 := wantP_above s 58 (bl s j)
  rw [hb] at h2
  have h2 : bl s j < j2 := h2
  have h3 := hv j2
  rw [hx] at h3
  have h3 : j2 < j3 := h3
  have b1 := bl_le s i
  have b2 := bl_le s j
  have b3 := bl_le s j3
  unfold atP
  cases hc : s[bl s j3]? with
  | none => rfl
  | some c =>
    have hi : bl s j3 < s.length := (List.getElem?_eq_some_iff.1 hc).1
    dsimp only
    unfold tailO
    split
    · exact objL_fuel s hv _ _ _ _ (by omega) (by omega)
    · rfl
theorem textP_eq (s : List UInt8) (seen : List (List UInt8)) (i : Nat) : textP s seen i = (wantP s 34 i).bind fun _ j => TL s seen [] j := rfl
def headL (s : List UInt8) (val : Nat → PR J) (b : Nat) (c : UInt8) : PR (List J) := if c = 93 then .ok [] (b + 1) else LL s val [] b
def headO (s : List UInt8) (val : Nat → PR J) (b : Nat) (c : UInt8) : PR (List (List UInt8 × J)) := if c = 125 then .ok [] (b + 1) else OL s val [] b
theorem listP_eq (s : List UInt8) (val : Nat → PR J) (i : Nat) : listP s val i = atP s (bl s (i + 1)) (headL s val (bl s (i + 1))) := rfl
theorem objP_eq (s : List UInt8) (val : Nat → PR J) (i : Nat) : objP s val i = atP s (bl s (i + 1)) (headO s val (bl s (i + 1))) := rfl

theorem TL_above (s : List UInt8) (seen : List (List UInt8)) (acc : List UInt8) (i : Nat) : (TL s seen acc i).Above i := textL_above ..
theorem LL_above (s : List UInt8) {val : Nat → PR J} (hv : ∀ i, (val i).Above i) (acc : List J) (i : Nat) : (LL s val acc i).Above i := listL_above hv ..
theorem OL_above (s : List UInt8) {val : Nat → PR J} (hv : ∀ i, (val i).Above i) (acc : List (List UInt8 × J)) (i : Nat) : (OL s val acc i).Above i := objL_above hv ..
theorem tailT_above (s : List UInt8) (seen : List (List UInt8)) (acc : List UInt8) (i : Nat) (c : UInt8) : (tailT s seen acc i c).Above i := by
  unfold tailT
  repeat' split
  · exact Nat.le_refl i
  · exact Nat.lt_succ_self i
  · exact ((escP_above s (i + 1)).weak (Nat.le_succ i)).bind fun x j => (TL_above ..).le
  · exact Nat.le_refl i
  · exact (letterP_above s i).bind fun x j => (TL_above ..).le
theorem tailL_above (s : List UInt8) {val : Nat → PR J} (hv : ∀ i, (val i).Above i) (acc : List J) (b : Nat) (c : UInt8) : (tailL s val acc b c).Above b := by
  unfold tailL
  repeat' split
  · exact (LL_above s hv _ _).weak (Nat.le_succ b)
  · exact Nat.lt_succ_self b
  · exact Nat.le_refl b
theorem tailO_above (s : List UInt8) {val : Nat → PR J} (hv : ∀ i, (val i).Above i) (acc : List (List UInt8 × J)) (b : Nat) (c : UInt8) : (tailO s val acc b c).Above b := by
  unfold tailO
  repeat' split
  · exact (OL_above s hv _ _).weak (Nat.le_succ b)
  · exact Nat.lt_succ_self b
  · exact Nat.le_refl b
theorem headL_above (s : List UInt8) {val : Nat → PR J} (hv : ∀ i, (val i).Above i) (b : Nat) (c : UInt8) : (headL s val b c).Above b := by
  unfold headL
  split
  · exact Nat.lt_succ_self b
  · exact LL_above s hv _ _
theorem headO_above (s : List UInt8) {val : Nat → PR J} (hv : ∀ i, (val i).Above i) (b : Nat) (c : UInt8) : (headO s val b c).Above b := by
  unfold headO
  split
  · exact Nat.lt_succ_self b
  · exact OL_above s hv _ _
theorem memO_above (s : List UInt8) {val : Nat → PR J} (hv : ∀ i, (val i).Above i) (acc : List (List UInt8 × J)) (n : List UInt8) (j : Nat) : (memO s val acc n j).Above j :=
  (hv j).bind fun x j => Nat.le_trans (bl_le s j) (atP_above fun c => tailO_above s hv _ _ c).le
theorem nameO_above (s : List UInt8) {val : Nat → PR J} (hv : ∀ i, (val i).Above i) (acc : List (List UInt8 × J)) (n : List UInt8) (j : Nat) : (nameO s val acc n j).Above j :=
  ((wantP_above s 58 (bl s j)).weak (bl_le s j)).bind fun _ j => (memO_above s hv acc n j).le

theorem drop_take_app {u x : List UInt8} {i j : Nat} (h : j ≤ u.length) (hi : i ≤ u.length) : ((u ++ x).drop i).take (j - i) = (u.drop i).take (j - i) := by
  rw [List.drop_append_of_le_length hi, List.take_append_of_le_length (by rw [List.length_drop]; omega)]
theorem TL_rel {u x : List UInt8} {seen : List (List UInt8)} : ∀ (n : Nat) {acc : List UInt8} {i : Nat}, u.length - i ≤ n → i ≤ u.length → Rel False u.length (TL u seen acc i) (TL (u ++ x) seen acc i) := by
  intro n
  induction n with
  | zero =>
    intro acc i hn hi
    obtain rfl : i = u.length := by omega
    rw [TL_eq u, atP_none (Nat.le_refl _)]
    exact .edge (TL_above ..)
  | succ n ih =>
    intro acc i hn hi
    rw [TL_eq u, TL_eq (u ++ x)]
    refine .at hi (fun c hl hc => ?_) fun c => tailT_above ..
    unfold tailT
    split
    · split
      · exact .bad hl
      · exact .ok hl
    · split
      · refine .bind (escP_rel hl) (fun a j hj ha => ?_) fun a j => (TL_above ..).le
        have h1 := escP_above u (i + 1)
        rw [ha] at h1
        have h1 : i + 1 < j := h1
        exact ih (by omega) hj
      · split
        · exact .bad hl
        · refine .bind (letterP_rel hi) (fun a j hj ha => ?_) fun a j => (TL_above ..).le
          have h1 := letterP_above u i
          rw [ha] at h1
          have h1 : i < j := h1
          rw [drop_take_app hj hi]
          exact ih (by omega) hj
theorem textP_rel {u x : List UInt8} {seen : List (List UInt8)} {i : Nat} (h : i ≤ u.length) : Rel False u.length (textP u seen i) (textP (u ++ x) seen i) := by
  rw [textP_eq, textP_eq]
  exact .bind (wantP_rel h) (fun _ j hj _ => TL_rel _ (Nat.le_refl _) hj) fun _ j => (TL_above ..).le

/-- What a reader of values keeps to. -/
structure ValR (v : List UInt8 → Nat → PR J) : Prop where
  above : ∀ s i, (v s i).Above i
  rel : ∀ u x i, i ≤ u.length → Rel (∃ c r, x = c :: r ∧ isDig c = true) u.length (v u i) (v (u ++ x) i)

theorem LL_rel {v : List UInt8 → Nat → PR J} (hv : ValR v) {u x : List UInt8} : ∀ (n : Nat) {acc : List J} {i : Nat}, u.length - i ≤ n → i ≤ u.length → Rel False u.length (LL u (v u) acc i) (LL (u ++ x) (v (u ++ x)) acc i) := by
  intro n
  induction n with
  | zero =>
    intro acc i hn hi
    rw [LL_eq u (hv.above u), LL_eq (u ++ x) (hv.above _)]
    refine .bindN (hv.rel u x i hi) (fun a j hj ha => ?_) (fun a => ?_) fun a j => (atP_above fun c => tailL_above _ (hv.above _) _ _ c).weak (bl_le _ j)
    · have h1 := hv.above u i
      rw [ha] at h1
      have h1 : i < j := h1
      omega
    · rw [bl_end u _ (Nat.le_refl _), atP_none (Nat.le_refl _)]
  | succ n ih =>
    intro acc i hn hi
    rw [LL_eq u (hv.above u), LL_eq (u ++ x) (hv.above _)]
    refine .bindN (hv.rel u x i hi) (fun a j hj ha => ?_) (fun a => ?_) fun a j => (atP_above fun c => tailL_above _ (hv.above _) _ _ c).weak (bl_le _ j)
    · have h1 := hv.above u i
      rw [ha] at h1
      have h1 : i < j := h1
      refine Rel.bl (g := fun b => atP u b (tailL u (v u) (acc ++ [a]) b)) (g' := fun b => atP (u ++ x) b (tailL (u ++ x) (v (u ++ x)) (acc ++ [a]) b)) hj (fun b hb1 hb2 => ?_) (atP_none (Nat.le_refl _)) fun b => atP_above fun c => tailL_above _ (hv.above _) _ _ c
      refine .at hb2 (fun c hl hc => ?_) fun c => tailL_above _ (hv.above _) _ _ c
      unfold tailL
      split
      · exact ih (by omega) hl
      · split
        · exact .ok hl
        · exact .bad hl
    · rw [bl_end u _ (Nat.le_refl _), atP_none (Nat.le_refl _)]
theorem nameO_edge (u : List UInt8) (val : Nat → PR J) (acc : List (List UInt8 × J)) (n : List UInt8) : nameO u val acc n u.length = .bad 40 u.length := by
  unfold nameO
  rw [bl_end u _ (Nat.le_refl _), show wantP u 58 u.length = .bad 40 u.length from by unfold wantP; rw [getE_none (Nat.le_refl _)]; rfl]
  rfl
theorem OL_rel {v : List UInt8 → Nat → PR J} (hv : ValR v) {u x : List UInt8} : ∀ (n : Nat) {acc : List (List UInt8 × J)} {i : Nat}, u.length - i ≤ n → i ≤ u.length → Rel False u.length (OL u (v u) acc i) (OL (u ++ x) (v (u ++ x)) acc i) := by
  intro n
  induction n with
  | zero =>
    intro acc i hn hi
    obtain rfl : i = u.length := by omega
    rw [OL_eq u (hv.above u), bl_end u _ (Nat.le_refl _), textP_eq, show wantP u 34 u.length = .bad 40 u.length from by unfold wantP; rw [getE_none (Nat.le_refl _)]; rfl]
    exact .edge (OL_above _ (hv.above _) _ _)
  | succ n ih =>
    intro acc i hn hi
    rw [OL_eq u (hv.above u), OL_eq (u ++ x) (hv.above _)]
    refine Rel.bind (Rel.bl (g := fun b => textP u (acc.map (·.1)) b) (g' := fun b => textP (u ++ x) (acc.map (·.1)) b) hi (fun b _ hb => textP_rel hb) ?_ fun b => textP_above ..) (fun nm j hj hnm => ?_) fun nm j => (nameO_above _ (hv.above _) _ _ _).le
    · rw [textP_eq, show wantP u 34 u.length = .bad 40 u.length from by unfold wantP; rw [getE_none (Nat.le_refl _)]; rfl]
      rfl
    have h0 := textP_above u (acc.map (·.1)) (bl u i)
    rw [hnm] at h0
    have h0 : bl u i < j := h0
    have h00 := bl_le u i
    unfold nameO
    refine Rel.bind (Rel.bl (g := fun b => wantP u 58 b) (g' := fun b => wantP (u ++ x) 58 b) hj (fun b _ hb => wantP_rel hb) ?_ fun b => wantP_above ..) (fun _ j2 hj2 hw => ?_) fun _ j => (memO_above _ (hv.above _) _ _ _).le
    · unfold wantP; rw [getE_none (Nat.le_refl _)]; rfl
    have h1 := wantP_above u 58 (bl u j)
    rw [hw] at h1
    have h1 : bl u j < j2 := h1
    have h11 := bl_le u j
    unfold memO
    refine .bindN (hv.rel u x j2 hj2) (fun a j3 hj3 ha => ?_) (fun a => ?_) fun a j => (atP_above fun c => tailO_above _ (hv.above _) _ _ c).weak (bl_le _ j)
    · have h2 := hv.above u j2
      rw [ha] at h2
      have h2 : j2 < j3 := h2
      refine Rel.bl (g := fun b => atP u b (tailO u (v u) (acc ++ [(nm, a)]) b)) (g' := fun b => atP (u ++ x) b (tailO (u ++ x) (v (u ++ x)) (acc ++ [(nm, a)]) b)) hj3 (fun b hb1 hb2 => ?_) (atP_none (Nat.le_refl _)) fun b => atP_above fun c => tailO_above _ (hv.above _) _ _ c
      refine .at hb2 (fun c hl hc => ?_) fun c => tailO_above _ (hv.above _) _ _ c
      unfold tailO
      split
      · exact ih (by omega) hl
      · split
        · exact .ok hl
        · exact .bad hl
    · rw [bl_end u _ (Nat.le_refl _), atP_none (Nat.le_refl _)]
theorem listP_rel {v : List UInt8 → Nat → PR J} (hv : ValR v) {u x : List UInt8} {i : Nat} (h : i < u.length) : Rel False u.length (listP u (v u) i) (listP (u ++ x) (v (u ++ x)) i) := by
  rw [listP_eq, listP_eq]
  refine Rel.bl (g := fun b => atP u b (headL u (v u) b)) (g' := fun b => atP (u ++ x) b (headL (u ++ x) (v (u ++ x)) b)) h (fun b _ hb => ?_) (atP_none (Nat.le_refl _)) fun b => atP_above fun c => headL_above _ (hv.above _) _ c
  refine .at hb (fun c hl hc => ?_) fun c => headL_above _ (hv.above _) _ c
  unfold headL
  split
  · exact .ok hl
  · exact LL_rel hv _ (Nat.le_refl _) hb
theorem objP_rel {v : List UInt8 → Nat → PR J} (hv : ValR v) {u x : List UInt8} {i : Nat} (h : i < u.length) : Rel False u.length (objP u (v u) i) (objP (u ++ x) (v (u ++ x)) i) := by
  rw [objP_eq, objP_eq]
  refine Rel.bl (g := fun b => atP u b (headO u (v u) b)) (g' := fun b => atP (u ++ x) b (headO (u ++ x) (v (u ++ x)) b)) h (fun b _ hb => ?_) (atP_none (Nat.le_refl _)) fun b => atP_above fun c => headO_above _ (hv.above _) _ c
  refine .at hb (fun c hl hc => ?_) fun c => headO_above _ (hv.above _) _ c
  unfold headO
  split
  · exact .ok hl
  · exact OL_rel hv _ (Nat.le_refl _) hb
theorem valQ_edge (u : List UInt8) (li : Nat → PR (List J)) (ob : Nat → PR (List (List UInt8 × J))) : valQ u li ob u.length = .bad 40 u.length := by
  unfold valQ; rw [getE_none (Nat.le_refl _)]
theorem valQ_rel {u x : List UInt8} {li li' : Nat → PR (List J)} {ob ob' : Nat → PR (List (List UInt8 × J))} {i : Nat} (hi : i ≤ u.length) (hl : i < u.length → Rel False u.length (li i) (li' i)) (ho : i < u.length → Rel False u.length (ob i) (ob' i))
    (hla : ∀ i, (li' i).Above i) (hoa : ∀ i, (ob' i).Above i) : Rel (∃ c r, x = c :: r ∧ isDig c = true) u.length (valQ u li ob i) (valQ (u ++ x) li' ob' i) := by
  by_cases h : i < u.length
  · unfold valQ; rw [getE_app h]
    split
    · exact .bad h
    · repeat' split
      · exact .map (wordP_rel _ hi).up
      · exact .map (wordP_rel _ hi).up
      · exact .map (wordP_rel _ hi).up
      · exact .map (textP_rel hi).up
      · exact .map (hl h).up
      · exact Rel.map (g := fun ms => J.obj (sortM ms)) (ho h).up
      · exact .map (numP_rel hi)
  · obtain rfl : i = u.length := by omega
    rw [valQ_edge]
    exact .edge (valQ_above hla hoa _)
theorem valP_val : ∀ k, ValR fun s => valP s k
  | 0 => by
    refine ⟨fun s => valP_above s 0, fun u x i hi => ?_⟩
    refine Rel.bl (g := fun b => valQ u (fun i => .bad 41 i) (fun i => .bad 41 i) b) (g' := fun b => valQ (u ++ x) (fun i => .bad 41 i) (fun i => .bad 41 i) b) hi (fun b _ hb => ?_) (valQ_edge ..) fun b => valQ_above (li := fun i => .bad 41 i) (ob := fun i => .bad 41 i) (fun i => Nat.le_refl i) (fun i => Nat.le_refl i) b
    exact valQ_rel hb (fun h => .bad h) (fun h => .bad h) (fun i => Nat.le_refl i) fun i => Nat.le_refl i
  | k + 1 => by
    have ih := valP_val k
    refine ⟨fun s => valP_above s (k + 1), fun u x i hi => ?_⟩
    refine Rel.bl (g := fun b => valQ u (listP u (valP u k)) (objP u (valP u k)) b) (g' := fun b => valQ (u ++ x) (listP (u ++ x) (valP (u ++ x) k)) (objP (u ++ x) (valP (u ++ x) k)) b) hi (fun b _ hb => ?_) (valQ_edge ..) fun b => valQ_above (listP_above (valP_above _ k)) (objP_above (valP_above _ k)) b
    exact valQ_rel hb (fun h => listP_rel ih h) (fun h => objP_rel ih h) (listP_above (valP_above _ k)) (objP_above (valP_above _ k))
end Jo
end Go.Proofs.YtmajpambfblhnaaGreatDoor
namespace Go.Proofs.YtmajpambfblhnaaGreatDoor
namespace Jo

def marks : List UInt8 := [34, 93, 125, 58, 48, 44, 117, 108, 97, 115, 114, 101, 116, 100, 99, 92, 128, 144, 160]
def viab {α : Type} (r : PR α) (n : Nat) : Bool := match r with | .ok _ j => j == n | .bad e j => e == 40 && j == n
/-- The first mark that may stand next. -/
def nextM {α : Type} (P : List UInt8 → PR α) (u : List UInt8) : Option UInt8 := marks.find? fun m => viab (P (u ++ [m])) (u.length + 1)
/-- Mark by mark the reading comes to its end. -/
inductive Ends {α : Type} (P : List UInt8 → PR α) : Nat → List UInt8 → Prop
  | fin {n : Nat} {t : List UInt8} {a : α} : (∀ x, P (t ++ x) = .ok a t.length) → Ends P n t
  | step {n : Nat} {u : List UInt8} {m : UInt8} : P u = .bad 40 u.length → nextM P u = some m → Ends P n (u ++ [m]) → Ends P (n + 1) u

theorem find_congr {p q : UInt8 → Bool} : ∀ {l : List UInt8}, (∀ m ∈ l, p m = q m) → l.find? p = l.find? q
  | [], _ => rfl
  | c :: l, h => by
    rw [List.find?_cons, List.find?_cons, h c (by simp), find_congr fun m hm => h m (by simp [hm])]
theorem viab_bad (n : Nat) {α : Type} : viab (.bad 40 n : PR α) (n + 1) = false := by simp [viab]
theorem viab_self (n : Nat) {α : Type} : viab (.bad 40 n : PR α) n = true := by simp [viab]
theorem viab_ok (n : Nat) {α : Type} (a : α) : viab (.ok a n) n = true := by simp [viab]
theorem Ends.mono {α : Type} {P : List UInt8 → PR α} {n : Nat} {u : List UInt8} (h : Ends P n u) : ∀ {k : Nat}, n ≤ k → Ends P k u := by
  induction h with
  | fin h => intro k _; exact .fin h
  | step h1 h2 _ ih =>
    intro k hk
    obtain ⟨j, rfl⟩ : ∃ j, k = j + 1 := ⟨k - 1, by omega⟩
    exact .step h1 h2 (ih (by omega))
theorem Ends.viab {α : Type} {P : List UInt8 → PR α} {n : Nat} {u : List UInt8} (h : Ends P n u) : viab (P u) u.length = true := by
  cases h with
  | fin h => have := h []; rw [List.append_nil] at this; rw [this]; exact viab_ok _ _
  | step h _ _ => rw [h]; exact viab_self _
theorem snoc_len (u : List UInt8) (m : UInt8) : (u ++ [m]).length = u.length + 1 := by simp
theorem snoc_app (u : List UInt8) (m : UInt8) (x : List UInt8) : u ++ [m] ++ x = u ++ m :: x := by simp
theorem get_app (u : List UInt8) (m : UInt8) (x : List UInt8) : (u ++ m :: x)[u.length]? = some m := by simp
theorem Ends.congr {α : Type} {P Q : List UInt8 → PR α} {n : Nat} {u : List UInt8} (h : Ends P n u) : (∀ x, P (u ++ x) = Q (u ++ x)) → Ends Q n u := by
  induction h with
  | fin h => intro k; exact .fin fun x => (k x).symm.trans (h x)
  | @step n u m h1 h2 h3 ih =>
    intro k
    refine .step (m := m) ?_ ?_ (ih fun x => ?_)
    · have := k []; rw [List.append_nil] at this; exact this.symm.trans h1
    · unfold nextM at *; rw [← h2]; exact find_congr fun m _ => by rw [k [m]]
    · rw [List.append_assoc]; exact k _
theorem Ends.bind0 {α β : Type} {d : List UInt8 → Prop} {A : List UInt8 → PR α} {B : List UInt8 → α → Nat → PR β} {n k : Nat} {u : List UInt8} (h : Ends A n u) : (∀ y x, Rel (d x) (u ++ y).length (A (u ++ y)) (A (u ++ y ++ x))) →
    (∀ t a, Ends (fun s => B s a t.length) k t) → Ends (fun s => (A s).bind (B s)) (n + k) u := by
  induction h with
  | @fin n t a h =>
    intro hr hB
    exact ((hB t a).congr fun x => by rw [h x]; rfl).mono (Nat.le_add_left k n)
  | @step n u m h1 h2 h3 ih =>
    intro hr hB
    refine Ends.mono (n := n + k + 1) ?_ (by omega)
    refine .step (m := m) (by rw [h1]; rfl) ?_ (ih (fun y x => ?_) hB)
    · unfold nextM at *
      rw [← h2]
      refine find_congr fun m _ => ?_
      have r1 := hr [] [m]
      have r2 := hr [m] []
      rw [List.append_nil] at r1 r2
      rw [h1] at r1
      rcases r1 with ⟨h, _⟩ | ⟨_, _, r1⟩
      · exact absurd h (by omega)
      · dsimp only
        cases hA : A (u ++ [m]) with
        | bad e j => rfl
        | ok a j =>
          rw [hA] at r1 r2
          have r1 : u.length < j := r1
          have r2 := r2.1
          rw [snoc_len] at r2
          obtain rfl : j = u.length + 1 := by omega
          rw [viab_ok, PR.bind_ok]
          have := (hB (u ++ [m]) a).viab
          rw [snoc_len] at this
          exact this
    · have := hr ([m] ++ y) x
      rw [← List.append_assoc u [m] y] at this
      exact this
theorem Ends.bind2 {α β : Type} {n k R : Nat} (hR : n + k ≤ R) {A : List UInt8 → PR α} {B : List UInt8 → α → Nat → PR β} {u : List UInt8} (hA : A u = .bad 40 u.length → Ends A n u) (hr : ∀ y x, Rel False (u ++ y).length (A (u ++ y)) (A (u ++ y ++ x)))
    (hB1 : ∀ a j, j ≤ u.length → A u = .ok a j → B u a j = .bad 40 u.length → Ends (fun s => B s a j) R u) (hB2 : ∀ t a, Ends (fun s => B s a t.length) k t)
    (h : (A u).bind (B u) = .bad 40 u.length ∨ A u = .bad 40 u.length) : Ends (fun s => (A s).bind (B s)) R u := by
  cases hc : A u with
  | bad e j =>
    have e1 : A u = .bad 40 u.length := by
      rcases h with h | h
      · rw [hc] at h ⊢; exact congrArg (fun r : PR β => match r with | .bad e j => (PR.bad e j : PR α) | .ok _ _ => .bad 0 0) h
      · exact h
    exact ((hA e1).bind0 (d := fun _ => False) hr hB2).mono hR
  | ok a j =>
    have r := hr []
    rw [List.append_nil] at r
    have hj : j ≤ u.length := by have := r []; rw [hc] at this; exact this.1
    have hx : ∀ x, A (u ++ x) = .ok a j := fun x => by
      have := r x
      rw [hc] at this
      exact this.2.elim id fun k => k.1.elim
    refine (hB1 a j hj hc ?_).congr fun x => by rw [hx x]; rfl
    rcases h with h | h
    · rw [hc] at h; exact h
    · rw [hc] at h; cases h
theorem Ends.map {α β : Type} {d : List UInt8 → Prop} {A : List UInt8 → PR α} {g : α → β} {n : Nat} {u : List UInt8} (h : Ends A n u) (hr : ∀ y x, Rel (d x) (u ++ y).length (A (u ++ y)) (A (u ++ y ++ x))) : Ends (fun s => (A s).bind fun a i => .ok (g a) i) n u :=
  h.bind0 (k := 0) hr fun _ _ => .fin fun _ => rfl
theorem PR.bad_map {α β : Type} {A : PR α} {g : α → β} {e : Int} {j : Nat} (h : (A.bind fun a i => .ok (g a) i) = .bad e j) : A = .bad e j := by
  cases A with
  | ok a i => cases h
  | bad e i => cases h; rfl

/-- A first mark by its looks alone. -/
theorem Ends.look {α : Type} {P : List UInt8 → PR α} {n : Nat} {u : List UInt8} {p : UInt8 → Bool} {c : UInt8} (h : P u = .bad 40 u.length) (hp : ∀ m ∈ marks, Jo.viab (P (u ++ [m])) (u.length + 1) = p m) (hf : marks.find? p = some c) (he : Ends P n (u ++ [c])) : Ends P (n + 1) u :=
  .step h ((find_congr hp).trans hf) he
/-- The quote goes first. -/
theorem Ends.quote {α : Type} {P : List UInt8 → PR α} {n : Nat} {u : List UInt8} (h : P u = .bad 40 u.length) (he : Ends P n (u ++ [34])) : Ends P (n + 1) u := by
  refine .step h ?_ he
  have := he.viab
  rw [snoc_len] at this
  unfold nextM marks
  rw [List.find?_cons, this]
theorem Ends.second {α : Type} {P : List UInt8 → PR α} {n : Nat} {u : List UInt8} (h : P u = .bad 40 u.length) (h1 : Jo.viab (P (u ++ [34])) (u.length + 1) = false) (he : Ends P n (u ++ [93])) : Ends P (n + 1) u := by
  refine .step h ?_ he
  have := he.viab
  rw [snoc_len] at this
  unfold nextM marks
  rw [List.find?_cons, h1, List.find?_cons, this]
theorem Ends.third {α : Type} {P : List UInt8 → PR α} {n : Nat} {u : List UInt8} (h : P u = .bad 40 u.length) (h1 : Jo.viab (P (u ++ [34])) (u.length + 1) = false) (h2 : Jo.viab (P (u ++ [93])) (u.length + 1) = false) (he : Ends P n (u ++ [125])) : Ends P (n + 1) u := by
  refine .step h ?_ he
  have := he.viab
  rw [snoc_len] at this
  unfold nextM marks
  rw [List.find?_cons, h1, List.find?_cons, h2, List.find?_cons, this]
theorem Ends.fin' {α : Type} {P : List UInt8 → PR α} {n : Nat} {u : List UInt8} {m : UInt8} {a : α} (h : ∀ x, P (u ++ m :: x) = .ok a (u.length + 1)) : Ends P n (u ++ [m]) := .fin (a := a) fun x => by rw [snoc_app, snoc_len]; exact h x

-- the small ones
theorem atP_edge {α : Type} {u : List UInt8} {i : Nat} {g : UInt8 → PR α} (hi : i ≤ u.length) (hg : ∀ c, i < u.length → u[i]? = some c → g c ≠ .bad 40 u.length) (h : atP u i g = .bad 40 u.length) : i = u.length := by
  by_cases hl : i < u.length
  · have e := List.getElem?_eq_getElem hl
    rw [atP_some e] at h
    exact absurd h (hg _ hl e)
  · omega
theorem bad_ne {α : Type} {i n : Nat} (h : i < n) : (.bad 40 i : PR α) ≠ .bad 40 n := by intro k; cases k; omega
theorem ok_ne {α : Type} {a : α} {i n : Nat} {e : Int} : (.ok a i : PR α) ≠ .bad e n := by intro k; cases k
theorem wantP_at (u x : List UInt8) (c m : UInt8) : wantP (u ++ m :: x) c u.length = if m = c then .ok () (u.length + 1) else .bad 40 u.length := by
  unfold wantP; rw [get_app]; simp
theorem wantE {c : UInt8} (hc : marks.find? (· == c) = some c) {u : List UInt8} {i : Nat} (hi : i ≤ u.length) (h : wantP u c i = .bad 40 u.length) : Ends (fun s => wantP s c i) 1 u := by
  obtain rfl : i = u.length := by
    unfold wantP at h; split at h
    · cases h
    · cases h; rfl
  refine .look h (p := (· == c)) (fun m _ => ?_) hc (.fin' (a := ()) fun x => ?_)
  · rw [wantP_at]; split
    · rename_i e; subst e; simp [viab]
    · rename_i e; rw [viab_bad]; simp [e]
  · rw [wantP_at, if_pos rfl]
theorem wordP_end (u : List UInt8) (w : List UInt8) {i : Nat} (hi : u.length ≤ i) : wordP u w i = match w with | [] => .ok () i | _ :: _ => .bad 40 i := by
  cases w with
  | nil => rfl
  | cons c w => unfold wordP; rw [getE_none hi]; rfl
theorem wordE : ∀ (w : List UInt8), (∀ c ∈ w, marks.find? (· == c) = some c) → ∀ {u : List UInt8} {i : Nat}, i ≤ u.length → (wordP u w i = .bad 40 u.length ∨ i = u.length) → Ends (fun s => wordP s w i) w.length u
  | [], _, u, i, hi, h => by
    rcases h with h | rfl
    · cases h
    · exact .fin (a := ()) fun x => rfl
  | c :: w, hw, u, i, hi, h => by
    have hw' : ∀ c ∈ w, marks.find? (· == c) = some c := fun d hd => hw d (by simp [hd])
    by_cases hl : i < u.length
    · have h : wordP u (c :: w) i = .bad 40 u.length := h.resolve_right (by omega)
      by_cases hc : u[i]? = some c
      · rw [wordP, if_pos hc] at h
        refine ((wordE w hw' (i := i + 1) (by omega) (.inl h)).mono (Nat.le_succ _)).congr fun x => ?_
        rw [wordP, getE_app hl, if_pos hc]
      · rw [wordP, if_neg hc] at h
        exact absurd h (bad_ne hl)
    · obtain rfl : i = u.length := by omega
      refine .look (wordP_end u (c :: w) (Nat.le_refl _)) (p := (· == c)) (fun m _ => ?_) (hw c (by simp)) ?_
      · skip
        rw [wordP, get_app]
        by_cases e : m = c
        · subst e
          rw [if_pos rfl, wordP_end _ _ (by simp)]
          cases w <;> simp [viab]
        · rw [if_neg (by simpa using e), viab_bad]; simp [e]
      · refine (wordE w hw' (u := u ++ [c]) (i := u.length + 1) (by simp) (.inr (by simp))).congr fun x => ?_
        rw [wordP, snoc_app, get_app, if_pos rfl]
theorem hexP_atR (u x : List UInt8) (lo hi : Int) (m : UInt8) : hexP (u ++ m :: x) lo hi u.length = if hexZ m < lo ∨ hi < hexZ m then .bad 40 u.length else .ok (hexZ m) (u.length + 1) := by
  unfold hexP; rw [get_app]
theorem hexE {lo hi : Int} {c : UInt8} (hf : marks.find? (fun m => decide (¬ (hexZ m < lo ∨ hi < hexZ m))) = some c) {u : List UInt8} {i : Nat} (h0 : i ≤ u.length) (h : hexP u lo hi i = .bad 40 u.length) : Ends (fun s => hexP s lo hi i) 1 u := by
  obtain rfl : i = u.length := by
    rw [hexP_eq] at h
    refine atP_edge h0 (fun c hl _ => ?_) h
    split
    · exact bad_ne hl
    · exact ok_ne
  have hk : ¬ (hexZ c < lo ∨ hi < hexZ c) := by have := List.find?_some hf; simpa using this
  refine .look h (fun m _ => ?_) hf (.fin' (a := hexZ c) fun x => ?_)
  · rw [hexP_atR]
    by_cases e : hexZ m < lo ∨ hi < hexZ m
    · rw [if_pos e, viab_bad, decide_eq_false (not_not_intro e)]
    · rw [if_neg e, viab_ok, decide_eq_true e]
  · rw [hexP_atR, if_neg hk]
theorem hexP_end (u : List UInt8) (lo hi : Int) : hexP u lo hi u.length = .bad 40 u.length := by unfold hexP; rw [getE_none (Nat.le_refl _)]
theorem hexB {β : Type} {k : Nat} {lo hi : Int} {c : UInt8} (hf : marks.find? (fun m => decide (¬ (hexZ m < lo ∨ hi < hexZ m))) = some c) {B : List UInt8 → Int → Nat → PR β} {u : List UInt8} {i : Nat} (h0 : i ≤ u.length)
    (hB : ∀ t a j, j ≤ t.length → (B t a j = .bad 40 t.length ∨ j = t.length) → Ends (fun s => B s a j) k t) (h : (hexP u lo hi i).bind (B u) = .bad 40 u.length ∨ i = u.length) : Ends (fun s => (hexP s lo hi i).bind (B s)) (k + 1) u := by
  refine .bind2 (n := 1) (k := k) (by omega) (fun h => hexE hf h0 h) (fun y x => hexP_rel (by simp; omega)) (fun a j hj _ h => (hB u a j hj (.inl h)).mono (by omega)) (fun t a => hB t a _ (Nat.le_refl _) (.inr rfl)) (h.imp id fun e => ?_)
  rw [e]; exact hexP_end ..
/-- Behind the first four digits. -/
def lowP (s : List UInt8) (n : Int) (i : Nat) : PR Int :=
  if n < 55296 ∨ 56319 < n then .ok n i
  else (wordP s [92, 117] i).bind fun _ i => (hexP s 13 13 i).bind fun e i => (hexP s 12 15 i).bind fun f i => (hexP s 0 15 i).bind fun g i => (hexP s 0 15 i).bind fun h i =>
    .ok (65536 + ((n - 55296) * 1024 + ((((e * 16 + f) * 16 + g) * 16 + h) - 56320))) i
theorem pointP_eq (s : List UInt8) (i : Nat) : pointP s i = (hexP s 0 15 i).bind fun a i => (hexP s 0 (if a = 13 then 11 else 15) i).bind fun b i => (hexP s 0 15 i).bind fun c i => (hexP s 0 15 i).bind fun d i => lowP s (((a * 16 + b) * 16 + c) * 16 + d) i := rfl
theorem find_0_15 : marks.find? (fun m => decide (¬ (hexZ m < 0 ∨ 15 < hexZ m))) = some 48 := by decide
theorem find_0_11 : marks.find? (fun m => decide (¬ (hexZ m < 0 ∨ 11 < hexZ m))) = some 48 := by decide
theorem find_13 : marks.find? (fun m => decide (¬ (hexZ m < 13 ∨ 13 < hexZ m))) = some 100 := by decide
theorem find_12_15 : marks.find? (fun m => decide (¬ (hexZ m < 12 ∨ 15 < hexZ m))) = some 101 := by decide
theorem lowE (n : Int) (u : List UInt8) (i : Nat) (h0 : i ≤ u.length) (h : lowP u n i = .bad 40 u.length ∨ i = u.length) : Ends (fun s => lowP s n i) 6 u := by
  unfold lowP at *
  by_cases hn : n < 55296 ∨ 56319 < n
  · simp only [if_pos hn] at *
    rcases h with h | rfl
    · cases h
    · exact .fin fun x => rfl
  · simp only [if_neg hn] at *
    have hB : ∀ t (_ : Unit) j, j ≤ t.length → (((hexP t 13 13 j).bind fun e i => (hexP t 12 15 i).bind fun f i => (hexP t 0 15 i).bind fun g i => (hexP t 0 15 i).bind fun h i => PR.ok (65536 + ((n - 55296) * 1024 + ((((e * 16 + f) * 16 + g) * 16 + h) - 56320))) i) = .bad 40 t.length ∨ j = t.length) →
        Ends (fun s => (hexP s 13 13 j).bind fun e i => (hexP s 12 15 i).bind fun f i => (hexP s 0 15 i).bind fun g i => (hexP s 0 15 i).bind fun h i => .ok (65536 + ((n - 55296) * 1024 + ((((e * 16 + f) * 16 + g) * 16 + h) - 56320))) i) 4 t := by
      intro t _ j hj h
      refine hexB find_13 (B := fun s e i => (hexP s 12 15 i).bind fun f i => (hexP s 0 15 i).bind fun g i => (hexP s 0 15 i).bind fun h i => .ok (65536 + ((n - 55296) * 1024 + ((((e * 16 + f) * 16 + g) * 16 + h) - 56320))) i) hj (fun t e j hj h => ?_) h
      refine hexB find_12_15 (B := fun s f i => (hexP s 0 15 i).bind fun g i => (hexP s 0 15 i).bind fun h i => .ok (65536 + ((n - 55296) * 1024 + ((((e * 16 + f) * 16 + g) * 16 + h) - 56320))) i) hj (fun t f j hj h => ?_) h
      refine hexB find_0_15 (B := fun s g i => (hexP s 0 15 i).bind fun h i => .ok (65536 + ((n - 55296) * 1024 + ((((e * 16 + f) * 16 + g) * 16 + h) - 56320))) i) hj (fun t g j hj h => ?_) h
      refine hexB find_0_15 (B := fun s h i => .ok (65536 + ((n - 55296) * 1024 + ((((e * 16 + f) * 16 + g) * 16 + h) - 56320))) i) hj (fun t h j hj k => ?_) h
      rcases k with k | rfl
      · cases k
      · exact .fin fun x => rfl
    have hw : ∀ c ∈ ([92, 117] : List UInt8), marks.find? (· == c) = some c := by decide
    refine Ends.bind2 (n := 2) (k := 4) (R := 6) (by decide) (B := fun s _ i => (hexP s 13 13 i).bind fun e i => (hexP s 12 15 i).bind fun f i => (hexP s 0 15 i).bind fun g i => (hexP s 0 15 i).bind fun h i => .ok (65536 + ((n - 55296) * 1024 + ((((e * 16 + f) * 16 + g) * 16 + h) - 56320))) i)
      (fun h => wordE _ hw h0 (.inl h)) (fun y x => wordP_rel _ (by simp; omega)) (fun a j hj _ h => (hB u a j hj (.inl h)).mono (by decide)) (fun t a => hB t a _ (Nat.le_refl _) (.inr rfl)) (h.imp id fun e => ?_)
    rw [e]; exact wordP_end _ _ (Nat.le_refl _)
theorem pointE {u : List UInt8} {i : Nat} (h0 : i ≤ u.length) (h : pointP u i = .bad 40 u.length) : Ends (fun s => pointP s i) 10 u := by
  refine Ends.congr (P := fun s => (hexP s 0 15 i).bind fun a i => (hexP s 0 (if a = 13 then 11 else 15) i).bind fun b i => (hexP s 0 15 i).bind fun c i => (hexP s 0 15 i).bind fun d i => lowP s (((a * 16 + b) * 16 + c) * 16 + d) i) ?_ fun x => rfl
  refine hexB find_0_15 (B := fun s a i => (hexP s 0 (if a = 13 then 11 else 15) i).bind fun b i => (hexP s 0 15 i).bind fun c i => (hexP s 0 15 i).bind fun d i => lowP s (((a * 16 + b) * 16 + c) * 16 + d) i) h0 (fun t a j hj h => ?_) (.inl h)
  refine hexB (c := 48) ?_ (B := fun s b i => (hexP s 0 15 i).bind fun c i => (hexP s 0 15 i).bind fun d i => lowP s (((a * 16 + b) * 16 + c) * 16 + d) i) hj (fun t b j hj h => ?_) h
  · split
    · exact find_0_11
    · exact find_0_15
  refine hexB find_0_15 (B := fun s c i => (hexP s 0 15 i).bind fun d i => lowP s (((a * 16 + b) * 16 + c) * 16 + d) i) hj (fun t c j hj h => ?_) h
  exact hexB find_0_15 (B := fun s d i => lowP s (((a * 16 + b) * 16 + c) * 16 + d) i) hj (fun t d j hj h => lowE _ t j hj h) h
theorem followE : ∀ (m : Nat) {lo hi c : UInt8}, marks.find? (fun y => decide (¬ (y < lo ∨ hi < y))) = some c → ∀ {u : List UInt8} {i : Nat}, i ≤ u.length → (followP u m lo hi i = .bad 40 u.length ∨ i = u.length) → Ends (fun s => followP s m lo hi i) m u
  | 0, _, _, _, _, u, i, hi, h => by
    rcases h with h | rfl
    · cases h
    · exact .fin (a := ()) fun x => rfl
  | m + 1, lo, hi, c, hf, u, i, h0, h => by
    have hg : marks.find? (fun y => decide (¬ (y < 128 ∨ 191 < y))) = some 128 := by decide
    by_cases hl : i < u.length
    · have h : followP u (m + 1) lo hi i = .bad 40 u.length := h.resolve_right (by omega)
      have e := List.getElem?_eq_getElem hl
      rw [followP, e] at h
      dsimp only at h
      split at h
      · exact absurd h (bad_ne hl)
      · rename_i hr
        refine ((followE m hg (i := i + 1) (by omega) (.inl h)).mono (Nat.le_succ _)).congr fun x => ?_
        rw [followP, getE_app hl, e]
        dsimp only; rw [if_neg hr]
    · obtain rfl : i = u.length := by omega
      have hk : ¬ (c < lo ∨ hi < c) := by have := List.find?_some hf; simpa using this
      refine .look (by rw [followP, getE_none (Nat.le_refl _)]) (fun y _ => ?_) hf ?_
      · skip
        rw [followP, get_app]
        dsimp only
        by_cases e : y < lo ∨ hi < y
        · rw [if_pos e, viab_bad, decide_eq_false (not_not_intro e)]
        · rw [if_neg e, decide_eq_true e]
          cases m with
          | zero => rw [followP, viab_ok]
          | succ m => rw [followP, getE_none (by simp)]; exact viab_self _
      · refine (followE m hg (u := u ++ [c]) (i := u.length + 1) (by simp) (.inr (by simp))).congr fun x => ?_
        rw [followP, snoc_app, get_app]
        dsimp only; rw [if_neg hk]
theorem find_128 : marks.find? (fun y => decide (¬ (y < 128 ∨ 191 < y))) = some 128 := by decide
theorem behind_mark (c : UInt8) : ∃ d, marks.find? (fun y => decide (¬ (y < (behindP c).1 ∨ (behindP c).2.1 < y))) = some d := by
  unfold behindP
  dsimp only
  by_cases h1 : c = 224
  · subst h1; exact ⟨160, by decide⟩
  · by_cases h2 : c = 240
    · subst h2; exact ⟨144, by decide⟩
    · by_cases h3 : c = 237
      · subst h3; exact ⟨128, by decide⟩
      · by_cases h4 : c = 244
        · subst h4; exact ⟨128, by decide⟩
        · rw [if_neg h1, if_neg h2, if_neg h3, if_neg h4]; exact ⟨128, find_128⟩
theorem letterE {u : List UInt8} {i : Nat} (h0 : i < u.length) (h : letterP u i = .bad 40 u.length) : Ends (fun s => letterP s i) 3 u := by
  have e := List.getElem?_eq_getElem h0
  rw [letterP_eqR, atP_some e] at h
  split at h
  · cases h
  · rename_i h1
    split at h
    · exact absurd h (bad_ne h0)
    · rename_i h2
      obtain ⟨d, hd⟩ := behind_mark u[i]
      refine ((followE _ hd (i := i + 1) (by omega) (.inl h)).mono (behindP_le _)).congr fun x => ?_
      rw [letterP_eqR, atP_some ((getE_app h0).trans e), if_neg h1, if_neg h2]
theorem escE {u : List UInt8} {i : Nat} (h0 : i ≤ u.length) (h : escP u i = .bad 40 u.length ∨ i = u.length) : Ends (fun s => escP s i) 10 u := by
  by_cases hl : i < u.length
  · have h : escP u i = .bad 40 u.length := h.resolve_right (by omega)
    have e := List.getElem?_eq_getElem hl
    have hx : ∀ x, escP (u ++ x) i = escP (u ++ x) i := fun _ => rfl
    unfold escP at h
    rw [e] at h
    dsimp only at h
    by_cases h1 : u[i] = 34 ∨ u[i] = 92 ∨ u[i] = 47
    · rw [if_pos h1] at h; cases h
    by_cases h2 : u[i] = 98
    · rw [if_neg h1, if_pos h2] at h; cases h
    by_cases h3 : u[i] = 102
    · rw [if_neg h1, if_neg h2, if_pos h3] at h; cases h
    by_cases h4 : u[i] = 110
    · rw [if_neg h1, if_neg h2, if_neg h3, if_pos h4] at h; cases h
    by_cases h5 : u[i] = 114
    · rw [if_neg h1, if_neg h2, if_neg h3, if_neg h4, if_pos h5] at h; cases h
    by_cases h6 : u[i] = 116
    · rw [if_neg h1, if_neg h2, if_neg h3, if_neg h4, if_neg h5, if_pos h6] at h; cases h
    by_cases h7 : u[i] = 117
    · rw [if_neg h1, if_neg h2, if_neg h3, if_neg h4, if_neg h5, if_neg h6, if_pos h7] at h
      refine ((pointE (i := i + 1) hl (PR.bad_map h)).map (g := Lib.encodeRune) (d := fun _ => False) fun y x => pointP_rel (by simp; omega)).congr fun x => ?_
      unfold escP
      rw [getE_app hl, e]
      dsimp only
      rw [if_neg h1, if_neg h2, if_neg h3, if_neg h4, if_neg h5, if_neg h6, if_pos h7]
    · rw [if_neg h1, if_neg h2, if_neg h3, if_neg h4, if_neg h5, if_neg h6, if_neg h7] at h
      exact absurd h (bad_ne hl)
  · obtain rfl : i = u.length := by omega
    refine .quote (by unfold escP; rw [getE_none (Nat.le_refl _)]) (.fin' (a := [34]) fun x => ?_)
    skip
    unfold escP
    rw [get_app]
    rfl
end Jo
end Go.Proofs.YtmajpambfblhnaaGreatDoor
namespace Go.Proofs.YtmajpambfblhnaaGreatDoor
namespace Jo

theorem tailT_93 (s : List UInt8) (seen : List (List UInt8)) (acc : List UInt8) (i : Nat) (h : s[i]? = some 93) : TL s seen acc i = TL s seen (acc ++ [93]) (i + 1) := by
  obtain ⟨hi, e⟩ := List.getElem?_eq_some_iff.1 h
  rw [TL_eq, atP_some h, tailT, if_neg (by decide), if_neg (by decide), if_neg (by decide), letterP_eqR, atP_some h, if_pos (by decide), PR.bind_ok, List.drop_eq_getElem_cons hi, show i + 1 - i = 1 from by omega, e]
  rfl
theorem TL_end (u : List UInt8) (seen : List (List UInt8)) (acc : List UInt8) {i : Nat} (hi : u.length ≤ i) : TL u seen acc i = .bad 40 i := by rw [TL_eq, atP_none hi]
/-- At the end, inside a text. -/
theorem TLend (seen : List (List UInt8)) (M : Nat) (hM : ∀ l ∈ seen, l.length ≤ M) : ∀ (n : Nat) (acc : List UInt8) (u : List UInt8) (i : Nat), M + 1 - acc.length ≤ n → i = u.length → Ends (fun s => TL s seen acc i) (n + 1) u := by
  intro n
  induction n with
  | zero =>
    intro acc u i hn hi
    subst hi
    have hm : acc ∉ seen := fun h => by have := hM _ h; omega
    refine .quote (TL_end u seen acc (Nat.le_refl _)) (.fin' (a := acc) fun x => ?_)
    rw [TL_eq, atP_some (get_app ..), tailT, if_pos rfl, if_neg hm]
  | succ n ih =>
    intro acc u i hn hi
    subst hi
    by_cases hm : acc ∈ seen
    · have h1 := hM _ hm
      refine .second (TL_end u seen acc (Nat.le_refl _)) ?_ ?_
      · rw [TL_eq, atP_some (get_app ..), tailT, if_pos rfl, if_pos hm]
        rfl
      · refine (ih (acc ++ [93]) (u ++ [93]) (u.length + 1) (by rw [List.length_append]; simp; omega) (by simp)).congr fun x => ?_
        exact (tailT_93 _ seen acc u.length (by simp)).symm
    · refine .quote (TL_end u seen acc (Nat.le_refl _)) (.fin' (a := acc) fun x => ?_)
      rw [TL_eq, atP_some (get_app ..), tailT, if_pos rfl, if_neg hm]
theorem TLend' {seen : List (List UInt8)} {M : Nat} (hM : ∀ l ∈ seen, l.length ≤ M) (acc u : List UInt8) : Ends (fun s => TL s seen acc u.length) (M + 2) u :=
  TLend seen M hM (M + 1) acc u _ (by omega) rfl
theorem TLE {u : List UInt8} {seen : List (List UInt8)} {M : Nat} (hM : ∀ l ∈ seen, l.length ≤ M) : ∀ (n : Nat) {acc : List UInt8} {i : Nat}, u.length - i ≤ n → i ≤ u.length → TL u seen acc i = .bad 40 u.length → Ends (fun s => TL s seen acc i) (M + 12) u := by
  intro n
  induction n with
  | zero =>
    intro acc i hn hi _
    obtain rfl : i = u.length := by omega
    exact (TLend' hM ..).mono (by omega)
  | succ n ih =>
    intro acc i hn hi h
    by_cases hl : i < u.length
    · have e := List.getElem?_eq_getElem hl
      rw [TL_eq, atP_some e, tailT] at h
      by_cases h1 : u[i] = 34
      · rw [if_pos h1] at h
        split at h
        · cases h
        · cases h
      by_cases h2 : u[i] = 92
      · rw [if_neg h1, if_pos h2] at h
        refine Ends.congr (P := fun s => (escP s (i + 1)).bind fun x j => TL s seen (acc ++ x) j) ?_ fun x => by rw [TL_eq (u ++ x), atP_some ((getE_app hl).trans e), tailT, if_neg h1, if_pos h2]
        refine Ends.bind2 (n := 10) (k := M + 2) (R := M + 12) (by omega) (B := fun s x j => TL s seen (acc ++ x) j) (fun h => escE hl (.inl h)) (fun y x => escP_rel (by simp; omega)) (fun a j hj ha hb => ?_) (fun t a => TLend' hM ..) (.inl h)
        have h3 := escP_above u (i + 1)
        rw [ha] at h3
        have h3 : i + 1 < j := h3
        exact ih (by omega) hj hb
      by_cases h3 : u[i] < 32
      · rw [if_neg h1, if_neg h2, if_pos h3] at h
        exact absurd h (bad_ne hl)
      · rw [if_neg h1, if_neg h2, if_neg h3] at h
        cases hle : letterP u i with
        | bad e' j' =>
          rw [hle] at h
          have hle : letterP u i = .bad 40 u.length := by cases h; exact hle
          refine Ends.congr (P := fun s => (letterP s i).bind fun _ j => TL s seen (acc ++ (s.drop i).take (j - i)) j) ?_ fun x => by rw [TL_eq (u ++ x), atP_some ((getE_app hl).trans e), tailT, if_neg h1, if_neg h2, if_neg h3]
          refine Ends.mono (n := 3 + (M + 2)) ?_ (by omega)
          refine Ends.bind0 (d := fun _ => False) (B := fun s (_ : Unit) j => TL s seen (acc ++ (s.drop i).take (j - i)) j) (letterE hl hle) (fun y x => letterP_rel (by simp; omega)) fun t _ => ?_
          by_cases ht : i ≤ t.length
          · refine (TLend' hM (acc ++ (t.drop i).take (t.length - i)) t).congr fun x => ?_
            rw [drop_take_app (Nat.le_refl _) ht]
          · refine (TLend' hM acc t).congr fun x => ?_
            rw [show t.length - i = 0 from by omega, List.take_zero, List.append_nil]
        | ok a j =>
          rw [hle] at h
          have h3' := letterP_above u i
          rw [hle] at h3'
          have h3' : i < j := h3'
          have hr : ∀ x, letterP (u ++ x) i = .ok a j ∧ j ≤ u.length := fun x => by
            have := letterP_rel (x := x) hi
            rw [hle] at this
            exact ⟨this.2.elim id fun k => k.1.elim, this.1⟩
          have hj := (hr []).2
          refine (ih (by omega) hj h).congr fun x => ?_
          rw [TL_eq (u ++ x) _ _ i, atP_some ((getE_app hl).trans e), tailT, if_neg h1, if_neg h2, if_neg h3, (hr x).1, PR.bind_ok, drop_take_app hj hi]
    · obtain rfl : i = u.length := by omega
      exact (TLend' hM ..).mono (by omega)
theorem textE {u : List UInt8} {seen : List (List UInt8)} {M : Nat} (hM : ∀ l ∈ seen, l.length ≤ M) {i : Nat} (hi : i ≤ u.length) (h : textP u seen i = .bad 40 u.length ∨ i = u.length) : Ends (fun s => textP s seen i) (M + 13) u := by
  refine Ends.congr (P := fun s => (wantP s 34 i).bind fun _ j => TL s seen [] j) ?_ fun x => rfl
  refine Ends.bind2 (n := 1) (k := M + 2) (by omega) (B := fun s _ j => TL s seen [] j) (fun h => wantE (by decide) hi h) (fun y x => wantP_rel (by simp; omega)) (fun a j hj _ hb => (TLE hM _ (Nat.le_refl _) hj hb).mono (by omega)) (fun t a => TLend' hM ..) (h.imp id fun e => ?_)
  rw [e]; unfold wantP; rw [getE_none (Nat.le_refl _)]; rfl

theorem digP_ne40 : ∀ (l : List UInt8) (n : Int) (i j : Nat), digP n l i ≠ .bad 40 j
  | [], _, _, _ => ok_ne
  | c :: r, n, i, j => by
    unfold digP
    split
    · split
      · intro h; cases h
      · exact digP_ne40 r _ _ _
    · exact ok_ne
theorem dig_mark : ∀ m ∈ marks, isDig m = true → m = 48 := by decide
theorem numQE {z : Int} {u : List UInt8} {i : Nat} (hi : i ≤ u.length) (h : numQ u z i = .bad 40 u.length) : Ends (fun s => numQ s z i) 1 u := by
  obtain rfl : i = u.length := by
    by_cases hl : i < u.length
    · exfalso
      unfold numQ at h
      rw [List.getElem?_eq_getElem hl] at h
      dsimp only at h
      split at h
      · exact absurd h (bad_ne hl)
      · split at h
        · cases h
        · exact digP_ne40 _ _ _ _ (PR.bad_map h)
    · omega
  have h48 : ∀ x, numQ (u ++ 48 :: x) z u.length = .ok 0 (u.length + 1) := fun x => by
    unfold numQ; rw [get_app]; rfl
  refine .look h (p := fun m => isDig m) (c := 48) (fun m hm => ?_) (by decide) (.fin' h48)
  by_cases hd : isDig m = true
  · obtain rfl := dig_mark m hm hd
    rw [h48 []]; rw [viab_ok]; rfl
  · have hd : isDig m = false := by simpa using hd
    unfold numQ
    rw [get_app]
    dsimp only
    rw [hd, if_pos rfl, viab_bad]
theorem numE {u : List UInt8} {i : Nat} (hi : i < u.length) (h : numP u i = .bad 40 u.length) : Ends (fun s => numP s i) 1 u := by
  unfold numP at h
  split at h
  · rename_i e
    refine (numQE hi h).congr fun x => ?_
    unfold numP; rw [getE_app hi, if_pos e]
  · rename_i e
    refine (numQE (Nat.le_of_lt hi) h).congr fun x => ?_
    unfold numP; rw [getE_app hi, if_neg e]

/-- What a reader of values keeps to, and that it comes to its end. -/
structure ValE (M N K : Nat) (v : List UInt8 → Nat → PR J) : Prop extends ValR v where
  edge : ∀ u, v u u.length = .bad 40 u.length
  last : ∀ u, Ends (fun s => v s u.length) 14 u
  ends : ∀ u i, i ≤ u.length → 4 * (u.length + K) ≤ M → v u i = .bad 40 u.length → Ends (fun s => v s i) N u
theorem tail_at {α : Type} {u : List UInt8} {j : Nat} {m : UInt8} {x : List UInt8} {g : Nat → UInt8 → PR α} (hj : j ≤ u.length) (hb : bl u j = u.length) (hm : isBl m = false) : atP (u ++ m :: x) (bl (u ++ m :: x) j) (g (bl (u ++ m :: x) j)) = g u.length m := by
  rw [bl_app_eq hj hb hm, atP_some (get_app ..)]
theorem ValE.same {v : List UInt8 → Nat → PR J} (hv : ValR v) {u : List UInt8} {i j : Nat} {a : J} (hi : i ≤ u.length) (h : v u i = .ok a j) (x : List UInt8) (hx : j < u.length ∨ ∃ c r, x = c :: r ∧ isDig c = false) : v (u ++ x) i = .ok a j ∧ i < j ∧ j ≤ u.length := by
  have r := hv.rel u x i hi
  have b := hv.above u i
  rw [h] at r b
  refine ⟨r.2.elim id fun k => ?_, b, r.1⟩
  exfalso
  obtain ⟨⟨c, y, rfl, k1⟩, k2, _⟩ := k
  rcases hx with hx | ⟨c', y', e, hx⟩
  · omega
  · cases e
    rw [hx] at k1; cases k1
theorem KLend {v : List UInt8 → Nat → PR J} (acc : List J) (u : List UInt8) : Ends (fun s => atP s (bl s u.length) (tailL s (v s) acc (bl s u.length))) 1 u := by
  have hb := bl_end u u.length (Nat.le_refl _)
  refine .second ?_ ?_ (.fin' (a := acc) fun x => ?_)
  · rw [hb, atP_none (Nat.le_refl _)]
  · rw [tail_at (g := tailL _ _ _) (Nat.le_refl _) hb (by decide)]
    exact viab_bad _
  · rw [tail_at (g := tailL _ _ _) (Nat.le_refl _) hb (by decide)]
    rfl
theorem KOend {v : List UInt8 → Nat → PR J} (acc : List (List UInt8 × J)) (u : List UInt8) : Ends (fun s => atP s (bl s u.length) (tailO s (v s) acc (bl s u.length))) 1 u := by
  have hb := bl_end u u.length (Nat.le_refl _)
  refine .third ?_ ?_ ?_ (.fin' (a := acc) fun x => ?_)
  · rw [hb, atP_none (Nat.le_refl _)]
  · rw [tail_at (g := tailO _ _ _) (Nat.le_refl _) hb (by decide)]
    exact viab_bad _
  · rw [tail_at (g := tailO _ _ _) (Nat.le_refl _) hb (by decide)]
    exact viab_bad _
  · rw [tail_at (g := tailO _ _ _) (Nat.le_refl _) hb (by decide)]
    rfl
theorem LLE {M N K : Nat} {v : List UInt8 → Nat → PR J} (hv : ValE M N K v) {u : List UInt8} (hK : 4 * (u.length + K) ≤ M) : ∀ (n : Nat) {acc : List J} {i : Nat}, u.length - i ≤ n → i ≤ u.length → LL u (v u) acc i = .bad 40 u.length → Ends (fun s => LL s (v s) acc i) (N + 15) u := by
  intro n
  induction n with
  | zero =>
    intro acc i hn hi h
    obtain rfl : i = u.length := by omega
    refine Ends.congr (P := fun s => (v s u.length).bind fun x j => atP s (bl s j) (tailL s (v s) (acc ++ [x]) (bl s j))) ?_ fun x => (LL_eq _ (hv.above _) _ _).symm
    exact ((hv.last u).bind0 (B := fun s x j => atP s (bl s j) (tailL s (v s) (acc ++ [x]) (bl s j))) (d := fun x => ∃ c r, x = c :: r ∧ isDig c = true) (fun y x => hv.rel _ _ _ (by simp)) fun t a => KLend ..).mono (by omega)
  | succ n ih =>
    intro acc i hn hi h
    rw [LL_eq u (hv.above u)] at h
    refine Ends.congr (P := fun s => (v s i).bind fun x j => atP s (bl s j) (tailL s (v s) (acc ++ [x]) (bl s j))) ?_ fun x => (LL_eq _ (hv.above _) _ _).symm
    cases hA : v u i with
    | bad e j =>
      rw [hA] at h
      have hA : v u i = .bad 40 u.length := by cases h; exact hA
      exact ((hv.ends u _ hi hK hA).bind0 (B := fun s x j => atP s (bl s j) (tailL s (v s) (acc ++ [x]) (bl s j))) (d := fun x => ∃ c r, x = c :: r ∧ isDig c = true) (fun y x => hv.rel _ _ _ (by simp; omega)) fun t a => KLend ..).mono (by omega)
    | ok a j =>
      rw [hA, PR.bind_ok] at h
      have hs := fun x hx => ValE.same hv.toValR hi hA x hx
      have hj : j ≤ u.length := (hs [34] (.inr ⟨34, [], rfl, by decide⟩)).2.2
      have hij : i < j := (hs [34] (.inr ⟨34, [], rfl, by decide⟩)).2.1
      have hbj := bl_le u j
      by_cases hl : bl u j < u.length
      · have e := List.getElem?_eq_getElem hl
        rw [atP_some e, tailL] at h
        split at h
        · rename_i hc
          refine (ih (by omega) (by omega) h).congr fun x => ?_
          rw [(hs x (.inl (by omega))).1, PR.bind_ok, bl_appR hj hl, atP_some ((getE_app hl).trans e), tailL, if_pos hc]
        · split at h
          · cases h
          · exact absurd h (bad_ne hl)
      · have hb : bl u j = u.length := by have := bl_max u j hj; omega
        refine Ends.mono (n := 0 + 1) ?_ (by omega)
        refine .second ?_ ?_ (.fin' (a := acc ++ [a]) fun x => ?_)
        · rw [hA, PR.bind_ok]; exact h
        · rw [(hs [34] (.inr ⟨34, [], rfl, by decide⟩)).1, PR.bind_ok, tail_at (g := tailL _ _ _) hj hb (by decide)]
          exact viab_bad _
        · rw [(hs (93 :: x) (.inr ⟨93, x, rfl, by decide⟩)).1, PR.bind_ok, tail_at (g := tailL _ _ _) hj hb (by decide)]
          rfl
theorem memEnd {M N K : Nat} {v : List UInt8 → Nat → PR J} (hv : ValE M N K v) (acc : List (List UInt8 × J)) (nm u : List UInt8) : Ends (fun s => memO s (v s) acc nm u.length) 15 u :=
  (hv.last u).bind0 (B := fun s x j => atP s (bl s j) (tailO s (v s) (acc ++ [(nm, x)]) (bl s j))) (d := fun x => ∃ c r, x = c :: r ∧ isDig c = true) (fun y x => hv.rel _ _ _ (by simp)) fun t a => KOend ..
theorem memE {M N K R : Nat} {v : List UInt8 → Nat → PR J} (hv : ValE M N K v) (hR : N + 1 ≤ R) {u : List UInt8} (hK : 4 * (u.length + K) ≤ M) {acc : List (List UInt8 × J)} {nm : List UInt8} {i : Nat} (hi : i ≤ u.length) (h : memO u (v u) acc nm i = .bad 40 u.length)
    (ha : ∀ m ∈ acc, m.1.length ≤ M) (hn : nm.length ≤ M) (ih : ∀ acc b, (∀ m ∈ acc, m.1.length ≤ M) → i < b → b ≤ u.length → OL u (v u) acc b = .bad 40 u.length → Ends (fun s => OL s (v s) acc b) R u) : Ends (fun s => memO s (v s) acc nm i) R u := by
  refine Ends.congr (P := fun s => (v s i).bind fun x j => atP s (bl s j) (tailO s (v s) (acc ++ [(nm, x)]) (bl s j))) ?_ fun x => rfl
  · unfold memO at h
    cases hA : v u i with
    | bad e j =>
      rw [hA] at h
      have hA : v u i = .bad 40 u.length := by cases h; exact hA
      exact ((hv.ends u _ hi hK hA).bind0 (B := fun s x j => atP s (bl s j) (tailO s (v s) (acc ++ [(nm, x)]) (bl s j))) (d := fun x => ∃ c r, x = c :: r ∧ isDig c = true) (fun y x => hv.rel _ _ _ (by simp; omega)) fun t a => KOend ..).mono hR
    | ok a j =>
      rw [hA, PR.bind_ok] at h
      have hs := fun x hx => ValE.same hv.toValR hi hA x hx
      have hj : j ≤ u.length := (hs [34] (.inr ⟨34, [], rfl, by decide⟩)).2.2
      have hij : i < j := (hs [34] (.inr ⟨34, [], rfl, by decide⟩)).2.1
      have hbj := bl_le u j
      by_cases hl : bl u j < u.length
      · have e := List.getElem?_eq_getElem hl
        rw [atP_some e, tailO] at h
        split at h
        · rename_i hc
          refine (ih _ _ (fun m hm => ?_) (by omega) (by omega) h).congr fun x => ?_
          · rcases List.mem_append.1 hm with hm | hm
            · exact ha m hm
            · rw [List.mem_singleton] at hm; subst hm; exact hn
          rw [(hs x (.inl (by omega))).1, PR.bind_ok, bl_appR hj hl, atP_some ((getE_app hl).trans e), tailO, if_pos hc]
        · split at h
          · cases h
          · exact absurd h (bad_ne hl)
      · have hb : bl u j = u.length := by have := bl_max u j hj; omega
        refine Ends.mono (n := 0 + 1) ?_ (by omega)
        refine .third ?_ ?_ ?_ (.fin' (a := acc ++ [(nm, a)]) fun x => ?_)
        · rw [hA, PR.bind_ok]; exact h
        · rw [(hs [34] (.inr ⟨34, [], rfl, by decide⟩)).1, PR.bind_ok, tail_at (g := tailO _ _ _) hj hb (by decide)]
          exact viab_bad _
        · rw [(hs [93] (.inr ⟨93, [], rfl, by decide⟩)).1, PR.bind_ok, tail_at (g := tailO _ _ _) hj hb (by decide)]
          exact viab_bad _
        · rw [(hs (125 :: x) (.inr ⟨125, x, rfl, by decide⟩)).1, PR.bind_ok, tail_at (g := tailO _ _ _) hj hb (by decide)]
          rfl
theorem wantP_end (u : List UInt8) (c : UInt8) : wantP u c u.length = .bad 40 u.length := by unfold wantP; rw [getE_none (Nat.le_refl _)]; rfl
theorem wantbE {u : List UInt8} {i : Nat} (hi : i ≤ u.length) (h : wantP u 58 (bl u i) = .bad 40 u.length) : Ends (fun s => wantP s 58 (bl s i)) 1 u := by
  by_cases hl : bl u i < u.length
  · exact (wantE (by decide) (Nat.le_of_lt hl) h).congr fun x => by rw [bl_appR hi hl]
  · have hb : bl u i = u.length := by have := bl_max u i hi; omega
    have hm : ∀ m ∈ marks, isBl m = false := by decide
    refine .look h (p := (· == 58)) (c := 58) (n := 0) (fun m hmm => ?_) (by decide) (.fin' (a := ()) fun x => ?_)
    · rw [bl_app_eq hi hb (hm m hmm), wantP_at]
      split
      · rename_i e; subst e; simp [Jo.viab]
      · rename_i e; rw [viab_bad]; simp [e]
    · rw [bl_app_eq hi hb (by decide), wantP_at, if_pos rfl]
theorem wantb_rel {u x : List UInt8} {i : Nat} (hi : i ≤ u.length) : Rel False u.length (wantP u 58 (bl u i)) (wantP (u ++ x) 58 (bl (u ++ x) i)) :=
  Rel.bl (g := fun b => wantP u 58 b) (g' := fun b => wantP (u ++ x) 58 b) hi (fun b _ hb => wantP_rel hb) (wantP_end ..) fun b => wantP_above ..
theorem nameEnd {M N K : Nat} {v : List UInt8 → Nat → PR J} (hv : ValE M N K v) (acc : List (List UInt8 × J)) (nm u : List UInt8) : Ends (fun s => nameO s (v s) acc nm u.length) 16 u :=
  (wantbE (Nat.le_refl _) (by rw [bl_end u _ (Nat.le_refl _)]; exact wantP_end ..)).bind0 (B := fun s _ j => memO s (v s) acc nm j) (d := fun _ => False) (fun y x => wantb_rel (by simp)) fun t _ => memEnd hv acc nm t
theorem nameE {M N K R : Nat} {v : List UInt8 → Nat → PR J} (hv : ValE M N K v) (hR : N + 16 ≤ R) {u : List UInt8} (hK : 4 * (u.length + K) ≤ M) {acc : List (List UInt8 × J)} {nm : List UInt8} {i : Nat} (hi : i ≤ u.length) (h : nameO u (v u) acc nm i = .bad 40 u.length)
    (ha : ∀ m ∈ acc, m.1.length ≤ M) (hn : nm.length ≤ M) (ih : ∀ acc b, (∀ m ∈ acc, m.1.length ≤ M) → i < b → b ≤ u.length → OL u (v u) acc b = .bad 40 u.length → Ends (fun s => OL s (v s) acc b) R u) : Ends (fun s => nameO s (v s) acc nm i) R u := by
  refine Ends.congr (P := fun s => (wantP s 58 (bl s i)).bind fun _ j => memO s (v s) acc nm j) ?_ fun x => rfl
  have hb := bl_le u i
  refine Ends.bind2 (n := 1) (k := 15) (by omega) (B := fun s _ j => memO s (v s) acc nm j) (fun h => wantbE hi h) (fun y x => wantb_rel (by simp; omega)) (fun a j hj hw hbd => ?_) (fun t a => memEnd hv acc nm t) (.inl h)
  have h1 := wantP_above u 58 (bl u i)
  rw [hw] at h1
  have h1 : bl u i < j := h1
  exact memE hv (by omega) hK hj hbd ha hn fun acc b k0 k1 k2 => ih acc b k0 (by omega) k2
theorem textbE {u : List UInt8} {seen : List (List UInt8)} {M : Nat} (hM : ∀ l ∈ seen, l.length ≤ M) {i : Nat} (hi : i ≤ u.length) (h : textP u seen (bl u i) = .bad 40 u.length) : Ends (fun s => textP s seen (bl s i)) (M + 14) u := by
  by_cases hl : bl u i < u.length
  · exact ((textE hM (Nat.le_of_lt hl) (.inl h)).mono (by omega)).congr fun x => by rw [bl_appR hi hl]
  · have hb : bl u i = u.length := by have := bl_max u i hi; omega
    refine .quote h ?_
    refine (textE hM (u := u ++ [34]) (seen := seen) (i := u.length) (by simp) (.inl ?_)).congr fun x => ?_
    · rw [textP_eq, wantP_at, if_pos rfl, PR.bind_ok, TL_end _ _ _ (by simp), snoc_len]
    · rw [snoc_app, bl_app_eq hi hb (by decide)]
theorem OLE {M N K : Nat} {v : List UInt8 → Nat → PR J} (hv : ValE M N K v) {u : List UInt8} (hK : 4 * (u.length + K) ≤ M) : ∀ (n : Nat) {acc : List (List UInt8 × J)} {i : Nat}, u.length - i ≤ n → i ≤ u.length → (∀ m ∈ acc, m.1.length ≤ M) → OL u (v u) acc i = .bad 40 u.length → Ends (fun s => OL s (v s) acc i) (M + N + 30) u := by
  have key : ∀ {acc : List (List UInt8 × J)} {i : Nat}, i ≤ u.length → (∀ m ∈ acc, m.1.length ≤ M) → OL u (v u) acc i = .bad 40 u.length → (∀ acc b, (∀ m ∈ acc, m.1.length ≤ M) → i < b → b ≤ u.length → OL u (v u) acc b = .bad 40 u.length → Ends (fun s => OL s (v s) acc b) (M + N + 30) u) → Ends (fun s => OL s (v s) acc i) (M + N + 30) u := by
    intro acc i hi hacc h ih
    rw [OL_eq u (hv.above u)] at h
    have hb := bl_le u i
    refine Ends.congr (P := fun s => (textP s (acc.map (·.1)) (bl s i)).bind (nameO s (v s) acc)) ?_ fun x => (OL_eq _ (hv.above _) _ _).symm
    refine Ends.bind2 (n := M + 14) (k := 16) (by omega) (B := fun s n j => nameO s (v s) acc n j) (fun h => textbE (fun l hl => ?_) hi h) (fun y x => ?_) (fun a j hj ha hbd => ?_) (fun t a => nameEnd hv acc a t) (.inl h)
    · obtain ⟨m, hm, rfl⟩ := List.mem_map.1 hl
      exact hacc m hm
    · refine Rel.bl (i := i) (g := fun b => textP (u ++ y) (acc.map (·.1)) b) (g' := fun b => textP (u ++ y ++ x) (acc.map (·.1)) b) (by simp; omega) (fun b _ hb => textP_rel hb) ?_ fun b => textP_above ..
      rw [textP_eq, wantP_end]; rfl
    · have h1 := textP_le ha
      exact nameE hv (by omega) hK hj hbd hacc (by omega) fun acc b k0 k1 k2 => ih acc b k0 (by omega) k2
  intro n
  induction n with
  | zero => intro acc i hn hi hacc h; exact key hi hacc h fun acc b _ k1 k2 => absurd k1 (by omega)
  | succ n ih => intro acc i hn hi hacc h; exact key hi hacc h fun acc b k0 k1 k2 k3 => ih (by omega) k2 k0 k3
theorem listE {M N K : Nat} {v : List UInt8 → Nat → PR J} (hv : ValE M N K v) (hq : ∀ u, v (u ++ [34]) u.length = .bad 40 (u.length + 1)) {u : List UInt8} (hK : 4 * (u.length + 1 + K) ≤ M) {i : Nat} (hi : i < u.length) (h : listP u (v u) i = .bad 40 u.length) : Ends (fun s => listP s (v s) i) (M + N + 31) u := by
  by_cases hl : bl u (i + 1) < u.length
  · have e := List.getElem?_eq_getElem hl
    rw [listP_eq, atP_some e, headL] at h
    split at h
    · cases h
    · rename_i hc
      refine ((LLE hv (by omega) _ (Nat.le_refl _) (Nat.le_of_lt hl) h).mono (by omega)).congr fun x => ?_
      rw [listP_eq, bl_appR hi hl, atP_some ((getE_app hl).trans e), headL, if_neg hc]
  · have hb : bl u (i + 1) = u.length := by have := bl_max u (i + 1) hi; omega
    refine .quote h ?_
    refine ((LLE hv (u := u ++ [34]) (by rw [snoc_len]; exact hK) (acc := []) (i := u.length) _ (Nat.le_refl _) (by simp) ?_).mono (by omega)).congr fun x => ?_
    · rw [LL_eq _ (hv.above _), hq u, snoc_len]; rfl
    · rw [listP_eq, snoc_app, tail_at (g := headL _ _) hi hb (by decide)]; rfl
theorem objE {M N K : Nat} {v : List UInt8 → Nat → PR J} (hv : ValE M N K v) {u : List UInt8} (hK : 4 * (u.length + 1 + K) ≤ M) {i : Nat} (hi : i < u.length) (h : objP u (v u) i = .bad 40 u.length) : Ends (fun s => objP s (v s) i) (M + N + 31) u := by
  by_cases hl : bl u (i + 1) < u.length
  · have e := List.getElem?_eq_getElem hl
    rw [objP_eq, atP_some e, headO] at h
    split at h
    · cases h
    · rename_i hc
      refine ((OLE hv (by omega) _ (Nat.le_refl _) (Nat.le_of_lt hl) (by simp) h).mono (by omega)).congr fun x => ?_
      rw [objP_eq, bl_appR hi hl, atP_some ((getE_app hl).trans e), headO, if_neg hc]
  · have hb : bl u (i + 1) = u.length := by have := bl_max u (i + 1) hi; omega
    refine .quote h ?_
    refine (OLE hv (u := u ++ [34]) (by rw [snoc_len]; exact hK) (acc := []) (i := u.length) _ (Nat.le_refl _) (by simp) (by simp) ?_).congr fun x => ?_
    · rw [OL_eq _ (hv.above _), bl_no (u ++ [34]) u.length 34 (get_app ..) (by decide), textP_eq, wantP_at, if_pos rfl, PR.bind_ok, TL_end _ _ _ (by simp), snoc_len]; rfl
    · rw [objP_eq, snoc_app, tail_at (g := headO _ _) hi hb (by decide)]; rfl
end Jo
end Go.Proofs.YtmajpambfblhnaaGreatDoor
namespace Go.Proofs.YtmajpambfblhnaaGreatDoor
namespace Jo

theorem wordT {u : List UInt8} {c : UInt8} {w : List UInt8} {i : Nat} (hi : i < u.length) (hc : u[i]? = some c) (hw : ∀ d ∈ w, marks.find? (· == d) = some d) (h : wordP u (c :: w) i = .bad 40 u.length) : Ends (fun s => wordP s (c :: w) i) w.length u := by
  rw [wordP, if_pos hc] at h
  refine (wordE w hw (i := i + 1) hi (.inl h)).congr fun x => ?_
  rw [wordP, getE_app hi, if_pos hc]
theorem valQE {R : Nat} (hR : 13 ≤ R) {li : List UInt8 → Nat → PR (List J)} {ob : List UInt8 → Nat → PR (List (List UInt8 × J))} {u : List UInt8} {b : Nat} (hl : b < u.length)
    (hlr : ∀ u x, b < u.length → Rel False u.length (li u b) (li (u ++ x) b)) (hor : ∀ u x, b < u.length → Rel False u.length (ob u b) (ob (u ++ x) b))
    (hle : li u b = .bad 40 u.length → Ends (fun s => li s b) R u) (hoe : ob u b = .bad 40 u.length → Ends (fun s => ob s b) R u)
    (h : valQ u (li u) (ob u) b = .bad 40 u.length) : Ends (fun s => valQ s (li s) (ob s) b) R u := by
  have e := List.getElem?_eq_getElem hl
  have hw : ∀ d ∈ ([117, 108, 108] : List UInt8), marks.find? (· == d) = some d := by decide
  have hf : ∀ d ∈ ([97, 108, 115, 101] : List UInt8), marks.find? (· == d) = some d := by decide
  have ht : ∀ d ∈ ([114, 117, 101] : List UInt8), marks.find? (· == d) = some d := by decide
  unfold valQ at h
  rw [e] at h
  dsimp only at h
  have fin : ∀ {P : List UInt8 → PR J} {n : Nat}, Ends P n u → n ≤ R → (∀ x, P (u ++ x) = valQ (u ++ x) (li (u ++ x)) (ob (u ++ x)) b) → Ends (fun s => valQ s (li s) (ob s) b) R u := fun he hn hx => (he.mono hn).congr hx
  by_cases h1 : u[b] = 110
  · rw [if_pos h1] at h
    refine fin ((wordT hl (h1 ▸ e) hw (PR.bad_map (g := fun _ => J.null) h)).map (g := fun _ => J.null) (d := fun _ => False) fun y x => wordP_rel _ (by simp; omega)) (Nat.le_trans (by decide) hR) fun x => ?_
    unfold valQ; rw [getE_app hl, e]; dsimp only; rw [if_pos h1]
  by_cases h2 : u[b] = 102
  · rw [if_neg h1, if_pos h2] at h
    refine fin ((wordT hl (h2 ▸ e) hf (PR.bad_map (g := fun _ => J.fls) h)).map (g := fun _ => J.fls) (d := fun _ => False) fun y x => wordP_rel _ (by simp; omega)) (Nat.le_trans (by decide) hR) fun x => ?_
    unfold valQ; rw [getE_app hl, e]; dsimp only; rw [if_neg h1, if_pos h2]
  by_cases h3 : u[b] = 116
  · rw [if_neg h1, if_neg h2, if_pos h3] at h
    refine fin ((wordT hl (h3 ▸ e) ht (PR.bad_map (g := fun _ => J.tru) h)).map (g := fun _ => J.tru) (d := fun _ => False) fun y x => wordP_rel _ (by simp; omega)) (Nat.le_trans (by decide) hR) fun x => ?_
    unfold valQ; rw [getE_app hl, e]; dsimp only; rw [if_neg h1, if_neg h2, if_pos h3]
  by_cases h4 : u[b] = 34
  · rw [if_neg h1, if_neg h2, if_neg h3, if_pos h4] at h
    refine fin ((textE (M := 0) (by simp) (Nat.le_of_lt hl) (.inl (PR.bad_map (g := J.tx) h))).map (g := J.tx) (d := fun _ => False) fun y x => textP_rel (by simp; omega)) hR fun x => ?_
    unfold valQ; rw [getE_app hl, e]; dsimp only; rw [if_neg h1, if_neg h2, if_neg h3, if_pos h4]
  by_cases h5 : u[b] = 91
  · rw [if_neg h1, if_neg h2, if_neg h3, if_neg h4, if_pos h5] at h
    refine fin ((hle (PR.bad_map (g := J.list) h)).map (g := J.list) (d := fun _ => False) fun y x => hlr _ _ (by simp; omega)) (Nat.le_refl _) fun x => ?_
    unfold valQ; rw [getE_app hl, e]; dsimp only; rw [if_neg h1, if_neg h2, if_neg h3, if_neg h4, if_pos h5]
  by_cases h6 : u[b] = 123
  · rw [if_neg h1, if_neg h2, if_neg h3, if_neg h4, if_neg h5, if_pos h6] at h
    refine fin ((hoe (PR.bad_map (g := fun ms => J.obj (sortM ms)) h)).map (g := fun ms => J.obj (sortM ms)) (d := fun _ => False) fun y x => hor _ _ (by simp; omega)) (Nat.le_refl _) fun x => ?_
    unfold valQ; rw [getE_app hl, e]; dsimp only; rw [if_neg h1, if_neg h2, if_neg h3, if_neg h4, if_neg h5, if_pos h6]
  · rw [if_neg h1, if_neg h2, if_neg h3, if_neg h4, if_neg h5, if_neg h6] at h
    refine fin ((numE hl (PR.bad_map (g := J.nr) h)).map (g := J.nr) (d := fun x => ∃ c r, x = c :: r ∧ isDig c = true) fun y x => numP_rel (by simp; omega)) (Nat.le_trans (by decide) hR) fun x => ?_
    unfold valQ; rw [getE_app hl, e]; dsimp only; rw [if_neg h1, if_neg h2, if_neg h3, if_neg h4, if_neg h5, if_neg h6]
theorem valQ_34 (s : List UInt8) (li : Nat → PR (List J)) (ob : Nat → PR (List (List UInt8 × J))) {i : Nat} (h : s[i]? = some 34) : valQ s li ob i = (textP s [] i).bind fun t i => .ok (J.tx t) i := by
  unfold valQ; rw [h]; rfl
theorem valP_eq (s : List UInt8) (k i : Nat) : ∃ li ob, valP s k i = valQ s li ob (bl s i) := by
  cases k with
  | zero => exact ⟨_, _, rfl⟩
  | succ k => exact ⟨_, _, rfl⟩
theorem valP_34 (s : List UInt8) (k : Nat) {i : Nat} (h : s[bl s i]? = some 34) : valP s k i = (textP s [] (bl s i)).bind fun t i => .ok (J.tx t) i := by
  obtain ⟨li, ob, e⟩ := valP_eq s k i
  rw [e, valQ_34 _ _ _ h]
theorem valP_q (k : Nat) (u : List UInt8) {i : Nat} (hi : i ≤ u.length) (hb : bl u i = u.length) : valP (u ++ [34]) k i = .bad 40 (u.length + 1) := by
  have h1 : bl (u ++ [34]) i = u.length := bl_app_eq hi hb (by decide)
  rw [valP_34 _ _ (by rw [h1]; exact get_app ..), h1, textP_eq, wantP_at, if_pos rfl, PR.bind_ok, TL_end _ _ _ (by simp)]
  rfl
theorem valP_edge (k : Nat) (u : List UInt8) : valP u k u.length = .bad 40 u.length := by
  obtain ⟨li, ob, e⟩ := valP_eq u k u.length
  rw [e, bl_end u _ (Nat.le_refl _), valQ_edge]
theorem valP_ends0 (k : Nat) {u : List UInt8} {i : Nat} (hi : i ≤ u.length) (hb : bl u i = u.length) (h : valP u k i = .bad 40 u.length) : Ends (fun s => valP s k i) 14 u := by
  refine .quote h ?_
  refine Ends.congr (P := fun s => (textP s [] u.length).bind fun t i => .ok (J.tx t) i) ?_ fun x => ?_
  · refine (textE (M := 0) (by simp) (u := u ++ [34]) (i := u.length) (by simp) (.inl ?_)).map (g := J.tx) (d := fun _ => False) fun y x => textP_rel (by simp)
    rw [textP_eq, wantP_at, if_pos rfl, PR.bind_ok, TL_end _ _ _ (by simp), snoc_len]
  · have h1 : bl (u ++ 34 :: x) i = u.length := bl_app_eq hi hb (by decide)
    rw [snoc_app, valP_34 _ _ (by rw [h1]; exact get_app ..), h1]
/-- So many marks at most, where k lists and objects more may be opened. -/
def need (M k : Nat) : Nat := 14 + k * (M + 31)
theorem valP_ende (M : Nat) : ∀ k, ValE M (need M k) (k + 1) fun s => valP s k
  | 0 => by
    refine ⟨valP_val 0, valP_edge 0, fun u => valP_ends0 0 (Nat.le_refl _) (bl_end u _ (Nat.le_refl _)) (valP_edge 0 u), fun u i hi _ h => ?_⟩
    by_cases hl : bl u i < u.length
    · refine Ends.congr (P := fun s => valQ s (fun i => .bad 41 i) (fun i => .bad 41 i) (bl u i)) ?_ fun x => by rw [valP, bl_appR hi hl]
      refine valQE (by unfold need; omega) (li := fun _ i => .bad 41 i) (ob := fun _ i => .bad 41 i) hl (fun u x h => .bad h) (fun u x h => .bad h) (fun h => ?_) (fun h => ?_) h
      · cases h
      · cases h
    · exact (valP_ends0 0 hi (by have := bl_max u i hi; omega) h).mono (by unfold need; omega)
  | k + 1 => by
    have ih := valP_ende M k
    have hn : need M (k + 1) = M + need M k + 31 := by unfold need; rw [Nat.succ_mul]; omega
    refine ⟨valP_val (k + 1), valP_edge (k + 1), fun u => valP_ends0 (k + 1) (Nat.le_refl _) (bl_end u _ (Nat.le_refl _)) (valP_edge (k + 1) u), fun u i hi hM h => ?_⟩
    by_cases hl : bl u i < u.length
    · refine Ends.congr (P := fun s => valQ s (listP s (valP s k)) (objP s (valP s k)) (bl u i)) ?_ fun x => by rw [valP, bl_appR hi hl]
      rw [hn]
      exact valQE (by omega) (li := fun s => listP s (valP s k)) (ob := fun s => objP s (valP s k)) hl (fun u x h => listP_rel ih.toValR h) (fun u x h => objP_rel ih.toValR h)
        (fun h => listE ih (fun u => valP_q k u (Nat.le_refl _) (bl_end u _ (Nat.le_refl _))) (by omega) hl h) (fun h => objE ih (by omega) hl h) h
    · exact (valP_ends0 (k + 1) hi (by have := bl_max u i hi; omega) h).mono (by unfold need; omega)

-- the reader of a whole text
def viabR (t : List UInt8) : Bool := (readP t).2.1 == 0 || ((readP t).2.1 == 40 && (readP t).2.2 == t.length)
inductive EndsR : Nat → List UInt8 → Prop
  | fin {n : Nat} {t : List UInt8} : (readP t).2.1 = 0 → EndsR n t
  | step {n : Nat} {u : List UInt8} {m : UInt8} : readP u = (J.null, 40, u.length) → marks.find? (fun m => viabR (u ++ [m])) = some m → EndsR n (u ++ [m]) → EndsR (n + 1) u

theorem readP_bad {s : List UInt8} {e : Int} {i : Nat} (h : valP s 16 0 = .bad e i) : readP s = (J.null, e, i) := by unfold readP; rw [h]
theorem readP_ok {s : List UInt8} {a : J} {i : Nat} (h : valP s 16 0 = .ok a i) (hb : ¬ bl s i < s.length) : readP s = (a, 0, 0) := by unfold readP; rw [h]; dsimp only; rw [if_neg hb]
theorem readP_more {s : List UInt8} {a : J} {i : Nat} (h : valP s 16 0 = .ok a i) (hb : bl s i < s.length) : readP s = (J.null, 40, bl s i) := by unfold readP; rw [h]; dsimp only; rw [if_pos hb]
theorem valP_self (s : List UInt8) : Rel (∃ c r, ([] : List UInt8) = c :: r ∧ isDig c = true) s.length (valP s 16 0) (valP s 16 0) := by
  have := (valP_val 16).rel s [] 0 (Nat.zero_le _)
  rwa [List.append_nil] at this
theorem ends_read {n : Nat} {u : List UInt8} (h : Ends (fun s => valP s 16 0) n u) : EndsR n u := by
  induction h with
  | @fin n t a h =>
    have := h []
    rw [List.append_nil] at this
    refine .fin ?_
    rw [readP_ok this (by rw [bl_end _ _ (Nat.le_refl _)]; omega)]
  | @step n u m h1 h2 h3 ih =>
    refine .step (m := m) (readP_bad h1) ?_ ih
    rw [← h2]
    refine find_congr fun m _ => ?_
    have r1 := (valP_val 16).rel u [m] 0 (Nat.zero_le _)
    have r2 := valP_self (u ++ [m])
    rw [h1] at r1
    rcases r1 with ⟨h, _⟩ | ⟨_, _, r1⟩
    · exact absurd h (by omega)
    · unfold viabR
      dsimp only
      cases hA : valP (u ++ [m]) 16 0 with
      | bad e j =>
        rw [hA] at r2
        have he : e ≠ 0 := by rcases r2 with ⟨_, h, _⟩ | ⟨_, rfl, _⟩ <;> first | exact h | decide
        rw [readP_bad hA]
        simp [viab, he]
      | ok a j =>
        rw [hA] at r1 r2
        have r1 : u.length < j := r1
        have r2 := r2.1
        rw [snoc_len] at r2
        obtain rfl : j = u.length + 1 := by omega
        rw [viab_ok, readP_ok hA (by rw [bl_end _ _ (by simp)]; simp)]
        rfl
/-- What stays wrong stands at the end: then the marks bring it to an end. -/
theorem read_ends {u : List UInt8} {v : J} (hu : u.length ≤ 4000) (h : readP u = (v, 40, u.length)) : EndsR 300000 u := by
  have r := valP_self u
  cases hA : valP u 16 0 with
  | bad e j =>
    rw [readP_bad hA] at h
    simp only [Prod.mk.injEq] at h
    obtain ⟨_, rfl, rfl⟩ := h
    exact ends_read (((valP_ende 16068 16).ends u 0 (Nat.zero_le _) (by omega) hA).mono (by decide))
  | ok a j =>
    by_cases hb : bl u j < u.length
    · rw [readP_more hA hb] at h
      simp only [Prod.mk.injEq] at h
      omega
    · rw [readP_ok hA hb] at h
      simp at h
theorem read_form (s : List UInt8) : ((readP s).2.1 = 0 ∧ (readP s).2.2 = 0) ∨ ((readP s).1 = J.null ∧ (readP s).2.1 ≠ 0 ∧ (readP s).2.2 ≤ s.length ∧ ((readP s).2.2 = s.length → (readP s).2.1 = 40)) := by
  have r := valP_self s
  cases hA : valP s 16 0 with
  | bad e j =>
    rw [hA] at r
    right
    rw [readP_bad hA]
    rcases r with ⟨h1, h2, _⟩ | ⟨rfl, rfl, _⟩
    · exact ⟨rfl, h2, Nat.le_of_lt h1, fun h => absurd h (by dsimp only; omega)⟩
    · exact ⟨rfl, (by decide : (40 : Int) ≠ 0), Nat.le_refl _, fun _ => rfl⟩
  | ok a j =>
    by_cases hb : bl s j < s.length
    · right
      rw [readP_more hA hb]
      exact ⟨rfl, (by decide : (40 : Int) ≠ 0), Nat.le_of_lt hb, fun _ => rfl⟩
    · left
      rw [readP_ok hA hb]
      exact ⟨rfl, rfl⟩
/-- Up to the place of what is wrong all is well. -/
theorem read_upto (u z : List UInt8) (h0 : (readP (u ++ z)).2.1 ≠ 0) (h : (readP (u ++ z)).2.2 = u.length) : (readP u).2.1 = 0 ∨ readP u = (J.null, 40, u.length) := by
  have r := (valP_val 16).rel u z 0 (Nat.zero_le _)
  cases hB : valP (u ++ z) 16 0 with
  | bad e j =>
    rw [readP_bad hB] at h
    have h : j = u.length := h
    subst h
    cases hA : valP u 16 0 with
    | ok a i =>
      rw [hA, hB] at r
      obtain ⟨h1, h2⟩ := r
      rcases h2 with h2 | ⟨_, rfl, _⟩
      · cases h2
      · left; rw [readP_ok hA (by rw [bl_end _ _ (Nat.le_refl _)]; omega)]
    | bad e' i =>
      rw [hA, hB] at r
      rcases r with ⟨h1, _, h2⟩ | ⟨rfl, rfl, _⟩
      · cases h2; omega
      · right; exact readP_bad hA
  | ok a j =>
    by_cases hb : bl (u ++ z) j < (u ++ z).length
    · rw [readP_more hB hb] at h
      have h : bl (u ++ z) j = u.length := h
      have hj := bl_le (u ++ z) j
      cases hA : valP u 16 0 with
      | ok a' i =>
        rw [hA, hB] at r
        obtain ⟨h1, h2⟩ := r
        left
        rcases h2 with h2 | ⟨_, rfl, _⟩
        · cases h2
          refine (congrArg (fun t => t.2.1) (readP_ok hA fun hl => ?_)).trans rfl
          rw [bl_appR h1 hl] at h
          omega
        · rw [readP_ok hA (by rw [bl_end _ _ (Nat.le_refl _)]; omega)]
      | bad e' i =>
        rw [hA, hB] at r
        rcases r with ⟨h1, _, h2⟩ | ⟨rfl, rfl, h2⟩
        · cases h2
        · right; exact readP_bad hA
    · rw [readP_ok hB hb] at h0
      exact absurd rfl h0
/-- With the byte that is wrong nothing goes on. -/
theorem read_stays (p y z : List UInt8) (h0 : (readP (p ++ z)).2.1 ≠ 0) (h : (readP (p ++ z)).2.2 + 1 = p.length) : readP (p ++ y) = readP (p ++ z) := by
  have rz := (valP_val 16).rel p z 0 (Nat.zero_le _)
  have ry := (valP_val 16).rel p y 0 (Nat.zero_le _)
  cases hB : valP (p ++ z) 16 0 with
  | bad e j =>
    rw [readP_bad hB] at h ⊢
    have h : j + 1 = p.length := h
    cases hA : valP p 16 0 with
    | ok a i =>
      rw [hA, hB] at rz
      obtain ⟨h1, h2⟩ := rz
      rcases h2 with h2 | ⟨_, _, h2⟩
      · cases h2
      · have h2 : p.length ≤ j := h2
        omega
    | bad e' i =>
      rw [hA, hB] at rz
      rcases rz with ⟨h1, _, h2⟩ | ⟨rfl, _, h2⟩
      · cases h2
        rw [hA] at ry
        rcases ry with ⟨_, _, h3⟩ | ⟨h3, _⟩
        · exact readP_bad h3
        · omega
      · have h2 : p.length ≤ j := h2
        omega
  | ok a j =>
    by_cases hb : bl (p ++ z) j < (p ++ z).length
    · rw [readP_more hB hb] at h ⊢
      have h : bl (p ++ z) j + 1 = p.length := h
      have hj := bl_le (p ++ z) j
      cases hA : valP p 16 0 with
      | ok a' i =>
        rw [hA, hB] at rz
        obtain ⟨h1, h2⟩ := rz
        rcases h2 with h2 | ⟨_, _, h2⟩
        · cases h2
          rw [hA] at ry
          have h3 : valP (p ++ y) 16 0 = .ok a j := by
            rcases ry.2 with h3 | ⟨_, h3, _⟩
            · exact h3
            · omega
          have hl : bl p j < p.length := by
            have h4 := bl_max p j h1
            by_cases hl : bl p j < p.length
            · exact hl
            · have := bl_app_ge (x := z) h1 (by omega)
              omega
          rw [bl_appR h1 hl] at h ⊢
          have hly : bl (p ++ y) j < (p ++ y).length := by rw [bl_appR h1 hl, List.length_append]; omega
          rw [readP_more h3 hly, bl_appR h1 hl]
        · have h2 : p.length ≤ j := h2
          omega
      | bad e' i =>
        rw [hA, hB] at rz
        rcases rz with ⟨_, _, h2⟩ | ⟨rfl, _, h2⟩
        · cases h2
        · have h2 : p.length < j := h2
          omega
    · rw [readP_ok hB hb] at h0
      exact absurd rfl h0
end Jo
end Go.Proofs.YtmajpambfblhnaaGreatDoor
