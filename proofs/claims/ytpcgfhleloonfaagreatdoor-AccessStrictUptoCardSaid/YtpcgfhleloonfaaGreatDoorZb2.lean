/- What the proof of this law needs, part 2: walks of the program's functions and plain laws (texts JoPlainA, JoKit, AcH1, AcH2, AcH3, AcKit, AcH4). -/
import Derived.Test.YtpcgfhleloonfaaGreatDoorZb1
import Derived.Lib.Bytealg
import Derived.Lib.RuneBytes
import Derived.Test.YtpcgfhleloonfaaGreatDoorRows
import Derived.StillTailTactics
import Derived.BigQuiet
import Derived.Deep.QuietTactic
import Derived.Deep.RegionLaw
import Derived.Deep.RegionHeld3
import Derived.Deep.LoopGhost
import Derived.Outline
import Derived.Deep.DeepCutAuto
import Derived.Deep.CutBlock
import Derived.Lib.AppendStr
import Derived.Maps.OwnSet
import Derived.Laws.BitsAllLaws
import Derived.BigRegion
import Derived.Deep.MidRow
namespace Go.Proofs.YtpcgfhleloonfaaGreatDoor
namespace Jo
/-- A value: kind, number, text, names, items. -/
inductive J where
  | mk (kind num : Int) (text : List UInt8) (names : List (List UInt8)) (items : List J)
theorem J.ind {P : J → Prop} (h : ∀ k n t ns xs, (∀ x ∈ xs, P x) → P (.mk k n t ns xs)) : ∀ j, P j
  | .mk k n t ns xs => h k n t ns xs (go xs)
where go : ∀ (xs : List J), ∀ x ∈ xs, P x
  | [], x, hx => by cases hx
  | y :: ys, x, hx => by
    rcases List.mem_cons.1 hx with e | e
    · rw [e]; exact J.ind h y
    · exact go ys x e
abbrev J.kind : J → Int | .mk k _ _ _ _ => k
abbrev J.num : J → Int | .mk _ n _ _ _ => n
abbrev J.text : J → List UInt8 | .mk _ _ t _ _ => t
abbrev J.names : J → List (List UInt8) | .mk _ _ _ ns _ => ns
abbrev J.items : J → List J | .mk _ _ _ _ xs => xs
def J.null : J := .mk 0 0 [] [] []
def J.fls : J := .mk 1 0 [] [] []
def J.tru : J := .mk 2 0 [] [] []
def J.nr (n : Int) : J := .mk 3 n [] [] []
def J.tx (l : List UInt8) : J := .mk 4 0 l [] []
def J.list (xs : List J) : J := .mk 5 0 [] [] xs
def J.obj (ms : List (List UInt8 × J)) : J := .mk 6 0 [] (ms.map (·.1)) (ms.map (·.2))
/-- What a step of the reader gives: something and the place behind it, or what is wrong and where. -/
inductive PR (α : Type) where
  | ok (a : α) (i : Nat)
  | bad (e : Int) (i : Nat)
def PR.bind {α β : Type} (x : PR α) (f : α → Nat → PR β) : PR β := match x with | .ok a i => f a i | .bad e i => .bad e i
@[simp] theorem PR.bind_ok {α β : Type} (a : α) (i : Nat) (f : α → Nat → PR β) : (PR.ok a i).bind f = f a i := rfl
@[simp] theorem PR.bind_bad {α β : Type} (e : Int) (i : Nat) (f : α → Nat → PR β) : (PR.bad e i : PR α).bind f = .bad e i := rfl
def isBl (c : UInt8) : Bool := c == 32 || c == 9 || c == 10 || c == 13
/-- The place behind the blanks that stand at a place. -/
def bl (s : List UInt8) (i : Nat) : Nat := i + ((s.drop i).takeWhile isBl).length
def wantP (s : List UInt8) (c : UInt8) (i : Nat) : PR Unit := if s[i]? = some c then .ok () (i + 1) else .bad 40 i
def wordP (s : List UInt8) : List UInt8 → Nat → PR Unit
  | [], i => .ok () i
  | c :: w, i => if s[i]? = some c then wordP s w (i + 1) else .bad 40 i
/-- What a hexadecimal digit says; -1: it is none. -/
def hexZ (c : UInt8) : Int := if 48 ≤ c ∧ c ≤ 57 then (c.toNat : Int) - 48 else if 97 ≤ c ∧ c ≤ 102 then (c.toNat : Int) - 97 + 10 else if 65 ≤ c ∧ c ≤ 70 then (c.toNat : Int) - 65 + 10 else -1
def hexP (s : List UInt8) (lo hi : Int) (i : Nat) : PR Int :=
  match s[i]? with
  | none => .bad 40 i
  | some c => if hexZ c < lo ∨ hi < hexZ c then .bad 40 i else .ok (hexZ c) (i + 1)
/-- Four digits behind \u, and the lower half behind an upper one: the number of a letter. -/
def pointP (s : List UInt8) (i : Nat) : PR Int :=
  (hexP s 0 15 i).bind fun a i => (hexP s 0 (if a = 13 then 11 else 15) i).bind fun b i => (hexP s 0 15 i).bind fun c i => (hexP s 0 15 i).bind fun d i =>
    if ((a * 16 + b) * 16 + c) * 16 + d < 55296 ∨ 56319 < ((a * 16 + b) * 16 + c) * 16 + d then .ok (((a * 16 + b) * 16 + c) * 16 + d) i
    else (wordP s [92, 117] i).bind fun _ i => (hexP s 13 13 i).bind fun e i => (hexP s 12 15 i).bind fun f i => (hexP s 0 15 i).bind fun g i => (hexP s 0 15 i).bind fun h i =>
      .ok (65536 + (((((a * 16 + b) * 16 + c) * 16 + d) - 55296) * 1024 + ((((e * 16 + f) * 16 + g) * 16 + h) - 56320))) i
/-- Of a first byte: between which two the second one is, how many followP. -/
def behindP (c : UInt8) : UInt8 × UInt8 × Nat :=
  (if c = 224 then 160 else if c = 240 then 144 else 128, if c = 237 then 159 else if c = 244 then 143 else 191,
    if 194 ≤ c ∧ c ≤ 223 then 1 else if 224 ≤ c ∧ c ≤ 239 then 2 else if 240 ≤ c ∧ c ≤ 244 then 3 else 0)
def followP (s : List UInt8) : Nat → UInt8 → UInt8 → Nat → PR Unit
  | 0, _, _, i => .ok () i
  | m + 1, lo, hi, i => match s[i]? with
    | none => .bad 40 i
    | some x => if x < lo ∨ hi < x then .bad 40 i else followP s m 128 191 (i + 1)
/-- A letter of UTF-8. -/
def letterP (s : List UInt8) (i : Nat) : PR Unit :=
  match s[i]? with
  | none => .bad 40 i
  | some c => if c < 128 then .ok () (i + 1) else if (behindP c).2.2 = 0 then .bad 40 i else followP s (behindP c).2.2 (behindP c).1 (behindP c).2.1 (i + 1)
/-- What stands behind a backslash. -/
def escP (s : List UInt8) (i : Nat) : PR (List UInt8) :=
  match s[i]? with
  | none => .bad 40 i
  | some c =>
    if c = 34 ∨ c = 92 ∨ c = 47 then .ok [c] (i + 1)
    else if c = 98 then .ok [8] (i + 1)
    else if c = 102 then .ok [12] (i + 1)
    else if c = 110 then .ok [10] (i + 1)
    else if c = 114 then .ok [13] (i + 1)
    else if c = 116 then .ok [9] (i + 1)
    else if c = 117 then (pointP s (i + 1)).bind fun n i => .ok (Lib.encodeRune n) i
    else .bad 40 i
/-- Behind the opening quote: up to the closing one. -/
def textL (s : List UInt8) (seen : List (List UInt8)) : Nat → List UInt8 → Nat → PR (List UInt8)
  | 0, _, i => .bad 0 i
  | f + 1, acc, i => match s[i]? with
    | none => .bad 40 i
    | some c =>
      if c = 34 then (if acc ∈ seen then .bad 42 i else .ok acc (i + 1))
      else if c = 92 then (escP s (i + 1)).bind fun x j => textL s seen f (acc ++ x) j
      else if c < 32 then .bad 40 i
      else (letterP s i).bind fun _ j => textL s seen f (acc ++ (s.drop i).take (j - i)) j
def textP (s : List UInt8) (seen : List (List UInt8)) (i : Nat) : PR (List UInt8) := (wantP s 34 i).bind fun _ i => textL s seen (s.length + 1) [] i
def isDig (c : UInt8) : Bool := 48 ≤ c && c ≤ 57
def digP (n : Int) : List UInt8 → Nat → PR Int
  | [], i => .ok n i
  | c :: r, i => if isDig c then (if 10 * n + ((c.toNat : Int) - 48) > 9007199254740991 then .bad 43 i else digP (10 * n + ((c.toNat : Int) - 48)) r (i + 1)) else .ok n i
def numQ (s : List UInt8) (sg : Int) (i : Nat) : PR Int :=
  match s[i]? with
  | none => .bad 40 i
  | some c => if isDig c = false then .bad 40 i else if c = 48 then .ok 0 (i + 1) else (digP 0 (s.drop i) i).bind fun n j => .ok (sg * n) j
def numP (s : List UInt8) (i : Nat) : PR Int := if s[i]? = some 45 then numQ s (-1) (i + 1) else numQ s 1 i
def listL (s : List UInt8) (val : Nat → PR J) : Nat → List J → Nat → PR (List J)
  | 0, _, i => .bad 0 i
  | f + 1, acc, i => (val i).bind fun x i => match s[bl s i]? with
    | none => .bad 40 (bl s i)
    | some c => if c = 44 then listL s val f (acc ++ [x]) (bl s i + 1) else if c = 93 then .ok (acc ++ [x]) (bl s i + 1) else .bad 40 (bl s i)
/-- A list, from its bracket on. -/
def listP (s : List UInt8) (val : Nat → PR J) (i : Nat) : PR (List J) :=
  match s[bl s (i + 1)]? with
  | none => .bad 40 (bl s (i + 1))
  | some c => if c = 93 then .ok [] (bl s (i + 1) + 1) else listL s val (s.length + 1) [] (bl s (i + 1))
def objL (s : List UInt8) (val : Nat → PR J) : Nat → List (List UInt8 × J) → Nat → PR (List (List UInt8 × J))
  | 0, _, i => .bad 0 i
  | f + 1, acc, i => (textP s (acc.map (·.1)) (bl s i)).bind fun n i => (wantP s 58 (bl s i)).bind fun _ i => (val i).bind fun x i => match s[bl s i]? with
    | none => .bad 40 (bl s i)
    | some c => if c = 44 then objL s val f (acc ++ [(n, x)]) (bl s i + 1) else if c = 125 then .ok (acc ++ [(n, x)]) (bl s i + 1) else .bad 40 (bl s i)
/-- An object, from its bracket on: its members as they stand. -/
def objP (s : List UInt8) (val : Nat → PR J) (i : Nat) : PR (List (List UInt8 × J)) :=
  match s[bl s (i + 1)]? with
  | none => .bad 40 (bl s (i + 1))
  | some c => if c = 125 then .ok [] (bl s (i + 1) + 1) else objL s val (s.length + 1) [] (bl s (i + 1))
def ltB (a b : List UInt8) : Bool := decide (Lib.compareBytes a b < 0)
/-- A member in its place among the others. -/
def insM (m : List UInt8 × J) : List (List UInt8 × J) → List (List UInt8 × J)
  | [] => [m]
  | x :: r => if ltB x.1 m.1 then x :: insM m r else m :: x :: r
def sortM : List (List UInt8 × J) → List (List UInt8 × J) := List.foldl (fun l m => insM m l) []
/-- A value, from its first byte on. -/
def valQ (s : List UInt8) (list : Nat → PR (List J)) (obj : Nat → PR (List (List UInt8 × J))) (i : Nat) : PR J :=
  match s[i]? with
  | none => .bad 40 i
  | some c =>
    if c = 110 then (wordP s [110, 117, 108, 108] i).bind fun _ i => .ok J.null i
    else if c = 102 then (wordP s [102, 97, 108, 115, 101] i).bind fun _ i => .ok J.fls i
    else if c = 116 then (wordP s [116, 114, 117, 101] i).bind fun _ i => .ok J.tru i
    else if c = 34 then (textP s [] i).bind fun t i => .ok (J.tx t) i
    else if c = 91 then (list i).bind fun xs i => .ok (J.list xs) i
    else if c = 123 then (obj i).bind fun ms i => .ok (J.obj (sortM ms)) i
    else (numP s i).bind fun n i => .ok (J.nr n) i
/-- Blanks and a value, where k lists and objects more may be opened. -/
def valP (s : List UInt8) : Nat → Nat → PR J
  | 0, i => valQ s (fun i => .bad 41 i) (fun i => .bad 41 i) (bl s i)
  | k + 1, i => valQ s (listP s (valP s k)) (objP s (valP s k)) (bl s i)
def readP (s : List UInt8) : J × Int × Nat :=
  match valP s 16 0 with
  | .bad e i => (J.null, e, i)
  | .ok x i => if bl s i < s.length then (J.null, 40, bl s i) else (x, 0, 0)
def parseP (s : List UInt8) : J × Int × Nat := if s.length > 4000 then (J.null, 44, 4000) else readP s
-- the reader's places
theorem bl_le (s : List UInt8) (i : Nat) : i ≤ bl s i := by unfold bl; omega
theorem bl_max (s : List UInt8) (i : Nat) (h : i ≤ s.length) : bl s i ≤ s.length := by
  unfold bl
  have h1 : ((s.drop i).takeWhile isBl).length ≤ (s.drop i).length := (List.takeWhile_sublist _).length_le
  rw [List.length_drop] at h1
  omega
theorem bl_yes (s : List UInt8) (i : Nat) (c : UInt8) (h : s[i]? = some c) (hc : isBl c = true) : bl s i = bl s (i + 1) := by
  obtain ⟨hi, rfl⟩ := List.getElem?_eq_some_iff.1 h
  unfold bl
  rw [List.drop_eq_getElem_cons hi, List.takeWhile_cons, if_pos hc]
  simp only [List.length_cons]
  omega
theorem bl_no (s : List UInt8) (i : Nat) (c : UInt8) (h : s[i]? = some c) (hc : isBl c = false) : bl s i = i := by
  obtain ⟨hi, rfl⟩ := List.getElem?_eq_some_iff.1 h
  unfold bl
  rw [List.drop_eq_getElem_cons hi, List.takeWhile_cons, if_neg (by simp [hc])]
  rfl
theorem bl_end (s : List UInt8) (i : Nat) (h : s.length ≤ i) : bl s i = i := by
  unfold bl
  rw [List.drop_eq_nil_of_le h]
  rfl
end Jo
end Go.Proofs.YtpcgfhleloonfaaGreatDoor
namespace Go.Proofs.YtpcgfhleloonfaaGreatDoor
namespace Jo
theorem PR.bind_eq_ok {α β : Type} {x : PR α} {f : α → Nat → PR β} {b : β} {j : Nat} (h : x.bind f = .ok b j) : ∃ a i, x = .ok a i ∧ f a i = .ok b j := by
  cases x with
  | ok a i => exact ⟨a, i, rfl, h⟩
  | bad e i => cases h
theorem wantP_ok {s : List UInt8} {c : UInt8} {i : Nat} {u : Unit} {j : Nat} (h : wantP s c i = .ok u j) : s[i]? = some c ∧ j = i + 1 := by
  unfold wantP at h
  split at h
  · rename_i hc; cases h; exact ⟨hc, rfl⟩
  · cases h
theorem wordP_ok {s : List UInt8} : ∀ {w : List UInt8} {i : Nat} {u : Unit} {j : Nat}, wordP s w i = .ok u j → j = i + w.length := by
  intro w
  induction w with
  | nil => intro i u j h; cases h; rfl
  | cons c w ih =>
    intro i u j h
    unfold wordP at h
    split at h
    · have := ih h
      rw [this, List.length_cons]; omega
    · cases h
theorem hexP_ok {s : List UInt8} {lo hi : Int} {i : Nat} {n : Int} {j : Nat} (h : hexP s lo hi i = .ok n j) : j = i + 1 ∧ lo ≤ n ∧ n ≤ hi ∧ ∃ c, s[i]? = some c ∧ n = hexZ c := by
  unfold hexP at h
  split at h
  · cases h
  · rename_i c hc
    split at h
    · cases h
    · cases h; exact ⟨rfl, by omega, by omega, c, hc, rfl⟩
theorem pointP_ok {s : List UInt8} {i : Nat} {n : Int} {j : Nat} (h : pointP s i = .ok n j) : j = i + 4 ∨ j = i + 10 := by
  unfold pointP at h
  obtain ⟨a, ia, ha, h⟩ := PR.bind_eq_ok h
  obtain ⟨b, ib, hb, h⟩ := PR.bind_eq_ok h
  obtain ⟨c, ic, hc, h⟩ := PR.bind_eq_ok h
  obtain ⟨d, id, hd, h⟩ := PR.bind_eq_ok h
  have e1 := (hexP_ok ha).1
  have e2 := (hexP_ok hb).1
  have e3 := (hexP_ok hc).1
  have e4 := (hexP_ok hd).1
  split at h
  · cases h; omega
  · obtain ⟨_, iw, hw, h⟩ := PR.bind_eq_ok h
    obtain ⟨e, ie, he, h⟩ := PR.bind_eq_ok h
    obtain ⟨f, jf, hf, h⟩ := PR.bind_eq_ok h
    obtain ⟨g, ig, hg, h⟩ := PR.bind_eq_ok h
    obtain ⟨p, ip, hp, h⟩ := PR.bind_eq_ok h
    have e5 := wordP_ok hw
    have e6 := (hexP_ok he).1
    have e7 := (hexP_ok hf).1
    have e8 := (hexP_ok hg).1
    have e9 := (hexP_ok hp).1
    cases h
    simp at e5
    omega
theorem followP_ok {s : List UInt8} : ∀ {m : Nat} {lo hi : UInt8} {i : Nat} {u : Unit} {j : Nat}, followP s m lo hi i = .ok u j → j = i + m ∧ (0 < m → j ≤ s.length) := by
  intro m
  induction m with
  | zero => intro lo hi i u j h; cases h; exact ⟨rfl, fun h => absurd h (by omega)⟩
  | succ m ih =>
    intro lo hi i u j h
    unfold followP at h
    split at h
    · cases h
    · rename_i x hx
      split at h
      · cases h
      · obtain ⟨e1, e2⟩ := ih h
        have hl : i < s.length := (List.getElem?_eq_some_iff.1 hx).1
        refine ⟨by omega, fun _ => ?_⟩
        by_cases hm : 0 < m
        · exact e2 hm
        · omega
theorem behindP_le (c : UInt8) : (behindP c).2.2 ≤ 3 := by
  unfold behindP; simp only; split
  · omega
  · split
    · omega
    · split <;> omega
theorem letterP_ok {s : List UInt8} {i : Nat} {u : Unit} {j : Nat} (h : letterP s i = .ok u j) : i < j ∧ j ≤ i + 4 ∧ j ≤ s.length := by
  unfold letterP at h
  split at h
  · cases h
  · rename_i c hc
    have hl : i < s.length := (List.getElem?_eq_some_iff.1 hc).1
    split at h
    · cases h; omega
    · split at h
      · cases h
      · obtain ⟨e1, e2⟩ := followP_ok h
        have := behindP_le c
        omega
theorem encodeRune_len (n : Int) : (Lib.encodeRune n).length ≤ 4 := by
  unfold Lib.encodeRune Lib.encodeRuneZ
  split
  · simp
  · split
    · simp
    · split
      · simp
      · split <;> simp
theorem escP_ok {s : List UInt8} {i : Nat} {x : List UInt8} {j : Nat} (h : escP s i = .ok x j) : i < j ∧ x.length ≤ 4 := by
  unfold escP at h
  split at h
  · cases h
  · rename_i c hc
    repeat (split at h; (cases h; exact ⟨by omega, by simp⟩))
    split at h
    · obtain ⟨n, k, hk, h⟩ := PR.bind_eq_ok h
      cases h
      have := pointP_ok hk
      exact ⟨by omega, encodeRune_len n⟩
    · cases h
theorem textL_le {s : List UInt8} {seen : List (List UInt8)} : ∀ {f : Nat} {acc : List UInt8} {i : Nat} {l : List UInt8} {j : Nat}, textL s seen f acc i = .ok l j → i < j ∧ l ∉ seen ∧ l.length ≤ acc.length + 4 * (j - i) := by
  intro f
  induction f with
  | zero => intro acc i l j h; cases h
  | succ f ih =>
    intro acc i l j h
    unfold textL at h
    split at h
    · cases h
    · split at h
      · split at h
        · cases h
        · rename_i hm; cases h; exact ⟨by omega, hm, by omega⟩
      · split at h
        · obtain ⟨x, k, hk, h⟩ := PR.bind_eq_ok h
          have e1 := escP_ok hk
          have e2 := ih h
          rw [List.length_append] at e2
          exact ⟨by omega, e2.2.1, by omega⟩
        · split at h
          · cases h
          · obtain ⟨x, k, hk, h⟩ := PR.bind_eq_ok h
            have e1 := letterP_ok hk
            have e2 := ih h
            rw [List.length_append, List.length_take, List.length_drop] at e2
            exact ⟨by omega, e2.2.1, by omega⟩
theorem textP_le {s : List UInt8} {seen : List (List UInt8)} {i : Nat} {l : List UInt8} {j : Nat} (h : textP s seen i = .ok l j) : i < j ∧ l ∉ seen ∧ l.length ≤ 4 * (j - i) := by
  unfold textP at h
  obtain ⟨u, k, hk, h⟩ := PR.bind_eq_ok h
  have e1 := (wantP_ok hk).2
  have e2 := textL_le h
  simp only [List.length_nil] at e2
  exact ⟨by omega, e2.2.1, by omega⟩
theorem digP_le : ∀ {l : List UInt8} {n : Int} {i : Nat} {m : Int} {j : Nat}, digP n l i = .ok m j → i ≤ j := by
  intro l
  induction l with
  | nil => intro n i m j h; cases h; exact Nat.le_refl _
  | cons c r ih =>
    intro n i m j h
    unfold digP at h
    split at h
    · split at h
      · cases h
      · have := ih h; omega
    · cases h; exact Nat.le_refl _
theorem numQ_le {s : List UInt8} {z : Int} {i : Nat} {m : Int} {j : Nat} (h : numQ s z i = .ok m j) : i ≤ j := by
  unfold numQ at h
  split at h
  · cases h
  · split at h
    · cases h
    · split at h
      · cases h; omega
      · obtain ⟨n, k, hk, h⟩ := PR.bind_eq_ok h
        cases h
        exact digP_le hk
theorem numP_le {s : List UInt8} {i : Nat} {m : Int} {j : Nat} (h : numP s i = .ok m j) : i ≤ j := by
  unfold numP at h
  split at h
  · have := numQ_le h; omega
  · exact numQ_le h
theorem listL_le {s : List UInt8} {val : Nat → PR J} (hv : ∀ i x j, val i = .ok x j → i ≤ j) : ∀ {f : Nat} {acc : List J} {i : Nat} {xs : List J} {j : Nat}, listL s val f acc i = .ok xs j → i ≤ j := by
  intro f
  induction f with
  | zero => intro acc i xs j h; cases h
  | succ f ih =>
    intro acc i xs j h
    unfold listL at h
    obtain ⟨x, k, hk, h⟩ := PR.bind_eq_ok h
    have e1 := hv _ _ _ hk
    have e2 := bl_le s k
    split at h
    · cases h
    · split at h
      · have := ih h; omega
      · split at h
        · cases h; omega
        · cases h
theorem listP_le {s : List UInt8} {val : Nat → PR J} (hv : ∀ i x j, val i = .ok x j → i ≤ j) {i : Nat} {xs : List J} {j : Nat} (h : listP s val i = .ok xs j) : i ≤ j := by
  unfold listP at h
  have e2 := bl_le s (i + 1)
  split at h
  · cases h
  · split at h
    · cases h; omega
    · have := listL_le hv h; omega
theorem objL_le {s : List UInt8} {val : Nat → PR J} (hv : ∀ i x j, val i = .ok x j → i ≤ j) : ∀ {f : Nat} {acc : List (List UInt8 × J)} {i : Nat} {xs : List (List UInt8 × J)} {j : Nat}, objL s val f acc i = .ok xs j → i ≤ j := by
  intro f
  induction f with
  | zero => intro acc i xs j h; cases h
  | succ f ih =>
    intro acc i xs j h
    unfold objL at h
    obtain ⟨n, k0, hk0, h⟩ := PR.bind_eq_ok h
    obtain ⟨u, k1, hk1, h⟩ := PR.bind_eq_ok h
    obtain ⟨x, k, hk, h⟩ := PR.bind_eq_ok h
    have e0 := (textP_le hk0).1
    have e1 := (wantP_ok hk1).2
    have e2 := hv _ _ _ hk
    have b0 := bl_le s i
    have b1 := bl_le s k0
    have b2 := bl_le s k
    split at h
    · cases h
    · split at h
      · have := ih h; omega
      · split at h
        · cases h; omega
        · cases h
theorem objP_le {s : List UInt8} {val : Nat → PR J} (hv : ∀ i x j, val i = .ok x j → i ≤ j) {i : Nat} {xs : List (List UInt8 × J)} {j : Nat} (h : objP s val i = .ok xs j) : i ≤ j := by
  unfold objP at h
  have e2 := bl_le s (i + 1)
  split at h
  · cases h
  · split at h
    · cases h; omega
    · have := objL_le hv h; omega
theorem valQ_le {s : List UInt8} {li : Nat → PR (List J)} {ob : Nat → PR (List (List UInt8 × J))} (hl : ∀ i x j, li i = .ok x j → i ≤ j) (ho : ∀ i x j, ob i = .ok x j → i ≤ j) {i : Nat} {x : J} {j : Nat} (h : valQ s li ob i = .ok x j) : i ≤ j := by
  unfold valQ at h
  split at h
  · cases h
  · repeat (split at h; (obtain ⟨u, k, hk, h⟩ := PR.bind_eq_ok h; cases h; first | (have := wordP_ok hk; omega) | (have := textP_le hk; omega) | exact hl _ _ _ hk | exact ho _ _ _ hk))
    obtain ⟨u, k, hk, h⟩ := PR.bind_eq_ok h
    cases h
    exact numP_le hk
theorem valP_le {s : List UInt8} : ∀ {k : Nat} {i : Nat} {x : J} {j : Nat}, valP s k i = .ok x j → i ≤ j := by
  intro k
  induction k with
  | zero => intro i x j h; have := valQ_le (fun _ _ _ h => by cases h) (fun _ _ _ h => by cases h) h; have := bl_le s i; omega
  | succ k ih => intro i x j h; have := valQ_le (fun _ _ _ h => listP_le (fun _ _ _ h => ih h) h) (fun _ _ _ h => objP_le (fun _ _ _ h => ih h) h) h; have := bl_le s i; omega
end Jo
end Go.Proofs.YtpcgfhleloonfaaGreatDoor
namespace Go.Proofs.YtpcgfhleloonfaaGreatDoor
namespace Jo
theorem cmp_refl : ∀ a : List UInt8, Lib.compareBytes a a = 0
  | [] => rfl
  | c :: r => by unfold Lib.compareBytes; rw [if_neg (by simp), if_neg (by simp)]; exact cmp_refl r
theorem cmp_zero : ∀ a b : List UInt8, Lib.compareBytes a b = 0 → a = b
  | [], [], _ => rfl
  | [], _ :: _, h => by simp [Lib.compareBytes] at h
  | _ :: _, [], h => by simp [Lib.compareBytes] at h
  | c :: r, d :: t, h => by
    unfold Lib.compareBytes at h
    split at h
    · simp at h
    · split at h
      · simp at h
      · rename_i h1 h2
        have e : c = d := UInt8.toNat_inj.1 (by rw [UInt8.lt_iff_toNat_lt] at h1 h2; omega)
        rw [e, cmp_zero r t h]
theorem cmp_neg : ∀ a b : List UInt8, Lib.compareBytes a b = - Lib.compareBytes b a
  | [], [] => rfl
  | [], _ :: _ => rfl
  | _ :: _, [] => rfl
  | c :: r, d :: t => by
    unfold Lib.compareBytes
    by_cases h1 : c < d
    · have h2 : ¬ d < c := by rw [UInt8.lt_iff_toNat_lt] at *; omega
      rw [if_pos h1, if_neg h2, if_pos h1]
    · by_cases h2 : d < c
      · rw [if_neg h1, if_pos h2, if_pos h2]; rfl
      · rw [if_neg h1, if_neg h2, if_neg h2, if_neg h1]; exact cmp_neg r t
theorem cmp_trans : ∀ a b c : List UInt8, Lib.compareBytes a b < 0 → Lib.compareBytes b c < 0 → Lib.compareBytes a c < 0
  | [], [], _, h, _ => by simp [Lib.compareBytes] at h
  | [], _ :: _, [], _, h => by simp [Lib.compareBytes] at h
  | [], _ :: _, _ :: _, _, _ => by simp [Lib.compareBytes]
  | _ :: _, [], _, h, _ => by simp [Lib.compareBytes] at h
  | _ :: _, _ :: _, [], _, h => by simp [Lib.compareBytes] at h
  | x :: a, y :: b, z :: c, h1, h2 => by
    unfold Lib.compareBytes at h1 h2 ⊢
    simp only [UInt8.lt_iff_toNat_lt] at *
    by_cases a1 : x.toNat < y.toNat
    · by_cases a2 : y.toNat < z.toNat
      · rw [if_pos (by omega)]; omega
      · rw [if_neg a2] at h2
        by_cases a3 : z.toNat < y.toNat
        · rw [if_pos a3] at h2; omega
        · rw [if_pos (by omega)]; omega
    · rw [if_neg a1] at h1
      by_cases b1 : y.toNat < x.toNat
      · rw [if_pos b1] at h1; omega
      · rw [if_neg b1] at h1
        by_cases a2 : y.toNat < z.toNat
        · rw [if_pos (by omega)]; omega
        · rw [if_neg a2] at h2
          by_cases a3 : z.toNat < y.toNat
          · rw [if_pos a3] at h2; omega
          · rw [if_neg a3] at h2
            rw [if_neg (by omega), if_neg (by omega)]
            exact cmp_trans a b c h1 h2
theorem ltB_irrefl (a : List UInt8) : ltB a a = false := by unfold ltB; rw [cmp_refl]; rfl
theorem ltB_asymm {a b : List UInt8} (h : ltB a b = true) : ltB b a = false := by
  unfold ltB at *; have := cmp_neg a b; simp at *; omega
theorem ltB_trans {a b c : List UInt8} (h : ltB a b = true) (k : ltB b c = true) : ltB a c = true := by
  unfold ltB at *; simp only [decide_eq_true_eq] at *; exact cmp_trans a b c h k
theorem ltB_total {a b : List UInt8} (h : ltB a b = false) (hne : a ≠ b) : ltB b a = true := by
  unfold ltB at *
  have := cmp_neg a b
  have h0 : Lib.compareBytes a b ≠ 0 := fun e => hne (cmp_zero _ _ e)
  simp at *; omega
theorem ltB_ntrans {a b c : List UInt8} (h : ltB a b = false) (k : ltB b c = false) : ltB a c = false := by
  by_cases e1 : a = b
  · subst e1; exact k
  · by_cases e2 : b = c
    · subst e2; exact h
    · exact ltB_asymm (ltB_trans (ltB_total k e2) (ltB_total h e1))
theorem bytesLess_eq : ∀ a b : List UInt8, Op.bytesLess a b = ltB a b
  | [], [] => rfl
  | [], _ :: _ => rfl
  | _ :: _, [] => rfl
  | c :: r, d :: t => by
    unfold Op.bytesLess ltB Lib.compareBytes
    by_cases h1 : c < d
    · simp [h1]
    · by_cases h2 : d < c
      · have : c ≠ d := by intro e; subst e; exact h1 h2
        simp [h1, h2, this]
      · have e : c = d := UInt8.toNat_inj.1 (by rw [UInt8.lt_iff_toNat_lt] at h1 h2; omega)
        subst e
        simp only [h1, if_false, decide_false, Bool.false_or, beq_self_eq_true, Bool.true_and]
        rw [bytesLess_eq r t]
        rfl
-- members in their order
theorem insM_perm (m : List UInt8 × J) : ∀ l, (insM m l).Perm (m :: l)
  | [] => .refl _
  | x :: r => by
    unfold insM
    split
    · exact ((insM_perm m r).cons x).trans (.swap _ _ _)
    · exact .refl _
def Asc (l : List (List UInt8 × J)) : Prop := l.Pairwise fun a b => ltB a.1 b.1 = true
theorem insM_asc (m : List UInt8 × J) : ∀ l, Asc l → m.1 ∉ l.map (·.1) → Asc (insM m l)
  | [], _, _ => by simp [insM, Asc]
  | x :: r, h, hm => by
    have hx := List.pairwise_cons.1 h
    have hne : x.1 ≠ m.1 := fun e => hm (by simp [e])
    unfold insM
    split
    · rename_i hlt
      refine List.pairwise_cons.2 ⟨fun y hy => ?_, insM_asc m r hx.2 (fun h => hm (by simp only [List.map_cons, List.mem_cons]; exact .inr h))⟩
      rcases List.mem_cons.1 ((insM_perm m r).mem_iff.1 hy) with rfl | hy
      · exact hlt
      · exact hx.1 y hy
    · rename_i hlt
      have hl : ltB m.1 x.1 = true := ltB_total (by simpa using hlt) hne
      refine List.pairwise_cons.2 ⟨fun y hy => ?_, h⟩
      rcases List.mem_cons.1 hy with rfl | hy
      · exact hl
      · exact ltB_trans hl (hx.1 y hy)
theorem foldl_insM_perm : ∀ (l acc : List (List UInt8 × J)), (l.foldl (fun l m => insM m l) acc).Perm (acc ++ l)
  | [], acc => by simp
  | x :: r, acc => by
    rw [List.foldl_cons]
    refine (foldl_insM_perm r _).trans ?_
    refine ((insM_perm x acc).append_right r).trans ?_
    simpa using List.perm_middle.symm
theorem sortM_perm (l : List (List UInt8 × J)) : (sortM l).Perm l := by simpa [sortM] using foldl_insM_perm l []
theorem foldl_insM_asc : ∀ (l acc : List (List UInt8 × J)), Asc acc → ((acc ++ l).map (·.1)).Nodup → Asc (l.foldl (fun l m => insM m l) acc)
  | [], acc, h, _ => h
  | x :: r, acc, h, hn => by
    rw [List.foldl_cons]
    have hn2 : x.1 ∉ acc.map (·.1) := by
      rw [List.map_append, List.map_cons] at hn
      intro hx
      exact (List.nodup_append.1 hn).2.2 _ hx _ (by simp) rfl
    refine foldl_insM_asc r _ (insM_asc x acc h hn2) ?_
    refine (List.Perm.nodup_iff ?_).1 hn
    refine List.Perm.map _ ?_
    refine List.Perm.trans ?_ ((insM_perm x acc).symm.append_right r)
    simp
theorem sortM_asc (l : List (List UInt8 × J)) (h : (l.map (·.1)).Nodup) : Asc (sortM l) := foldl_insM_asc l [] List.Pairwise.nil (by simpa using h)
/-- Names in their order are one row of names. -/
theorem asc_unique {l1 l2 : List (List UInt8)} (h1 : l1.Pairwise fun a b => ltB a b = true) (h2 : l2.Pairwise fun a b => ltB a b = true) (hp : l1.Perm l2) : l1 = l2 :=
  hp.eq_of_pairwise (fun a b _ _ h k => absurd k (by rw [ltB_asymm h]; simp)) h1 h2
end Jo
end Go.Proofs.YtpcgfhleloonfaaGreatDoor
namespace Go.Proofs.YtpcgfhleloonfaaGreatDoor
open Go.RowKit Jo
abbrev S (l : List UInt8) : Value := .string ⟨l.toArray⟩
theorem size_mk (l : List UInt8) : (⟨l.toArray⟩ : ByteArray).size = l.length := by simp [ByteArray.size]
theorem ret_int {k : IntKind} {a b : Int} (h : a = b) : Ending.returned (.int k a) = .returned (.int k b) := by rw [h]
theorem infoByte : (Tryz.prog.info? 5).map (fun i => (i.zero, i.size, i.bytes)) = some (some (.int .u8 0), 1, 1) := by kernel_rfl
theorem byte_is (c : UInt8) (k : Int) (x : UInt8) (hk : k = x.toNat) : ((c.toNat : Int) == k) = decide (c = x) := by
  subst hk
  by_cases h : c = x
  · subst h; simp
  · rw [decide_eq_false h]
    simp only [beq_eq_false_iff_ne, ne_eq]
    intro e
    exact h (UInt8.toNat_inj.1 (by omega))
/-- Of what stood in w all blocks that are 'ok' stand in w' as they stood. -/
structure Kept (ok : Nat → Prop) (w w' : World) : Prop where
  os : w'.os = w.os
  tape : w'.tape = w.tape
  output : w'.output = w.output
  size : w.heap.size ≤ w'.heap.size
  block : ∀ k, k < w.heap.size → ok k → w'.heap[k]? = w.heap[k]?
theorem Kept.refl (ok : Nat → Prop) (w : World) : Kept ok w w := ⟨rfl, rfl, rfl, Nat.le_refl _, fun _ _ _ => rfl⟩
theorem Kept.trans {ok ok2 : Nat → Prop} {a b c : World} (h : Kept ok a b) (k : Kept ok2 b c) (hs : ∀ i, i < a.heap.size → ok i → ok2 i) : Kept ok a c :=
  ⟨k.os.trans h.os, k.tape.trans h.tape, k.output.trans h.output, Nat.le_trans h.size k.size, fun i hi ho => (k.block i (by have := h.size; omega) (hs i hi ho)).trans (h.block i hi ho)⟩
theorem Kept.tr {ok : Nat → Prop} {a b c : World} (h : Kept ok a b) (k : Kept ok b c) : Kept ok a c := h.trans k fun _ _ h => h
theorem Kept.mono {ok ok2 : Nat → Prop} {a b : World} (h : Kept ok a b) (hs : ∀ i, i < a.heap.size → ok2 i → ok i) : Kept ok2 a b := ⟨h.os, h.tape, h.output, h.size, fun i hi ho => h.block i hi (hs i hi ho)⟩
theorem Kept.drew {ok : Nat → Prop} {a w : World} (h : Kept ok a w) : Kept ok a w.drew := ⟨h.os, h.tape, h.output, h.size, h.block⟩
theorem drewN_heap (w : World) (n : Nat) : (w.drewN n).heap = w.heap := rfl
theorem Kept.drewN {ok : Nat → Prop} {a w : World} (h : Kept ok a w) (n : Nat) : Kept ok a (w.drewN n) := ⟨h.os, h.tape, h.output, h.size, h.block⟩
theorem Kept.alloc {ok : Nat → Prop} {a w : World} (h : Kept ok a w) (o : Obj) : Kept ok a (w.alloc o) :=
  h.tr ⟨rfl, rfl, rfl, by simp, fun k hk _ => Below.heap_alloc _ _ _ hk⟩
theorem Kept.setCell {ok : Nat → Prop} {a w : World} (h : Kept ok a w) {p : Addr} (hp : a.heap.size ≤ p.block ∨ ¬ ok p.block) (u : Value) : Kept ok a (w.setCell p u) :=
  h.trans (ok2 := fun k => k ≠ p.block) ⟨rfl, rfl, rfl, by simp [World.setCell], fun k _ hne => Below.heap_setCell _ _ _ _ hne⟩ fun i hi ho e => by
    subst e
    rcases hp with hp | hp
    · omega
    · exact hp ho
theorem Kept.of_grown {w w' : World} {row : Option Nat} (h : w.grownBy w' row) : Kept (fun k => some k ≠ row) w w' := ⟨h.os, h.tape, h.output, h.size, h.block⟩
theorem Kept.grown {ok : Nat → Prop} {a w w' : World} {row : Option Nat} (h : Kept ok a w) (hg : w.grownBy w' row) (hr : ∀ k, row = some k → a.heap.size ≤ k ∨ ¬ ok k) : Kept ok a w' :=
  h.trans (Kept.of_grown hg) fun i hi ho e => by
    rcases hr i e.symm with h1 | h1
    · omega
    · exact h1 ho
theorem Kept.of_below {ok : Nat → Prop} {B : Nat} {w w' : World} (h : Below B w w') (hB : w.heap.size ≤ B) : Kept ok w w' := ⟨h.os, h.tape, h.output, h.size, fun k hk _ => h.block k (by omega)⟩
theorem Kept.cell {ok : Nat → Prop} {w w' : World} (h : Kept ok w w') {b o : Nat} (hb : b < w.heap.size) (ho : ok b) : w'.cell? ⟨b, o, none⟩ = w.cell? ⟨b, o, none⟩ := World.cell?_of_block (a := ⟨b, o, none⟩) (h.block b hb ho)
theorem Kept.frozen {ok : Nat → Prop} {w w' : World} (h : Kept ok w w') {b o : Nat} (hb : b < w.heap.size) (ho : ok b) : w'.frozen? ⟨b, o, none⟩ = w.frozen? ⟨b, o, none⟩ := World.frozen?_of_block (a := ⟨b, o, none⟩) (h.block b hb ho)
theorem ownsRow_kept {e : TypeId} {size B n : Nat} {v : Value} {xs : List Value} {w w' : World} {ok : Nat → Prop} (h : w.ownsRow B e size v n xs) (hk : Kept ok w w') (hne : ∀ b, v.ownBlock = some b → ok b) : w'.ownsRow B e size v n xs := by
  refine ⟨h.1, ?_⟩
  rcases h.2 with hn | ⟨g, cap, cur, rfl, hB, hgg, rest⟩
  · exact .inl hn
  · exact .inr ⟨g, cap, cur, rfl, hB, (hk.block g (Array.getElem?_eq_some_iff.1 hgg).1 (hne g rfl)).trans hgg, rest⟩
theorem OwnB.kept {e : TypeId} {B : Nat} {v : Value} {l : List UInt8} {w w' : World} {ok : Nat → Prop} (h : OwnB e B v l w) (hk : Kept ok w w') (hne : ∀ b, v.ownBlock = some b → ok b) : OwnB e B v l w' := ownsRow_kept h hk hne
theorem frozen_row {w : World} {g : Nat} {cs : Array Value} {t : TypeId} (h : w.heap[g]? = some (.cells cs t (0, 0))) (o : Nat) : w.frozen? ⟨g, o, none⟩ = false := by simp [World.frozen?, h]
theorem cell_isLt {w : World} {b o : Nat} {v : Value} (h : w.cell? ⟨b, o, none⟩ = some v) : b < w.heap.size := by
  unfold World.cell? at h
  split at h
  · rename_i hh; exact (Array.getElem?_eq_some_iff.1 hh).1
  · cases h
/-- The reader of jot at block g: its text, its place, how deep it stands. -/
def PA (g : Nat) (s : List UInt8) (i d : Nat) (w : World) : Prop := w.heap[g]? = some (.cells #[S s, .int .i64 i, .int .i64 d] 166 (0, 0))
theorem PA.lt {g : Nat} {s : List UInt8} {i d : Nat} {w : World} (h : PA g s i d w) : g < w.heap.size := (Array.getElem?_eq_some_iff.1 h).1
theorem PA.facts {g : Nat} {s : List UInt8} {i d : Nat} {w : World} (h : PA g s i d w) :
    w.cell? ⟨g, 0, none⟩ = some (S s) ∧ w.cell? ⟨g, 1, none⟩ = some (.int .i64 i) ∧ w.cell? ⟨g, 2, none⟩ = some (.int .i64 d) ∧ w.frozen? ⟨g, 1, none⟩ = false ∧ w.frozen? ⟨g, 2, none⟩ = false := by
  unfold PA at h
  refine ⟨?_, ?_, ?_, frozen_row h 1, frozen_row h 2⟩ <;> rw [cell_of_row w g _ _ _ (0, 0) h] <;> rfl
theorem PA.kept {g : Nat} {s : List UInt8} {i d : Nat} {w w' : World} {ok : Nat → Prop} (h : PA g s i d w) (hk : Kept ok w w') (ho : ok g) : PA g s i d w' := (hk.block g h.lt ho).trans h
theorem PA.drewN {g : Nat} {s : List UInt8} {i d : Nat} {w : World} (h : PA g s i d w) (n : Nat) : PA g s i d (w.drewN n) := h
theorem setCell_heap {w : World} {g o : Nat} {cur : Array Value} {t : TypeId} {fz : Nat × Nat} (h : w.heap[g]? = some (.cells cur t fz)) (v : Value) : (w.setCell ⟨g, o, none⟩ v).heap[g]? = some (.cells (cur.setIfInBounds o v) t fz) := by
  simp only [World.setCell, Array.getElem?_modify, if_true]
  rw [h]
  rfl
theorem PA.setAt {g : Nat} {s : List UInt8} {i d : Nat} {w : World} (h : PA g s i d w) (j : Nat) (v : Value) (hv : v = .int .i64 j) : PA g s j d (w.setCell ⟨g, 1, none⟩ v) := by
  subst hv
  exact (setCell_heap h _).trans rfl
theorem PA.setDeep {g : Nat} {s : List UInt8} {i d : Nat} {w : World} (h : PA g s i d w) (j : Nat) (v : Value) (hv : v = .int .i64 j) : PA g s i j (w.setCell ⟨g, 2, none⟩ v) := by
  subst hv
  exact (setCell_heap h _).trans rfl
/-- The panic by which jot's reader gives up. -/
abbrev gaveUp (e : Int) (i : Nat) : Ending := .panicked [{ v := .iface 162 (.agg #[.int .i64 e, .int .i64 i]), recovered := false }]
/-- What a method of the reader leaves: what the plain reader says, or the panic; the reader's block alone is written. -/
def Reads {α : Type} (g : Nat) (s : List UInt8) (d : Nat) (w : World) (r : PR α) (Q : α → Ending → World → Prop) (e : Ending) (w' : World) : Prop :=
  match r with
  | .ok a i => Q a e w' ∧ PA g s i d w' ∧ i ≤ s.length ∧ Kept (· ≠ g) w w'
  | .bad x i => e = gaveUp x i ∧ i ≤ s.length ∧ Kept (· ≠ g) w w'
end Go.Proofs.YtpcgfhleloonfaaGreatDoor
namespace Go.Proofs.YtpcgfhleloonfaaGreatDoor
open Go.RowKit Jo
theorem extract_mk (s : List UInt8) (j k : Nat) : Value.string ((⟨s.toArray⟩ : ByteArray).extract j k) = S ((s.drop j).take (k - j)) := by
  congr 1
  apply ByteArray.ext
  rw [ByteArray.data_extract]
  simp
theorem strCells_mk (l : List UInt8) : Lib.strCells ⟨l.toArray⟩ = Lib.byteCells l := by simp [Lib.strCells, Lib.byteCells]
theorem Below.of_grown {e : TypeId} {B : Nat} {v : Value} {l : List UInt8} {w w' : World} (h : OwnB e B v l w) (hB : B ≤ w.heap.size) (hg : w.grownBy w' v.ownBlock) : Below B w w' := (h.grown hB hg).1
section
variable {P : Program} {ops : Array Oper} {o : Oper} {a : Act} {K : Act → World → Prop} {Q : Exit → Act → World → Prop} {E : Prop} {w : World}
theorem step_pushS (t u e : TypeId) (ht : P.underlying t = some (.slice e)) (hu : P.underlying u = some .string) (hi : (P.info? e).map (fun i => (i.zero, i.size, i.bytes)) = some (some (.int .u8 0), 1, 1))
    (hgd : o.guard = none) (s x : Operand) (ho : o.op = .call { callee := .builtin .append, args := #[s, x], argTypes := #[t, u] })
    (B : Nat) (l : List UInt8) (v : Value) (bs : List UInt8) (hs : a.eval s = v) (hx : a.eval x = S bs) (hown : OwnB e B v l w) (hl : l.length + bs.length ≤ 140737488355328) (hB : B ≤ w.heap.size)
    (h : ∀ v' w', OwnB e B v' (l ++ bs) w' → Below B w w' → K (a.put o.dst v') w') :
    if Region.wanted o (yielded ops a.tmps) = true then Oper.wp P o a w K Q else E := by
  obtain ⟨i0, hi0, hz0, hz1, hz2⟩ := info_parts hi
  have hsz : (⟨bs.toArray⟩ : ByteArray).size = bs.length := size_mk bs
  obtain ⟨v', w', hr, h2, h3, h4⟩ := Lib.run_append_own_string (P := P) (w := w) B t u o.type e i0 ht hu hi0 hz0 hz1 hz2 v l.length (Lib.byteCells l) hown ⟨bs.toArray⟩ (by rw [hsz]; unfold maxLen; omega) (by rw [hsz]; omega) hB
  have hwd : Region.wanted o (yielded ops a.tmps) = true := by simp [Region.wanted, hgd]
  rw [if_pos hwd]
  have h3' : OwnB e B v' (l ++ bs) w' := by
    unfold OwnB
    rw [List.length_append, Lib.byteCells_append, ← strCells_mk bs, ← hsz]
    exact h2
  have hK := h v' w' h3' (Below.of_grown hown hB h3)
  unfold Oper.wp execOp
  simp only [ho, resolve, invoke, builtin, Sem.run_bind, Sem.run_pure, Result.andThen_ok, List.map_toArray, List.map_cons, List.map_nil, hs, hx, hr]
  exact hK
end
/-- The map of names that were seen (nil: none). -/
def SeenAt (m : Option Nat) (ns : List (List UInt8)) (w : World) : Prop :=
  (m = none ∧ ns = []) ∨ ∃ (b : Nat) (D : DataW Unit), m = some b ∧ w.ownsMap Tryz.prog 9 (plainElem Tryz.prog 3) b ns.length D ∧ Maps.IsMap D ∧ ∀ l : List UInt8, Maps.has D (.string l) = decide (l ∈ ns)
theorem keyedS : Maps.Keyed Tryz.prog 9 := Maps.string_keyed Tryz.underlying9
theorem zeroI (w : World) : (zeroValue 3).run Tryz.prog w = .ok (.int .i64 0) w := by kernel_rfl
theorem keyS (l : List UInt8) (h : l.length ≤ maxLen) : keyOf Tryz.prog 9 (S l) = some (.string l) := by
  have := WideMaps.keyOf_string_mk (P := Tryz.prog) (k := 9) (s := ⟨l.toArray⟩) Tryz.underlying9 (by rw [size_mk]; exact h)
  simpa using this
theorem SeenAt.look {m : Option Nat} {ns : List (List UInt8)} {w : World} (h : SeenAt m ns w) (l : List UInt8) (hl : l.length ≤ maxLen) :
    ∃ c : Int, (Instr.lookup 145 (.map m) (S l) true).run Tryz.prog w = .ok (.tuple #[.int .i64 c, .bool (decide (l ∈ ns))]) w := by
  rcases h with ⟨rfl, rfl⟩ | ⟨b, D, rfl, hown, _, hh⟩
  · refine ⟨0, ?_⟩
    rw [Maps.look_nil true keyedS Tryz.underlying145 (zeroI w) (keyS l hl)]
    simp
  · obtain ⟨v, ps, hrun, hv⟩ := hown.look_ok keyedS Tryz.underlying145 (zeroI w) (plainElem_int Tryz.underlying3 (by decide)) (keyS l hl)
    obtain ⟨c, rfl, _, _⟩ := plainElem_int_inv Tryz.underlying3 hv
    exact ⟨c, by rw [hrun, hh]⟩
theorem SeenAt.kept {m : Option Nat} {ns : List (List UInt8)} {w w' : World} {ok : Nat → Prop} (h : SeenAt m ns w) (hk : Kept ok w w') (ho : ∀ b, m = some b → ok b) : SeenAt m ns w' := by
  rcases h with h | ⟨b, D, rfl, ⟨es, clock, hb, r⟩, hh⟩
  · exact .inl h
  · exact .inr ⟨b, D, rfl, ⟨es, clock, (hk.block b (Array.getElem?_eq_some_iff.1 hb).1 (ho b rfl)).trans hb, r⟩, hh⟩
theorem SeenAt.keptS {b : Nat} {ns : List (List UInt8)} {w w' : World} {ok : Nat → Prop} (h : SeenAt (some b) ns w) (hk : Kept ok w w') (ho : ok b) : SeenAt (some b) ns w' :=
  h.kept hk fun b' hb => by
    obtain rfl : b = b' := by simpa using hb
    exact ho
theorem SeenAt.lt {m : Option Nat} {ns : List (List UInt8)} {w : World} (h : SeenAt m ns w) : ∀ b, m = some b → b < w.heap.size := by
  intro b hb
  rcases h with ⟨rfl, _⟩ | ⟨b', D, rfl, ho, _⟩
  · cases hb
  · obtain rfl : b' = b := by simpa using hb
    exact ho.lt
theorem SeenAt.made (w : World) : SeenAt (some w.heap.size) [] (w.alloc (.map #[] 0)) := by
  refine .inr ⟨w.heap.size, _, rfl, World.ownsMap_made w _ _ _, ⟨_, rfl⟩, fun l => ?_⟩
  rfl
theorem SeenAt.ne {m : Option Nat} {ns : List (List UInt8)} {w : World} (h : SeenAt m ns w) {g : Nat} {c : Array Value} {t : TypeId} {fz : Nat × Nat} (hg : w.heap[g]? = some (.cells c t fz)) (b : Nat) (hb : m = some b) : b ≠ g := by
  rintro rfl
  rcases h with ⟨rfl, _⟩ | ⟨b', D, rfl, ⟨es, clock, hb', _⟩, _⟩
  · cases hb
  · obtain rfl : b' = b := by simpa using hb
    rw [hb'] at hg
    cases hg
theorem SeenAt.store {b : Nat} {ns : List (List UInt8)} {w : World} (h : SeenAt (some b) ns w) (l : List UInt8) (hl : l.length ≤ maxLen) (hn : ns.length < maxLen) (hnew : l ∉ ns) (v : Int) (hv : (Lit.int .i64 v).wf = true) :
    ∃ w', (Instr.mapUpdate 145 (.map (some b)) (S l) (.int .i64 v)).run Tryz.prog w = .ok () w' ∧ SeenAt (some b) (ns ++ [l]) w' ∧ Kept (· ≠ b) w w' := by
  rcases h with ⟨h, _⟩ | ⟨b', D, hb, hown, hM, hh⟩
  · cases h
  · obtain rfl : b = b' := by simpa using hb
    obtain ⟨w', hrun, ho, hg⟩ := hown.update keyedS Tryz.underlying145 hn (keyS l hl) (plainElem_int Tryz.underlying3 hv)
    refine ⟨w', hrun, .inr ⟨b, _, rfl, by rw [List.length_append]; exact ho, ho.isMap, fun l' => ?_⟩, (Kept.of_grown hg).mono fun i _ hi => by simpa using hi⟩
    by_cases e : l' = l
    · subst e
      rw [Maps.has_put_same hM (by simp [WideAt.IsKeyLit])]
      simp
    · rw [Maps.has_put_other (by intro e'; apply e; injection e' ), hh]
      simp [e]
theorem SeenAt.len {b : Nat} {ns : List (List UInt8)} {w : World} (h : SeenAt (some b) ns w) (ty : TypeId) : ∃ k : Nat, k ≤ ns.length ∧ (Builtin.len_ #[145] ty #[.map (some b)]).run Tryz.prog w = .ok (.int .i64 (k : Int)) w := by
  rcases h with ⟨h, _⟩ | ⟨b', D, hb, hown, _, _⟩
  · cases h
  · obtain rfl : b = b' := by simpa using hb
    exact ⟨Maps.size D, hown.size_le, hown.len Tryz.underlying145 ty⟩
end Go.Proofs.YtpcgfhleloonfaaGreatDoor
namespace Go.Proofs.YtpcgfhleloonfaaGreatDoor
open Go.RowKit Jo Ac
abbrev U (n : Nat) : Value := .int .u32 (n : Int)
theorem rotr_lt (x n : Nat) (hx : x < 4294967296) : rotr x n < 4294967296 := by
  unfold rotr
  refine Nat.or_lt_two_pow (n := 32) ?_ (by omega)
  rw [Nat.shiftRight_eq_div_pow]
  exact Nat.lt_of_le_of_lt (Nat.div_le_self _ _) hx
theorem or_rotr {x : Nat} (n m p q : Nat) (hm : m = 32 - n) (hp : 2 ^ n = p) (hq : 2 ^ m = q) (hx : x < 4294967296) : bits .or .u32 ((x : Int) * (q : Int) % 4294967296) ((x : Int) / (p : Int)) = ((rotr x n : Nat) : Int) := by
  subst hm hp hq
  have h1 : (x : Int) * ((2 ^ (32 - n) : Nat) : Int) % 4294967296 = ((x * 2 ^ (32 - n) % 4294967296 : Nat) : Int) := by omega
  have h2 : (x : Int) / ((2 ^ n : Nat) : Int) = ((x / 2 ^ n : Nat) : Int) := by omega
  rw [h1, h2, u32_or_nat _ _ (by omega) (Nat.lt_of_le_of_lt (Nat.div_le_self _ _) hx)]
  unfold rotr
  rw [Nat.shiftRight_eq_div_pow, Nat.shiftLeft_eq, Nat.or_comm]
theorem turn_2 (x : Nat) (w : World) (hx : x < 4294967296) :
    Calls Tryz.prog 119 #[U x, .int .i64 2] w fun e w' => e = .returned (U (rotr x 2)) ∧ w' = w := by
  have hb : bits .and .u64 (IntKind.u64.wrap (-2)) 31 = 30 := by decide
  have ho : bits .or .u32 ((x : Int) * 1073741824 % 4294967296) ((x : Int) / 4) = ((rotr x 2 : Nat) : Int) := or_rotr 2 30 4 1073741824 rfl rfl rfl hx
  go_enter Tryz.func119, Tryz.ntmps119
  go_wp2
  go_ret
  exact ⟨rfl, rfl⟩
theorem turn_6 (x : Nat) (w : World) (hx : x < 4294967296) :
    Calls Tryz.prog 119 #[U x, .int .i64 6] w fun e w' => e = .returned (U (rotr x 6)) ∧ w' = w := by
  have hb : bits .and .u64 (IntKind.u64.wrap (-6)) 31 = 26 := by decide
  have ho : bits .or .u32 ((x : Int) * 67108864 % 4294967296) ((x : Int) / 64) = ((rotr x 6 : Nat) : Int) := or_rotr 6 26 64 67108864 rfl rfl rfl hx
  go_enter Tryz.func119, Tryz.ntmps119
  go_wp2
  go_ret
  exact ⟨rfl, rfl⟩
theorem turn_7 (x : Nat) (w : World) (hx : x < 4294967296) :
    Calls Tryz.prog 119 #[U x, .int .i64 7] w fun e w' => e = .returned (U (rotr x 7)) ∧ w' = w := by
  have hb : bits .and .u64 (IntKind.u64.wrap (-7)) 31 = 25 := by decide
  have ho : bits .or .u32 ((x : Int) * 33554432 % 4294967296) ((x : Int) / 128) = ((rotr x 7 : Nat) : Int) := or_rotr 7 25 128 33554432 rfl rfl rfl hx
  go_enter Tryz.func119, Tryz.ntmps119
  go_wp2
  go_ret
  exact ⟨rfl, rfl⟩
theorem turn_11 (x : Nat) (w : World) (hx : x < 4294967296) :
    Calls Tryz.prog 119 #[U x, .int .i64 11] w fun e w' => e = .returned (U (rotr x 11)) ∧ w' = w := by
  have hb : bits .and .u64 (IntKind.u64.wrap (-11)) 31 = 21 := by decide
  have ho : bits .or .u32 ((x : Int) * 2097152 % 4294967296) ((x : Int) / 2048) = ((rotr x 11 : Nat) : Int) := or_rotr 11 21 2048 2097152 rfl rfl rfl hx
  go_enter Tryz.func119, Tryz.ntmps119
  go_wp2
  go_ret
  exact ⟨rfl, rfl⟩
theorem turn_13 (x : Nat) (w : World) (hx : x < 4294967296) :
    Calls Tryz.prog 119 #[U x, .int .i64 13] w fun e w' => e = .returned (U (rotr x 13)) ∧ w' = w := by
  have hb : bits .and .u64 (IntKind.u64.wrap (-13)) 31 = 19 := by decide
  have ho : bits .or .u32 ((x : Int) * 524288 % 4294967296) ((x : Int) / 8192) = ((rotr x 13 : Nat) : Int) := or_rotr 13 19 8192 524288 rfl rfl rfl hx
  go_enter Tryz.func119, Tryz.ntmps119
  go_wp2
  go_ret
  exact ⟨rfl, rfl⟩
theorem turn_17 (x : Nat) (w : World) (hx : x < 4294967296) :
    Calls Tryz.prog 119 #[U x, .int .i64 17] w fun e w' => e = .returned (U (rotr x 17)) ∧ w' = w := by
  have hb : bits .and .u64 (IntKind.u64.wrap (-17)) 31 = 15 := by decide
  have ho : bits .or .u32 ((x : Int) * 32768 % 4294967296) ((x : Int) / 131072) = ((rotr x 17 : Nat) : Int) := or_rotr 17 15 131072 32768 rfl rfl rfl hx
  go_enter Tryz.func119, Tryz.ntmps119
  go_wp2
  go_ret
  exact ⟨rfl, rfl⟩
theorem turn_18 (x : Nat) (w : World) (hx : x < 4294967296) :
    Calls Tryz.prog 119 #[U x, .int .i64 18] w fun e w' => e = .returned (U (rotr x 18)) ∧ w' = w := by
  have hb : bits .and .u64 (IntKind.u64.wrap (-18)) 31 = 14 := by decide
  have ho : bits .or .u32 ((x : Int) * 16384 % 4294967296) ((x : Int) / 262144) = ((rotr x 18 : Nat) : Int) := or_rotr 18 14 262144 16384 rfl rfl rfl hx
  go_enter Tryz.func119, Tryz.ntmps119
  go_wp2
  go_ret
  exact ⟨rfl, rfl⟩
theorem turn_19 (x : Nat) (w : World) (hx : x < 4294967296) :
    Calls Tryz.prog 119 #[U x, .int .i64 19] w fun e w' => e = .returned (U (rotr x 19)) ∧ w' = w := by
  have hb : bits .and .u64 (IntKind.u64.wrap (-19)) 31 = 13 := by decide
  have ho : bits .or .u32 ((x : Int) * 8192 % 4294967296) ((x : Int) / 524288) = ((rotr x 19 : Nat) : Int) := or_rotr 19 13 524288 8192 rfl rfl rfl hx
  go_enter Tryz.func119, Tryz.ntmps119
  go_wp2
  go_ret
  exact ⟨rfl, rfl⟩
theorem turn_22 (x : Nat) (w : World) (hx : x < 4294967296) :
    Calls Tryz.prog 119 #[U x, .int .i64 22] w fun e w' => e = .returned (U (rotr x 22)) ∧ w' = w := by
  have hb : bits .and .u64 (IntKind.u64.wrap (-22)) 31 = 10 := by decide
  have ho : bits .or .u32 ((x : Int) * 1024 % 4294967296) ((x : Int) / 4194304) = ((rotr x 22 : Nat) : Int) := or_rotr 22 10 4194304 1024 rfl rfl rfl hx
  go_enter Tryz.func119, Tryz.ntmps119
  go_wp2
  go_ret
  exact ⟨rfl, rfl⟩
theorem turn_25 (x : Nat) (w : World) (hx : x < 4294967296) :
    Calls Tryz.prog 119 #[U x, .int .i64 25] w fun e w' => e = .returned (U (rotr x 25)) ∧ w' = w := by
  have hb : bits .and .u64 (IntKind.u64.wrap (-25)) 31 = 7 := by decide
  have ho : bits .or .u32 ((x : Int) * 128 % 4294967296) ((x : Int) / 33554432) = ((rotr x 25 : Nat) : Int) := or_rotr 25 7 33554432 128 rfl rfl rfl hx
  go_enter Tryz.func119, Tryz.ntmps119
  go_wp2
  go_ret
  exact ⟨rfl, rfl⟩
/-- A row of numbers, known place by place. -/
def FA (k : IntKind) (T : TypeId) (n g : Nat) (f : Nat → Nat) (w : World) : Prop := w.heap[g]? = some (.cells ((List.range n).map fun i => Value.int k (f i : Int)).toArray T (0, 0))
theorem FA.lt {k : IntKind} {T : TypeId} {n g : Nat} {f : Nat → Nat} {w : World} (h : FA k T n g f w) : g < w.heap.size := (Array.getElem?_eq_some_iff.1 h).1
theorem FA.at {k : IntKind} {T : TypeId} {n g : Nat} {f : Nat → Nat} {w : World} (h : FA k T n g f w) {i : Nat} (hi : i < n) : w.cell? ⟨g, i, none⟩ = some (.int k (f i : Int)) := by
  rw [cell_of_row w g _ _ _ (0, 0) h]
  simp [hi]
theorem FA.fz {k : IntKind} {T : TypeId} {n g : Nat} {f : Nat → Nat} {w : World} (h : FA k T n g f w) (o : Nat) : w.frozen? ⟨g, o, none⟩ = false := frozen_row h o
theorem FA.kept {k : IntKind} {T : TypeId} {n g : Nat} {f : Nat → Nat} {w w' : World} {ok : Nat → Prop} (h : FA k T n g f w) (hk : Kept ok w w') (ho : ok g) : FA k T n g f w' := (hk.block g h.lt ho).trans h
theorem FA.congr {k : IntKind} {T : TypeId} {n g : Nat} {f f' : Nat → Nat} {w : World} (h : FA k T n g f w) (hf : ∀ i, i < n → f i = f' i) : FA k T n g f' w := by
  have : ((List.range n).map fun i => Value.int k (f i : Int)) = (List.range n).map fun i => Value.int k (f' i : Int) := List.map_congr_left fun i hi => by rw [hf i (List.mem_range.1 hi)]
  unfold FA at *
  rw [← this]
  exact h
def upd (f : Nat → Nat) (i x : Nat) : Nat → Nat := fun j => if j = i then x else f j
theorem upd_same (f : Nat → Nat) (i x : Nat) : upd f i x i = x := if_pos rfl
theorem upd_ne (f : Nat → Nat) {i j x : Nat} (h : j ≠ i) : upd f i x j = f j := if_neg h
theorem FA.set {k : IntKind} {T : TypeId} {n g : Nat} {f : Nat → Nat} {w : World} (h : FA k T n g f w) {i : Nat} (x : Nat) (v : Value) (hv : v = .int k x) : FA k T n g (upd f i x) (w.setCell ⟨g, i, none⟩ v) := by
  subst hv
  have := setCell_heap (o := i) h (.int k (x : Int))
  unfold FA
  rw [this]
  congr 2
  apply Array.ext
  · simp
  intro j h1 h2
  by_cases e : j = i
  · subst e; simp [upd]
  · simp [upd, e, Ne.symm e]
/-- Bytes, known whole. -/
def BA (T : TypeId) (g : Nat) (b : List UInt8) (w : World) : Prop := w.heap[g]? = some (.cells (Lib.byteCells b).toArray T (0, 0))
theorem BA.lt {T : TypeId} {g : Nat} {b : List UInt8} {w : World} (h : BA T g b w) : g < w.heap.size := (Array.getElem?_eq_some_iff.1 h).1
theorem BA.at {T : TypeId} {g : Nat} {b : List UInt8} {w : World} (h : BA T g b w) {i : Nat} (hi : i < b.length) : w.cell? ⟨g, i, none⟩ = some (.int .u8 ((b.getD i 0).toNat : Int)) := by
  rw [cell_of_row w g _ _ _ (0, 0) h]
  simp [Lib.byteCells, hi]
theorem BA.kept {T : TypeId} {g : Nat} {b : List UInt8} {w w' : World} {ok : Nat → Prop} (h : BA T g b w) (hk : Kept ok w w') (ho : ok g) : BA T g b w' := (hk.block g h.lt ho).trans h
theorem or_byte {x c : Nat} (hx : x < 16777216) (hc : c < 256) : bits .or .u32 ((x : Int) * 256 % 4294967296) (c : Int) = ((x * 256 + c : Nat) : Int) := by
  have h1 : (x : Int) * 256 % 4294967296 = ((x * 256 : Nat) : Int) := by omega
  rw [h1, u32_or_nat _ _ (by omega) (by omega)]
  have := Nat.shiftLeft_add_eq_or_of_lt (b := c) (i := 8) (by omega) x
  rw [Nat.shiftLeft_eq] at this
  exact congrArg Int.ofNat this.symm
def partW (b : List UInt8) (t : Nat) : Nat → Nat
  | 0 => 0
  | j + 1 => partW b t j * 256 + (b.getD (4 * t + j) 0).toNat
theorem partW_lt (b : List UInt8) (t : Nat) : ∀ j, partW b t j < 256 ^ j
  | 0 => by simp [partW]
  | j + 1 => by have := partW_lt b t j; have := (b.getD (4 * t + j) 0).toNat_lt; rw [partW, Nat.pow_succ]; omega
theorem partW_4 (b : List UInt8) (t : Nat) : partW b t 4 = word4 b (4 * t) := by simp only [partW, word4, Nat.add_zero]; omega
theorem extW_len : ∀ (n : Nat) (w : List Nat), (extW n w).length = w.length + n
  | 0, _ => rfl
  | n + 1, w => by rw [extW, extW_len n]; simp; omega
theorem extW_at : ∀ (n : Nat) (w : List Nat) (i : Nat), i < w.length → (extW n w).getD i 0 = w.getD i 0
  | 0, _, _, _ => rfl
  | n + 1, w, i, h => by
    rw [extW, extW_at n _ i (by simp; omega)]
    simp [List.getD, List.getElem?_append_left h]
theorem extW_rec : ∀ (n : Nat) (w : List Nat) (t : Nat), 16 ≤ w.length → w.length ≤ t → t < w.length + n →
    (extW n w).getD t 0 = ((extW n w).getD (t - 16) 0 + sg0 ((extW n w).getD (t - 15) 0) + (extW n w).getD (t - 7) 0 + sg1 ((extW n w).getD (t - 2) 0)) % 4294967296
  | 0, w, t, _, h1, h2 => by omega
  | n + 1, w, t, h0, h1, h2 => by
    have hl : (w ++ [nextW w]).length = w.length + 1 := by simp
    by_cases ht : t = w.length
    · subst ht
      rw [extW]
      have e : ∀ i, i < w.length → (extW n (w ++ [nextW w])).getD i 0 = w.getD i 0 := fun i hi => by
        rw [extW_at n _ i (by omega)]
        simp [List.getD, List.getElem?_append_left hi]
      rw [e (w.length - 16) (by omega), e (w.length - 15) (by omega), e (w.length - 7) (by omega), e (w.length - 2) (by omega), extW_at n _ w.length (by omega)]
      simp [List.getD, nextW]
    · rw [extW]
      exact extW_rec n _ t (by omega) (by omega) (by omega)
theorem sched_len (b : List UInt8) : (sched b).length = 64 := by rw [sched, extW_len]; simp [wordsN]
theorem sched_word (b : List UInt8) {t : Nat} (h : t < 16) : (sched b).getD t 0 = word4 b (4 * t) := by
  rw [sched, extW_at _ _ _ (by simpa [wordsN] using h)]
  simp [wordsN, List.getD, h]
theorem sched_rec (b : List UInt8) {t : Nat} (h : 16 ≤ t) (h2 : t < 64) : (sched b).getD t 0 = ((sched b).getD (t - 16) 0 + sg0 ((sched b).getD (t - 15) 0) + (sched b).getD (t - 7) 0 + sg1 ((sched b).getD (t - 2) 0)) % 4294967296 := by
  have hl : (wordsN b 16).length = 16 := by simp [wordsN]
  unfold sched
  exact extW_rec 48 _ t (by omega) (by omega) (by omega)
theorem sched_lt (b : List UInt8) (t : Nat) : (sched b).getD t 0 < 4294967296 := by
  by_cases h : t < 16
  · rw [sched_word b h]
    have h1 := (b.getD (4 * t) 0).toNat_lt
    have h2 := (b.getD (4 * t + 1) 0).toNat_lt
    have h3 := (b.getD (4 * t + 2) 0).toNat_lt
    have h4 := (b.getD (4 * t + 3) 0).toNat_lt
    unfold word4
    omega
  · by_cases h2 : t < 64
    · rw [sched_rec b (by omega) h2]; omega
    · rw [List.getD_eq_getElem?_getD, List.getElem?_eq_none (by rw [sched_len]; omega)]; decide
end Go.Proofs.YtpcgfhleloonfaaGreatDoor
namespace Go.Proofs.YtpcgfhleloonfaaGreatDoor
open Go.RowKit Jo Ac
abbrev bytesV (b : List UInt8) : Value := .agg (Lib.byteCells b).toArray
abbrev wordsV (k : IntKind) (l : List Nat) : Value := .agg (l.map fun (x : Nat) => Value.int k (x : Int)).toArray
theorem words_of {k : IntKind} {l : List Nat} {n : Nat} {f : Nat → Nat} (hl : l.length = n) (h : ∀ i, i < n → f i = l.getD i 0) : ((List.range n).map fun i => Value.int k (f i : Int)) = l.map fun (x : Nat) => Value.int k (x : Int) := by
  subst hl
  apply List.ext_getElem
  · simp
  intro i h1 h2
  simp only [List.length_map, List.length_range] at h1
  simp [h i h1, List.getD, h1]
theorem arr_slice (T e : TypeId) (n g i j : Nat) (hu : Tryz.prog.underlying T = some (.array n e)) (he : ∀ W, (sizeOf e).run Tryz.prog W = .ok 1 W) (hi : i ≤ j) (hj : j ≤ n) (hn : i < n) (x y : Int) (hx : x = i) (hy : y = j) (W : World) :
    (Instr.sliceAt T (.pointer (some ⟨g, 0, none⟩)) (some (.int .i64 x)) (some (.int .i64 y)) none).run Tryz.prog W = .ok (.slice (some ⟨g, i, none⟩) (j - i) (n - i)) W := by
  subst hx hy
  have hl : Tryz.prog.arrayLen T = n := by simp [Program.arrayLen, hu]
  have hel : Tryz.prog.elem T = e := by simp [Program.elem, hu]
  rw [run_sliceAt_array_lh W T ⟨g, 0, none⟩ (by rw [hl, hel]; exact hu) .i64 .i64 i j (by omega) (by omega) (by rw [hl]; omega), hel, he]
  simp only [Result.andThen, slicedAt, hl, Int.toNat_natCast, Nat.mul_one]
  rw [if_neg (by omega)]
  simp [Addr.add]
  omega
theorem xor3 {a b c : Nat} (ha : a < 4294967296) (hb : b < 4294967296) (hc : c < 4294967296) : bits .xor .u32 (bits .xor .u32 (a : Int) (b : Int)) (c : Int) = ((a ^^^ b ^^^ c : Nat) : Int) := by
  rw [u32_xor_nat a b ha hb, u32_xor_nat _ c (Nat.xor_lt_two_pow (n := 32) ha hb) hc]
theorem sg0_bits {x : Nat} (hx : x < 4294967296) : bits .xor .u32 (bits .xor .u32 (rotr x 7 : Int) (rotr x 18 : Int)) ((x : Int) / 8) = (sg0 x : Int) := by
  rw [show (x : Int) / 8 = ((x / 8 : Nat) : Int) by omega, xor3 (rotr_lt _ _ hx) (rotr_lt _ _ hx) (by omega), sg0, Nat.shiftRight_eq_div_pow]
theorem sg1_bits {x : Nat} (hx : x < 4294967296) : bits .xor .u32 (bits .xor .u32 (rotr x 17 : Int) (rotr x 19 : Int)) ((x : Int) / 1024) = (sg1 x : Int) := by
  rw [show (x : Int) / 1024 = ((x / 1024 : Nat) : Int) by omega, xor3 (rotr_lt _ _ hx) (rotr_lt _ _ hx) (by omega), sg1, Nat.shiftRight_eq_div_pow]
theorem results_cell {P : Program} {fn : Func} {tmps : Array Value} {a : Tmp} {T : TypeId} {g : Nat} {v : Value} {w : World} (hf : fn.results = #[.cell a T]) (ha : tmps[a]?.getD undef = .pointer (some ⟨g, 0, none⟩)) (hl : (loadVar T ⟨g, 0, none⟩).run P w = .ok v w) : (results fn tmps).run P w = .ok v w := by
  simp [results, hf, ha, asAddr, hl]
theorem Kept.setCells {ok : Nat → Prop} {a : World} {b : Nat} (hb : a.heap.size ≤ b ∨ ¬ ok b) : ∀ (vs : List Value) (o : Nat) {w : World}, Kept ok a w → Kept ok a (w.setCells b o vs)
  | [], _, _, h => h
  | v :: vs, o, _w, h => Kept.setCells hb vs (o + 1) (h.setCell (p := ⟨b, o, none⟩) hb v)
theorem setCells_heap {g : Nat} {t : TypeId} {fz : Nat × Nat} : ∀ (vs : List Value) (o : Nat) {w : World} {cur : Array Value}, w.heap[g]? = some (.cells cur t fz) → ∃ c, (w.setCells g o vs).heap[g]? = some (.cells c t fz) ∧ c.size = cur.size
  | [], _, _, cur, h => ⟨cur, h, rfl⟩
  | v :: vs, o, w, cur, h => by
    obtain ⟨c, h1, h2⟩ := setCells_heap vs (o + 1) (setCell_heap (o := o) h v)
    exact ⟨c, h1, by rw [h2, Array.size_setIfInBounds]⟩
/-- A whole row, stored anew. -/
theorem setCells_row {g : Nat} {t : TypeId} {w : World} {cur : Array Value} {vs : List Value} (h : w.heap[g]? = some (.cells cur t (0, 0))) (hl : cur.size = vs.length) : (w.setCells g 0 vs).heap[g]? = some (.cells vs.toArray t (0, 0)) := by
  obtain ⟨c, h1, h2⟩ := setCells_heap vs 0 h
  rw [h1]
  have hr := World.rangeAt_setCells_same w g 0 vs fun j hj => by
    rw [Nat.zero_add, cell_of_row w g j _ _ _ h, frozen_row h]
    simp [hl, hj]
  congr 2
  apply Array.ext_getElem?
  intro j
  by_cases hj : j < vs.length
  · have := hr j vs[j] (List.getElem?_eq_getElem hj)
    rw [Nat.zero_add, cell_of_row _ g j _ _ _ h1] at this
    rw [this]
    simp [hj]
  · rw [Array.getElem?_eq_none (by omega), Array.getElem?_eq_none (by simpa using by omega)]
theorem words_one (k : IntKind) (l : List Nat) : ((l.map fun (x : Nat) => Value.int k (x : Int)).toArray).all (·.oneCell') = true := by
  rw [Array.all_eq_true_iff_forall_mem]
  intro x hx
  obtain ⟨y, _, rfl⟩ := List.mem_map.1 (List.mem_toArray.1 hx)
  rfl
theorem words_range {k : IntKind} {T : TypeId} {n g : Nat} {f : Nat → Nat} {l : List Nat} {w : World} (h : FA k T n g f w) (hl : l.length = n) (hv : ∀ i, i < n → f i = l.getD i 0) : w.rangeAt g 0 (l.map fun (x : Nat) => Value.int k (x : Int)) := by
  intro j v hj
  rw [← words_of hl hv] at hj
  have hjn : j < n := by
    have := (List.getElem?_eq_some_iff.1 hj).1
    simpa using this
  rw [Nat.zero_add, h.at hjn, ← hj]
  simp [hjn]
theorem fa_there {k : IntKind} {T : TypeId} {n g : Nat} {f : Nat → Nat} {w : World} (h : FA k T n g f w) {m : Nat} (hm : m = n) : w.there g 0 m := fun j hj => by
  rw [Nat.zero_add, h.at (by omega), h.fz]
  exact ⟨rfl, rfl⟩
set_option maxRecDepth 100000 in
set_option maxHeartbeats 4000000 in
theorem schedule_any (b : List UInt8) (w : World) (hb : b.length = 64) :
    Calls Tryz.prog 117 #[bytesV b] w fun e w' => e = .returned (wordsV .u32 (sched b)) ∧ Kept (fun _ => True) w w' := by
  go_enter Tryz.func117, Tryz.ntmps117
  go_wp2
  obtain ⟨W3, hW3⟩ : ∃ W3, ((w.alloc (.cells (Lib.byteCells b).toArray 136)).alloc (.cells #[.int .u32 0, .int .u32 0, .int .u32 0, .int .u32 0, .int .u32 0, .int .u32 0, .int .u32 0, .int .u32 0, .int .u32 0, .int .u32 0, .int .u32 0, .int .u32 0, .int .u32 0, .int .u32 0, .int .u32 0, .int .u32 0, .int .u32 0, .int .u32 0, .int .u32 0, .int .u32 0, .int .u32 0, .int .u32 0, .int .u32 0, .int .u32 0, .int .u32 0, .int .u32 0, .int .u32 0, .int .u32 0, .int .u32 0, .int .u32 0, .int .u32 0, .int .u32 0, .int .u32 0, .int .u32 0, .int .u32 0, .int .u32 0, .int .u32 0, .int .u32 0, .int .u32 0, .int .u32 0, .int .u32 0, .int .u32 0, .int .u32 0, .int .u32 0, .int .u32 0, .int .u32 0, .int .u32 0, .int .u32 0, .int .u32 0, .int .u32 0, .int .u32 0, .int .u32 0, .int .u32 0, .int .u32 0, .int .u32 0, .int .u32 0, .int .u32 0, .int .u32 0, .int .u32 0, .int .u32 0, .int .u32 0, .int .u32 0, .int .u32 0, .int .u32 0] 151)).alloc (.cells #[.int .u32 0, .int .u32 0, .int .u32 0, .int .u32 0, .int .u32 0, .int .u32 0, .int .u32 0, .int .u32 0, .int .u32 0, .int .u32 0, .int .u32 0, .int .u32 0, .int .u32 0, .int .u32 0, .int .u32 0, .int .u32 0, .int .u32 0, .int .u32 0, .int .u32 0, .int .u32 0, .int .u32 0, .int .u32 0, .int .u32 0, .int .u32 0, .int .u32 0, .int .u32 0, .int .u32 0, .int .u32 0, .int .u32 0, .int .u32 0, .int .u32 0, .int .u32 0, .int .u32 0, .int .u32 0, .int .u32 0, .int .u32 0, .int .u32 0, .int .u32 0, .int .u32 0, .int .u32 0, .int .u32 0, .int .u32 0, .int .u32 0, .int .u32 0, .int .u32 0, .int .u32 0, .int .u32 0, .int .u32 0, .int .u32 0, .int .u32 0, .int .u32 0, .int .u32 0, .int .u32 0, .int .u32 0, .int .u32 0, .int .u32 0, .int .u32 0, .int .u32 0, .int .u32 0, .int .u32 0, .int .u32 0, .int .u32 0, .int .u32 0, .int .u32 0] 151) = W3 := ⟨_, rfl⟩
  rw [hW3]
  have hz : W3.heap.size = w.heap.size + 3 := by rw [← hW3]; simp
  have hK : Kept (fun _ => True) w W3 := by rw [← hW3]; exact (((Kept.refl _ _).alloc _).alloc _).alloc _
  have hBA : BA 136 w.heap.size b W3 := by
    rw [← hW3]
    exact (((Kept.refl (fun _ => True) _).alloc _).alloc _).block w.heap.size (by simp) trivial |>.trans (heap_alloc_new w _)
  have hF2 : FA .u32 151 64 (w.heap.size + 1) (fun _ => 0) W3 := by
    rw [← hW3]
    have := heap_alloc_new (w.alloc (.cells (Lib.byteCells b).toArray 136)) (.cells #[.int .u32 0, .int .u32 0, .int .u32 0, .int .u32 0, .int .u32 0, .int .u32 0, .int .u32 0, .int .u32 0, .int .u32 0, .int .u32 0, .int .u32 0, .int .u32 0, .int .u32 0, .int .u32 0, .int .u32 0, .int .u32 0, .int .u32 0, .int .u32 0, .int .u32 0, .int .u32 0, .int .u32 0, .int .u32 0, .int .u32 0, .int .u32 0, .int .u32 0, .int .u32 0, .int .u32 0, .int .u32 0, .int .u32 0, .int .u32 0, .int .u32 0, .int .u32 0, .int .u32 0, .int .u32 0, .int .u32 0, .int .u32 0, .int .u32 0, .int .u32 0, .int .u32 0, .int .u32 0, .int .u32 0, .int .u32 0, .int .u32 0, .int .u32 0, .int .u32 0, .int .u32 0, .int .u32 0, .int .u32 0, .int .u32 0, .int .u32 0, .int .u32 0, .int .u32 0, .int .u32 0, .int .u32 0, .int .u32 0, .int .u32 0, .int .u32 0, .int .u32 0, .int .u32 0, .int .u32 0, .int .u32 0, .int .u32 0, .int .u32 0, .int .u32 0] 151)
    rw [show (w.alloc (.cells (Lib.byteCells b).toArray 136)).heap.size = w.heap.size + 1 by simp] at this
    exact ((Kept.refl (fun _ => True) _).alloc _).block (w.heap.size + 1) (by simp) trivial |>.trans this
  have hF3 : FA .u32 151 64 (w.heap.size + 1 + 1) (fun _ => 0) W3 := by
    rw [← hW3]
    have := heap_alloc_new ((w.alloc (.cells (Lib.byteCells b).toArray 136)).alloc (.cells #[.int .u32 0, .int .u32 0, .int .u32 0, .int .u32 0, .int .u32 0, .int .u32 0, .int .u32 0, .int .u32 0, .int .u32 0, .int .u32 0, .int .u32 0, .int .u32 0, .int .u32 0, .int .u32 0, .int .u32 0, .int .u32 0, .int .u32 0, .int .u32 0, .int .u32 0, .int .u32 0, .int .u32 0, .int .u32 0, .int .u32 0, .int .u32 0, .int .u32 0, .int .u32 0, .int .u32 0, .int .u32 0, .int .u32 0, .int .u32 0, .int .u32 0, .int .u32 0, .int .u32 0, .int .u32 0, .int .u32 0, .int .u32 0, .int .u32 0, .int .u32 0, .int .u32 0, .int .u32 0, .int .u32 0, .int .u32 0, .int .u32 0, .int .u32 0, .int .u32 0, .int .u32 0, .int .u32 0, .int .u32 0, .int .u32 0, .int .u32 0, .int .u32 0, .int .u32 0, .int .u32 0, .int .u32 0, .int .u32 0, .int .u32 0, .int .u32 0, .int .u32 0, .int .u32 0, .int .u32 0, .int .u32 0, .int .u32 0, .int .u32 0, .int .u32 0] 151)) (.cells #[.int .u32 0, .int .u32 0, .int .u32 0, .int .u32 0, .int .u32 0, .int .u32 0, .int .u32 0, .int .u32 0, .int .u32 0, .int .u32 0, .int .u32 0, .int .u32 0, .int .u32 0, .int .u32 0, .int .u32 0, .int .u32 0, .int .u32 0, .int .u32 0, .int .u32 0, .int .u32 0, .int .u32 0, .int .u32 0, .int .u32 0, .int .u32 0, .int .u32 0, .int .u32 0, .int .u32 0, .int .u32 0, .int .u32 0, .int .u32 0, .int .u32 0, .int .u32 0, .int .u32 0, .int .u32 0, .int .u32 0, .int .u32 0, .int .u32 0, .int .u32 0, .int .u32 0, .int .u32 0, .int .u32 0, .int .u32 0, .int .u32 0, .int .u32 0, .int .u32 0, .int .u32 0, .int .u32 0, .int .u32 0, .int .u32 0, .int .u32 0, .int .u32 0, .int .u32 0, .int .u32 0, .int .u32 0, .int .u32 0, .int .u32 0, .int .u32 0, .int .u32 0, .int .u32 0, .int .u32 0, .int .u32 0, .int .u32 0, .int .u32 0, .int .u32 0] 151)
    rw [show ((w.alloc (.cells (Lib.byteCells b).toArray 136)).alloc (.cells #[.int .u32 0, .int .u32 0, .int .u32 0, .int .u32 0, .int .u32 0, .int .u32 0, .int .u32 0, .int .u32 0, .int .u32 0, .int .u32 0, .int .u32 0, .int .u32 0, .int .u32 0, .int .u32 0, .int .u32 0, .int .u32 0, .int .u32 0, .int .u32 0, .int .u32 0, .int .u32 0, .int .u32 0, .int .u32 0, .int .u32 0, .int .u32 0, .int .u32 0, .int .u32 0, .int .u32 0, .int .u32 0, .int .u32 0, .int .u32 0, .int .u32 0, .int .u32 0, .int .u32 0, .int .u32 0, .int .u32 0, .int .u32 0, .int .u32 0, .int .u32 0, .int .u32 0, .int .u32 0, .int .u32 0, .int .u32 0, .int .u32 0, .int .u32 0, .int .u32 0, .int .u32 0, .int .u32 0, .int .u32 0, .int .u32 0, .int .u32 0, .int .u32 0, .int .u32 0, .int .u32 0, .int .u32 0, .int .u32 0, .int .u32 0, .int .u32 0, .int .u32 0, .int .u32 0, .int .u32 0, .int .u32 0, .int .u32 0, .int .u32 0, .int .u32 0] 151)).heap.size = w.heap.size + 1 + 1 by simp] at this
    exact this
  clear hW3
  have HK := Lib.hid hK
  have HBA := Lib.hid hBA
  have HF2 := Lib.hid hF2
  have HZ := Lib.hid hz
  obtain ⟨g1, hg1⟩ : ∃ g, w.heap.size = g := ⟨_, rfl⟩
  have HG1 := Lib.hid hg1
  rw [hg1] at HBA HF2 hF3 HZ ⊢
  clear hK hBA hF2 hz hg1
  go_loopg [12] 16 (fun q tv wr => ∃ (t : Nat) (f : Nat → Nat), tv = .int .i64 t ∧ t ≤ 16 ∧ q = 16 - t ∧ Hid (FA .u32 151 64 (g1 + 1 + 1) f wr) ∧ Hid ((∀ i, i < t → f i = word4 b (4 * i)) ∧ ∀ i, t ≤ i → f i = 0) ∧ Hid (Kept (fun k => k ≠ g1 + 1 + 1) W3 wr))
  case atStart => exact ⟨0, _, rfl, by omega, rfl, Lib.hid hF3, Lib.hid ⟨fun i h => absurd h (by omega), fun _ _ => rfl⟩, Lib.hid (Kept.refl _ _)⟩
  case round =>
    clear hF3
    obtain ⟨t, f, rfl, ht, rfl, HF, HV, HKr⟩ := hrel
    by_cases hlt : t < 16
    · have h1 : (t : Int) < 16 := by omega
      have SL := arr_slice 136 5 64 g1 (4 * t) (4 * t + 4) (by kernel_rfl) (by intro W; kernel_rfl) (by omega) (by omega) (by omega) (4 * (t : Int)) (4 * (t : Int) + 4) (by omega) (by omega)
      rw [show 4 * t + 4 - 4 * t = 4 by omega] at SL
      go_wp2
      go_loopg [22] 4 (fun q jv wx => ∃ (j : Nat) (f' : Nat → Nat), jv = .int .i64 j ∧ j ≤ 4 ∧ q = 4 - j ∧ Hid (FA .u32 151 64 (g1 + 1 + 1) f' wx) ∧ f' t = partW b t j ∧ Hid ((∀ i, i < t → f' i = word4 b (4 * i)) ∧ ∀ i, t + 1 ≤ i → f' i = 0) ∧ Hid (Kept (fun k => k ≠ g1 + 1 + 1) W3 wx))
      case atStart => exact ⟨0, f, rfl, by omega, rfl, HF, HV.out.2 t (Nat.le_refl _), Lib.hid ⟨HV.out.1, fun i hi => HV.out.2 i (by omega)⟩, HKr⟩
      case round =>
        clear HF HV HKr SL
        obtain ⟨j, f', rfl, hj, rfl, HF, hft, HV, HKx⟩ := hrel
        by_cases hjlt : j < 4
        · have h2 : (j : Int) < 4 := by omega
          obtain ⟨c, hc⟩ : ∃ c, (b.getD (4 * t + j) 0).toNat = c := ⟨_, rfl⟩
          have hcl : c < 256 := by rw [← hc]; exact (b.getD (4 * t + j) 0).toNat_lt
          have c1 := (HBA.out.kept HKx.out (by omega)).at (i := 4 * t + j) (by omega)
          rw [hc] at c1
          have c2 := HF.out.at (i := t) (by omega)
          have c3 := HF.out.fz t
          rw [hft] at c2
          have hp := partW_lt b t j
          have hpp : partW b t j < 16777216 := Nat.lt_of_lt_of_le hp (by have : (256 : Nat) ^ j ≤ 256 ^ 3 := Nat.pow_le_pow_right (by omega) (by omega); omega)
          have ho := or_byte (x := partW b t j) (c := c) hpp hcl
          have hcm : (c : Int) % 4294967296 = (c : Int) := by omega
          have HN := Lib.hid (show partW b t j * 256 + c = partW b t (j + 1) by rw [partW, hc])
          clear hp hpp hc
          go_wp2
          go_roundg (4 - (j + 1))
          case rel =>
            refine ⟨j + 1, _, by go_num, by omega, rfl, Lib.hid (HF.out.set (partW b t j * 256 + c) _ (by first | rw [ho] | rfl)), by rw [upd_same, HN.out], Lib.hid ⟨fun i hi => by rw [upd_ne _ (by omega)]; exact HV.out.1 i hi, fun i hi => by rw [upd_ne _ (by omega)]; exact HV.out.2 i hi⟩, Lib.hid (HKx.out.setCell (.inr (by simp)) _)⟩
          case measure => omega
        · obtain rfl : j = 4 := by omega
          rw [partW_4] at hft
          have HFT := Lib.hid hft
          clear hft
          rw [show ((4 : Nat) : Int) = 4 from rfl]
          go_wp2
          go_roundg (16 - (t + 1))
          case rel =>
            refine ⟨t + 1, f', by go_num, by omega, rfl, HF, Lib.hid ⟨fun i hi => ?_, HV.out.2⟩, HKx⟩
            by_cases e : i = t
            · rw [e]; exact HFT.out
            · exact HV.out.1 i (by omega)
          case measure => omega
    · obtain rfl : t = 16 := by omega
      rw [show ((16 : Nat) : Int) = 16 from rfl]
      have HV := Lib.hid HV.out.1
      have hF := HF.out
      go_wp2
      go_loopg [7] 48 (fun q tv wx => ∃ (t : Nat) (f : Nat → Nat), tv = .int .i64 t ∧ 16 ≤ t ∧ t ≤ 64 ∧ q = 64 - t ∧ Hid (FA .u32 151 64 (g1 + 1 + 1) f wx) ∧ Hid (∀ i, i < t → f i = (sched b).getD i 0) ∧ Hid (Kept (fun k => k ≠ g1 + 1 + 1) W3 wx))
      case atStart => exact ⟨16, f, rfl, by omega, by omega, rfl, HF, Lib.hid fun i hi => (HV.out i hi).trans (sched_word b hi).symm, HKr⟩
      case round =>
        clear HF HV hF HKr
        obtain ⟨t, f, rfl, ht0, ht, rfl, HF, HV, HKr⟩ := hrel
        by_cases hlt : t < 64
        · obtain ⟨x0, hx0⟩ : ∃ x, (sched b).getD (t - 16) 0 = x := ⟨_, rfl⟩
          obtain ⟨x1, hx1⟩ : ∃ x, (sched b).getD (t - 15) 0 = x := ⟨_, rfl⟩
          obtain ⟨x2, hx2⟩ : ∃ x, (sched b).getD (t - 7) 0 = x := ⟨_, rfl⟩
          obtain ⟨x3, hx3⟩ : ∃ x, (sched b).getD (t - 2) 0 = x := ⟨_, rfl⟩
          have hr := sched_rec b ht0 hlt
          rw [hx0, hx1, hx2, hx3] at hr
          have l0 : x0 < 4294967296 := hx0 ▸ sched_lt b _
          have l1 : x1 < 4294967296 := hx1 ▸ sched_lt b _
          have l2 : x2 < 4294967296 := hx2 ▸ sched_lt b _
          have l3 : x3 < 4294967296 := hx3 ▸ sched_lt b _
          have c0 := HF.out.at (i := t - 16) (by omega)
          have c1 := HF.out.at (i := t - 15) (by omega)
          have c2 := HF.out.at (i := t - 7) (by omega)
          have c3 := HF.out.at (i := t - 2) (by omega)
          have c4 := HF.out.at (i := t) (by omega)
          have c5 := HF.out.fz t
          rw [HV.out _ (by omega), hx0] at c0
          rw [HV.out _ (by omega), hx1] at c1
          rw [HV.out _ (by omega), hx2] at c2
          rw [HV.out _ (by omega), hx3] at c3
          have HR := Lib.hid hr
          have e0 : ((t : Int) - 16) = ((t - 16 : Nat) : Int) := by omega
          have e1 : ((t : Int) - 15) = ((t - 15 : Nat) : Int) := by omega
          have e2 : ((t : Int) - 7) = ((t - 7 : Nat) : Int) := by omega
          have e3 : ((t : Int) - 2) = ((t - 2 : Nat) : Int) := by omega
          have h1 : (t : Int) < 64 := by omega
          have T1 := Lib.hid (fun w => turn_7 x1 w l1)
          have T2 := Lib.hid (fun w => turn_18 x1 w l1)
          have T3 := Lib.hid (fun w => turn_17 x3 w l3)
          have T4 := Lib.hid (fun w => turn_19 x3 w l3)
          clear hr hx0 hx1 hx2 hx3
          go_wp2_with fail
          go_quiet (fail)
          go_wp2_with fail
          refine (T1.out _).mono ?_
          rintro e w' ⟨rfl, rfl⟩
          go_wp2_with fail
          refine (T2.out _).mono ?_
          rintro e w' ⟨rfl, rfl⟩
          go_wp2_with fail
          refine (T3.out _).mono ?_
          rintro e w' ⟨rfl, rfl⟩
          go_wp2_with fail
          refine (T4.out _).mono ?_
          rintro e w' ⟨rfl, rfl⟩
          go_wp2
          go_region
          go_wp2
          go_roundg (64 - (t + 1))
          case rel =>
            refine ⟨t + 1, _, by go_num, by omega, by omega, rfl, Lib.hid (FA.set (w := wr.drewN (nq + 1)) HF.out ((x0 + sg0 x1 + x2 + sg1 x3) % 4294967296) _ (by rw [sg0_bits l1, sg1_bits l3]; go_num)), Lib.hid fun i hi => ?_, Lib.hid ((HKr.out.drewN _).setCell (.inr (by simp)) _)⟩
            by_cases e : i = t
            · rw [e, upd_same, HR.out]
            · rw [upd_ne _ e]; exact HV.out i (by omega)
          case measure => omega
        · obtain rfl : t = 64 := by omega
          rw [show ((64 : Nat) : Int) = 64 from rfl]
          have hF2 := HF2.out.kept HKr.out (by omega)
          have hr := words_range HF.out (sched_len b) HV.out
          have hth := fa_there hF2 (m := ((sched b).map fun (x : Nat) => Value.int .u32 (x : Int)).toArray.size) (by simp [sched_len])
          have hone := words_one .u32 (sched b)
          have hi1 : (Tryz.prog.info? 151).map (·.size) = some ((sched b).map fun (x : Nat) => Value.int .u32 (x : Int)).length := by rw [List.length_map, sched_len]; kernel_rfl
          have hi2 : (Tryz.prog.info? 151).map (·.size) = some ((sched b).map fun (x : Nat) => Value.int .u32 (x : Int)).toArray.size := by rw [List.size_toArray, List.length_map, sched_len]; kernel_rfl
          have hth2 : wr.there (g1 + 1) 0 ((sched b).map fun (x : Nat) => Value.int .u32 (x : Int)).length := by simpa using hth
          go_wp2_with (first | (refine wpList_load_mid rfl 151 _ rfl (g1 + 1 + 1) 0 rfl _ _ hr Tryz.underlying151 rfl hi1 ?_) | (refine wpList_store_mid rfl 151 _ _ rfl (g1 + 1) 0 _ rfl rfl hth hi2 hone ?_; refine Hid.out ?_))
          refine Lib.hid ?_
          go_wp2_with (refine bodyPost_ret (v := wordsV .u32 (sched b)) (results_cell Tryz.results117 rfl (run_loadVar_mid _ _ _ _ _ _ (World.rangeAt_setCells_same _ _ _ _ hth2) Tryz.underlying151 rfl hi1)) rfl ?_)
          have hkA : Kept (fun _ => True) w wr := HK.out.trans HKr.out fun k hk _ e => by have := HG1.out; omega
          exact Kept.setCells (.inl (by have := HG1.out; omega)) _ _ hkA
end Go.Proofs.YtpcgfhleloonfaaGreatDoor
namespace Go.Proofs.YtpcgfhleloonfaaGreatDoor
open Go.RowKit Jo Ac
theorem kTab_len : kTab.length = 64 := by rw [kTab_eq]; rfl
theorem kTab_lt (i : Nat) : kTab.getD i 0 < 4294967296 := by
  by_cases h : i < 64
  · exact (by decide +kernel : ∀ j, j < 64 → kTab.getD j 0 < 4294967296) i h
  · rw [List.getD_eq_getElem?_getD, List.getElem?_eq_none (by rw [kTab_len]; omega)]; decide
theorem range_of {w : World} {g : Nat} {c : List Value} {t : TypeId} {fz : Nat × Nat} (h : w.heap[g]? = some (.cells c.toArray t fz)) : w.rangeAt g 0 c := fun j v hj => by
  rw [Nat.zero_add, cell_of_row w g j _ _ _ h]
  simpa using hj
/-- A row of zeros, just made. -/
theorem fa_new (T : TypeId) (w : World) (k : IntKind) (n : Nat) (c : Array Value) (hc : c = ((List.range n).map fun _ => Value.int k ((0 : Nat) : Int)).toArray) : FA k T n w.heap.size (fun _ => 0) (w.alloc (.cells c T)) := by
  subst hc
  exact heap_alloc_new w _
set_option maxRecDepth 100000 in
set_option maxHeartbeats 4000000 in
theorem rounds_any (w : World) : Calls Tryz.prog 118 #[] w fun e w' => e = .returned (wordsV .u32 kTab) ∧ Kept (fun _ => True) w w' := by
  rw [kTab_eq]
  have hF := fa_new 151 w .u32 64 #[.int .u32 0, .int .u32 0, .int .u32 0, .int .u32 0, .int .u32 0, .int .u32 0, .int .u32 0, .int .u32 0, .int .u32 0, .int .u32 0, .int .u32 0, .int .u32 0, .int .u32 0, .int .u32 0, .int .u32 0, .int .u32 0, .int .u32 0, .int .u32 0, .int .u32 0, .int .u32 0, .int .u32 0, .int .u32 0, .int .u32 0, .int .u32 0, .int .u32 0, .int .u32 0, .int .u32 0, .int .u32 0, .int .u32 0, .int .u32 0, .int .u32 0, .int .u32 0, .int .u32 0, .int .u32 0, .int .u32 0, .int .u32 0, .int .u32 0, .int .u32 0, .int .u32 0, .int .u32 0, .int .u32 0, .int .u32 0, .int .u32 0, .int .u32 0, .int .u32 0, .int .u32 0, .int .u32 0, .int .u32 0, .int .u32 0, .int .u32 0, .int .u32 0, .int .u32 0, .int .u32 0, .int .u32 0, .int .u32 0, .int .u32 0, .int .u32 0, .int .u32 0, .int .u32 0, .int .u32 0, .int .u32 0, .int .u32 0, .int .u32 0, .int .u32 0] rfl
  obtain ⟨W, hW⟩ : ∃ W, w.alloc (.cells #[.int .u32 0, .int .u32 0, .int .u32 0, .int .u32 0, .int .u32 0, .int .u32 0, .int .u32 0, .int .u32 0, .int .u32 0, .int .u32 0, .int .u32 0, .int .u32 0, .int .u32 0, .int .u32 0, .int .u32 0, .int .u32 0, .int .u32 0, .int .u32 0, .int .u32 0, .int .u32 0, .int .u32 0, .int .u32 0, .int .u32 0, .int .u32 0, .int .u32 0, .int .u32 0, .int .u32 0, .int .u32 0, .int .u32 0, .int .u32 0, .int .u32 0, .int .u32 0, .int .u32 0, .int .u32 0, .int .u32 0, .int .u32 0, .int .u32 0, .int .u32 0, .int .u32 0, .int .u32 0, .int .u32 0, .int .u32 0, .int .u32 0, .int .u32 0, .int .u32 0, .int .u32 0, .int .u32 0, .int .u32 0, .int .u32 0, .int .u32 0, .int .u32 0, .int .u32 0, .int .u32 0, .int .u32 0, .int .u32 0, .int .u32 0, .int .u32 0, .int .u32 0, .int .u32 0, .int .u32 0, .int .u32 0, .int .u32 0, .int .u32 0, .int .u32 0] 151) = W := ⟨_, rfl⟩
  rw [hW] at hF
  have hk : Kept (fun _ => True) w W := by rw [← hW]; exact (Kept.refl _ _).alloc _
  have hth := fa_there hF (m := (kTab0.map fun (x : Nat) => Value.int .u32 (x : Int)).toArray.size) rfl
  have hth2 := fa_there hF (m := (kTab0.map fun (x : Nat) => Value.int .u32 (x : Int)).length) rfl
  have hone := words_one .u32 kTab0
  have hi1 : (Tryz.prog.info? 151).map (·.size) = some (kTab0.map fun (x : Nat) => Value.int .u32 (x : Int)).length := by kernel_rfl
  have hi2 : (Tryz.prog.info? 151).map (·.size) = some (kTab0.map fun (x : Nat) => Value.int .u32 (x : Int)).toArray.size := by kernel_rfl
  have HK := Lib.hid hk
  clear hk hF
  go_enter Tryz.func118, Tryz.ntmps118
  go_wp2_with (first | (refine wpList_store_mid rfl 151 _ _ rfl w.heap.size 0 (kTab0.map fun (x : Nat) => Value.int .u32 (x : Int)).toArray rfl rfl hth hi2 hone ?_; refine Hid.out ?_))
  refine Lib.hid ?_
  go_wp2_with (refine bodyPost_ret (v := wordsV .u32 kTab0) (results_cell Tryz.results118 rfl (run_loadVar_mid _ _ _ _ _ _ (World.rangeAt_setCells_same _ _ _ _ hth2) Tryz.underlying151 rfl hi1)) rfl ?_)
  exact Kept.setCells (.inl (Nat.le_refl _)) _ _ HK.out
theorem first_any (w : World) : Calls Tryz.prog 97 #[] w fun e w' => e = .returned (wordsV .u32 h0) ∧ Kept (fun _ => True) w w' := by
  go_enter Tryz.func97, Tryz.ntmps97
  go_wp2
  refine bodyPost_ret (v := wordsV .u32 h0) (results_cell Tryz.results97 rfl (run_loadVar_row _ _ 134 134 _ _ _ (heap_alloc_new _ _) Tryz.underlying134 rfl (by kernel_rfl))) rfl ?_
  exact ⟨rfl, (Kept.refl _ _).alloc _⟩
end Go.Proofs.YtpcgfhleloonfaaGreatDoor
namespace Go.Proofs.YtpcgfhleloonfaaGreatDoor
open Go.RowKit
section
variable {P : Program} {ops : Array Oper} {Q : Exit → Act → World → Prop}
/-- What an operation of a region does, and for which others it waits. -/
def Has (ops : Array Oper) (i : Nat) (d : Option Tmp) (op : Op) (need : List Nat) : Prop := ∃ o, ops[i]? = some o ∧ o.guard = none ∧ o.dst = d ∧ o.op = op ∧ ∀ k ∈ need, ∃ e ∈ o.after, Region.binds .any e = true ∧ e.on = k
theorem Has.need {ops : Array Oper} {i : Nat} {d : Option Tmp} {op : Op} {need : List Nat} (h : Has ops i d op need) {listed : Array Bool} (he : ∀ o, ops[i]? = some o → ∀ e ∈ o.after, Region.binds .any e = true → listed.getD e.on false = true) {k : Nat} (hk : k ∈ need) : listed.getD k false = true := by
  obtain ⟨o, ho, _, _, _, hn⟩ := h
  obtain ⟨e, h1, h2, rfl⟩ := hn k hk
  exact he o ho e h1 h2
theorem count_set {l : List Bool} {i : Nat} (hi : i < l.length) (h : l[i] = false) : (l.set i true).count false + 1 = l.count false := by
  induction l generalizing i with
  | nil => simp at hi
  | cons x r ih =>
    cases i with
    | zero => simp only [List.getElem_cons_zero] at h; subst h; simp
    | succ i =>
      simp only [List.getElem_cons_succ] at h
      have := ih (by simpa using hi) h
      simp only [List.set_cons_succ, List.count_cons]
      omega
theorem wpAny_inv (Inv : Array Bool → Act → World → Prop)
    (step : ∀ (listed : Array Bool) (a : Act) (w : World) (i : Nat), listed.size = ops.size → listed.getD i true = false → (∀ o, ops[i]? = some o → ∀ e ∈ o.after, Region.binds .any e = true → listed.getD e.on false = true) → Inv listed a w →
      wpOp P ops Q i (Inv (listed.setIfInBounds i true)) a w)
    (fin : ∀ (listed : Array Bool) (a : Act) (w : World), listed.size = ops.size → (∀ i, i ∉ Region.ready .any ops listed) → Inv listed a w → Q .normal a w) :
    ∀ (fuel : Nat) (listed : Array Bool) (a : Act) (w : World), listed.size = ops.size → listed.toList.count false ≤ fuel → Inv listed a w → wpAny P .any ops Q fuel listed a w
  | 0, listed, a, w, hs, hc, h => by
    have hr : ∀ i, i ∉ Region.ready .any ops listed := by
      intro i hi
      have h1 := (mem_ready.1 hi).1
      have hm : false ∈ listed.toList := by
        rw [Array.getD_eq_getD_getElem?] at h1
        cases hx : listed[i]? with
        | none => rw [hx] at h1; cases h1
        | some b =>
          rw [hx] at h1
          obtain rfl : b = false := h1
          exact Array.mem_toList_iff.2 (Array.mem_of_getElem? hx)
      have := List.count_pos_iff.2 hm
      omega
    exact ⟨List.eq_nil_iff_forall_not_mem.2 hr, fin _ _ _ hs hr h⟩
  | fuel + 1, listed, a, w, hs, hc, h => by
    refine ⟨fun hr => fin _ _ _ hs (fun i hi => by rw [hr] at hi; cases hi) h, fun i hi => ?_⟩
    obtain ⟨h1, o, ho, he⟩ := mem_ready.1 hi
    refine wpOp_mono (fun a' w' h' => wpAny_inv Inv step fin fuel _ _ _ (by simpa using hs) ?_ h') (step listed a w i hs h1 (fun o' ho' => by rw [ho] at ho'; cases ho'; exact he) h)
    have hil : i < listed.size := by
      apply Nat.lt_of_not_le
      intro hn
      rw [Array.getD_eq_getD_getElem?, Array.getElem?_eq_none hn] at h1
      cases h1
    have hx : listed.toList[i]'(by simpa using hil) = false := by
      rw [Array.getD_eq_getD_getElem?, Array.getElem?_eq_getElem hil] at h1
      simpa using h1
    have := count_set (by simpa using hil) hx
    rw [Array.toList_setIfInBounds]
    omega
variable {i : Nat} {o : Oper} {a : Act} {w : World} {K : Act → World → Prop}
theorem wpOp_plain (hi : ops[i]? = some o) (hg : o.guard = none) (h : o.wp P a w K Q) : wpOp P ops Q i K a w := by
  unfold wpOp
  rw [hi]
  have hwd : Region.wanted o (yielded ops a.tmps) = true := by simp [Region.wanted, hg]
  simp only [hwd, if_true]
  exact .inl h
theorem wpOp_load (hi : ops[i]? = some o) (hg : o.guard = none) {ty : TypeId} {x : Operand} (ho : o.op = .load ty x) {v u : Value} (hx : a.eval x = v) (hr : (Instr.loadAt ty v).run P w = .ok u w) (h : K (a.put o.dst u) w) : wpOp P ops Q i K a w := by
  refine wpOp_plain hi hg ?_
  unfold Oper.wp execOp
  simp only [ho, hx, Sem.run_bind, Sem.run_pure, hr, Result.andThen_ok]
  exact h
theorem wpOp_store (hi : ops[i]? = some o) (hg : o.guard = none) {ty : TypeId} {x y : Operand} (ho : o.op = .store ty x y) {v u : Value} {w' : World} (hx : a.eval x = v) (hy : a.eval y = u) (hr : (Instr.storeAt ty v u).run P w = .ok () w') (h : K (a.put o.dst undef) w') : wpOp P ops Q i K a w := by
  refine wpOp_plain hi hg ?_
  unfold Oper.wp execOp
  simp only [ho, hx, hy, Sem.run_bind, Sem.run_pure, hr, Result.andThen_ok]
  exact h
theorem wpOp_call (hi : ops[i]? = some o) (hg : o.guard = none) {f : FuncId} {args : Array Value} {R : Ending → World → Prop} (hrun : (execOp a.eval o).run P w = .ok (.enter f args) w) (hc : Calls P f args w R)
    (h : ∀ e w', R e w' → ∃ v, e = .returned v ∧ K (a.put o.dst v) w') : wpOp P ops Q i K a w := by
  refine wpOp_plain hi hg ?_
  unfold Oper.wp
  rw [hrun, Oper.upon_enter]
  refine hc.mono fun e w' hr => ?_
  obtain ⟨v, rfl, hk⟩ := h e w' hr
  exact hk
theorem wpOp_call0 (hi : ops[i]? = some o) (hg : o.guard = none) {f : FuncId} {R : Ending → World → Prop} (ho : o.op = .call { callee := .value (.func f), args := #[], argTypes := #[] }) (hcf : ∀ w, (callFunc f #[]).run P w = .ok (.enter f #[]) w) (hc : Calls P f #[] w R)
    (h : ∀ e w', R e w' → ∃ v, e = .returned v ∧ K (a.put o.dst v) w') : wpOp P ops Q i K a w := by
  refine wpOp_call hi hg ?_ hc h
  have hf : a.eval (.func f) = .func (.func f) #[] #[] := rfl
  simp [execOp, ho, resolve, invoke, hf, Deferred.ofValue, hcf]
theorem wpOp_call1 (hi : ops[i]? = some o) (hg : o.guard = none) {f : FuncId} {x : Operand} {t : TypeId} {arg : Value} {R : Ending → World → Prop} (ho : o.op = .call { callee := .value (.func f), args := #[x], argTypes := #[t] }) (hcf : ∀ w, (callFunc f #[arg]).run P w = .ok (.enter f #[arg]) w) (hx : a.eval x = arg) (hc : Calls P f #[arg] w R)
    (h : ∀ e w', R e w' → ∃ v, e = .returned v ∧ K (a.put o.dst v) w') : wpOp P ops Q i K a w := by
  refine wpOp_call hi hg ?_ hc h
  have hf : a.eval (.func f) = .func (.func f) #[] #[] := rfl
  simp [execOp, ho, resolve, invoke, hx, hf, Deferred.ofValue, hcf]
theorem wpOp_move (hi : ops[i]? = some o) (hg : o.guard = none) {x : Operand} (ho : o.op = .move x) {v : Value} (hx : a.eval x = v) (h : K (a.put o.dst v) w) : wpOp P ops Q i K a w := by
  refine wpOp_plain hi hg ?_
  unfold Oper.wp execOp
  simp only [ho, hx, Sem.run_pure]
  exact h
theorem wpOp_nil (hi : ops[i]? = some o) (hg : o.guard = none) {x : Operand} (ho : o.op = .nilCheck x) {p : Addr} (hx : a.eval x = .pointer (some p)) (h : K (a.put o.dst (.pointer (some p))) w) : wpOp P ops Q i K a w := by
  refine wpOp_plain hi hg ?_
  unfold Oper.wp execOp
  simp only [ho, hx, Sem.run_pure]
  exact h
theorem wpOp_fld (hi : ops[i]? = some o) (hg : o.guard = none) {T : TypeId} {x : Operand} {f : Nat} (ho : o.op = .fieldAddr T x f) {p q : Addr} (hx : a.eval x = .pointer (some p)) (hr : (Instr.fieldAt T (.pointer (some p)) f).run P w = .ok (.pointer (some q)) w) (h : K (a.put o.dst (.pointer (some q))) w) : wpOp P ops Q i K a w := by
  refine wpOp_plain hi hg ?_
  unfold Oper.wp execOp
  simp only [ho, hx, Sem.run_bind, Sem.run_pure, hr, Result.andThen_ok]
  exact h
theorem wpOp_call2 (hi : ops[i]? = some o) (hg : o.guard = none) {f : FuncId} {x y : Operand} {t u : TypeId} {arg arg' : Value} {R : Ending → World → Prop} (ho : o.op = .call { callee := .value (.func f), args := #[x, y], argTypes := #[t, u] }) (hcf : ∀ w, (callFunc f #[arg, arg']).run P w = .ok (.enter f #[arg, arg']) w) (hx : a.eval x = arg) (hy : a.eval y = arg') (hc : Calls P f #[arg, arg'] w R)
    (h : ∀ e w', R e w' → ∃ v, e = .returned v ∧ K (a.put o.dst v) w') : wpOp P ops Q i K a w := by
  refine wpOp_call hi hg ?_ hc h
  have hf : a.eval (.func f) = .func (.func f) #[] #[] := rfl
  simp [execOp, ho, resolve, invoke, hx, hy, hf, Deferred.ofValue, hcf]
theorem wpOp_alloc (hi : ops[i]? = some o) (hg : o.guard = none) {ty : TypeId} (ho : o.op = .alloc ty) {c : Array Value} (hz : (Instr.alloc ty true (.tuple #[])).run P w = .ok (.pointer (some ⟨w.heap.size, 0, none⟩)) (w.alloc (.cells c ty))) (h : K (a.put o.dst (.pointer (some ⟨w.heap.size, 0, none⟩))) (w.alloc (.cells c ty))) : wpOp P ops Q i K a w := by
  refine wpOp_plain hi hg ?_
  unfold Oper.wp execOp
  simp only [ho, Sem.run_bind, Sem.run_pure, hz, Result.andThen_ok]
  exact h
end
theorem wpList_allocZ {P : Program} {ops : Array Oper} {rest : List Oper} {op : Oper} {a : Act} {Q : Exit → Act → World → Prop} {w : World} (hgd : op.guard = none) (ty : TypeId) (ho : op.op = .alloc ty) (c : Array Value)
    (hz : (Instr.alloc ty true (.tuple #[])).run P w = .ok (.pointer (some ⟨w.heap.size, 0, none⟩)) (w.alloc (.cells c ty))) (h : wpList P ops Q rest (a.put op.dst (.pointer (some ⟨w.heap.size, 0, none⟩))) (w.alloc (.cells c ty))) : wpList P ops Q (op :: rest) a w := by
  refine wpList_plain hgd fun K hK => ?_
  unfold Oper.wp execOp
  simp only [ho, Sem.run_bind, Sem.run_pure, hz, Result.andThen_ok]
  exact hK _ _ h
end Go.Proofs.YtpcgfhleloonfaaGreatDoor
namespace Go.Proofs.YtpcgfhleloonfaaGreatDoor
open Go.RowKit Jo Ac
abbrev cellsU (l : List Nat) : List Value := l.map fun (x : Nat) => Value.int .u32 (x : Int)
def frB (s : List Nat) (b : List UInt8) (g : Nat) (v5 v6 v7 v15 v16 v17 v18 : Value) : Act := ⟨#[wordsV .u32 s, bytesV b, .pointer (some ⟨g, 0, none⟩), .pointer (some ⟨g + 1, 0, none⟩), .pointer (some ⟨g + 2, 0, none⟩), v5, v6, v7, undef, undef, undef, undef, undef, undef, undef, v15, v16, v17, v18, undef, undef, undef, undef, undef, undef, undef, undef, undef, undef, undef, undef, undef, undef, undef, undef, undef, undef, undef, undef, undef, undef, undef, undef, undef, undef, undef, undef, undef, undef, undef, undef, undef, undef, undef, undef, undef, undef, undef, undef, undef, undef, undef, undef, undef, undef, undef, undef, undef, undef, undef, undef, undef, undef, undef, undef, undef, undef, undef, undef, undef, undef, undef, undef, undef, undef, undef, undef, undef, undef, undef, undef, undef, undef, undef, undef, undef, undef, undef, undef, undef, undef, undef, undef, undef, undef, undef, undef, undef, undef, undef, undef, undef, undef, undef, undef, undef, undef, undef, undef, undef, undef, undef, undef], []⟩
def zer (n : Nat) : Array Value := ((List.range n).map fun _ => Value.int .u32 0).toArray
def RowAt (T : TypeId) (n : Nat) (l st : Bool) (v : Value) (lo : Nat) (vals : List Nat) (w : World) : Prop :=
  l = true → ∃ (k : Nat) (c : Array Value), v = .pointer (some ⟨k, 0, none⟩) ∧ lo ≤ k ∧ w.heap[k]? = some (.cells c T (0, 0)) ∧ c.size = n ∧ (st = true → c = (cellsU vals).toArray)
theorem RowAt.kept {T : TypeId} {n : Nat} {l st : Bool} {v : Value} {lo : Nat} {vals : List Nat} {w w' : World} {ok : Nat → Prop} (h : RowAt T n l st v lo vals w) (hk : Kept ok w w') (ho : ∀ k, v = .pointer (some ⟨k, 0, none⟩) → ok k) : RowAt T n l st v lo vals w' := fun e => by
  obtain ⟨k, c, h1, h2, h3, h4, h5⟩ := h e
  exact ⟨k, c, h1, h2, (hk.block k (Array.getElem?_eq_some_iff.1 h3).1 (ho k h1)).trans h3, h4, h5⟩
theorem RowAt.all {T : TypeId} {n : Nat} {l st : Bool} {v : Value} {lo : Nat} {vals : List Nat} {w w' : World} (h : RowAt T n l st v lo vals w) (hk : Kept (fun _ => True) w w') : RowAt T n l st v lo vals w' := h.kept hk fun _ _ => trivial
def Dif (l m : Bool) (v u : Value) : Prop := l = true → m = true → v ≠ u
theorem Dif.new {T : TypeId} {n : Nat} {l st m : Bool} {u : Value} {lo : Nat} {vals : List Nat} {w : World} (h : RowAt T n l st u lo vals w) : Dif m l (.pointer (some ⟨w.heap.size, 0, none⟩)) u := fun _ e k => by
  obtain ⟨b, c, rfl, h2, h3, h4, h5⟩ := h e
  have := (Array.getElem?_eq_some_iff.1 h3).1
  injection k with k
  injection k with k
  injection k with k
  omega
theorem Dif.symm {l m : Bool} {v u : Value} (h : Dif l m v u) : Dif m l u v := fun a b e => h b a e.symm
theorem setCells_kept (w : World) (k : Nat) (vs : List Value) : Kept (fun b => b ≠ k) w (w.setCells k 0 vs) := Kept.setCells (.inr (by simp)) vs 0 (Kept.refl _ w)
theorem RowAt.new {T : TypeId} {n : Nat} {lo : Nat} {vals : List Nat} {w : World} {c : Array Value} (hc : c.size = n) (hl : lo ≤ w.heap.size) : RowAt T n true false (.pointer (some ⟨w.heap.size, 0, none⟩)) lo vals (w.alloc (.cells c T)) := fun _ => ⟨w.heap.size, c, rfl, hl, heap_alloc_new w _, hc, fun e => by cases e⟩
theorem RowAt.store {T : TypeId} {n : Nat} {l st : Bool} {v : Value} {lo : Nat} {vals : List Nat} {w : World} (h : RowAt T n l st v lo vals w) (hl : l = true) (hn : vals.length = n) (hi : (Tryz.prog.info? T).map (·.size) = some n) :
    ∃ k, v = .pointer (some ⟨k, 0, none⟩) ∧ lo ≤ k ∧ (Instr.storeAt T v (wordsV .u32 vals)).run Tryz.prog w = .ok () (w.setCells k 0 (cellsU vals)) ∧ RowAt T n l true v lo vals (w.setCells k 0 (cellsU vals)) := by
  obtain ⟨k, c, rfl, h2, h3, h4, h5⟩ := h hl
  have hcl : (cellsU vals).length = n := by rw [List.length_map, hn]
  have hth : w.there k 0 (cellsU vals).toArray.size := fun j hj => by
    rw [Nat.zero_add, cell_of_row w k j _ _ _ h3, frozen_row h3]
    have : j < c.size := by simp at hj; omega
    simp [this]
  refine ⟨k, rfl, h2, run_storeAt_mid w k 0 T (cellsU vals).toArray hth (by rw [List.size_toArray, hcl]; exact hi) (words_one .u32 vals), fun _ => ⟨k, _, rfl, h2, setCells_row h3 (by rw [hcl, h4]), by simpa using hcl, fun _ => rfl⟩⟩
theorem zero_alloc (T : TypeId) (z : Value) (c : Array Value) (hz : ∀ w, (zeroValue T).run Tryz.prog w = .ok z w) (hc : z.cells = c) (w : World) : (Instr.alloc T true (.tuple #[])).run Tryz.prog w = .ok (.pointer (some ⟨w.heap.size, 0, none⟩)) (w.alloc (.cells c T)) := by
  subst hc
  simp [Instr.alloc, hz, Sem.run_bind, newVar, go_sem]
/-- What holds of the region's frame and world, behind those operations that have come up. -/
def InvB (s : List Nat) (b : List UInt8) (g : Nat) (W3 : World) (listed : Array Bool) (a : Act) (w : World) : Prop :=
  ∃ (l0 l1 l2 l3 l4 l5 l6 l7 l8 l9 : Bool) (v5 v6 v7 v15 v16 v17 v18 : Value), listed = #[l0, l1, l2, l3, l4, l5, l6, l7, l8, l9] ∧ a = frB s b g v5 v6 v7 v15 v16 v17 v18 ∧ Kept (fun _ => True) W3 w ∧
    (l0 = true → v15 = bytesV b) ∧ (l1 = true → v16 = wordsV .u32 (sched b)) ∧ (l2 = true → v17 = wordsV .u32 kTab) ∧ (l3 = true → v18 = wordsV .u32 s) ∧
    RowAt 151 64 l4 l7 v5 (g + 3) (sched b) w ∧ RowAt 151 64 l5 l8 v6 (g + 3) kTab w ∧ RowAt 134 8 l6 l9 v7 (g + 3) s w ∧
    Dif l4 l5 v5 v6 ∧ Dif l4 l6 v5 v7 ∧ Dif l5 l6 v6 v7 ∧ (l7 = true → l4 = true) ∧ (l8 = true → l5 = true) ∧ (l9 = true → l6 = true)
end Go.Proofs.YtpcgfhleloonfaaGreatDoor
