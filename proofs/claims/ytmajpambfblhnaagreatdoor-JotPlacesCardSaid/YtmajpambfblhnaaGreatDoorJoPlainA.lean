/- Layer 4 in plain Lean: values, the reader of a text, how far its steps go, the order of names. No program in sight. -/
import Derived.WalkKit
import Derived.Lib.Hide
import Derived.Lib.Bytealg
import Derived.Lib.RuneBytes
namespace Go.Proofs.YtmajpambfblhnaaGreatDoor
namespace Jo

/-- A value: kind, number, text, names, items. -/
inductive J where
  | mk (kind num : Int) (text : List UInt8) (names : List (List UInt8)) (items : List J)

theorem J.ind {P : J → Prop} (h : ∀ k n t ns xs, (∀ x ∈ xs, P x) → P (.mk k n t ns xs)) : ∀ j, P j
  | .mk k n t ns xs => h k n t ns xs (go xs)
where go : ∀ (xs : List J), ∀ x ∈ xs, P x
  | [], x, hx => by cases hx
  | y :: ys, x, hx => by
    rcases List.mem_cons.1 hx with e | e
    · rw [e]; exact J.ind h y
    · exact go ys x e

abbrev J.kind : J → Int | .mk k _ _ _ _ => k
abbrev J.num : J → Int | .mk _ n _ _ _ => n
abbrev J.text : J → List UInt8 | .mk _ _ t _ _ => t
abbrev J.names : J → List (List UInt8) | .mk _ _ _ ns _ => ns
abbrev J.items : J → List J | .mk _ _ _ _ xs => xs

def J.null : J := .mk 0 0 [] [] []
def J.fls : J := .mk 1 0 [] [] []
def J.tru : J := .mk 2 0 [] [] []
def J.nr (n : Int) : J := .mk 3 n [] [] []
def J.tx (l : List UInt8) : J := .mk 4 0 l [] []
def J.list (xs : List J) : J := .mk 5 0 [] [] xs
def J.obj (ms : List (List UInt8 × J)) : J := .mk 6 0 [] (ms.map (·.1)) (ms.map (·.2))

/-- What a step of the reader gives: something and the place behind it, or what is wrong and where. -/
inductive PR (α : Type) where
  | ok (a : α) (i : Nat)
  | bad (e : Int) (i : Nat)
def PR.bind {α β : Type} (x : PR α) (f : α → Nat → PR β) : PR β := match x with | .ok a i => f a i | .bad e i => .bad e i
@[simp] theorem PR.bind_ok {α β : Type} (a : α) (i : Nat) (f : α → Nat → PR β) : (PR.ok a i).bind f = f a i := rfl
@[simp] theorem PR.bind_bad {α β : Type} (e : Int) (i : Nat) (f : α → Nat → PR β) : (PR.bad e i : PR α).bind f = .bad e i := rfl

def isBl (c : UInt8) : Bool := c == 32 || c == 9 || c == 10 || c == 13
/-- The place behind the blanks that stand at a place. -/
def bl (s : List UInt8) (i : Nat) : Nat := i + ((s.drop i).takeWhile isBl).length

def wantP (s : List UInt8) (c : UInt8) (i : Nat) : PR Unit := if s[i]? = some c then .ok () (i + 1) else .bad 40 i
def wordP (s : List UInt8) : List UInt8 → Nat → PR Unit
  | [], i => .ok () i
  | c :: w, i => if s[i]? = some c then wordP s w (i + 1) else .bad 40 i

/-- What a hexadecimal digit says; -1: it is none. -/
def hexZ (c : UInt8) : Int := if 48 ≤ c ∧ c ≤ 57 then (c.toNat : Int) - 48 else if 97 ≤ c ∧ c ≤ 102 then (c.toNat : Int) - 97 + 10 else if 65 ≤ c ∧ c ≤ 70 then (c.toNat : Int) - 65 + 10 else -1
def hexP (s : List UInt8) (lo hi : Int) (i : Nat) : PR Int :=
  match s[i]? with
  | none => .bad 40 i
  | some c => if hexZ c < lo ∨ hi < hexZ c then .bad 40 i else .ok (hexZ c) (i + 1)
/-- Four digits behind \u, and the lower half behind an upper one: the number of a letter. -/
def pointP (s : List UInt8) (i : Nat) : PR Int :=
  (hexP s 0 15 i).bind fun a i => (hexP s 0 (if a = 13 then 11 else 15) i).bind fun b i => (hexP s 0 15 i).bind fun c i => (hexP s 0 15 i).bind fun d i =>
    if ((a * 16 + b) * 16 + c) * 16 + d < 55296 ∨ 56319 < ((a * 16 + b) * 16 + c) * 16 + d then .ok (((a * 16 + b) * 16 + c) * 16 + d) i
    else (wordP s [92, 117] i).bind fun _ i => (hexP s 13 13 i).bind fun e i => (hexP s 12 15 i).bind fun f i => (hexP s 0 15 i).bind fun g i => (hexP s 0 15 i).bind fun h i =>
      .ok (65536 + (((((a * 16 + b) * 16 + c) * 16 + d) - 55296) * 1024 + ((((e * 16 + f) * 16 + g) * 16 + h) - 56320))) i

/-- Of a first byte: between which two the second one is, how many followP. -/
def behindP (c : UInt8) : UInt8 × UInt8 × Nat :=
  (if c = 224 then 160 else if c = 240 then 144 else 128, if c = 237 then 159 else if c = 244 then 143 else 191,
    if 194 ≤ c ∧ c ≤ 223 then 1 else if 224 ≤ c ∧ c ≤ 239 then 2 else if 240 ≤ c ∧ c ≤ 244 then 3 else 0)
def followP (s : List UInt8) : Nat → UInt8 → UInt8 → Nat → PR Unit
  | 0, _, _, i => .ok () i
  | m + 1, lo, hi, i => match s[i]? with
    | none => .bad 40 i
    | some x => if x < lo ∨ hi < x then .bad 40 i else followP s m 128 191 (i + 1)
/-- A letter of UTF-8. -/
def letterP (s : List UInt8) (i : Nat) : PR Unit :=
  match s[i]? with
  | none => .bad 40 i
  | some c => if c < 128 then .ok () (i + 1) else if (behindP c).2.2 = 0 then .bad 40 i else followP s (behindP c).2.2 (behindP c).1 (behindP c).2.1 (i + 1)

/-- What stands behind a backslash. -/
def escP (s : List UInt8) (i : Nat) : PR (List UInt8) :=
  match s[i]? with
  | none => .bad 40 i
  | some c =>
    if c = 34 ∨ c = 92 ∨ c = 47 then .ok [c] (i + 1)
    else if c = 98 then .ok [8] (i + 1)
    else if c = 102 then .ok [12] (i + 1)
    else if c = 110 then .ok [10] (i + 1)
    else if c = 114 then .ok [13] (i + 1)
    else if c = 116 then .ok [9] (i + 1)
    else if c = 117 then (pointP s (i + 1)).bind fun n i => .ok (Lib.encodeRune n) i
    else .bad 40 i

/-- Behind the opening quote: up to the closing one. -/
def textL (s : List UInt8) (seen : List (List UInt8)) : Nat → List UInt8 → Nat → PR (List UInt8)
  | 0, _, i => .bad 0 i
  | f + 1, acc, i => match s[i]? with
    | none => .bad 40 i
    | some c =>
      if c = 34 then (if acc ∈ seen then .bad 42 i else .ok acc (i + 1))
      else if c = 92 then (escP s (i + 1)).bind fun x j => textL s seen f (acc ++ x) j
      else if c < 32 then .bad 40 i
      else (letterP s i).bind fun _ j => textL s seen f (acc ++ (s.drop i).take (j - i)) j
def textP (s : List UInt8) (seen : List (List UInt8)) (i : Nat) : PR (List UInt8) := (wantP s 34 i).bind fun _ i => textL s seen (s.length + 1) [] i

def isDig (c : UInt8) : Bool := 48 ≤ c && c ≤ 57
def digP (n : Int) : List UInt8 → Nat → PR Int
  | [], i => .ok n i
  | c :: r, i => if isDig c then (if 10 * n + ((c.toNat : Int) - 48) > 9007199254740991 then .bad 43 i else digP (10 * n + ((c.toNat : Int) - 48)) r (i + 1)) else .ok n i
def numQ (s : List UInt8) (sg : Int) (i : Nat) : PR Int :=
  match s[i]? with
  | none => .bad 40 i
  | some c => if isDig c = false then .bad 40 i else if c = 48 then .ok 0 (i + 1) else (digP 0 (s.drop i) i).bind fun n j => .ok (sg * n) j
def numP (s : List UInt8) (i : Nat) : PR Int := if s[i]? = some 45 then numQ s (-1) (i + 1) else numQ s 1 i

def listL (s : List UInt8) (val : Nat → PR J) : Nat → List J → Nat → PR (List J)
  | 0, _, i => .bad 0 i
  | f + 1, acc, i => (val i).bind fun x i => match s[bl s i]? with
    | none => .bad 40 (bl s i)
    | some c => if c = 44 then listL s val f (acc ++ [x]) (bl s i + 1) else if c = 93 then .ok (acc ++ [x]) (bl s i + 1) else .bad 40 (bl s i)
/-- A list, from its bracket on. -/
def listP (s : List UInt8) (val : Nat → PR J) (i : Nat) : PR (List J) :=
  match s[bl s (i + 1)]? with
  | none => .bad 40 (bl s (i + 1))
  | some c => if c = 93 then .ok [] (bl s (i + 1) + 1) else listL s val (s.length + 1) [] (bl s (i + 1))

def objL (s : List UInt8) (val : Nat → PR J) : Nat → List (List UInt8 × J) → Nat → PR (List (List UInt8 × J))
  | 0, _, i => .bad 0 i
  | f + 1, acc, i => (textP s (acc.map (·.1)) (bl s i)).bind fun n i => (wantP s 58 (bl s i)).bind fun _ i => (val i).bind fun x i => match s[bl s i]? with
    | none => .bad 40 (bl s i)
    | some c => if c = 44 then objL s val f (acc ++ [(n, x)]) (bl s i + 1) else if c = 125 then .ok (acc ++ [(n, x)]) (bl s i + 1) else .bad 40 (bl s i)
/-- An object, from its bracket on: its members as they stand. -/
def objP (s : List UInt8) (val : Nat → PR J) (i : Nat) : PR (List (List UInt8 × J)) :=
  match s[bl s (i + 1)]? with
  | none => .bad 40 (bl s (i + 1))
  | some c => if c = 125 then .ok [] (bl s (i + 1) + 1) else objL s val (s.length + 1) [] (bl s (i + 1))

def ltB (a b : List UInt8) : Bool := decide (Lib.compareBytes a b < 0)
/-- A member in its place among the others. -/
def insM (m : List UInt8 × J) : List (List UInt8 × J) → List (List UInt8 × J)
  | [] => [m]
  | x :: r => if ltB x.1 m.1 then x :: insM m r else m :: x :: r
def sortM : List (List UInt8 × J) → List (List UInt8 × J) := List.foldl (fun l m => insM m l) []

/-- A value, from its first byte on. -/
def valQ (s : List UInt8) (list : Nat → PR (List J)) (obj : Nat → PR (List (List UInt8 × J))) (i : Nat) : PR J :=
  match s[i]? with
  | none => .bad 40 i
  | some c =>
    if c = 110 then (wordP s [110, 117, 108, 108] i).bind fun _ i => .ok J.null i
    else if c = 102 then (wordP s [102, 97, 108, 115, 101] i).bind fun _ i => .ok J.fls i
    else if c = 116 then (wordP s [116, 114, 117, 101] i).bind fun _ i => .ok J.tru i
    else if c = 34 then (textP s [] i).bind fun t i => .ok (J.tx t) i
    else if c = 91 then (list i).bind fun xs i => .ok (J.list xs) i
    else if c = 123 then (obj i).bind fun ms i => .ok (J.obj (sortM ms)) i
    else (numP s i).bind fun n i => .ok (J.nr n) i
/-- Blanks and a value, where k lists and objects more may be opened. -/
def valP (s : List UInt8) : Nat → Nat → PR J
  | 0, i => valQ s (fun i => .bad 41 i) (fun i => .bad 41 i) (bl s i)
  | k + 1, i => valQ s (listP s (valP s k)) (objP s (valP s k)) (bl s i)

def readP (s : List UInt8) : J × Int × Nat :=
  match valP s 16 0 with
  | .bad e i => (J.null, e, i)
  | .ok x i => if bl s i < s.length then (J.null, 40, bl s i) else (x, 0, 0)
def parseP (s : List UInt8) : J × Int × Nat := if s.length > 4000 then (J.null, 44, 4000) else readP s

-- the reader's places
theorem bl_le (s : List UInt8) (i : Nat) : i ≤ bl s i := by unfold bl; omega
theorem bl_max (s : List UInt8) (i : Nat) (h : i ≤ s.length) : bl s i ≤ s.length := by
  unfold bl
  have h1 : ((s.drop i).takeWhile isBl).length ≤ (s.drop i).length := (List.takeWhile_sublist _).length_le
  rw [List.length_drop] at h1
  omega
theorem bl_yes (s : List UInt8) (i : Nat) (c : UInt8) (h : s[i]? = some c) (hc : isBl c = true) : bl s i = bl s (i + 1) := by
  obtain ⟨hi, rfl⟩ := List.getElem?_eq_some_iff.1 h
  unfold bl
  rw [List.drop_eq_getElem_cons hi, List.takeWhile_cons, if_pos hc]
  simp only [List.length_cons]
  omega
theorem bl_no (s : List UInt8) (i : Nat) (c : UInt8) (h : s[i]? = some c) (hc : isBl c = false) : bl s i = i := by
  obtain ⟨hi, rfl⟩ := List.getElem?_eq_some_iff.1 h
  unfold bl
  rw [List.drop_eq_getElem_cons hi, List.takeWhile_cons, if_neg (by simp [hc])]
  rfl
theorem bl_end (s : List UInt8) (i : Nat) (h : s.length ≤ i) : bl s i = i := by
  unfold bl
  rw [List.drop_eq_nil_of_le h]
  rfl
theorem bl_at (s : List UInt8) (i : Nat) (c : UInt8) (h : s[bl s i]? = some c) : isBl c = false := by
  cases hc : isBl c with
  | false => rfl
  | true =>
    exfalso
    have h1 := bl_yes s (bl s i) c h hc
    have h2 := bl_le s (bl s i + 1)
    have key : ∀ n i, s.length - i = n → bl s (bl s i) = bl s i := by
      intro n
      induction n with
      | zero => intro i hn; rw [bl_end s i (by omega), bl_end s i (by omega)]
      | succ n ih =>
        intro i hn
        have hi : i < s.length := by omega
        have hg : s[i]? = some (s[i]'hi) := List.getElem?_eq_getElem hi
        cases hb : isBl (s[i]'hi) with
        | false => rw [bl_no s i _ hg hb, bl_no s i _ hg hb]
        | true => rw [bl_yes s i _ hg hb]; exact ih (i + 1) (by omega)
    have h3 := key _ i rfl
    omega
end Jo
end Go.Proofs.YtmajpambfblhnaaGreatDoor

namespace Go.Proofs.YtmajpambfblhnaaGreatDoor
namespace Jo

theorem PR.bind_eq_ok {α β : Type} {x : PR α} {f : α → Nat → PR β} {b : β} {j : Nat} (h : x.bind f = .ok b j) : ∃ a i, x = .ok a i ∧ f a i = .ok b j := by
  cases x with
  | ok a i => exact ⟨a, i, rfl, h⟩
  | bad e i => cases h
theorem wantP_ok {s : List UInt8} {c : UInt8} {i : Nat} {u : Unit} {j : Nat} (h : wantP s c i = .ok u j) : s[i]? = some c ∧ j = i + 1 := by
  unfold wantP at h
  split at h
  · rename_i hc; cases h; exact ⟨hc, rfl⟩
  · cases h
theorem wordP_ok {s : List UInt8} : ∀ {w : List UInt8} {i : Nat} {u : Unit} {j : Nat}, wordP s w i = .ok u j → j = i + w.length := by
  intro w
  induction w with
  | nil => intro i u j h; cases h; rfl
  | cons c w ih =>
    intro i u j h
    unfold wordP at h
    split at h
    · have := ih h
      rw [this, List.length_cons]; omega
    · cases h
theorem hexP_ok {s : List UInt8} {lo hi : Int} {i : Nat} {n : Int} {j : Nat} (h : hexP s lo hi i = .ok n j) : j = i + 1 ∧ lo ≤ n ∧ n ≤ hi ∧ ∃ c, s[i]? = some c ∧ n = hexZ c := by
  unfold hexP at h
  split at h
  · cases h
  · rename_i c hc
    split at h
    · cases h
    · cases h; exact ⟨rfl, by omega, by omega, c, hc, rfl⟩
theorem pointP_ok {s : List UInt8} {i : Nat} {n : Int} {j : Nat} (h : pointP s i = .ok n j) : j = i + 4 ∨ j = i + 10 := by
  unfold pointP at h
  obtain ⟨a, ia, ha, h⟩ := PR.bind_eq_ok h
  obtain ⟨b, ib, hb, h⟩ := PR.bind_eq_ok h
  obtain ⟨c, ic, hc, h⟩ := PR.bind_eq_ok h
  obtain ⟨d, id, hd, h⟩ := PR.bind_eq_ok h
  have e1 := (hexP_ok ha).1
  have e2 := (hexP_ok hb).1
  have e3 := (hexP_ok hc).1
  have e4 := (hexP_ok hd).1
  split at h
  · cases h; omega
  · obtain ⟨_, iw, hw, h⟩ := PR.bind_eq_ok h
    obtain ⟨e, ie, he, h⟩ := PR.bind_eq_ok h
    obtain ⟨f, jf, hf, h⟩ := PR.bind_eq_ok h
    obtain ⟨g, ig, hg, h⟩ := PR.bind_eq_ok h
    obtain ⟨p, ip, hp, h⟩ := PR.bind_eq_ok h
    have e5 := wordP_ok hw
    have e6 := (hexP_ok he).1
    have e7 := (hexP_ok hf).1
    have e8 := (hexP_ok hg).1
    have e9 := (hexP_ok hp).1
    cases h
    simp at e5
    omega
theorem followP_ok {s : List UInt8} : ∀ {m : Nat} {lo hi : UInt8} {i : Nat} {u : Unit} {j : Nat}, followP s m lo hi i = .ok u j → j = i + m ∧ (0 < m → j ≤ s.length) := by
  intro m
  induction m with
  | zero => intro lo hi i u j h; cases h; exact ⟨rfl, fun h => absurd h (by omega)⟩
  | succ m ih =>
    intro lo hi i u j h
    unfold followP at h
    split at h
    · cases h
    · rename_i x hx
      split at h
      · cases h
      · obtain ⟨e1, e2⟩ := ih h
        have hl : i < s.length := (List.getElem?_eq_some_iff.1 hx).1
        refine ⟨by omega, fun _ => ?_⟩
        by_cases hm : 0 < m
        · exact e2 hm
        · omega
theorem behindP_le (c : UInt8) : (behindP c).2.2 ≤ 3 := by
  unfold behindP; simp only; split
  · omega
  · split
    · omega
    · split <;> omega
theorem letterP_ok {s : List UInt8} {i : Nat} {u : Unit} {j : Nat} (h : letterP s i = .ok u j) : i < j ∧ j ≤ i + 4 ∧ j ≤ s.length := by
  unfold letterP at h
  split at h
  · cases h
  · rename_i c hc
    have hl : i < s.length := (List.getElem?_eq_some_iff.1 hc).1
    split at h
    · cases h; omega
    · split at h
      · cases h
      · obtain ⟨e1, e2⟩ := followP_ok h
        have := behindP_le c
        omega
theorem encodeRune_len (n : Int) : (Lib.encodeRune n).length ≤ 4 := by
  unfold Lib.encodeRune Lib.encodeRuneZ
  split
  · simp
  · split
    · simp
    · split
      · simp
      · split <;> simp
theorem escP_ok {s : List UInt8} {i : Nat} {x : List UInt8} {j : Nat} (h : escP s i = .ok x j) : i < j ∧ x.length ≤ 4 := by
  unfold escP at h
  split at h
  · cases h
  · rename_i c hc
    repeat (split at h; (cases h; exact ⟨by omega, by simp⟩))
    split at h
    · obtain ⟨n, k, hk, h⟩ := PR.bind_eq_ok h
      cases h
      have := pointP_ok hk
      exact ⟨by omega, encodeRune_len n⟩
    · cases h
theorem textL_le {s : List UInt8} {seen : List (List UInt8)} : ∀ {f : Nat} {acc : List UInt8} {i : Nat} {l : List UInt8} {j : Nat}, textL s seen f acc i = .ok l j → i < j ∧ l ∉ seen ∧ l.length ≤ acc.length + 4 * (j - i) := by
  intro f
  induction f with
  | zero => intro acc i l j h; cases h
  | succ f ih =>
    intro acc i l j h
    unfold textL at h
    split at h
    · cases h
    · split at h
      · split at h
        · cases h
        · rename_i hm; cases h; exact ⟨by omega, hm, by omega⟩
      · split at h
        · obtain ⟨x, k, hk, h⟩ := PR.bind_eq_ok h
          have e1 := escP_ok hk
          have e2 := ih h
          rw [List.length_append] at e2
          exact ⟨by omega, e2.2.1, by omega⟩
        · split at h
          · cases h
          · obtain ⟨x, k, hk, h⟩ := PR.bind_eq_ok h
            have e1 := letterP_ok hk
            have e2 := ih h
            rw [List.length_append, List.length_take, List.length_drop] at e2
            exact ⟨by omega, e2.2.1, by omega⟩
theorem textP_le {s : List UInt8} {seen : List (List UInt8)} {i : Nat} {l : List UInt8} {j : Nat} (h : textP s seen i = .ok l j) : i < j ∧ l ∉ seen ∧ l.length ≤ 4 * (j - i) := by
  unfold textP at h
  obtain ⟨u, k, hk, h⟩ := PR.bind_eq_ok h
  have e1 := (wantP_ok hk).2
  have e2 := textL_le h
  simp only [List.length_nil] at e2
  exact ⟨by omega, e2.2.1, by omega⟩
theorem digP_le : ∀ {l : List UInt8} {n : Int} {i : Nat} {m : Int} {j : Nat}, digP n l i = .ok m j → i ≤ j := by
  intro l
  induction l with
  | nil => intro n i m j h; cases h; exact Nat.le_refl _
  | cons c r ih =>
    intro n i m j h
    unfold digP at h
    split at h
    · split at h
      · cases h
      · have := ih h; omega
    · cases h; exact Nat.le_refl _
theorem numQ_le {s : List UInt8} {z : Int} {i : Nat} {m : Int} {j : Nat} (h : numQ s z i = .ok m j) : i ≤ j := by
  unfold numQ at h
  split at h
  · cases h
  · split at h
    · cases h
    · split at h
      · cases h; omega
      · obtain ⟨n, k, hk, h⟩ := PR.bind_eq_ok h
        cases h
        exact digP_le hk
theorem numP_le {s : List UInt8} {i : Nat} {m : Int} {j : Nat} (h : numP s i = .ok m j) : i ≤ j := by
  unfold numP at h
  split at h
  · have := numQ_le h; omega
  · exact numQ_le h
theorem listL_le {s : List UInt8} {val : Nat → PR J} (hv : ∀ i x j, val i = .ok x j → i ≤ j) : ∀ {f : Nat} {acc : List J} {i : Nat} {xs : List J} {j : Nat}, listL s val f acc i = .ok xs j → i ≤ j := by
  intro f
  induction f with
  | zero => intro acc i xs j h; cases h
  | succ f ih =>
    intro acc i xs j h
    unfold listL at h
    obtain ⟨x, k, hk, h⟩ := PR.bind_eq_ok h
    have e1 := hv _ _ _ hk
    have e2 := bl_le s k
    split at h
    · cases h
    · split at h
      · have := ih h; omega
      · split at h
        · cases h; omega
        · cases h
theorem listP_le {s : List UInt8} {val : Nat → PR J} (hv : ∀ i x j, val i = .ok x j → i ≤ j) {i : Nat} {xs : List J} {j : Nat} (h : listP s val i = .ok xs j) : i ≤ j := by
  unfold listP at h
  have e2 := bl_le s (i + 1)
  split at h
  · cases h
  · split at h
    · cases h; omega
    · have := listL_le hv h; omega
theorem objL_le {s : List UInt8} {val : Nat → PR J} (hv : ∀ i x j, val i = .ok x j → i ≤ j) : ∀ {f : Nat} {acc : List (List UInt8 × J)} {i : Nat} {xs : List (List UInt8 × J)} {j : Nat}, objL s val f acc i = .ok xs j → i ≤ j := by
  intro f
  induction f with
  | zero => intro acc i xs j h; cases h
  | succ f ih =>
    intro acc i xs j h
    unfold objL at h
    obtain ⟨n, k0, hk0, h⟩ := PR.bind_eq_ok h
    obtain ⟨u, k1, hk1, h⟩ := PR.bind_eq_ok h
    obtain ⟨x, k, hk, h⟩ := PR.bind_eq_ok h
    have e0 := (textP_le hk0).1
    have e1 := (wantP_ok hk1).2
    have e2 := hv _ _ _ hk
    have b0 := bl_le s i
    have b1 := bl_le s k0
    have b2 := bl_le s k
    split at h
    · cases h
    · split at h
      · have := ih h; omega
      · split at h
        · cases h; omega
        · cases h
theorem objP_le {s : List UInt8} {val : Nat → PR J} (hv : ∀ i x j, val i = .ok x j → i ≤ j) {i : Nat} {xs : List (List UInt8 × J)} {j : Nat} (h : objP s val i = .ok xs j) : i ≤ j := by
  unfold objP at h
  have e2 := bl_le s (i + 1)
  split at h
  · cases h
  · split at h
    · cases h; omega
    · have := objL_le hv h; omega
theorem valQ_le {s : List UInt8} {li : Nat → PR (List J)} {ob : Nat → PR (List (List UInt8 × J))} (hl : ∀ i x j, li i = .ok x j → i ≤ j) (ho : ∀ i x j, ob i = .ok x j → i ≤ j) {i : Nat} {x : J} {j : Nat} (h : valQ s li ob i = .ok x j) : i ≤ j := by
  unfold valQ at h
  split at h
  · cases h
  · repeat (split at h; (obtain ⟨u, k, hk, h⟩ := PR.bind_eq_ok h; cases h; first | (have := wordP_ok hk; omega) | (have := textP_le hk; omega) | exact hl _ _ _ hk | exact ho _ _ _ hk))
    obtain ⟨u, k, hk, h⟩ := PR.bind_eq_ok h
    cases h
    exact numP_le hk
theorem valP_le {s : List UInt8} : ∀ {k : Nat} {i : Nat} {x : J} {j : Nat}, valP s k i = .ok x j → i ≤ j := by
  intro k
  induction k with
  | zero => intro i x j h; have := valQ_le (fun _ _ _ h => by cases h) (fun _ _ _ h => by cases h) h; have := bl_le s i; omega
  | succ k ih => intro i x j h; have := valQ_le (fun _ _ _ h => listP_le (fun _ _ _ h => ih h) h) (fun _ _ _ h => objP_le (fun _ _ _ h => ih h) h) h; have := bl_le s i; omega
end Jo
end Go.Proofs.YtmajpambfblhnaaGreatDoor

namespace Go.Proofs.YtmajpambfblhnaaGreatDoor
namespace Jo

theorem cmp_refl : ∀ a : List UInt8, Lib.compareBytes a a = 0
  | [] => rfl
  | c :: r => by unfold Lib.compareBytes; rw [if_neg (by simp), if_neg (by simp)]; exact cmp_refl r
theorem cmp_zero : ∀ a b : List UInt8, Lib.compareBytes a b = 0 → a = b
  | [], [], _ => rfl
  | [], _ :: _, h => by simp [Lib.compareBytes] at h
  | _ :: _, [], h => by simp [Lib.compareBytes] at h
  | c :: r, d :: t, h => by
    unfold Lib.compareBytes at h
    split at h
    · simp at h
    · split at h
      · simp at h
      · rename_i h1 h2
        have e : c = d := UInt8.toNat_inj.1 (by rw [UInt8.lt_iff_toNat_lt] at h1 h2; omega)
        rw [e, cmp_zero r t h]
theorem cmp_neg : ∀ a b : List UInt8, Lib.compareBytes a b = - Lib.compareBytes b a
  | [], [] => rfl
  | [], _ :: _ => rfl
  | _ :: _, [] => rfl
  | c :: r, d :: t => by
    unfold Lib.compareBytes
    by_cases h1 : c < d
    · have h2 : ¬ d < c := by rw [UInt8.lt_iff_toNat_lt] at *; omega
      rw [if_pos h1, if_neg h2, if_pos h1]
    · by_cases h2 : d < c
      · rw [if_neg h1, if_pos h2, if_pos h2]; rfl
      · rw [if_neg h1, if_neg h2, if_neg h2, if_neg h1]; exact cmp_neg r t
theorem cmp_trans : ∀ a b c : List UInt8, Lib.compareBytes a b < 0 → Lib.compareBytes b c < 0 → Lib.compareBytes a c < 0
  | [], [], _, h, _ => by simp [Lib.compareBytes] at h
  | [], _ :: _, [], _, h => by simp [Lib.compareBytes] at h
  | [], _ :: _, _ :: _, _, _ => by simp [Lib.compareBytes]
  | _ :: _, [], _, h, _ => by simp [Lib.compareBytes] at h
  | _ :: _, _ :: _, [], _, h => by simp [Lib.compareBytes] at h
  | x :: a, y :: b, z :: c, h1, h2 => by
    unfold Lib.compareBytes at h1 h2 ⊢
    simp only [UInt8.lt_iff_toNat_lt] at *
    by_cases a1 : x.toNat < y.toNat
    · by_cases a2 : y.toNat < z.toNat
      · rw [if_pos (by omega)]; omega
      · rw [if_neg a2] at h2
        by_cases a3 : z.toNat < y.toNat
        · rw [if_pos a3] at h2; omega
        · rw [if_pos (by omega)]; omega
    · rw [if_neg a1] at h1
      by_cases b1 : y.toNat < x.toNat
      · rw [if_pos b1] at h1; omega
      · rw [if_neg b1] at h1
        by_cases a2 : y.toNat < z.toNat
        · rw [if_pos (by omega)]; omega
        · rw [if_neg a2] at h2
          by_cases a3 : z.toNat < y.toNat
          · rw [if_pos a3] at h2; omega
          · rw [if_neg a3] at h2
            rw [if_neg (by omega), if_neg (by omega)]
            exact cmp_trans a b c h1 h2
theorem ltB_irrefl (a : List UInt8) : ltB a a = false := by unfold ltB; rw [cmp_refl]; rfl
theorem ltB_asymm {a b : List UInt8} (h : ltB a b = true) : ltB b a = false := by
  unfold ltB at *; have := cmp_neg a b; simp at *; omega
theorem ltB_trans {a b c : List UInt8} (h : ltB a b = true) (k : ltB b c = true) : ltB a c = true := by
  unfold ltB at *; simp only [decide_eq_true_eq] at *; exact cmp_trans a b c h k
theorem ltB_total {a b : List UInt8} (h : ltB a b = false) (hne : a ≠ b) : ltB b a = true := by
  unfold ltB at *
  have := cmp_neg a b
  have h0 : Lib.compareBytes a b ≠ 0 := fun e => hne (cmp_zero _ _ e)
  simp at *; omega
theorem ltB_ntrans {a b c : List UInt8} (h : ltB a b = false) (k : ltB b c = false) : ltB a c = false := by
  by_cases e1 : a = b
  · subst e1; exact k
  · by_cases e2 : b = c
    · subst e2; exact h
    · exact ltB_asymm (ltB_trans (ltB_total k e2) (ltB_total h e1))
theorem bytesLess_eq : ∀ a b : List UInt8, Op.bytesLess a b = ltB a b
  | [], [] => rfl
  | [], _ :: _ => rfl
  | _ :: _, [] => rfl
  | c :: r, d :: t => by
    unfold Op.bytesLess ltB Lib.compareBytes
    by_cases h1 : c < d
    · simp [h1]
    · by_cases h2 : d < c
      · have : c ≠ d := by intro e; subst e; exact h1 h2
        simp [h1, h2, this]
      · have e : c = d := UInt8.toNat_inj.1 (by rw [UInt8.lt_iff_toNat_lt] at h1 h2; omega)
        subst e
        simp only [h1, if_false, decide_false, Bool.false_or, beq_self_eq_true, Bool.true_and]
        rw [bytesLess_eq r t]
        rfl

-- members in their order
theorem insM_perm (m : List UInt8 × J) : ∀ l, (insM m l).Perm (m :: l)
  | [] => .refl _
  | x :: r => by
    unfold insM
    split
    · exact ((insM_perm m r).cons x).trans (.swap _ _ _)
    · exact .refl _
def Asc (l : List (List UInt8 × J)) : Prop := l.Pairwise fun a b => ltB a.1 b.1 = true
theorem insM_asc (m : List UInt8 × J) : ∀ l, Asc l → m.1 ∉ l.map (·.1) → Asc (insM m l)
  | [], _, _ => by simp [insM, Asc]
  | x :: r, h, hm => by
    have hx := List.pairwise_cons.1 h
    have hne : x.1 ≠ m.1 := fun e => hm (by simp [e])
    unfold insM
    split
    · rename_i hlt
      refine List.pairwise_cons.2 ⟨fun y hy => ?_, insM_asc m r hx.2 (fun h => hm (by simp only [List.map_cons, List.mem_cons]; exact .inr h))⟩
      rcases List.mem_cons.1 ((insM_perm m r).mem_iff.1 hy) with rfl | hy
      · exact hlt
      · exact hx.1 y hy
    · rename_i hlt
      have hl : ltB m.1 x.1 = true := ltB_total (by simpa using hlt) hne
      refine List.pairwise_cons.2 ⟨fun y hy => ?_, h⟩
      rcases List.mem_cons.1 hy with rfl | hy
      · exact hl
      · exact ltB_trans hl (hx.1 y hy)
theorem foldl_insM_perm : ∀ (l acc : List (List UInt8 × J)), (l.foldl (fun l m => insM m l) acc).Perm (acc ++ l)
  | [], acc => by simp
  | x :: r, acc => by
    rw [List.foldl_cons]
    refine (foldl_insM_perm r _).trans ?_
    refine ((insM_perm x acc).append_right r).trans ?_
    simpa using List.perm_middle.symm
theorem sortM_perm (l : List (List UInt8 × J)) : (sortM l).Perm l := by simpa [sortM] using foldl_insM_perm l []
theorem foldl_insM_asc : ∀ (l acc : List (List UInt8 × J)), Asc acc → ((acc ++ l).map (·.1)).Nodup → Asc (l.foldl (fun l m => insM m l) acc)
  | [], acc, h, _ => h
  | x :: r, acc, h, hn => by
    rw [List.foldl_cons]
    have hn2 : x.1 ∉ acc.map (·.1) := by
      rw [List.map_append, List.map_cons] at hn
      intro hx
      exact (List.nodup_append.1 hn).2.2 _ hx _ (by simp) rfl
    refine foldl_insM_asc r _ (insM_asc x acc h hn2) ?_
    refine (List.Perm.nodup_iff ?_).1 hn
    refine List.Perm.map _ ?_
    refine List.Perm.trans ?_ ((insM_perm x acc).symm.append_right r)
    simp
theorem sortM_asc (l : List (List UInt8 × J)) (h : (l.map (·.1)).Nodup) : Asc (sortM l) := foldl_insM_asc l [] List.Pairwise.nil (by simpa using h)
theorem sortM_snoc (l : List (List UInt8 × J)) (m : List UInt8 × J) : sortM (l ++ [m]) = insM m (sortM l) := by simp [sortM, List.foldl_append]
/-- Names in their order are one row of names. -/
theorem asc_unique {l1 l2 : List (List UInt8)} (h1 : l1.Pairwise fun a b => ltB a b = true) (h2 : l2.Pairwise fun a b => ltB a b = true) (hp : l1.Perm l2) : l1 = l2 :=
  hp.eq_of_pairwise (fun a b _ _ h k => absurd k (by rw [ltB_asymm h]; simp)) h1 h2
end Jo
end Go.Proofs.YtmajpambfblhnaaGreatDoor
