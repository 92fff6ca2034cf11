/- Layer 5 in plain Lean: messages and answers as bytes, and how they are read, byte by byte. No program in sight. -/
import Derived.Test.YtaomhkgdbobpkaaGreatDoorRows
import Derived.Lib.ItoaNum
import Derived.Lib.Atoi
import Derived.Lib.TrimByte
import Derived.Lib.IndexMore
import Derived.Lib.Split
import Derived.Lib.Strings
namespace Go.Proofs.YtaomhkgdbobpkaaGreatDoor
namespace Wi

def lowC (c : UInt8) : UInt8 := if 65 ≤ c ∧ c ≤ 90 then c + 32 else c
/-- A text in which capital letters are small ones. -/
def low (s : List UInt8) : List UInt8 := s.map lowC
def capitalP (c : UInt8) : Bool := decide (65 ≤ c) && decide (c ≤ 90)
def shownP (c : UInt8) : Bool := decide (33 ≤ c) && decide (c ≤ 126)
def printedP (c : UInt8) : Bool := decide (32 ≤ c) && decide (c ≤ 126)
def digitP (c : UInt8) : Bool := decide (48 ≤ c) && decide (c ≤ 57)
def signsL : List UInt8 := [33, 35, 36, 37, 38, 39, 42, 43, 45, 46, 94, 95, 124, 126, 96]
def ofNameP (c : UInt8) : Bool := capitalP c || (decide (97 ≤ c) && decide (c ≤ 122)) || digitP c || signsL.contains c
def onlyP (s : List UInt8) (least most : Nat) (p : UInt8 → Bool) : Bool := s.all p && decide (least ≤ s.length) && decide (s.length ≤ most)
def isMethodP (s : List UInt8) : Bool := onlyP s 1 16 capitalP
def isPathP (s : List UInt8) : Bool := onlyP s 1 200 shownP && s.head? == some 47
def isNameP (s : List UInt8) : Bool := onlyP s 1 40 ofNameP
/-- content-length, transfer-encoding. -/
def lengthN : List UInt8 := [99, 111, 110, 116, 101, 110, 116, 45, 108, 101, 110, 103, 116, 104]
def codingN : List UInt8 := [116, 114, 97, 110, 115, 102, 101, 114, 45, 101, 110, 99, 111, 100, 105, 110, 103]
/-- HTTP/1.1 -/
def versionL : List UInt8 := [72, 84, 84, 80, 47, 49, 46, 49]
def bareP (v : List UInt8) : Bool := v.isEmpty || (v.head? != some 32 && v.getLast? != some 32)
abbrev Fl : Type := List UInt8 × List UInt8
def isHeaderP (f : Fl) : Bool := isNameP f.1 && onlyP f.2 0 1000 printedP && bareP f.2 && decide (f.1.length + 2 + f.2.length ≤ 1000) && low f.1 != lengthN && low f.1 != codingN
def headP (f : Fl) : List UInt8 := f.1 ++ 58 :: 32 :: (f.2 ++ [13, 10])
def restOk (l : List Fl) (body : List UInt8) : Bool := decide (l.length ≤ 32) && decide (body.length ≤ 4000) && l.all isHeaderP
/-- Content-Length: -/
def toldN : List UInt8 := [67, 111, 110, 116, 101, 110, 116, 45, 76, 101, 110, 103, 116, 104, 58, 32]
/-- What stands behind a first line. -/
def restP (l : List Fl) (body : List UInt8) : List UInt8 := (l.map headP).flatten ++ (toldN ++ (Lib.itoa body.length ++ 13 :: 10 :: 13 :: 10 :: body))
structure Msg where
  m : List UInt8
  p : List UInt8
  hs : List Fl
  body : List UInt8
structure Ans where
  st : Int
  hs : List Fl
  body : List UInt8
def printM (x : Msg) : List UInt8 × Int := if restOk x.hs x.body && isMethodP x.m && isPathP x.p then (x.m ++ 32 :: (x.p ++ 32 :: (versionL ++ 13 :: 10 :: restP x.hs x.body)), 0) else ([], 55)
/-- What is said of a status. -/
def reasonP (n : Int) : List UInt8 :=
  if n = 200 then [79, 75] else if n = 201 then [67, 114, 101, 97, 116, 101, 100] else if n = 400 then [66, 97, 100, 32, 82, 101, 113, 117, 101, 115, 116]
  else if n = 401 then [85, 110, 97, 117, 116, 104, 111, 114, 105, 122, 101, 100] else if n = 403 then [70, 111, 114, 98, 105, 100, 100, 101, 110] else if n = 404 then [78, 111, 116, 32, 70, 111, 117, 110, 100]
  else if n = 405 then [77, 101, 116, 104, 111, 100, 32, 78, 111, 116, 32, 65, 108, 108, 111, 119, 101, 100] else if n = 415 then [85, 110, 115, 117, 112, 112, 111, 114, 116, 101, 100, 32, 77, 101, 100, 105, 97, 32, 84, 121, 112, 101]
  else if n = 429 then [84, 111, 111, 32, 77, 97, 110, 121, 32, 82, 101, 113, 117, 101, 115, 116, 115] else if n = 500 then [73, 110, 116, 101, 114, 110, 97, 108, 32, 83, 101, 114, 118, 101, 114, 32, 69, 114, 114, 111, 114]
  else if n = 503 then [83, 101, 114, 118, 105, 99, 101, 32, 85, 110, 97, 118, 97, 105, 108, 97, 98, 108, 101] else [83, 116, 97, 116, 117, 115]
def printA (x : Ans) : List UInt8 × Int := if restOk x.hs x.body && decide (100 ≤ x.st) && decide (x.st ≤ 599) then (versionL ++ 32 :: (Lib.itoa x.st ++ 32 :: (reasonP x.st ++ 13 :: 10 :: restP x.hs x.body)), 0) else ([], 55)

-- reading
/-- A text up to the first byte c, and behind it. -/
def cutP (c : UInt8) (s : List UInt8) : Option (List UInt8 × List UInt8) := if (Lib.cut s [c]).2.2 = true then some ((Lib.cut s [c]).1, (Lib.cut s [c]).2.1) else none
def trimP (s : List UInt8) : List UInt8 := Lib.trimB s 32
/-- The number that digits say. -/
def decP (s : List UInt8) : Nat := (Lib.decFrom 0 s).getD 0
/-- A text's pieces between blanks. -/
def splitS (s : List UInt8) : List (List UInt8) := Lib.splitK [32] 0 (Lib.countB ⟨s.toArray⟩ ⟨#[32]⟩) s
/-- A reading: an answer, or a message; where it is (0: first line, 1: headers, 2: body); its bytes; the line; what the first line said; headers; the body's length, -1: not told; the body. -/
structure R where
  ans : Bool
  ph : Nat
  cnt : Nat
  line : List UInt8
  first : List (List UInt8)
  hs : List Fl
  len : Int
  body : List UInt8
def begin' (ans : Bool) : R := ⟨ans, 0, 0, [], [], [], -1, []⟩
def toldP (r : R) (v : List UInt8) : R × Int :=
  if 0 ≤ r.len ∨ onlyP v 1 1000 digitP = false ∨ (v.head? = some 48 ∧ v ≠ [48]) then (r, 52)
  else if 4 < v.length ∨ 4000 < decP v then (r, 53) else ({ r with len := (decP v : Nat) }, 0)
def headerP (r : R) (s : List UInt8) : R × Int :=
  match cutP 58 s with
  | none => (r, 51)
  | some (n, v) =>
    if isNameP n = false ∨ onlyP v 0 1000 printedP = false ∨ low n = codingN then (r, 51)
    else if low n = lengthN then toldP r (trimP v)
    else if r.hs.length = 32 then (r, 53) else ({ r with hs := r.hs ++ [(n, trimP v)] }, 0)
/-- The first line of a message: method and path. -/
def askedP (s : List UInt8) : Option (List UInt8 × List UInt8) :=
  match splitS s with
  | [a, b, c] => if isMethodP a = true ∧ isPathP b = true ∧ c = versionL then some (a, b) else none
  | _ => none
/-- Digits, a blank, printed bytes. -/
def codeP (a : List UInt8) : Bool := decide (4 ≤ a.length) && a[3]? == some 32 && onlyP (a.take 3) 3 3 digitP && onlyP (a.drop 4) 0 1000 printedP
/-- The first line of an answer: the status' digits. -/
def statusP (s : List UInt8) : Option (List UInt8) :=
  if Lib.hasPrefix s (versionL ++ [32]) = true ∧ codeP (s.drop 9) = true ∧ 100 ≤ decP ((s.drop 9).take 3) ∧ decP ((s.drop 9).take 3) ≤ 599 then some ((s.drop 9).take 3) else none
def beginsP (r : R) (s : List UInt8) : Option R :=
  if r.ans = true then (statusP s).map fun d => { r with first := [d] } else (askedP s).map fun x => { r with first := [x.1, x.2] }
/-- A line, with its carriage return: is all there? What is wrong? -/
def judgeP (r : R) (line : List UInt8) : R × Bool × Int :=
  let ended := Lib.hasSuffix line [13]
  let bare := Lib.trimSuffix line [13]
  if r.ph = 0 then
    match (if ended then beginsP r bare else none) with
    | none => (r, false, 50)
    | some r' => ({ r' with ph := 1 }, false, 0)
  else if ended = false then (r, false, 51)
  else if bare = [] then ({ r with ph := 2 }, decide (r.len ≤ 0), 0)
  else ((headerP r bare).1, false, (headerP r bare).2)
def nextP (r : R) (c : UInt8) : R × Bool × Int :=
  if r.ph = 2 then ({ r with body := r.body ++ [c] }, decide (((r.body.length + 1 : Nat) : Int) = r.len), 0)
  else if c = 10 then judgeP { r with line := [] } r.line
  else ({ r with line := r.line ++ [c] }, false, if 1002 ≤ r.line.length + 1 then 53 else 0)
/-- A byte. -/
def takesP (r : R) (c : UInt8) : R × Bool × Int := nextP { r with cnt := r.cnt + 1 } c
/-- All bytes of a text as far as they are taken: the messages, the reading, what is wrong. -/
def feedP : R → List UInt8 → List R × R × Int
  | r, [] => ([], r, 0)
  | r, c :: s =>
    let x := takesP r c
    if x.2.2 ≠ 0 then ([], x.1, x.2.2)
    else if x.2.1 = true then let y := feedP (begin' false) s; (x.1 :: y.1, y.2)
    else feedP x.1 s
end Wi
end Go.Proofs.YtaomhkgdbobpkaaGreatDoor
