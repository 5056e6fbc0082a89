/-
  Plain Lean, no program: what the parser's functions compute, on lists of tokens. No condition.
-/
import Derived.Test.YtfpneopobbfabaaDoorPlain
namespace Go.Proofs.YtfpneopobbfabaaDoor
open Go

/-! ### verbs and names -/
def twoF (s : List UInt8) : Nat :=
  if s = [43] then 1 else if s = [45] then 2 else if s = [42] then 3 else if s = [37] then 4 else if s = [124] then 5
  else if s = [109, 105, 110] then 6 else if s = [109, 97, 120] then 7 else if s = [61] then 8 else if s = [126] then 9 else if s = [60] then 10
  else if s = [60, 61] then 11 else if s = [62, 61] then 12 else if s = [62] then 13 else if s = [97, 110, 100] then 14 else if s = [111, 114] then 15
  else if s = [112, 111, 119] then 17 else if s = [114, 104, 111] then 37 else if s = [116, 97, 107, 101] then 38 else if s = [100, 114, 111, 112] then 39
  else if s = [99, 97, 116] then 40 else 0
def oneF (s : List UInt8) : Nat :=
  if s = [43] ∨ s = [45] ∨ s = [42] ∨ s = [37] ∨ s = [124] ∨ s = [109, 105, 110] ∨ s = [109, 97, 120] then twoF s
  else if s = [126] then 16 else if s = [105, 111, 116, 97] then 32 else if s = [115, 104, 97, 112, 101] then 33 else if s = [114, 97, 118, 101, 108] then 34
  else if s = [114, 101, 118] then 35 else if s = [116, 117, 114, 110] then 36 else 0
def verbF (s : List UInt8) (two : Bool) : Nat := if two then twoF s else oneF s
def verbB (s : List UInt8) : Bool := oneF s != 0 || twoF s != 0
def wordIs (s : List UInt8) : Bool := match lexL s with | .ok [t] => t.kind == 1 && t.word == s | _ => false
def nameB (s : List UInt8) : Bool := !(verbB s || s == [105, 110] || s == [111, 117, 116]) && wordIs s

/-! ### expressions -/
structure Itm where
  how : Int
  at_ : Int
  fn : Nat
  name : List UInt8
  nums : List Int
  deriving DecidableEq
abbrev Fault := Int × Nat
/-- The place of the next token. -/
def placeP (e : Int) (r : List Tok) : Int := match r with | [] => e | t :: _ => t.at_
def signIs (w : List UInt8) (t : Tok) : Bool := t.kind == 3 && t.word == w
def isOp (t : Tok) : Bool := t.kind == 3 && (t.word == [47] || t.word == [92] || t.word == [46])
def isNum (t : Tok) : Bool := t.kind == 2
/-- A phrase: the verb t, and what stands behind it. -/
def phraseP (left : Bool) (t : Tok) (r : List Tok) : Except Fault (Itm × List Tok) :=
  match r with
  | [] => if verbF t.word left = 0 then .error (t.at_, 43) else .ok (⟨if left then 4 else 3, t.at_, verbF t.word left, [], []⟩, [])
  | op :: r2 =>
    if isOp op then
      if 17 < twoF t.word ∨ (op.word == [46]) ≠ left ∨ twoF t.word = 0 then .error (t.at_, 43)
      else .ok (⟨if op.word = [47] then 5 else if op.word = [92] then 6 else 7, t.at_, twoF t.word, [], []⟩, r2)
    else if verbF t.word left = 0 then .error (t.at_, 43) else .ok (⟨if left then 4 else 3, t.at_, verbF t.word left, [], []⟩, op :: r2)
/-- What is to be done up to the last open bracket is done. -/
def finP : List (Option Itm) → List Itm → List Itm × List (Option Itm)
  | some x :: s, out => finP s (out ++ [x])
  | s, out => (out, s)
/-- The machine: true: ahead of an operand; false: behind one. What is to be done: the last one first. -/
def runM (e : Int) : Nat → Bool → List Tok → List Itm → List (Option Itm) → Nat → Except Fault (List Itm)
  | 0, _, _, _, _, _ => .error (e, 0)
  | _ + 1, true, [], _, _, _ => .error (e, 42)
  | f + 1, true, t :: r, out, todo, open_ =>
    if t.kind ≠ 2 ∧ t.kind ≠ 4 ∧ verbB t.word = true then
      match phraseP false t r with
      | .error x => .error x
      | .ok (it, r2) => runM e f true r2 out (some it :: todo) open_
    else if signIs [40] t then if open_ = 32 then .error (t.at_, 44) else runM e f true r out (none :: todo) (open_ + 1)
    else if isNum t then runM e f false (r.dropWhile isNum) (out ++ [⟨1, t.at_, 0, [], t.n :: (r.takeWhile isNum).map Tok.n⟩]) todo open_
    else if t.kind = 1 ∧ nameB t.word = true then runM e f false r (out ++ [⟨2, t.at_, 0, t.word, []⟩]) todo open_
    else if t.kind = 1 then .error (t.at_, 41)
    else .error (t.at_, 42)
  | _ + 1, false, [], out, todo, open_ => if 0 < open_ then .error (e, 42) else .ok (finP todo out).1
  | f + 1, false, t :: r, out, todo, open_ =>
    if 0 < open_ ∧ signIs [41] t = true then runM e f false r (finP todo out).1 (finP todo out).2.tail (open_ - 1)
    else if t.kind = 2 ∨ verbB t.word = false then .error (t.at_, 46)
    else match phraseP true t r with
      | .error x => .error x
      | .ok (it, r2) => runM e f true r2 out (some it :: todo) open_
def exprP (e : Int) (r : List Tok) : Except Fault (List Itm) := runM e (r.length + 1) true r [] [] 0

/-! ### lines -/
structure Inp where
  name : List UInt8
  at_ : Int
  sides : List (List UInt8 × Int)
  deriving DecidableEq
structure Lin where
  name : List UInt8
  at_ : Int
  items : List Itm
  deriving DecidableEq
structure Prg where
  inputs : List Inp
  lines : List Lin
  deriving DecidableEq
def Prg.none : Prg := ⟨[], []⟩
def nameT (t : Tok) : Bool := t.kind == 1 && nameB t.word
def sidesP (acc : List (List UInt8 × Int)) : List Tok → Except Fault (List (List UInt8 × Int))
  | [] => .ok acc
  | t :: r => if !isNum t && !nameT t then .error (t.at_, 41) else if acc.length = 4 then .error (t.at_, 45) else sidesP (acc ++ [(t.word, t.n)]) r
/-- What stands behind 'in'. -/
def inputP (e : Int) : List Tok → Except Fault Inp
  | [] => .error (e, 42)
  | t :: r => if !nameT t then .error (t.at_, 41) else (sidesP [] r).map fun l => ⟨t.word, t.at_, l⟩
def isWord (w : List UInt8) (t : Tok) : Bool := t.kind == 1 && t.word == w
/-- A line that has tokens, into a program. -/
def intoP (e : Int) (toks : List Tok) (p : Prg) (lines : Nat) (over : Bool) : Except Fault Prg :=
  match toks with
  | [] => .ok p
  | t :: r =>
    if lines = 64 then .error (t.at_, 45)
    else if 256 < toks.length then .error (placeP e (toks.drop 256), 45)
    else if over = true ∨ isWord [105, 110] t = true ∧ p.lines ≠ [] then .error (t.at_, 40)
    else if isWord [105, 110] t = true then (inputP e r).map fun x => { p with inputs := p.inputs ++ [x] }
    else if isWord [111, 117, 116] t = true then (exprP e r).map fun l => { p with lines := p.lines ++ [⟨[], t.at_, l⟩] }
    else if nameT t = false then .error (t.at_, 40)
    else match r with
      | [] => .error (e, 42)
      | c :: r2 => if signIs [58] c then (exprP e r2).map fun l => { p with lines := p.lines ++ [⟨t.word, t.at_, l⟩] } else .error (c.at_, 42)
def notLine (t : Tok) : Bool := t.kind != 4
def overP (p : Prg) : Bool := match p.lines.getLast? with | none => false | some l => l.name == []
/-- The lines of a text. n: its length. -/
def linesP (n : Int) : Nat → List Tok → Prg → Nat → Bool → Except Fault Prg
  | _, [], p, _, over => if over then .ok p else .error (n, 42)
  | 0, _ :: _, _, _, _ => .error (n, 0)
  | f + 1, t :: r, p, lines, over =>
    if (t :: r).takeWhile notLine = [] then linesP n f ((t :: r).dropWhile notLine).tail p lines over
    else match intoP (placeP n ((t :: r).dropWhile notLine)) ((t :: r).takeWhile notLine) p lines over with
      | .error x => .error x
      | .ok q => linesP n f ((t :: r).dropWhile notLine).tail q (lines + 1) (overP q)
def parseT (n : Int) (toks : List Tok) : Except Fault Prg := linesP n toks.length toks Prg.none 0 false
/-- A text's program, or its fault. -/
def parseL (l : List UInt8) : Except Fault Prg :=
  match lexL l with
  | .error (a, c) => .error (a, c)
  | .ok toks => parseT l.length toks
end Go.Proofs.YtfpneopobbfabaaDoor
