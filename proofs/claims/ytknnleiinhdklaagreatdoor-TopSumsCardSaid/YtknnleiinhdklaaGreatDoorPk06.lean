/-
  Plain Lean, no program: a token's text as the document tells it is the text as the program tells it; tokens' texts with blanks between are read as just these tokens. No condition.   Plain Lean, no program: verbs and names, as the program has them and as the document has them. No condition.   Plain Lean, no program: programs and tokens, their places apart. No condition.   Plain Lean, no program: what empty lines, blanks and notes, and brackets, leave as it was; a verb takes all on its right; lines hang on no other. No condition.   Plain Lean, no program: lines are read one by one; where a fault lies, and what stands ahead of its line. No condition.
-/
import Derived.Lib.SpaceUEq
import Derived.Lib.ItoaLen
import Derived.Test.YtknnleiinhdklaaGreatDoorPk02
import Derived.Test.YtknnleiinhdklaaGreatDoorPk05
namespace Go.Proofs.YtknnleiinhdklaaGreatDoor
section
open Go
theorem ne_beq {a b : UInt8} (h : b ≠ a) : (a == b) = false := by rw [beq_eq_false_iff_ne]; exact fun e => h e.symm
theorem numT_len (n : Int) (h0 : -9223372036854775808 ≤ n) (h1 : n ≤ 9223372036854775807) : (numT n).length ≤ 21 := by
 have h2 := Lib.itoa_length_le n h0 h1
 have h3 : (numT n).length = (Lib.itoa n).length := by unfold numT Lib.itoa; split <;> simp
 omega
/-- A text, whatever stands behind it, is read as these tokens and what stands behind. -/
def Said (s : List UInt8) (acc : List Tok) : Prop := ∀ z, lexAt 0 (s ++ z) = (lexAt s.length z).map (acc ++ ·)
theorem Said.nil : Said [] [] := fun z => by rw [map_nil]; rfl
theorem Said.all {s : List UInt8} {acc : List Tok} (h : Said s acc) (hl : s.length ≤ 65536) : lexL s = .ok acc := by
 have := h []
 rw [List.append_nil, lexAt_nil] at this
 rw [(lexL_ok_iff _ _).2 ⟨hl, this⟩]
 simp
end
section
open Go
def numberF (s : List UInt8) (two : Bool) : Nat :=
 if s = [43] then 1 else if s = [45] then 2 else if s = [42] then 3 else if s = [37] then 4 else if s = [124] then 5
 else if s = [109, 105, 110] then 6 else if s = [109, 97, 120] then 7 else if s = [61] then 8 else if s = [60] then 10
 else if s = [60, 61] then 11 else if s = [62, 61] then 12 else if s = [62] then 13 else if s = [97, 110, 100] then 14 else if s = [111, 114] then 15
 else if s = [112, 111, 119] then 17 else if s = [126] then (if two then 9 else 16) else 0
def arrTwo (s : List UInt8) : Nat := if s = [114, 104, 111] then 37 else if s = [116, 97, 107, 101] then 38 else if s = [100, 114, 111, 112] then 39 else if s = [99, 97, 116] then 40 else 0
def arrOne (s : List UInt8) : Nat := if s = [105, 111, 116, 97] then 32 else if s = [115, 104, 97, 112, 101] then 33 else if s = [114, 97, 118, 101, 108] then 34 else if s = [114, 101, 118] then 35 else if s = [116, 117, 114, 110] then 36 else 0
/-- One of the texts that are verbs, or none of them. -/
def verbTexts : List (List UInt8) := [[43], [45], [42], [37], [124], [109, 105, 110], [109, 97, 120], [61], [126], [60], [60, 61], [62, 61], [62], [97, 110, 100], [111, 114], [112, 111, 119], [114, 104, 111], [116, 97, 107, 101], [100, 114, 111, 112], [99, 97, 116], [105, 111, 116, 97], [115, 104, 97, 112, 101], [114, 97, 118, 101, 108], [114, 101, 118], [116, 117, 114, 110]]
theorem verb_cases (s : List UInt8) : s ∈ verbTexts ∨ (twoF s = 0 ∧ oneF s = 0 ∧ ∀ two, numberF s two = 0 ∧ arrTwo s = 0 ∧ arrOne s = 0) := by
 by_cases h : s ∈ verbTexts
 ·exact .inl h
 ·right
  simp only [verbTexts, List.mem_cons, not_or, List.not_mem_nil, not_false_eq_true, and_true] at h
  obtain ⟨h1, h2, h3, h4, h5, h6, h7, h8, h9, h10, h11, h12, h13, h14, h15, h16, h17, h18, h19, h20, h21, h22, h23, h24, h25⟩ := h
  refine ⟨?_, ?_, fun two => ⟨?_, ?_, ?_⟩⟩
  ·simp [twoF, *]
  ·simp [oneF, *]
  ·simp [numberF, *]
  ·simp [arrTwo, *]
  ·simp [arrOne, *]
end
section
open Go
def Tok.bare (t : Tok) : Tok := { t with at_ := 0 }
def Itm.bare (it : Itm) : Itm := { it with at_ := 0 }
def Lin.bare (l : Lin) : Lin := ⟨l.name, 0, l.items.map Itm.bare⟩
def Inp.bare (i : Inp) : Inp := { i with at_ := 0 }
def Prg.bare (p : Prg) : Prg := ⟨p.inputs.map Inp.bare, p.lines.map Lin.bare⟩
theorem ifp {c : Prop} {h : Decidable c} (hc : c) {α : Sort _} {t e : α} : @ite α c h t e = t := if_pos hc
theorem ifn {c : Prop} {h : Decidable c} (hc : ¬ c) {α : Sort _} {t e : α} : @ite α c h t e = e := if_neg hc
/-- A result, its places apart. -/
def bareE {α β : Type} (f : α → β) : Except Fault α → Except Fault β
 | .error x => .error (0, x.2)
 | .ok a => .ok (f a)
@[simp] theorem bareE_ok {α β : Type} (f : α → β) (a : α) : bareE f (.ok a) = .ok (f a) := rfl
@[simp] theorem bareE_error {α β : Type} (f : α → β) (x : Fault) : bareE f (.error x) = .error (0, x.2) := rfl
@[simp] theorem bare_kind (t : Tok) : t.bare.kind = t.kind := by cases t; rfl
@[simp] theorem bare_word (t : Tok) : t.bare.word = t.word := by cases t; rfl
@[simp] theorem bare_n (t : Tok) : t.bare.n = t.n := by cases t; rfl
@[simp] theorem bare_at (t : Tok) : t.bare.at_ = 0 := by cases t; rfl
@[simp] theorem bare_sign (w : List UInt8) (t : Tok) : signIs w t.bare = signIs w t := by cases t; rfl
@[simp] theorem bare_op (t : Tok) : isOp t.bare = isOp t := by cases t; rfl
@[simp] theorem bare_num (t : Tok) : isNum t.bare = isNum t := by cases t; rfl
@[simp] theorem bare_nameT (t : Tok) : nameT t.bare = nameT t := by cases t; rfl
@[simp] theorem bare_isWord (w : List UInt8) (t : Tok) : isWord w t.bare = isWord w t := by cases t; rfl
@[simp] theorem bare_notLine (t : Tok) : notLine t.bare = notLine t := by cases t; rfl
@[simp] theorem bare_bare (t : Tok) : t.bare.bare = t.bare := by cases t; rfl
theorem phrase_bareE (left : Bool) (t : Tok) (r : List Tok) : phraseP left t.bare (r.map Tok.bare) = bareE (fun q => (q.1.bare, q.2.map Tok.bare)) (phraseP left t r) := by
 cases r with
 | nil =>
  simp only [phraseP, List.map_nil, bare_word, bare_at]
  by_cases h : verbF t.word left = 0
  ·rw [ifp h, ifp h]; rfl
  ·rw [ifn h, ifn h]; rfl
 | cons op r2 =>
  simp only [phraseP, List.map_cons, bare_word, bare_at, bare_op]
  by_cases ho : isOp op = true
  ·rw [ifp ho, ifp ho]
   by_cases h : 17 < twoF t.word ∨ (op.word == [46]) ≠ left ∨ twoF t.word = 0
   ·rw [ifp h, ifp h]; rfl
   ·rw [ifn h, ifn h]; rfl
  ·rw [ifn ho, ifn ho]
   by_cases h : verbF t.word left = 0
   ·rw [ifp h, ifp h]; rfl
   ·rw [ifn h, ifn h]; rfl
theorem fin_bare (todo : List (Option Itm)) : ∀ out : List Itm, finP (todo.map (Option.map Itm.bare)) (out.map Itm.bare) = ((finP todo out).1.map Itm.bare, (finP todo out).2.map (Option.map Itm.bare)) := by
 induction todo with
 | nil => intro out; rfl
 | cons x s ih =>
  intro out
  cases x with
  | none => rfl
  | some it =>
   have := ih (out ++ [it])
   rw [List.map_append] at this
   exact this
theorem dropNum_bare (r : List Tok) : (r.map Tok.bare).dropWhile isNum = (r.dropWhile isNum).map Tok.bare := by
 induction r with
 | nil => rfl
 | cons a r ih =>
  rw [List.map_cons, List.dropWhile_cons, List.dropWhile_cons, bare_num]
  split
  ·exact ih
  ·rfl
theorem takeNum_bare (r : List Tok) : ((r.map Tok.bare).takeWhile isNum).map Tok.n = (r.takeWhile isNum).map Tok.n := by
 induction r with
 | nil => rfl
 | cons a r ih =>
  rw [List.map_cons, List.takeWhile_cons, List.takeWhile_cons, bare_num]
  split
  ·rw [List.map_cons, List.map_cons, ih]; rfl
  ·rfl
theorem run_bare (e : Int) : ∀ (f : Nat) (m : Bool) (r : List Tok) (out : List Itm) (todo : List (Option Itm)) (op : Nat),
  runM 0 f m (r.map Tok.bare) (out.map Itm.bare) (todo.map (Option.map Itm.bare)) op = bareE (List.map Itm.bare) (runM e f m r out todo op) := by
 intro f
 induction f with
 | zero => intro m r out todo op; rfl
 | succ f ih =>
  intro m r out todo op
  cases m with
  | true =>
   cases r with
   | nil => rfl
   | cons t r =>
    simp only [runM, List.map_cons, bare_kind, bare_word, bare_sign, bare_num, bare_at, bare_n]
    by_cases h1 : t.kind ≠ 2 ∧ t.kind ≠ 4 ∧ verbB t.word = true
    ·rw [ifp h1, ifp h1, phrase_bareE]
     cases hp : phraseP false t r with
     | error x => rfl
     | ok q =>
      obtain ⟨it, r2⟩ := q
      exact ih true r2 out (some it :: todo) op
    ·rw [ifn h1, ifn h1]
     by_cases h2 : signIs [40] t = true
     ·rw [ifp h2, ifp h2]
      by_cases h3 : op = 32
      ·rw [ifp h3, ifp h3]; rfl
      ·rw [ifn h3, ifn h3]
       exact ih true r out (none :: todo) (op + 1)
     ·rw [ifn h2, ifn h2]
      by_cases h3 : isNum t = true
      ·rw [ifp h3, ifp h3, dropNum_bare, takeNum_bare]
       have := ih false (r.dropWhile isNum) (out ++ [⟨1, t.at_, 0, [], t.n :: (r.takeWhile isNum).map Tok.n⟩]) todo op
       rw [List.map_append] at this
       exact this
      ·rw [ifn h3, ifn h3]
       by_cases h4 : t.kind = 1 ∧ nameB t.word = true
       ·rw [ifp h4, ifp h4]
        have := ih false r (out ++ [⟨2, t.at_, 0, t.word, []⟩]) todo op
        rw [List.map_append] at this
        exact this
       ·rw [ifn h4, ifn h4]
        by_cases h5 : t.kind = 1
        ·rw [ifp h5, ifp h5]; rfl
        ·rw [ifn h5, ifn h5]; rfl
  | false =>
   cases r with
   | nil =>
    simp only [runM, List.map_nil]
    rw [fin_bare]
    by_cases h : 0 < op
    ·rw [ifp h, ifp h]; rfl
    ·rw [ifn h, ifn h]; rfl
   | cons t r =>
    simp only [runM, List.map_cons, bare_kind, bare_word, bare_sign, bare_at]
    rw [fin_bare]
    by_cases h1 : 0 < op ∧ signIs [41] t = true
    ·rw [ifp h1, ifp h1]
     have := ih false r (finP todo out).1 (finP todo out).2.tail (op - 1)
     rw [List.map_tail] at this
     exact this
    ·rw [ifn h1, ifn h1]
     by_cases h2 : t.kind = 2 ∨ verbB t.word = false
     ·rw [ifp h2, ifp h2]; rfl
     ·rw [ifn h2, ifn h2, phrase_bareE]
      cases hp : phraseP true t r with
      | error x => rfl
      | ok q =>
       obtain ⟨it, r2⟩ := q
       exact ih true r2 out (some it :: todo) op
theorem expr_bare (e : Int) (r : List Tok) : exprP 0 (r.map Tok.bare) = bareE (List.map Itm.bare) (exprP e r) := by
 unfold exprP
 rw [List.length_map]
 exact run_bare e _ true r [] [] 0
theorem sides_bare (r : List Tok) : ∀ acc, sidesP acc (r.map Tok.bare) = bareE id (sidesP acc r) := by
 induction r with
 | nil => intro acc; rfl
 | cons t r ih =>
  intro acc
  simp only [sidesP, List.map_cons, bare_num, bare_nameT, bare_at, bare_word, bare_n]
  by_cases h : (!isNum t && !nameT t) = true
  ·rw [ifp h, ifp h]; rfl
  ·rw [ifn h, ifn h]
   by_cases h2 : acc.length = 4
   ·rw [ifp h2, ifp h2]; rfl
   ·rw [ifn h2, ifn h2]; exact ih _
theorem input_bare (e : Int) (r : List Tok) : inputP 0 (r.map Tok.bare) = bareE Inp.bare (inputP e r) := by
 cases r with
 | nil => rfl
 | cons t r =>
  simp only [inputP, List.map_cons, bare_nameT, bare_at, bare_word]
  by_cases h : (!nameT t) = true
  ·rw [ifp h, ifp h]; rfl
  ·rw [ifn h, ifn h, sides_bare]
   cases sidesP [] r <;> rfl
theorem lines_nil (p : Prg) : (p.bare.lines ≠ []) ↔ p.lines ≠ [] := by
 unfold Prg.bare
 simp
theorem place_bare (r : List Tok) : placeP 0 (r.map Tok.bare) = 0 := by cases r <;> rfl
theorem into_bare (e : Int) (toks : List Tok) (p : Prg) (lines : Nat) (over : Bool) : intoP 0 (toks.map Tok.bare) p.bare lines over = bareE Prg.bare (intoP e toks p lines over) := by
 cases toks with
 | nil => rfl
 | cons t r =>
  simp only [intoP, List.map_cons, bare_isWord, bare_nameT, bare_at, bare_word, List.length_cons, List.length_map, lines_nil]
  by_cases h1 : lines = 64
  ·rw [ifp h1, ifp h1]; rfl
  ·rw [ifn h1, ifn h1]
   by_cases h2 : 256 < r.length + 1
   ·rw [ifp h2, ifp h2]
    rw [← List.map_cons, ← List.map_drop, place_bare]; rfl
   ·rw [ifn h2, ifn h2]
    by_cases h3 : over = true ∨ isWord [105, 110] t = true ∧ p.lines ≠ []
    ·rw [ifp h3, ifp h3]; rfl
    ·rw [ifn h3, ifn h3]
     by_cases h4 : isWord [105, 110] t = true
     ·rw [ifp h4, ifp h4, input_bare e]
      cases inputP e r with
      | error x => rfl
      | ok x => simp [Except.map, bareE, Prg.bare]
     ·rw [ifn h4, ifn h4]
      by_cases h5 : isWord [111, 117, 116] t = true
      ·rw [ifp h5, ifp h5, expr_bare e]
       cases exprP e r with
       | error x => rfl
       | ok x => simp [Except.map, bareE, Prg.bare, Lin.bare]
      ·rw [ifn h5, ifn h5]
       by_cases h6 : nameT t = false
       ·rw [ifp h6, ifp h6]; rfl
       ·rw [ifn h6, ifn h6]
        cases r with
        | nil => rfl
        | cons c r2 =>
         simp only [List.map_cons, bare_sign, bare_at]
         by_cases h7 : signIs [58] c = true
         ·rw [ifp h7, ifp h7, expr_bare e]
          cases exprP e r2 with
          | error x => rfl
          | ok x => simp [Except.map, bareE, Prg.bare, Lin.bare]
         ·rw [ifn h7, ifn h7]; rfl
theorem over_bare (p : Prg) : overP p.bare = overP p := by
 unfold overP Prg.bare
 simp only [List.getLast?_map]
 cases p.lines.getLast? <;> rfl
def linesQ : List (List Tok) → Prg → Nat → Bool → Except Fault Prg
 | [], p, _, over => if over then .ok p else .error (0, 42)
 | l :: ls, p, n, _over => match intoP 0 l p n _over with
  | .error x => .error x
  | .ok q => linesQ ls q (n + 1) (overP q)
/-- The lines of tokens, those that are empty apart. own: what has been read of the first one. -/
def splitA : List Tok → List Tok → List (List Tok)
 | own, [] => if own = [] then [] else [own]
 | own, t :: r => if notLine t then splitA (own ++ [t]) r else if own = [] then splitA [] r else own :: splitA [] r
theorem lines_bare (n : Int) (r : List Tok) : ∀ (own : List Tok) (p : Prg) (lines : Nat) (over : Bool), (∀ x ∈ own, notLine x = true) →
  bareE Prg.bare (linesX n (own ++ r) p lines over) = linesQ (splitA (own.map Tok.bare) (r.map Tok.bare)) p.bare lines over := by
 induction r with
 | nil =>
  intro own p lines over ho
  rw [List.append_nil, List.map_nil, splitA]
  by_cases hn : own = []
  ·subst hn
   rw [ifp (by rfl), linesX_nil]
   cases over <;> rfl
  ·rw [ifn (by simpa using hn), linesX_last n own p lines over ho hn]
   simp only [linesQ]
   rw [into_bare n]
   cases intoP n own p lines over with
   | error x => rfl
   | ok q =>
    simp only [bareE_ok, over_bare, linesX_nil]
    cases overP q <;> rfl
 | cons t r ih =>
  intro own p lines over ho
  rw [List.map_cons, splitA, bare_notLine]
  by_cases ht : notLine t = true
  ·rw [ifp ht]
   have := ih (own ++ [t]) p lines over (by
    intro x hx
    rcases List.mem_append.1 hx with h | h
    ·exact ho x h
    ·rw [List.mem_singleton.1 h]; exact ht)
   rw [List.append_assoc, List.map_append] at this
   exact this
  ·have ht' : notLine t = false := by simpa using ht
   rw [ifn ht, linesX_line n own t r p lines over ho ht']
   by_cases hn : own = []
   ·subst hn
    rw [ifp rfl, ifp (by rfl)]
    exact ih [] p lines over (by simp)
   ·rw [ifn hn, ifn (by simpa using hn)]
    simp only [linesQ]
    rw [into_bare t.at_]
    cases intoP t.at_ own p lines over with
    | error x => rfl
    | ok q =>
     simp only [bareE_ok, over_bare]
     exact ih [] q (lines + 1) (overP q) (by simp)
theorem parseT_bare (n : Int) (toks : List Tok) : bareE Prg.bare (parseT n toks) = linesQ (splitA [] (toks.map Tok.bare)) Prg.none 0 false := lines_bare n toks [] Prg.none 0 false (by simp)
def bareL : Except (Nat × Nat) (List Tok) → Except Nat (List Tok)
 | .error x => .error x.2
 | .ok l => .ok (l.map Tok.bare)
theorem bareL_map (x : Except (Nat × Nat) (List Tok)) (a : List Tok) : bareL (x.map (a ++ ·)) = (bareL x).map (a.map Tok.bare ++ ·) := by cases x <;> simp [bareL, Except.map]
theorem parse_bare (l : List UInt8) : bareE Prg.bare (parseL l) = match bareL (lexL l) with
  | .error c => .error (0, c)
  | .ok toks => linesQ (splitA [] toks) Prg.none 0 false := by
 unfold parseL
 cases lexL l with
 | error x => rfl
 | ok toks => exact parseT_bare l.length toks
theorem lexAt_bare (f : Nat) : ∀ (k j : Nat) (l : List UInt8), l.length ≤ f → bareL (lexAt k l) = bareL (lexAt j l) := by
 induction f with
 | zero =>
  intro k j l hl
  have : l = [] := List.length_eq_zero_iff.1 (by omega)
  subst this
  rfl
 | succ f ih =>
  intro k j l hl
  cases l with
  | nil => rfl
  | cons b r =>
   have hr : r.length ≤ f := by simpa using hl
   rw [lexAt_cons k, lexAt_cons j]
   by_cases c1 : b = 32 ∨ b = 9
   ·rw [if_pos c1, if_pos c1]; exact ih _ _ _ hr
   ·rw [if_neg c1, if_neg c1]
    by_cases c2 : b = 35
    ·have hn : 1 ≤ runL noteB (b :: r) := by subst c2; rw [runL_cons]; simp [noteB]
     rw [if_pos c2, if_pos c2]
     exact ih _ _ _ (by simp only [List.length_drop, List.length_cons]; omega)
    ·rw [if_neg c2, if_neg c2]
     by_cases c3 : (tokL (b :: r)).2.2 ≠ 0
     ·rw [if_pos c3, if_pos c3]; rfl
     ·rw [if_neg c3, if_neg c3]
      have hp := (tokL_len (b :: r) (by simp) (by simpa using c3)).1
      have := ih (k + (tokL (b :: r)).2.1) (j + (tokL (b :: r)).2.1) ((b :: r).drop (tokL (b :: r)).2.1) (by simp only [List.length_drop, List.length_cons]; omega)
      show bareL ((lexAt _ _).map ([_] ++ ·)) = bareL ((lexAt _ _).map ([_] ++ ·))
      rw [bareL_map, bareL_map, this]
      rfl
/-- What a text is read as, places apart; the fault's code. -/
def lexC (l : List UInt8) : Except Nat (List Tok) := bareL (lexAt 0 l)
theorem lexC_at (k : Nat) (l : List UInt8) : bareL (lexAt k l) = lexC l := lexAt_bare l.length k 0 l (Nat.le_refl _)
theorem lexL_C {l : List UInt8} (h : l.length ≤ 65536) : bareL (lexL l) = lexC l := by
 unfold lexL
 rw [if_neg (by omega)]
 rfl
theorem parse_C {l : List UInt8} (h : l.length ≤ 65536) : bareE Prg.bare (parseL l) = match lexC l with
  | .error c => .error (0, c)
  | .ok toks => linesQ (splitA [] toks) Prg.none 0 false := by rw [parse_bare, lexL_C h]
theorem Reach.note_in {l : List UInt8} {k m : Nat} {acc : List Tok} (h : Reach l k m acc true) : (35 : UInt8) ∈ l := by
 generalize hb : true = nt at h
 induction h with
 | here l k => cases hb
 | blank b r k m acc nt _ _ ih => exact List.mem_cons_of_mem _ (ih hb)
 | note r k m acc nt _ _ ih => exact List.mem_cons_self
 | noteEnd r k => exact List.mem_cons_self
 | tok b r k m acc nt _ _ _ _ ih => exact List.mem_of_mem_drop (ih hb)
/-- A text with something behind it that begins no part of a token of it. -/
theorem lexC_then {l : List UInt8} {x : List Tok} (hx : lexC l = .ok x) (z : List UInt8) (hz : Stops z) (hn : Ends z ∨ (35 : UInt8) ∉ l) : lexC (l ++ z) = (lexC z).map (x ++ ·) := by
 cases hl : lexAt 0 l with
 | error e => unfold lexC at hx; rw [hl] at hx; cases hx
 | ok toks =>
  have hxe : x = toks.map Tok.bare := by
   unfold lexC at hx; rw [hl] at hx; injection hx with hx; exact hx.symm
  obtain ⟨⟨nt, h1⟩, _⟩ := reach_all l.length 0 l toks (Nat.le_refl _) hl
  have h2 := h1.read z hz (fun h => by
   subst h
   rcases hn with hn | hn
   ·exact hn
   ·exact absurd (h1.note_in) hn)
  rw [List.take_length] at h2
  unfold lexC
  rw [h2, bareL_map, lexC_at, hxe]
  rfl
theorem run_then (p : UInt8 → Bool) (l z : List UInt8) (hz : ∀ b r, z = b :: r → p b = false) : runL p (l ++ z) = runL p l := by
 have := run_cut p z hz l l.length (runL_le p l)
 rwa [List.take_length] at this
theorem num_then (l z : List UInt8) (hl : l ≠ []) (hz : Stops z) : numL (l ++ z) = numL l := by
 have hzd : ∀ b r, z = b :: r → digitB b = false := fun b r e => (hz.not b r e).2.1
 cases l with
 | nil => exact absurd rfl hl
 | cons a r =>
  by_cases ha : a = 95
  ·subst ha
   rw [List.cons_append, num_under, num_under, run_then digitB r z hzd, List.take_append_of_le_length (runL_le digitB r)]
  ·have h1 : (a :: r).head? ≠ some 95 := by simpa using ha
   have h2 : ((a :: r) ++ z).head? ≠ some 95 := by simpa using ha
   rw [num_plain _ h1, num_plain _ h2, run_then digitB (a :: r) z hzd, List.take_append_of_le_length (runL_le digitB (a :: r))]
theorem sign_then (l z : List UInt8) (hl : l ≠ []) (hz : Stops z) : signL (l ++ z) = signL l := by
 have := sign_cut l z l.length (signL_le l hl) (List.length_pos_iff.2 hl) (Nat.le_refl _) hz
 rwa [List.take_length] at this
theorem tok_then (l z : List UInt8) (hl : l ≠ []) (hz : Stops z) : tokL (l ++ z) = tokL l := by
 have hza : ∀ b r, z = b :: r → alnumB b = false := fun b r e => (hz.not b r e).1
 have hh : (l ++ z).headD 0 = l.headD 0 := by
  cases l with
  | nil => exact absurd rfl hl
  | cons a r => rfl
 by_cases c1 : l.headD 0 = 10
 ·rw [tok_line l c1, tok_line _ (by rw [hh]; exact c1)]
 ·by_cases c2 : letterB (l.headD 0) = true
  ·rw [tok_word l c1 c2, tok_word _ (by rw [hh]; exact c1) (by rw [hh]; exact c2), run_then alnumB l z hza, List.take_append_of_le_length (runL_le alnumB l)]
  ·rw [tok_rest l c1 c2, tok_rest _ (by rw [hh]; exact c1) (by rw [hh]; exact c2), num_then l z hl hz, sign_then l z hl hz, List.take_append_of_le_length (signL_le l hl)]
theorem lexAt_bad_then (f : Nat) : ∀ (k : Nat) (l z : List UInt8) (e : Nat × Nat), l.length ≤ f → Stops z → lexAt k l = .error e → lexAt k (l ++ z) = .error e := by
 induction f with
 | zero =>
  intro k l z e hl _ h
  have : l = [] := List.length_eq_zero_iff.1 (by omega)
  subst this
  cases h
 | succ f ih =>
  intro k l z e hl hz h
  cases l with
  | nil => cases h
  | cons b r =>
   have hr : r.length ≤ f := by simpa using hl
   rw [lexAt_cons] at h
   rw [List.cons_append, lexAt_cons]
   by_cases c1 : b = 32 ∨ b = 9
   ·rw [if_pos c1] at h ⊢
    exact ih _ _ _ _ hr hz h
   ·rw [if_neg c1] at h ⊢
    by_cases c2 : b = 35
    ·have hn : 1 ≤ runL noteB (b :: r) := by subst c2; rw [runL_cons]; simp [noteB]
     rw [if_pos c2] at h ⊢
     subst c2
     rcases run_note_end r with h0 | ⟨y, h0⟩
     ·rw [h0] at h; cases h
     ·have hlen : runL noteB (35 :: r) < (35 :: r).length := by
       have := congrArg List.length h0
       simp only [List.length_drop, List.length_cons] at this ⊢
       omega
      have hrun : runL noteB (35 :: (r ++ z)) = runL noteB (35 :: r) := by
       have e1 : 35 :: (r ++ z) = (35 :: r).take (runL noteB (35 :: r)) ++ (((35 :: r).drop (runL noteB (35 :: r))) ++ z) := by
        rw [← List.append_assoc, List.take_append_drop]; rfl
       rw [e1, h0]
       have hz2 : ∀ b r', (10 :: y) ++ z = b :: r' → noteB b = false := by
        intro b r' hb
        injection hb with hb _
        subst hb
        decide
       have := run_cut noteB ((10 :: y) ++ z) hz2 (35 :: r) (runL noteB (35 :: r)) (Nat.le_refl _)
       rw [this]
      rw [hrun, ← List.cons_append, List.drop_append_of_le_length (by omega)]
      exact ih _ _ _ _ (by simp only [List.length_drop, List.length_cons]; omega) hz h
    ·rw [if_neg c2] at h ⊢
     have ht : tokL (b :: (r ++ z)) = tokL (b :: r) := tok_then (b :: r) z (by simp) hz
     rw [ht]
     by_cases c3 : (tokL (b :: r)).2.2 ≠ 0
     ·rw [if_pos c3] at h ⊢; exact h
     ·rw [if_neg c3] at h ⊢
      have hp := tokL_len (b :: r) (by simp) (by simpa using c3)
      rw [← List.cons_append, List.drop_append_of_le_length hp.2]
      cases hy : lexAt (k + (tokL (b :: r)).2.1) ((b :: r).drop (tokL (b :: r)).2.1) with
      | ok v => rw [hy] at h; cases h
      | error e2 =>
       rw [hy] at h
       rw [ih _ _ z e2 (by simp only [List.length_drop, List.length_cons]; omega) hz hy]
       exact h
theorem lexC_bad {l : List UInt8} {c : Nat} (hx : lexC l = .error c) (z : List UInt8) (hz : Stops z) : lexC (l ++ z) = .error c := by
 cases hl : lexAt 0 l with
 | ok t => unfold lexC at hx; rw [hl] at hx; cases hx
 | error e =>
  unfold lexC at hx ⊢
  rw [hl] at hx
  rw [lexAt_bad_then l.length 0 l z e (Nat.le_refl _) hz hl]
  exact hx
def lineT : Tok := ⟨4, 0, [], 0⟩
theorem lexC_ten (z : List UInt8) : lexC (10 :: z) = (lexC z).map ([lineT] ++ ·) := by
 unfold lexC
 rw [lexAt_cons, if_neg (by decide), if_neg (by decide), tok_line (10 :: z) rfl, if_neg (by decide)]
 show bareL ((lexAt _ _).map ([_] ++ ·)) = _
 rw [bareL_map, lexC_at]
 rfl
theorem lexC_blank (b : UInt8) (z : List UInt8) (hb : b = 32 ∨ b = 9) : lexC (b :: z) = lexC z := by
 unfold lexC
 rw [lexAt_cons, if_pos hb, lexC_at]
 rfl
theorem stops_ten (z : List UInt8) : Stops (10 :: z) := .inr ⟨10, z, rfl, by simp⟩
theorem mapE_map {α : Type} (x : Except Nat (List α)) (a b : List α) : (x.map (b ++ ·)).map (a ++ ·) = x.map ((a ++ b) ++ ·) := by cases x <;> simp [Except.map]
theorem lexC_line (l z : List UInt8) : lexC (l ++ 10 :: z) = match lexC l with
  | .error c => .error c
  | .ok x => (lexC z).map ((x ++ [lineT]) ++ ·) := by
 cases hl : lexC l with
 | error c => exact lexC_bad hl _ (stops_ten z)
 | ok x =>
  rw [lexC_then hl _ (stops_ten z) (.inl (.inr ⟨z, rfl⟩)), lexC_ten, mapE_map]
theorem split_at (t : Tok) (ht : notLine t = false) (y : List Tok) : ∀ (x own : List Tok), splitA own (x ++ t :: y) = splitA own x ++ splitA [] y := by
 intro x
 induction x with
 | nil =>
  intro own
  rw [List.nil_append, splitA, splitA, ht]
  by_cases h : own = []
  ·subst h; rfl
  ·simp [h]
 | cons a x ih =>
  intro own
  rw [List.cons_append, splitA, splitA]
  by_cases h : notLine a = true
  ·rw [if_pos h, if_pos h]; exact ih _
  ·rw [if_neg h, if_neg h]
   by_cases h2 : own = []
   ·rw [if_pos h2, if_pos h2]; exact ih _
   ·rw [if_neg h2, if_neg h2, ih]; rfl
theorem split_line (x y : List Tok) (own : List Tok) : splitA own ((x ++ [lineT]) ++ y) = splitA own x ++ splitA [] y := by
 rw [List.append_assoc]; exact split_at lineT rfl y x own
theorem split_all (x : List Tok) : ∀ own, (∀ t ∈ x, notLine t = true) → splitA own x = if own ++ x = [] then [] else [own ++ x] := by
 induction x with
 | nil => intro own _; rw [splitA, List.append_nil]
 | cons a x ih =>
  intro own h
  rw [splitA, if_pos (h a (by simp)), ih _ (fun t ht => h t (by simp [ht])), List.append_assoc]
  rfl
end
section
open Go
def linesC (l : List UInt8) : Except Nat (List (List Tok)) := (lexC l).map (splitA [])
theorem linesC_line (l z : List UInt8) : linesC (l ++ 10 :: z) = match lexC l with
  | .error c => .error c
  | .ok x => (linesC z).map (splitA [] x ++ ·) := by
 unfold linesC
 rw [lexC_line]
 cases lexC l with
 | error c => rfl
 | ok x =>
  dsimp only
  cases lexC z with
  | error c => rfl
  | ok y =>
   show Except.ok _ = Except.ok _
   rw [split_line]
/-- A text's program, its places apart, by its lines. -/
theorem parse_lines {l : List UInt8} (h : l.length ≤ 65536) : bareE Prg.bare (parseL l) = match linesC l with
  | .error c => .error (0, c)
  | .ok ls => linesQ ls Prg.none 0 false := by
 rw [parse_C h]
 unfold linesC
 cases lexC l <;> rfl
def outT : Tok := ⟨1, 0, [111, 117, 116], 0⟩
def openT : Tok := ⟨3, 0, [40], 0⟩
def closeT : Tok := ⟨3, 0, [41], 0⟩
theorem lexC_tok (l : List UInt8) (b : UInt8) (r : List UInt8) (hb : ¬ (b = 32 ∨ b = 9)) (hc : b ≠ 35) (t : Tok) (n : Nat) (ht : tokL (b :: r) = (t, n, 0)) (ha : t.at_ = 0) (hl : (b :: r).drop n = l) :
  lexC (b :: r) = (lexC l).map ([t] ++ ·) := by
 unfold lexC
 rw [lexAt_cons, if_neg hb, if_neg hc, ht, if_neg (by simp), hl]
 show bareL ((lexAt _ _).map ([_] ++ ·)) = _
 rw [bareL_map, lexC_at]
 have : ({ t with at_ := ((0 : Nat) : Int) } : Tok).bare = t := by
  cases t
  simp only at ha
  subst ha
  rfl
 rw [List.map_singleton, this]
 rfl
theorem tok_out (z : List UInt8) : tokL (111 :: 117 :: 116 :: 32 :: z) = (outT, 3, 0) := by
 have hr : runL alnumB (111 :: 117 :: 116 :: 32 :: z) = 3 := by rw [runL_cons, runL_cons, runL_cons, runL_cons]; rfl
 rw [tok_word _ (by simp) (by rw [List.headD_cons]; decide), hr]
 rfl
theorem tok_sign1 (b : UInt8) (z : List UInt8) (h1 : b ≠ 10) (h2 : letterB b = false) (h3 : digitB b = false) (h4 : b ≠ 95) (h5 : signB b = true) (h6 : b ≠ 60 ∧ b ≠ 62) : tokL (b :: z) = (⟨3, 0, [b], 0⟩, 1, 0) := by
 have hn : numL (b :: z) = (0, 0, 0) := by
  rw [num_plain _ (by simpa using h4), runL_cons, h3]
  rfl
 have hs : signL (b :: z) = 1 := by
  cases z with
  | nil => rw [sign_one b [] (by simp), if_pos h5]
  | cons c r =>
   rw [sign_two, ne_beq h6.1, ne_beq h6.2, if_neg (by simp), if_pos h5]
 rw [tok_rest _ (by simpa using h1) (by simpa using h2), hn, hs]
 rfl
theorem lexC_out (z : List UInt8) : lexC (111 :: 117 :: 116 :: 32 :: z) = (lexC z).map ([outT] ++ ·) := by
 rw [lexC_tok (32 :: z) _ _ (by decide) (by decide) outT 3 (tok_out z) rfl rfl, lexC_blank 32 z (.inl rfl)]
theorem lexC_open (z : List UInt8) : lexC (40 :: z) = (lexC z).map ([openT] ++ ·) :=
 lexC_tok z _ _ (by decide) (by decide) openT 1 (tok_sign1 40 z (by decide) (by decide) (by decide) (by decide) (by decide) (by decide)) rfl rfl
theorem bareE_eq_ok {q : Prg} {x : Except Fault Prg} (h : bareE Prg.bare x = .ok q) : ∃ p, x = .ok p ∧ p.bare = q := by
 cases x with
 | error e => cases h
 | ok p => injection h with h; exact ⟨p, rfl, h⟩
def nones : List (Option Itm) → Nat
 | [] => 0
 | none :: s => nones s + 1
 | some _ :: s => nones s
theorem nones_some (l : List Itm) (s : List (Option Itm)) : nones (l.map some ++ s) = nones s := by
 induction l with
 | nil => rfl
 | cons a l ih => exact ih
theorem fin_split (todo : List (Option Itm)) : ∀ out, ∃ l rest, todo = l.map some ++ rest ∧ finP todo out = (out ++ l, rest) ∧ (rest = [] ∨ ∃ s, rest = none :: s) := by
 induction todo with
 | nil => intro out; exact ⟨[], [], rfl, by rw [finP_nil, List.append_nil], .inl rfl⟩
 | cons x s ih =>
  intro out
  cases x with
  | none => exact ⟨[], none :: s, rfl, by rw [finP_none, List.append_nil], .inr ⟨s, rfl⟩⟩
  | some it =>
   obtain ⟨l, rest, h1, h2, h3⟩ := ih (out ++ [it])
   refine ⟨it :: l, rest, by rw [h1]; rfl, ?_, h3⟩
   show finP s (out ++ [it]) = _
   rw [h2]
   simp
end
section
open Go
def colT : Tok := ⟨3, 0, [58], 0⟩
end
end Go.Proofs.YtknnleiinhdklaaGreatDoor
