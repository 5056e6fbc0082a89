/-
  Plain Lean, no program: an expression as the document tells it (by recursion) is what the machine makes of it. No condition.   Plain Lean, no program: the lines of a text, step by step; verbs, names. No condition.   Walks of package lex: letter, digit, the two closures, run, sign. Each leaves the world as it was. Condition: a text is no longer than a string may be.   Walks of package lex: sign, number. Condition: the text is not empty; for number: no longer than 65536 bytes, and strconv.ErrRange holds an error.
-/
import Derived.WalkKit
import Derived.WalkSpells
import Derived.WalkLawsBesides
import Derived.Lib.Hide
import Derived.Shelf.Abstract
import Derived.Test.YtknnleiinhdklaaGreatDoorProg
import Derived.Test.YtknnleiinhdklaaGreatDoorShelf
import Derived.Test.YtknnleiinhdklaaGreatDoorPk01
namespace Go.Proofs.YtknnleiinhdklaaGreatDoor
section
open Go
theorem dropWhile_len (p : Tok → Bool) (l : List Tok) : (l.dropWhile p).length ≤ l.length := by
 induction l with
 | nil => simp
 | cons a l ih => rw [List.dropWhile_cons]; split <;> simp <;> omega
theorem phrase_len {left : Bool} {t : Tok} {r r2 : List Tok} {it : Itm} (h : phraseP left t r = .ok (it, r2)) : r2.length ≤ r.length := by
 unfold phraseP at h
 split at h
 ·split at h
  ·cases h
  ·injection h with h; injection h with _ h; subst h; simp
 ·split at h
  ·split at h
   ·cases h
   ·injection h with h; injection h with _ h; subst h; simp
  ·split at h
   ·cases h
   ·injection h with h; injection h with _ h; subst h; simp
theorem runM_two (e : Int) : ∀ (f g : Nat) (m : Bool) (r : List Tok) (out : List Itm) (todo : List (Option Itm)) (op : Nat), r.length < f → r.length < g → runM e f m r out todo op = runM e g m r out todo op := by
 intro f
 induction f with
 | zero => intro g m r out todo op h; omega
 | succ f ih =>
  intro g m r out todo op hf hg
  cases g with
  | zero => omega
  | succ g =>
   cases m with
   | true =>
    cases r with
    | nil => rfl
    | cons t r =>
     simp only [List.length_cons] at hf hg
     have hd := dropWhile_len isNum r
     simp only [runM]
     cases hp : phraseP false t r with
     | error x => rw [ih g true r _ _ _ (by omega) (by omega), ih g false (r.dropWhile isNum) _ _ _ (by omega) (by omega), ih g false r _ _ _ (by omega) (by omega)]
     | ok q =>
      obtain ⟨it, r2⟩ := q
      have hl := phrase_len hp
      dsimp only
      rw [ih g true r2 _ _ _ (by omega) (by omega), ih g true r _ _ _ (by omega) (by omega), ih g false (r.dropWhile isNum) _ _ _ (by omega) (by omega), ih g false r _ _ _ (by omega) (by omega)]
   | false =>
    cases r with
    | nil => rfl
    | cons t r =>
     simp only [List.length_cons] at hf hg
     simp only [runM]
     cases hp : phraseP true t r with
     | error x => rw [ih g false r _ _ _ (by omega) (by omega)]
     | ok q =>
      obtain ⟨it, r2⟩ := q
      have hl := phrase_len hp
      dsimp only
      rw [ih g true r2 _ _ _ (by omega) (by omega), ih g false r _ _ _ (by omega) (by omega)]
/-- The machine, with as much fuel as it takes. -/
def runX (e : Int) (m : Bool) (r : List Tok) (out : List Itm) (todo : List (Option Itm)) (op : Nat) : Except Fault (List Itm) := runM e (r.length + 1) m r out todo op
theorem runM_X (e : Int) (f : Nat) (m : Bool) (r : List Tok) (out : List Itm) (todo : List (Option Itm)) (op : Nat) (h : r.length < f) : runM e f m r out todo op = runX e m r out todo op := runM_two e f _ m r out todo op h (Nat.lt_succ_self _)
theorem runX_end (e : Int) (out : List Itm) (todo : List (Option Itm)) (op : Nat) : runX e true [] out todo op = .error (e, 42) := rfl
theorem runX_stop (e : Int) (out : List Itm) (todo : List (Option Itm)) (op : Nat) : runX e false [] out todo op = if 0 < op then .error (e, 42) else .ok (finP todo out).1 := rfl
theorem runX_cons (e : Int) (t : Tok) (r : List Tok) (out : List Itm) (todo : List (Option Itm)) (op : Nat) : runX e true (t :: r) out todo op =
  if t.kind ≠ 2 ∧ t.kind ≠ 4 ∧ verbB t.word = true then
   match phraseP false t r with
   | .error x => .error x
   | .ok (it, r2) => runX e true r2 out (some it :: todo) op
  else if signIs [40] t then if op = 32 then .error (t.at_, 44) else runX e true r out (none :: todo) (op + 1)
  else if isNum t then runX e false (r.dropWhile isNum) (out ++ [⟨1, t.at_, 0, [], t.n :: (r.takeWhile isNum).map Tok.n⟩]) todo op
  else if t.kind = 1 ∧ nameB t.word = true then runX e false r (out ++ [⟨2, t.at_, 0, t.word, []⟩]) todo op
  else if t.kind = 1 then .error (t.at_, 41)
  else .error (t.at_, 42) := by
 have hd := dropWhile_len isNum r
 show runM e (r.length + 2) true (t :: r) out todo op = _
 simp only [runM]
 cases hp : phraseP false t r with
 | error x => rw [runM_X e _ true r _ _ _ (by omega), runM_X e _ false (r.dropWhile isNum) _ _ _ (by omega), runM_X e _ false r _ _ _ (by omega)]
 | ok q =>
  obtain ⟨it, r2⟩ := q
  have hl := phrase_len hp
  dsimp only
  rw [runM_X e _ true r2 _ _ _ (by omega), runM_X e _ true r _ _ _ (by omega), runM_X e _ false (r.dropWhile isNum) _ _ _ (by omega), runM_X e _ false r _ _ _ (by omega)]
theorem runX_behind (e : Int) (t : Tok) (r : List Tok) (out : List Itm) (todo : List (Option Itm)) (op : Nat) : runX e false (t :: r) out todo op =
  if 0 < op ∧ signIs [41] t = true then runX e false r (finP todo out).1 (finP todo out).2.tail (op - 1)
  else if t.kind = 2 ∨ verbB t.word = false then .error (t.at_, 46)
  else match phraseP true t r with
   | .error x => .error x
   | .ok (it, r2) => runX e true r2 out (some it :: todo) op := by
 show runM e (r.length + 2) false (t :: r) out todo op = _
 simp only [runM]
 cases hp : phraseP true t r with
 | error x => rw [runM_X e _ false r _ _ _ (by omega)]
 | ok q =>
  obtain ⟨it, r2⟩ := q
  have hl := phrase_len hp
  dsimp only
  rw [runM_X e _ true r2 _ _ _ (by omega), runM_X e _ false r _ _ _ (by omega)]
theorem finP_none (s : List (Option Itm)) (out : List Itm) : finP (none :: s) out = (out, none :: s) := rfl
theorem finP_nil (out : List Itm) : finP [] out = (out, []) := rfl
theorem phrase_mem {left : Bool} {t : Tok} {r r2 : List Tok} {it : Itm} (h : phraseP left t r = .ok (it, r2)) : ∀ x ∈ r2, x ∈ r := by
 unfold phraseP at h
 split at h
 ·split at h
  ·cases h
  ·injection h with h; injection h with _ h; subst h; simp
 ·split at h
  ·split at h
   ·cases h
   ·injection h with h; injection h with _ h; subst h; intro x hx; simp [hx]
  ·split at h
   ·cases h
   ·injection h with h; injection h with _ h; subst h; simp
theorem dropWhile_mem (p : Tok → Bool) (l : List Tok) : ∀ x ∈ l.dropWhile p, x ∈ l := by
 induction l with
 | nil => simp
 | cons a l ih =>
  rw [List.dropWhile_cons]
  split
  ·intro x hx; simp [ih x hx]
  ·intro x hx; exact hx
end
section
open Go
theorem tail_len (t : Tok) (r : List Tok) : ((t :: r).dropWhile notLine).tail.length ≤ r.length := by
 have h := dropWhile_len notLine r
 rw [List.dropWhile_cons]
 split
 ·rw [List.length_tail]; omega
 ·simp
theorem linesP_two (n : Int) : ∀ (f g : Nat) (r : List Tok) (p : Prg) (lines : Nat) (over : Bool), r.length ≤ f → r.length ≤ g → linesP n f r p lines over = linesP n g r p lines over := by
 intro f
 induction f with
 | zero =>
  intro g r p lines over h _
  have : r = [] := List.length_eq_zero_iff.1 (by omega)
  subst this
  cases g <;> rfl
 | succ f ih =>
  intro g r p lines over hf hg
  cases r with
  | nil => cases g <;> rfl
  | cons t r =>
   cases g with
   | zero => simp at hg
   | succ g =>
    simp only [List.length_cons] at hf hg
    have ht := tail_len t r
    simp only [linesP]
    rw [ih g _ p lines over (by omega) (by omega)]
    cases hi : intoP (placeP n ((t :: r).dropWhile notLine)) ((t :: r).takeWhile notLine) p lines over with
    | error x => rfl
    | ok q => dsimp only; rw [ih g _ q (lines + 1) (overP q) (by omega) (by omega)]
def linesX (n : Int) (r : List Tok) (p : Prg) (lines : Nat) (over : Bool) : Except Fault Prg := linesP n r.length r p lines over
theorem linesX_nil (n : Int) (p : Prg) (lines : Nat) (over : Bool) : linesX n [] p lines over = if over then .ok p else .error (n, 42) := rfl
theorem linesX_cons (n : Int) (t : Tok) (r : List Tok) (p : Prg) (lines : Nat) (over : Bool) : linesX n (t :: r) p lines over =
  if (t :: r).takeWhile notLine = [] then linesX n ((t :: r).dropWhile notLine).tail p lines over
  else match intoP (placeP n ((t :: r).dropWhile notLine)) ((t :: r).takeWhile notLine) p lines over with
   | .error x => .error x
   | .ok q => linesX n ((t :: r).dropWhile notLine).tail q (lines + 1) (overP q) := by
 have ht := tail_len t r
 show linesP n (r.length + 1) (t :: r) p lines over = _
 simp only [linesP]
 rw [linesP_two n r.length _ _ p lines over (by omega) (Nat.le_refl _)]
 cases hi : intoP (placeP n ((t :: r).dropWhile notLine)) ((t :: r).takeWhile notLine) p lines over with
 | error x => rfl
 | ok q => dsimp only; rw [linesP_two n r.length _ _ q (lines + 1) (overP q) (by omega) (Nat.le_refl _)]; rfl
theorem takeWhile_own (own : List Tok) (t : Tok) (r : List Tok) (ho : ∀ x ∈ own, notLine x = true) (ht : notLine t = false) : (own ++ t :: r).takeWhile notLine = own ∧ (own ++ t :: r).dropWhile notLine = t :: r := by
 induction own with
 | nil => simp [ht]
 | cons a own ih =>
  have ha := ho a (by simp)
  have := ih (fun x hx => ho x (by simp [hx]))
  rw [List.cons_append, List.takeWhile_cons, List.dropWhile_cons, ha]
  simp [this]
theorem takeWhile_all_own (own : List Tok) (ho : ∀ x ∈ own, notLine x = true) : own.takeWhile notLine = own ∧ own.dropWhile notLine = [] := by
 induction own with
 | nil => simp
 | cons a own ih =>
  have ha := ho a (by simp)
  have := ih (fun x hx => ho x (by simp [hx]))
  rw [List.takeWhile_cons, List.dropWhile_cons, ha]
  simp [this]
/-- A line's end, the line's tokens being known. -/
theorem linesX_line (n : Int) (own : List Tok) (t : Tok) (r : List Tok) (p : Prg) (lines : Nat) (over : Bool) (ho : ∀ x ∈ own, notLine x = true) (ht : notLine t = false) :
  linesX n (own ++ t :: r) p lines over = if own = [] then linesX n r p lines over
   else match intoP t.at_ own p lines over with
    | .error x => .error x
    | .ok q => linesX n r q (lines + 1) (overP q) := by
 obtain ⟨h1, h2⟩ := takeWhile_own own t r ho ht
 cases hc : own ++ t :: r with
 | nil => simp at hc
 | cons a b =>
  rw [linesX_cons, ← hc, h1, h2]
  rfl
theorem linesX_last (n : Int) (own : List Tok) (p : Prg) (lines : Nat) (over : Bool) (ho : ∀ x ∈ own, notLine x = true) (hne : own ≠ []) :
  linesX n own p lines over = match intoP n own p lines over with
    | .error x => .error x
    | .ok q => linesX n [] q (lines + 1) (overP q) := by
 obtain ⟨h1, h2⟩ := takeWhile_all_own own ho
 cases own with
 | nil => exact absurd rfl hne
 | cons a b =>
  rw [linesX_cons, h1, h2, if_neg hne]
  rfl
end
section
open Go.RowKit Go.Shelf
theorem ret_bool {a b : Bool} (h : a = b) : Ending.returned (.bool a) = .returned (.bool b) := by rw [h]
theorem ret_int {k : IntKind} {a b : Int} (h : a = b) : Ending.returned (.int k a) = .returned (.int k b) := by rw [h]
theorem letter_hi (b : UInt8) (h : (97 : Int) ≤ bits .or .u8 b.toNat 32) : decide (bits .or .u8 b.toNat 32 ≤ 122) = letterB b := by
 have H : ∀ n : Fin 256, (97 : Int) ≤ bits .or .u8 (n.val : Int) 32 → decide (bits .or .u8 (n.val : Int) 32 ≤ 122) = letterB (UInt8.ofNat n.val) := by decide +kernel
 have := H ⟨b.toNat, b.toNat_lt⟩ h
 rwa [UInt8.ofNat_toNat] at this
theorem letter_lo (b : UInt8) (h : bits .or .u8 b.toNat 32 < 97) : false = letterB b := by
 have H : ∀ n : Fin 256, bits .or .u8 (n.val : Int) 32 < 97 → false = letterB (UInt8.ofNat n.val) := by decide +kernel
 have := H ⟨b.toNat, b.toNat_lt⟩ h
 rwa [UInt8.ofNat_toNat] at this
theorem digit_hi (b : UInt8) (h : (48 : Int) ≤ b.toNat) : decide ((b.toNat : Int) ≤ 57) = digitB b := by
 have H : ∀ n : Fin 256, (48 : Int) ≤ (n.val : Int) → decide ((n.val : Int) ≤ 57) = digitB (UInt8.ofNat n.val) := by decide +kernel
 have := H ⟨b.toNat, b.toNat_lt⟩ h
 rwa [UInt8.ofNat_toNat] at this
theorem digit_lo (b : UInt8) (h : (b.toNat : Int) < 48) : false = digitB b := by
 have H : ∀ n : Fin 256, (n.val : Int) < 48 → false = digitB (UInt8.ofNat n.val) := by decide +kernel
 have := H ⟨b.toNat, b.toNat_lt⟩ h
 rwa [UInt8.ofNat_toNat] at this
theorem note_dec (b : UInt8) : ((b.toNat : Int) != 10) = noteB b := by
 have H : ∀ n : Fin 256, ((n.val : Int) != 10) = noteB (UInt8.ofNat n.val) := by decide +kernel
 have := H ⟨b.toNat, b.toNat_lt⟩
 rwa [UInt8.ofNat_toNat] at this
theorem letter_any (b : UInt8) (w : World) :
  Calls Tryz.prog 44 #[.int .u8 b.toNat] w fun e w' => e = .returned (.bool (letterB b)) ∧ w = w' := by
 go_enter Tryz.func44, Tryz.ntmps44
 go_wp2
 ·go_ret
  exact ⟨ret_bool (letter_hi b ‹_›), rfl⟩
 ·go_ret
  exact ⟨ret_bool (letter_lo b ‹_›), rfl⟩
theorem digit_any (b : UInt8) (w : World) :
  Calls Tryz.prog 46 #[.int .u8 b.toNat] w fun e w' => e = .returned (.bool (digitB b)) ∧ w = w' := by
 go_enter Tryz.func46, Tryz.ntmps46
 go_wp2
 ·go_ret
  exact ⟨ret_bool (digit_hi b ‹_›), rfl⟩
 ·go_ret
  exact ⟨ret_bool (digit_lo b ‹_›), rfl⟩
theorem note_any (b : UInt8) (w : World) :
  Calls Tryz.prog 25 #[.int .u8 b.toNat] w fun e w' => e = .returned (.bool (noteB b)) ∧ w = w' := by
 go_enter Tryz.func25, Tryz.ntmps25
 go_wp2
 go_ret
 exact ⟨ret_bool (note_dec b), rfl⟩
theorem alnum_any (b : UInt8) (w : World) :
  Calls Tryz.prog 45 #[.int .u8 b.toNat] w fun e w' => e = .returned (.bool (alnumB b)) ∧ w = w' := by
 by_cases hl : letterB b = true
 ·go_enter Tryz.func45, Tryz.ntmps45
  go_wp2_with (first | (go_at_call 44; refine (letter_any _ _).mono ?_; rintro e w' ⟨rfl, rfl⟩) | (go_at_call 46; refine (digit_any _ _).mono ?_; rintro e w' ⟨rfl, rfl⟩))
  go_ret
  exact ⟨ret_bool (by rw [alnumB, hl]; rfl), rfl⟩
 ·have hl' : letterB b = false := by simpa using hl
  clear hl
  go_enter Tryz.func45, Tryz.ntmps45
  go_wp2_with (first | (go_at_call 44; refine (letter_any _ _).mono ?_; rintro e w' ⟨rfl, rfl⟩) | (go_at_call 46; refine (digit_any _ _).mono ?_; rintro e w' ⟨rfl, rfl⟩))
  go_ret
  exact ⟨ret_bool (by rw [alnumB, hl']; rfl), rfl⟩
set_option maxHeartbeats 400000 in
theorem run_any (f : FuncId) (p : UInt8 → Bool) (s : ByteArray) (w : World) (hs : s.size ≤ maxLen)
  (he : ∀ args w, (callFunc f args).run Tryz.prog w = .ok (.enter f args) w)
  (hf : ∀ (b : UInt8) (w : World), Calls Tryz.prog f #[.int .u8 b.toNat] w fun e w' => e = .returned (.bool (p b)) ∧ w = w') :
  Calls Tryz.prog 24 #[.string s, .func (.func f) #[] #[]] w fun e w' => e = .returned (.int .i64 (runL p s.data.toList)) ∧ w = w' := by
 unfold maxLen at hs
 have HF := Lib.hid hf
 clear hf
 go_enter Tryz.func24, Tryz.ntmps24
 go_wp2
 go_loop [5] (fun i => ∃ k : Nat, k ≤ s.size ∧ i = .int .i64 k ∧ runL p s.data.toList = k + runL p (s.data.toList.drop k)) (fun i => s.size - (intOf i).toNat)
 case atStart => exact ⟨0, Nat.zero_le _, rfl, by simp⟩
 case round =>
  obtain ⟨k, hk, rfl, hp⟩ := hrel
  have HP := Lib.hid hp
  clear hp
  by_cases hlt : k < s.size
  ·have hst := Lib.hid (runL_drop p s k hlt)
   by_cases hpk : p s[k] = true
   ·go_wp2_with (go_at_fn f; refine (HF.out _ _).mono ?_; rintro e w' ⟨rfl, rfl⟩)
    go_round
    case rel => exact ⟨k + 1, by omega, by go_num, by rw [HP.out, hst.out, if_pos hpk]; omega⟩
    case measure => simp [intOf]; omega
   ·have hpk' : p s[k] = false := by simpa using hpk
    go_wp2_with (go_at_fn f; refine (HF.out _ _).mono ?_; rintro e w' ⟨rfl, rfl⟩)
    go_ret
    exact ⟨by rw [HP.out, hst.out, if_neg hpk]; rfl, rfl⟩
  ·have : k = s.size := by omega
   subst this
   go_wp2
   go_ret
   exact ⟨by rw [HP.out, List.drop_of_length_le (by rw [size_list]; exact Nat.le_refl _)]; rfl, rfl⟩
theorem run_letter (s : ByteArray) (w : World) (hs : s.size ≤ maxLen) : Calls Tryz.prog 24 #[.string s, .func (.func 45) #[] #[]] w fun e w' => e = .returned (.int .i64 (runL alnumB s.data.toList)) ∧ w = w' :=
 run_any 45 alnumB s w hs (enters_of Tryz.func45 (by kernel_rfl) rfl) alnum_any
theorem run_digit (s : ByteArray) (w : World) (hs : s.size ≤ maxLen) : Calls Tryz.prog 24 #[.string s, .func (.func 46) #[] #[]] w fun e w' => e = .returned (.int .i64 (runL digitB s.data.toList)) ∧ w = w' :=
 run_any 46 digitB s w hs (enters_of Tryz.func46 (by kernel_rfl) rfl) digit_any
theorem run_note (s : ByteArray) (w : World) (hs : s.size ≤ maxLen) : Calls Tryz.prog 24 #[.string s, .func (.func 25) #[] #[]] w fun e w' => e = .returned (.int .i64 (runL noteB s.data.toList)) ∧ w = w' :=
 run_any 25 noteB s w hs (enters_of Tryz.func25 (by kernel_rfl) rfl) note_any
end
section
open Go.RowKit Go.Shelf
theorem signs_dec (b : UInt8) : decide ((0 : Int) ≤ Lib.indexByte [43, 45, 42, 37, 124, 61, 126, 60, 62, 47, 92, 46, 58, 40, 41] (b.toNat : Int).toNat.toUInt8) = signB b := by
 have H : ∀ n : Fin 256, decide ((0 : Int) ≤ Lib.indexByte [43, 45, 42, 37, 124, 61, 126, 60, 62, 47, 92, 46, 58, 40, 41] (n.val : Int).toNat.toUInt8) = signB (UInt8.ofNat n.val) := by decide +kernel
 have := H ⟨b.toNat, b.toNat_lt⟩
 rwa [UInt8.ofNat_toNat] at this
theorem head_get (s : ByteArray) (h : 0 < s.size) : s.data.toList.headD 0 = s[0] := by
 have e : s.data.toList = s[0] :: s.data.toList.drop 1 := by
  have := List.drop_eq_getElem_cons (i := 0) (l := s.data.toList) h
  rw [List.drop_zero] at this
  exact this
 rw [e]; rfl
theorem index_signs (b : UInt8) (w : World) : Calls Tryz.prog 77 #[.string ⟨#[43, 45, 42, 37, 124, 61, 126, 60, 62, 47, 92, 46, 58, 40, 41]⟩, .int .u8 b.toNat] w fun e w' => ∃ q : Int, (0 ≤ q ↔ signB b = true) ∧ e = .returned (.int .i64 q) ∧ w = w' :=
 (Tryz.strings_IndexByte ⟨#[43, 45, 42, 37, 124, 61, 126, 60, 62, 47, 92, 46, 58, 40, 41]⟩ b.toNat w).mono fun e w' ⟨he, hw⟩ => ⟨_, by rw [← signs_dec b]; simp, he, hw.symm⟩
set_option maxHeartbeats 400000 in
theorem sign_any (s : ByteArray) (w : World) (h0 : 0 < s.size) :
  Calls Tryz.prog 48 #[.string s] w fun e w' => e = .returned (.int .i64 (signL s.data.toList)) ∧ w = w' := by
 have hd := head_get s h0
 have c1 : ∀ w, Calls Tryz.prog 76 #[.string s, .string ⟨#[60, 61]⟩] w fun e w' => e = .returned (.bool (Lib.hasPrefix s.data.toList [60, 61])) ∧ w = w' := fun w => (Tryz.strings_HasPrefix s _ w).mono fun e w' ⟨he, hw⟩ => ⟨he, hw.symm⟩
 have c2 : ∀ w, Calls Tryz.prog 76 #[.string s, .string ⟨#[62, 61]⟩] w fun e w' => e = .returned (.bool (Lib.hasPrefix s.data.toList [62, 61])) ∧ w = w' := fun w => (Tryz.strings_HasPrefix s _ w).mono fun e w' ⟨he, hw⟩ => ⟨he, hw.symm⟩
 have C1 := Lib.hid c1
 have C2 := Lib.hid c2
 have fin : Hid (signL s.data.toList = if Lib.hasPrefix s.data.toList [60, 61] || Lib.hasPrefix s.data.toList [62, 61] then 2 else if signB s[0] then 1 else 0) := by
  rw [← hd]; exact Lib.hid rfl
 clear c1 c2 hd
 generalize Lib.hasPrefix s.data.toList [60, 61] = p1 at *
 generalize Lib.hasPrefix s.data.toList [62, 61] = p2 at *
 cases p1
 ·cases p2
  ·cases hb : signB s[0]
   all_goals
    have HB := Lib.hid hb
    clear hb
    go_enter Tryz.func48, Tryz.ntmps48
    go_wp2_with fail
    refine (C1.out _).mono ?_
    rintro e w1 ⟨rfl, rfl⟩
    go_wp2_with fail
    refine (C2.out _).mono ?_
    rintro e w2 ⟨rfl, rfl⟩
    go_wp2_with fail
    refine (index_signs _ _).mono ?_
    rintro e w3 ⟨q, hq, rfl, rfl⟩
    rw [HB.out] at hq
    have hq' : 0 ≤ q ∨ q < 0 := by omega
    simp at hq
    go_wp2
    go_ret
    refine ⟨ret_int ?_, rfl⟩
    rw [fin.out, HB.out]
    rfl
  ·go_enter Tryz.func48, Tryz.ntmps48
   go_wp2_with fail
   refine (C1.out _).mono ?_
   rintro e w1 ⟨rfl, rfl⟩
   go_wp2_with fail
   refine (C2.out _).mono ?_
   rintro e w2 ⟨rfl, rfl⟩
   go_wp2
   go_ret
   exact ⟨ret_int (by rw [fin.out]; rfl), rfl⟩
 ·go_enter Tryz.func48, Tryz.ntmps48
  go_wp2_with fail
  refine (C1.out _).mono ?_
  rintro e w1 ⟨rfl, rfl⟩
  go_wp2
  go_ret
  exact ⟨ret_int (by rw [fin.out]; rfl), rfl⟩
/-- strconv.ErrRange holds an error. -/
def ErrIs (w : World) : Prop := ∃ tp p, w.var? Tryz.prog "strconv.ErrRange" = some #[.iface tp p]
/-- What ParseInt gives: the number and nil, or some number and an error. -/
def Parsed (l : List UInt8) (w : World) (e : Ending) (w' : World) : Prop :=
 (∃ v, Lib.parseIntB 64 l = .ok v ∧ e = .returned (.tuple #[.int .i64 v, .nilIface]) ∧ Below w.heap.size w w') ∨
 (Lib.parseIntB 64 l = .range ∧ ∃ v t p, e = .returned (.tuple #[.int .i64 v, .iface t (.pointer (some p))]) ∧ Below w.heap.size w w')
theorem parse_any (s : ByteArray) (w : World) (hs : s.size ≤ 281474976710656) (hE : ErrIs w) (hn : Lib.parseIntB 64 s.data.toList = .range ∨ ∃ v, Lib.parseIntB 64 s.data.toList = .ok v) :
  Calls Tryz.prog 75 #[.string s, .int .i64 10, .int .i64 64] w (Parsed s.data.toList w) := by
 rcases hn with h | ⟨v, h⟩
 ·obtain ⟨tp, p, hv⟩ := hE
  refine (Tryz.strconv_ParseInt_10_at64_range_var s hs h tp p w hv).mono ?_
  rintro e w' ⟨N, he, _, _, hb⟩
  exact .inr ⟨h, _, _, _, he, hb⟩
 ·refine (Tryz.strconv_ParseInt_10_at64_ok s (by omega) v h w).mono ?_
  rintro e w' ⟨he, hw⟩
  refine .inl ⟨v, h, he, ?_⟩
  rcases hw with rfl | ⟨t, rfl⟩
  ·exact Below.refl _ _
  ·exact Lib.bytesWorld_below w _ t
theorem byte_ne (b c : UInt8) (h : b ≠ c) : ((b.toNat : Int) == (c.toNat : Int)) = false := by
 rw [beq_eq_false_iff_ne]; intro e; exact h (UInt8.toNat_inj.1 (by omega))
theorem head_eq (s : ByteArray) (h : 0 < s.size) (c : UInt8) : (s.data.toList.head? = some c) ↔ s[0] = c := by
 have := head_get s h
 cases hl : s.data.toList with
 | nil => rw [size_list, hl] at h; simp at h
 | cons a r => rw [hl] at this; simp at this; simp [this]
theorem concat_digits (m : List UInt8) (s : ByteArray) (n : Nat) : (mkS m ++ s.extract 0 n).data.toList = m ++ s.data.toList.take n := by
 rw [extract_mkS]; simp [ByteArray.data_append]
set_option maxHeartbeats 400000 in
theorem number_any (s : ByteArray) (w : World) (h0 : 0 < s.size) (hs : s.size ≤ 65536) (hE : ErrIs w) :
  Calls Tryz.prog 47 #[.string s] w fun e w' => e = .returned (.tuple #[.int .i64 (numL s.data.toList).1, .int .i64 (numL s.data.toList).2.1, .int .i64 (numL s.data.toList).2.2]) ∧ Below w.heap.size w w' := by
 by_cases hm : s[0] = 95
 ·have hb : (((s[0]).toNat : Int) == 95) = true := by rw [hm]; rfl
  have ht : (s.extract 1 s.size).data.toList = s.data.toList.tail := by rw [extract_mkS, mkS_toList, size_list, List.take_length]; simp
  have hts : (s.extract 1 s.size).size = s.size - 1 := by simp
  have hN : numL s.data.toList = if runL digitB s.data.toList.tail = 0 then (0, 0, 0)
    else if decN (s.data.toList.tail.take (runL digitB s.data.toList.tail)) 0 ≤ 9223372036854775808 then (-(decN (s.data.toList.tail.take (runL digitB s.data.toList.tail)) 0 : Int), runL digitB s.data.toList.tail + 1, 0)
    else (0, 0, 32) := by rw [numL, if_pos ((head_eq s h0 95).2 hm)]
  have hlen : s.data.toList.tail.length = s.size - 1 := by rw [List.length_tail, ← size_list]
  have hrl := runL_le digitB s.data.toList.tail
  rw [hlen] at hrl
  have hrun := run_digit (s.extract 1 s.size) w (by rw [hts]; unfold maxLen; omega)
  rw [ht] at hrun
  have HN := Lib.hid hN
  have hall := Lib.hid (take_run_all digitB s.data.toList.tail)
  have hnee := Lib.hid (take_run_ne digitB s.data.toList.tail)
  have hcat := Lib.hid (concat_digits [45] (s.extract 1 s.size) (runL digitB s.data.toList.tail))
  rw [ht] at hcat
  clear ht
  have HR := Lib.hid hrun
  clear hrun hN hm
  generalize s.data.toList = S at *
  generalize S.tail = d at *
  generalize hr : runL digitB d = n at *
  clear hr
  by_cases hn : n = 0
  ·have hn' : ((n : Int) == 0) = true := by subst hn; rfl
   clear hlen
   go_enter Tryz.func47, Tryz.ntmps47
   go_wp2_with fail
   refine HR.out.mono ?_
   rintro e w1 ⟨rfl, rfl⟩
   go_wp2
   go_ret3
   exact ⟨by rw [HN.out, if_pos hn]; rfl, Below.refl _ _⟩
  ·have hn' : ((n : Int) == 0) = false := by rw [beq_eq_false_iff_ne]; omega
   have hsz : (mkS [45] ++ (s.extract 1 s.size).extract 0 n).size ≤ 281474976710656 := by
    rw [size_list, hcat.out]
    simp only [List.length_append, List.length_take, List.length_cons, List.length_nil]
    omega
   have hlaw := parseIntB64_minus (d.take n) (hnee.out hn) hall.out
   have hns : Lib.parseIntB 64 ([45] ++ d.take n) = .range ∨ ∃ v, Lib.parseIntB 64 ([45] ++ d.take n) = .ok v := by
    rw [show [45] ++ d.take n = 45 :: d.take n from rfl, hlaw]
    split
    ·exact .inr ⟨_, rfl⟩
    ·exact .inl rfl
   have hP := parse_any (mkS [45] ++ (s.extract 1 s.size).extract 0 n) w hsz hE (by rw [hcat.out]; exact hns)
   rw [hcat.out] at hP
   have HP := Lib.hid hP
   have HL := Lib.hid hlaw
   clear hP hlaw hns hsz hlen
   go_enter Tryz.func47, Tryz.ntmps47
   go_wp2_with fail
   refine HR.out.mono ?_
   rintro e w1 ⟨rfl, rfl⟩
   go_wp2_with fail
   refine HP.out.mono ?_
   intro e w2 hpost
   rcases hpost with ⟨v, hv, rfl, hbel⟩ | ⟨hv, v, t, p, rfl, hbel⟩
   ·have HV := Lib.hid hv
    clear hv
    go_wp2
    go_ret3
    refine ⟨?_, hbel⟩
    have e1 : decN (List.take n d) 0 ≤ 9223372036854775808 ∧ v = -(decN (List.take n d) 0 : Int) := by
     have h2 := HL.out.symm.trans HV.out
     split at h2
     ·rename_i hc; exact ⟨hc, by injection h2 with h2; exact h2.symm⟩
     ·cases h2
    rw [HN.out, if_neg hn, if_pos e1.1, e1.2]
    simp
   ·have HV := Lib.hid hv
    clear hv
    go_wp2
    go_ret3
    refine ⟨?_, hbel⟩
    have e1 : ¬ decN (List.take n d) 0 ≤ 9223372036854775808 := by
     intro hc
     have h2 := HL.out.symm.trans HV.out
     rw [if_pos hc] at h2
     cases h2
    rw [HN.out, if_neg hn, if_neg e1]
    rfl
 ·have hb : (((s[0]).toNat : Int) == 95) = false := byte_ne _ 95 hm
  have hN : numL s.data.toList = if runL digitB s.data.toList = 0 then (0, 0, 0)
    else if decN (s.data.toList.take (runL digitB s.data.toList)) 0 < 9223372036854775808 then ((decN (s.data.toList.take (runL digitB s.data.toList)) 0 : Int), runL digitB s.data.toList, 0)
    else (0, 0, 32) := by rw [numL, if_neg (fun h => hm ((head_eq s h0 95).1 h))]
  have hlen : s.data.toList.length = s.size := rfl
  have hrl := runL_le digitB s.data.toList
  rw [hlen] at hrl
  have hrun := run_digit s w (by unfold maxLen; omega)
  have HN := Lib.hid hN
  have hall := Lib.hid (take_run_all digitB s.data.toList)
  have hnee := Lib.hid (take_run_ne digitB s.data.toList)
  have hcat := Lib.hid (concat_digits [] s (runL digitB s.data.toList))
  have HR := Lib.hid hrun
  clear hrun hN hm
  generalize s.data.toList = S at *
  obtain ⟨d, rfl⟩ : ∃ d, d = S := ⟨_, rfl⟩
  generalize hr : runL digitB d = n at *
  clear hr
  by_cases hn : n = 0
  ·have hn' : ((n : Int) == 0) = true := by subst hn; rfl
   clear hlen
   go_enter Tryz.func47, Tryz.ntmps47
   go_wp2_with fail
   refine HR.out.mono ?_
   rintro e w1 ⟨rfl, rfl⟩
   go_wp2
   go_ret3
   exact ⟨by rw [HN.out, if_pos hn]; rfl, Below.refl _ _⟩
  ·have hn' : ((n : Int) == 0) = false := by rw [beq_eq_false_iff_ne]; omega
   have hsz : (mkS [] ++ s.extract 0 n).size ≤ 281474976710656 := by
    rw [size_list, hcat.out]
    simp only [List.length_append, List.length_take, List.length_nil]
    omega
   have hlaw := parseIntB64_plain (d.take n) (hnee.out hn) hall.out
   have hns : Lib.parseIntB 64 ([] ++ d.take n) = .range ∨ ∃ v, Lib.parseIntB 64 ([] ++ d.take n) = .ok v := by
    rw [show [] ++ d.take n = d.take n from rfl, hlaw]
    split
    ·exact .inr ⟨_, rfl⟩
    ·exact .inl rfl
   have hP := parse_any (mkS [] ++ s.extract 0 n) w hsz hE (by rw [hcat.out]; exact hns)
   rw [hcat.out] at hP
   have HP := Lib.hid hP
   have HL := Lib.hid hlaw
   clear hP hlaw hns hsz hlen
   go_enter Tryz.func47, Tryz.ntmps47
   go_wp2_with fail
   refine HR.out.mono ?_
   rintro e w1 ⟨rfl, rfl⟩
   go_wp2_with fail
   refine HP.out.mono ?_
   intro e w2 hpost
   rcases hpost with ⟨v, hv, rfl, hbel⟩ | ⟨hv, v, t, p, rfl, hbel⟩
   ·have HV := Lib.hid hv
    clear hv
    go_wp2
    go_ret3
    refine ⟨?_, hbel⟩
    have e1 : decN (List.take n d) 0 < 9223372036854775808 ∧ v = (decN (List.take n d) 0 : Int) := by
     have h2 := HL.out.symm.trans HV.out
     split at h2
     ·rename_i hc; exact ⟨hc, by injection h2 with h2; exact h2.symm⟩
     ·cases h2
    rw [HN.out, if_neg hn, if_pos e1.1, e1.2]
    rfl
   ·have HV := Lib.hid hv
    clear hv
    go_wp2
    go_ret3
    refine ⟨?_, hbel⟩
    have e1 : ¬ decN (List.take n d) 0 < 9223372036854775808 := by
     intro hc
     have h2 := HL.out.symm.trans HV.out
     rw [if_pos hc] at h2
     cases h2
    rw [HN.out, if_neg hn, if_neg e1]
    rfl
end
end Go.Proofs.YtknnleiinhdklaaGreatDoor
