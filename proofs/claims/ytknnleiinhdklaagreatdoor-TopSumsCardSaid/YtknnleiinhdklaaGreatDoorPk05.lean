/-
  Plain Lean, no program: how a text is gone through, and what texts that are cut, joined, or have more blanks or a note, are read as. No condition.
-/
import Derived.Test.YtknnleiinhdklaaGreatDoorPk04
namespace Go.Proofs.YtknnleiinhdklaaGreatDoor
open Go
/-- From (l, k) one comes, m bytes on, to the tokens so far; nt: the last thing was a note. -/
inductive Reach : List UInt8 → Nat → Nat → List Tok → Bool → Prop
 | here (l : List UInt8) (k : Nat) : Reach l k 0 [] false
 | blank (b : UInt8) (r : List UInt8) (k m : Nat) (acc : List Tok) (nt : Bool) : (b = 32 ∨ b = 9) → Reach r (k + 1) m acc nt → Reach (b :: r) k (m + 1) acc nt
 | note (r : List UInt8) (k m : Nat) (acc : List Tok) (nt : Bool) : Reach ((35 :: r).drop (runL noteB (35 :: r))) (k + runL noteB (35 :: r)) m acc nt → m ≠ 0 → Reach (35 :: r) k (runL noteB (35 :: r) + m) acc nt
 | noteEnd (r : List UInt8) (k : Nat) : Reach (35 :: r) k (runL noteB (35 :: r)) [] true
 | tok (b : UInt8) (r : List UInt8) (k m : Nat) (acc : List Tok) (nt : Bool) : ¬ (b = 32 ∨ b = 9) → b ≠ 35 → (tokL (b :: r)).2.2 = 0 →
   Reach ((b :: r).drop (tokL (b :: r)).2.1) (k + (tokL (b :: r)).2.1) m acc nt → Reach (b :: r) k ((tokL (b :: r)).2.1 + m) ({ (tokL (b :: r)).1 with at_ := k } :: acc) nt
theorem map_nil (x : Except (Nat × Nat) (List Tok)) : x.map (([] : List Tok) ++ ·) = x := by cases x <;> rfl
theorem map_map (x : Except (Nat × Nat) (List Tok)) (a b : List Tok) : (x.map (b ++ ·)).map (a ++ ·) = x.map ((a ++ b) ++ ·) := by cases x <;> simp [Except.map]
theorem map_cons (x : Except (Nat × Nat) (List Tok)) (t : Tok) (b : List Tok) : (x.map (b ++ ·)).map (fun l => t :: l) = x.map ((t :: b) ++ ·) := by cases x <;> simp [Except.map]
theorem not_stop (b : UInt8) (h : b = 35) : ¬ (b = 32 ∨ b = 9) := by subst h; decide
/-- What is left behind. -/
theorem Reach.left {l : List UInt8} {k m : Nat} {acc : List Tok} {nt : Bool} (h : Reach l k m acc nt) : m ≤ l.length ∧ lexAt k l = (lexAt (k + m) (l.drop m)).map (acc ++ ·) := by
 induction h with
 | here l k => exact ⟨Nat.zero_le _, by rw [List.drop_zero, Nat.add_zero, map_nil]⟩
 | blank b r k m acc nt hb _ ih =>
  refine ⟨by simp only [List.length_cons]; omega, ?_⟩
  rw [lexAt_cons, if_pos hb, ih.2, show k + 1 + m = k + (m + 1) by omega]; rfl
 | note r k m acc nt _ _ ih =>
  have hn := runL_le noteB (35 :: r)
  refine ⟨by have := ih.1; rw [List.length_drop] at this; omega, ?_⟩
  rw [lexAt_cons, if_neg (not_stop 35 rfl), if_pos rfl, ih.2, List.drop_drop, Nat.add_assoc]
 | noteEnd r k =>
  refine ⟨runL_le noteB (35 :: r), ?_⟩
  rw [lexAt_cons, if_neg (not_stop 35 rfl), if_pos rfl, map_nil]
 | tok b r k m acc nt h1 h2 h3 _ ih =>
  have hn := tokL_len (b :: r) (by simp) h3
  refine ⟨by have := ih.1; rw [List.length_drop] at this; omega, ?_⟩
  rw [lexAt_cons, if_neg h1, if_neg h2, if_neg (by simpa using h3), ih.2, map_cons, List.drop_drop, Nat.add_assoc]
/-- A note runs to a line's end. -/
theorem run_note_end (r : List UInt8) : (35 :: r).drop (runL noteB (35 :: r)) = [] ∨ ∃ z, (35 :: r).drop (runL noteB (35 :: r)) = 10 :: z := by
 rw [drop_runL]
 generalize (35 :: r) = l
 induction l with
 | nil => exact .inl rfl
 | cons a l ih =>
  rw [List.dropWhile_cons]
  split
  ·exact ih
  ·rename_i h
   have : a = 10 := by simpa [noteB] using h
   subst this
   exact .inr ⟨l, rfl⟩
theorem Reach.zero {l : List UInt8} {k m : Nat} {acc : List Tok} {nt : Bool} (h : Reach l k m acc nt) (hm : m = 0) : acc = [] := by
 cases h with
 | here l k => rfl
 | blank b r k m acc nt _ _ => omega
 | note r k m acc nt _ h0 => omega
 | noteEnd r k => rfl
 | tok b r k m acc nt _ _ h3 _ => have := (tokL_len (b :: r) (by simp) h3).1; omega
/-- One comes to the end, and to each token. -/
theorem reach_all (f : Nat) : ∀ (k : Nat) (l : List UInt8) (toks : List Tok), l.length ≤ f → lexAt k l = .ok toks →
  (∃ nt, Reach l k l.length toks nt) ∧ ∀ (i : Nat) (t : Tok), toks[i]? = some t → ∃ m nt b r, Reach l k m (toks.take i) nt ∧ t.at_ = ((k + m : Nat) : Int) ∧ l.drop m = b :: r ∧ ¬ (b = 32 ∨ b = 9) ∧ b ≠ 35 := by
 induction f with
 | zero =>
  intro k l toks hl h
  have : l = [] := by cases l <;> simp_all
  subst this
  injection h with h
  subst h
  exact ⟨⟨_, .here _ _⟩, fun i t hi => by simp at hi⟩
 | succ f ih =>
  intro k l toks hl h
  cases l with
  | nil =>
   injection h with h
   subst h
   exact ⟨⟨_, .here _ _⟩, fun i t hi => by simp at hi⟩
  | cons b r =>
   rw [lexAt_cons] at h
   have hr : r.length ≤ f := by simpa using hl
   by_cases c1 : b = 32 ∨ b = 9
   ·rw [if_pos c1] at h
    obtain ⟨⟨nt, a1⟩, a2⟩ := ih _ _ _ hr h
    refine ⟨⟨nt, by rw [List.length_cons]; exact .blank b r k _ _ _ c1 a1⟩, fun i t hi => ?_⟩
    obtain ⟨m, nt', b', r', h1, h2, h3, h4⟩ := a2 i t hi
    exact ⟨m + 1, nt', b', r', .blank b r k _ _ _ c1 h1, by rw [h2]; congr 1; omega, h3, h4⟩
   ·rw [if_neg c1] at h
    by_cases c2 : b = 35
    ·subst c2
     have hn : 1 ≤ runL noteB (35 :: r) := by rw [runL_cons]; simp [noteB]
     have hn2 := runL_le noteB (35 :: r)
     rw [if_pos rfl] at h
     obtain ⟨⟨nt, a1⟩, a2⟩ := ih _ _ _ (by simp only [List.length_drop, List.length_cons]; omega) h
     constructor
     ·rcases Nat.eq_or_lt_of_le hn2 with he | hlt
      ·have hd : (35 :: r).drop (runL noteB (35 :: r)) = [] := by rw [he]; simp
       rw [hd] at h
       injection h with h
       subst h
       exact ⟨true, by rw [← he]; exact .noteEnd r k⟩
      ·refine ⟨nt, ?_⟩
       have := Reach.note r k _ _ _ a1 (by rw [List.length_drop]; omega)
       rwa [List.length_drop, Nat.add_sub_cancel' hn2] at this
     ·intro i t hi
      obtain ⟨m, nt', b', r', h1, h2, h3, h4⟩ := a2 i t hi
      rcases Nat.eq_zero_or_pos m with h0 | h0
      ·subst h0
       have ht : toks.take i = [] := h1.zero rfl
       exact ⟨runL noteB (35 :: r), true, b', r', by rw [ht]; exact .noteEnd r k, by rw [h2]; rfl, h3, h4⟩
      ·exact ⟨_, nt', b', r', .note r k _ _ _ h1 (by omega), by rw [h2]; congr 1; omega, by rw [← List.drop_drop]; exact h3, h4⟩
    ·rw [if_neg c2] at h
     by_cases c3 : (tokL (b :: r)).2.2 ≠ 0
     ·rw [if_pos c3] at h; cases h
     ·rw [if_neg c3] at h
      have c3' : (tokL (b :: r)).2.2 = 0 := by simpa using c3
      have hn := tokL_len (b :: r) (by simp) c3'
      cases hx : lexAt (k + (tokL (b :: r)).2.1) ((b :: r).drop (tokL (b :: r)).2.1) with
      | error e => rw [hx] at h; cases h
      | ok v =>
       rw [hx] at h
       injection h with h
       subst h
       obtain ⟨⟨nt, a1⟩, a2⟩ := ih _ _ _ (by simp only [List.length_drop, List.length_cons]; omega) hx
       constructor
       ·refine ⟨nt, ?_⟩
        have := Reach.tok b r k _ _ _ c1 c2 c3' a1
        rwa [List.length_drop, Nat.add_sub_cancel' hn.2] at this
       ·intro i t hi
        cases i with
        | zero =>
         simp at hi
         subst hi
         exact ⟨0, false, b, r, .here _ _, by simp, rfl, c1, c2⟩
        | succ i =>
         obtain ⟨m, nt', b', r', h1, h2, h3, h4⟩ := a2 i t (by simpa using hi)
         exact ⟨_, nt', b', r', .tok b r k _ _ _ c1 c2 c3' h1, by rw [h2]; congr 1; omega, by rw [← List.drop_drop]; exact h3, h4⟩
/-- What stands behind a token's end and is none of it. -/
def Stops (z : List UInt8) : Prop := z = [] ∨ ∃ b r, z = b :: r ∧ (b = 32 ∨ b = 9 ∨ b = 10 ∨ b = 35 ∨ b = 41)
theorem Stops.not {z : List UInt8} (h : Stops z) : ∀ b r, z = b :: r → alnumB b = false ∧ digitB b = false ∧ b ≠ 61 := by
 rintro b r rfl
 rcases h with h | ⟨b', r', h, hb⟩
 ·cases h
 ·injection h with h1 h2
  subst h1
  rcases hb with rfl | rfl | rfl | rfl | rfl <;> decide
theorem run_cut (p : UInt8 → Bool) (z : List UInt8) (hz : ∀ b r, z = b :: r → p b = false) : ∀ (l : List UInt8) (m : Nat), runL p l ≤ m → runL p (l.take m ++ z) = runL p l := by
 have h0 : runL p z = 0 := by
  cases z with
  | nil => rfl
  | cons b r => rw [runL_cons, hz b r rfl]; rfl
 intro l
 induction l with
 | nil => intro m _; simpa using h0
 | cons a l ih =>
  intro m hm
  rw [runL_cons] at hm ⊢
  by_cases ha : p a = true
  ·rw [if_pos ha] at hm ⊢
   cases m with
   | zero => omega
   | succ m =>
    rw [List.take_succ_cons, List.cons_append, runL_cons, if_pos ha, ih m (by omega)]
  ·rw [if_neg ha]
   cases m with
   | zero => simpa using h0
   | succ m => rw [List.take_succ_cons, List.cons_append, runL_cons, if_neg ha]
theorem take_app (l z : List UInt8) (n m : Nat) (h : n ≤ m) (hl : m ≤ l.length) : (l.take m ++ z).take n = l.take n := by
 rw [List.take_append_of_le_length (by rw [List.length_take]; omega), List.take_take, Nat.min_eq_left h]
theorem head_app (l z : List UInt8) (m : Nat) (hm : 0 < m) (hl : m ≤ l.length) : (l.take m ++ z).headD 0 = l.headD 0 ∧ (l.take m ++ z).head? = l.head? := by
 cases l with
 | nil => simp at hl; omega
 | cons a l =>
  cases m with
  | zero => omega
  | succ m => simp
theorem prefix_two (c a b : UInt8) (r : List UInt8) : Lib.hasPrefix (a :: b :: r) [c, 61] = (c == a && (61 : UInt8) == b) := by
 unfold Lib.hasPrefix
 simp [List.isPrefixOf]
theorem prefix_one (c a : UInt8) (z : List UInt8) (hz : ∀ b r, z = b :: r → b ≠ 61) : Lib.hasPrefix (a :: z) [c, 61] = false := by
 cases z with
 | nil => simp [Lib.hasPrefix, List.isPrefixOf]
 | cons b r =>
  rw [prefix_two]
  have := hz b r rfl
  have : ((61 : UInt8) == b) = false := by rw [beq_eq_false_iff_ne]; exact fun e => this e.symm
  rw [this, Bool.and_false]
theorem sign_two (a b : UInt8) (r : List UInt8) : signL (a :: b :: r) = if ((60 : UInt8) == a && (61 : UInt8) == b) || ((62 : UInt8) == a && (61 : UInt8) == b) then 2 else if signB a then 1 else 0 := by
 unfold signL; rw [prefix_two, prefix_two]; rfl
theorem sign_one (a : UInt8) (z : List UInt8) (hz : ∀ b r, z = b :: r → b ≠ 61) : signL (a :: z) = if signB a then 1 else 0 := by
 unfold signL; rw [prefix_one 60 a z hz, prefix_one 62 a z hz]; rfl
theorem sign_cut (l z : List UInt8) (m : Nat) (hm : signL l ≤ m) (h0 : 0 < m) (hl : m ≤ l.length) (hz : Stops z) : signL (l.take m ++ z) = signL l := by
 have hz' : ∀ b r, z = b :: r → b ≠ 61 := fun b r e => (hz.not b r e).2.2
 match l, hl with
 | [], hl => simp at hl; omega
 | [a], hl =>
  obtain rfl : m = 1 := by simp at hl; omega
  have e : [a].take 1 ++ z = a :: z := rfl
  rw [e, sign_one a z hz', sign_one a [] (by simp)]
 | a :: b :: r, hl =>
  match m, h0 with
  | 1, _ =>
   have e : (a :: b :: r).take 1 ++ z = a :: z := rfl
   rw [e, sign_one a z hz']
   rw [sign_two] at hm ⊢
   split at hm
   ·omega
   ·rename_i h
    rw [if_neg h]
  | m + 2, _ =>
   have e : (a :: b :: r).take (m + 2) ++ z = a :: b :: (r.take m ++ z) := rfl
   rw [e, sign_two, sign_two]
theorem num_under (l : List UInt8) : numL (95 :: l) = if runL digitB l = 0 then (0, 0, 0)
  else if decN (l.take (runL digitB l)) 0 ≤ 9223372036854775808 then (-(decN (l.take (runL digitB l)) 0 : Int), runL digitB l + 1, 0)
  else (0, 0, 32) := by
 unfold numL; rw [if_pos (show (95 :: l).head? = some 95 from rfl)]; rfl
theorem num_plain (l : List UInt8) (h : l.head? ≠ some 95) : numL l = if runL digitB l = 0 then (0, 0, 0)
  else if decN (l.take (runL digitB l)) 0 < 9223372036854775808 then ((decN (l.take (runL digitB l)) 0 : Int), runL digitB l, 0)
  else (0, 0, 32) := by
 unfold numL; rw [if_neg h]
theorem num_cut (l z : List UInt8) (m : Nat) (he : (numL l).2.2 = 0) (hm : (numL l).2.1 ≤ m) (h0 : 0 < m) (hl : m ≤ l.length) (hz : Stops z) (hu : (numL l).2.1 = 0 → l.headD 0 ≠ 95) : numL (l.take m ++ z) = numL l := by
 have hh := head_app l z m h0 hl
 have hzd : ∀ b r, z = b :: r → digitB b = false := fun b r e => (hz.not b r e).2.1
 by_cases hd : l.head? = some 95
 ·match l, m, h0 with
  | a :: l, m + 1, _ =>
   obtain rfl : a = 95 := by simpa using hd
   have hn0 : (numL (95 :: l)).2.1 ≠ 0 := fun e => hu e rfl
   have e : (95 :: l).take (m + 1) ++ z = 95 :: (l.take m ++ z) := rfl
   rw [e, num_under, num_under]
   rw [num_under] at he hm hn0
   simp only [List.length_cons] at hl
   by_cases c1 : runL digitB l = 0
   ·rw [if_pos c1] at hn0; exact absurd rfl hn0
   ·rw [if_neg c1] at he hm
    by_cases c2 : decN (l.take (runL digitB l)) 0 ≤ 9223372036854775808
    ·rw [if_pos c2] at hm
     have hm : runL digitB l + 1 ≤ m + 1 := hm
     have e1 := run_cut digitB z hzd l m (by omega)
     have e2 := take_app l z (runL digitB l) m (by omega) (by omega)
     rw [e1, e2]
    ·rw [if_neg c2] at he
     exact absurd he (by decide)
 ·rw [num_plain l hd] at he hm
  rw [num_plain l hd, num_plain _ (by rw [hh.2]; exact hd)]
  by_cases c1 : runL digitB l = 0
  ·have e1 := run_cut digitB z hzd l m (by omega)
   rw [e1, if_pos c1, if_pos c1]
  ·rw [if_neg c1] at he hm
   by_cases c2 : decN (l.take (runL digitB l)) 0 < 9223372036854775808
   ·rw [if_pos c2] at hm
    have hm : runL digitB l ≤ m := hm
    have e1 := run_cut digitB z hzd l m hm
    have e2 := take_app l z (runL digitB l) m hm hl
    rw [e1, e2]
   ·rw [if_neg c2] at he
    exact absurd he (by decide)
theorem tok_line (l : List UInt8) (h : l.headD 0 = 10) : tokL l = (⟨4, 0, [], 0⟩, 1, 0) := by unfold tokL; rw [if_pos h]
theorem tok_word (l : List UInt8) (h : l.headD 0 ≠ 10) (h2 : letterB (l.headD 0) = true) : tokL l = if 16 < runL alnumB l then (Tok.none, 0, 33) else (⟨1, 0, l.take (runL alnumB l), 0⟩, runL alnumB l, 0) := by
 unfold tokL; rw [if_neg h, if_pos h2]
theorem tok_rest (l : List UInt8) (h : l.headD 0 ≠ 10) (h2 : ¬ letterB (l.headD 0) = true) : tokL l = if 0 < (numL l).2.1 ∨ (numL l).2.2 ≠ 0 then (⟨2, 0, [], (numL l).1⟩, (numL l).2.1, (numL l).2.2)
 else if signL l = 0 then (Tok.none, 0, 31)
 else (⟨3, 0, l.take (signL l), 0⟩, signL l, 0) := by
 unfold tokL; rw [if_neg h, if_neg h2]
/-- A token is what it is, whatever stands behind it that is none of it. -/
theorem tok_cut (l z : List UInt8) (m : Nat) (he : (tokL l).2.2 = 0) (hm : (tokL l).2.1 ≤ m) (h0 : 0 < m) (hl : m ≤ l.length) (hz : Stops z) : tokL (l.take m ++ z) = tokL l := by
 have hh := (head_app l z m h0 hl).1
 have hza : ∀ b r, z = b :: r → alnumB b = false := fun b r e => (hz.not b r e).1
 by_cases c1 : l.headD 0 = 10
 ·rw [tok_line l c1, tok_line _ (by rw [hh]; exact c1)]
 ·by_cases c2 : letterB (l.headD 0) = true
  ·rw [tok_word l c1 c2] at he hm
   rw [tok_word l c1 c2, tok_word _ (by rw [hh]; exact c1) (by rw [hh]; exact c2)]
   by_cases c3 : 16 < runL alnumB l
   ·rw [if_pos c3] at he; exact absurd he (by decide)
   ·rw [if_neg c3] at hm
    have hm : runL alnumB l ≤ m := hm
    have e1 := run_cut alnumB z hza l m hm
    have e2 := take_app l z (runL alnumB l) m hm hl
    rw [e1, e2]
  ·rw [tok_rest l c1 c2] at he hm
   rw [tok_rest l c1 c2, tok_rest _ (by rw [hh]; exact c1) (by rw [hh]; exact c2)]
   have hsg : ∀ h : signL l ≠ 0, l.headD 0 ≠ 95 := by
    intro h hd
    apply h
    cases l with
    | nil => simp at hd
    | cons a r =>
     simp only [List.headD_cons] at hd
     subst hd
     unfold signL
     have p1 : Lib.hasPrefix (95 :: r) [60, 61] = false := by simp [Lib.hasPrefix, List.isPrefixOf]
     have p2 : Lib.hasPrefix (95 :: r) [62, 61] = false := by simp [Lib.hasPrefix, List.isPrefixOf]
     rw [p1, p2]
     rfl
   by_cases c3 : 0 < (numL l).2.1 ∨ (numL l).2.2 ≠ 0
   ·rw [if_pos c3] at he hm
    have he : (numL l).2.2 = 0 := he
    have hm : (numL l).2.1 ≤ m := hm
    have hp : 0 < (numL l).2.1 := by
     rcases c3 with h | h
     ·exact h
     ·exact absurd he h
    rw [num_cut l z m he hm h0 hl hz (fun e => by omega), if_pos c3, if_pos c3]
   ·rw [if_neg c3] at he hm
    have n1 : (numL l).2.1 = 0 := by omega
    have n2 : (numL l).2.2 = 0 := by omega
    by_cases c4 : signL l = 0
    ·rw [if_pos c4] at he; exact absurd he (by decide)
    ·rw [if_neg c4] at hm
     have hm : signL l ≤ m := hm
     rw [num_cut l z m n2 (by omega) h0 hl hz (fun _ => hsg c4), if_neg c3, if_neg c3]
     have e2 := take_app l z (signL l) m hm hl
     rw [sign_cut l z m hm h0 hl hz, e2]
/-- A note that was cut at its end, or at a line's end. -/
def Ends (z : List UInt8) : Prop := z = [] ∨ ∃ r, z = 10 :: r
theorem Ends.not {z : List UInt8} (h : Ends z) : ∀ b r, z = b :: r → noteB b = false := by
 rintro b r rfl
 rcases h with h | ⟨r', h⟩
 ·cases h
 ·injection h with h1 h2; subst h1; rfl
theorem note_take (r : List UInt8) : (35 :: r).take (runL noteB (35 :: r)) = 35 :: r.take (runL noteB r) := by
 rw [runL_cons]; rfl
theorem runL_note (r : List UInt8) : runL noteB (35 :: r) = runL noteB r + 1 := by rw [runL_cons]; rfl
theorem runL_app_all (p : UInt8 → Bool) (a z : List UInt8) (h : ∀ c ∈ a, p c = true) (hz : ∀ b r, z = b :: r → p b = false) : runL p (a ++ z) = a.length := by
 induction a with
 | nil => cases z with
  | nil => rfl
  | cons b r => rw [List.nil_append, runL_cons, hz b r rfl]; rfl
 | cons b a ih => rw [List.cons_append, runL_cons, h b (by simp), if_pos rfl, ih (fun c hc => h c (by simp [hc]))]; rfl
/-- A text that is cut where one came to, and goes on as another. -/
theorem Reach.cut {l : List UInt8} {k m : Nat} {acc : List Tok} {nt : Bool} (h : Reach l k m acc nt) : ∀ (x z : List UInt8), (∀ c ∈ x, noteB c = true) → Stops (x ++ z) → (nt = true → Ends z) → (nt = false → x = []) → Reach (l.take m ++ (x ++ z)) k (m + x.length) acc nt := by
 induction h with
 | here l k => intro x z _ _ _ hx; rw [hx rfl]; exact .here _ _
 | blank b r k m acc nt hb _ ih =>
  intro x z hx hz hn hf
  rw [show m + 1 + x.length = m + x.length + 1 by omega]
  exact .blank b _ k _ acc nt hb (ih x z hx hz hn hf)
 | note r k m acc nt h1 h0 ih =>
  intro x z hx hz hn hf
  have ih := ih x z hx hz hn hf
  generalize x ++ z = y at *
  have hz0 : ∀ b r', ((35 :: r).drop (runL noteB (35 :: r))).take m ++ y = b :: r' → noteB b = false := by
   intro b r' hb
   have hlen := h1.left.1
   rcases run_note_end r with hx | ⟨y, hx⟩
   ·rw [hx] at hlen; simp at hlen; omega
   ·rw [hx] at hb
    cases m with
    | zero => exact absurd rfl h0
    | succ m => injection hb with hb1 _; subst hb1; rfl
  have e1 : ((35 :: r).take (runL noteB (35 :: r) + m) ++ y) = 35 :: (r.take (runL noteB r + m) ++ y) := by
   rw [runL_note, show runL noteB r + 1 + m = (runL noteB r + m) + 1 by omega]; rfl
  have e2 : runL noteB (35 :: (r.take (runL noteB r + m) ++ y)) = runL noteB (35 :: r) := by
   rw [← e1]
   have hc : (35 :: r).take (runL noteB (35 :: r) + m) ++ y = (35 :: r).take (runL noteB (35 :: r)) ++ (((35 :: r).drop (runL noteB (35 :: r))).take m ++ y) := by
    rw [List.take_add, List.append_assoc]
   rw [hc, runL_app_all]
   ·rw [List.length_take, Nat.min_eq_left (runL_le _ _)]
   ·exact take_run_all _ _
   ·exact hz0
  rw [e1]
  have e3 : (35 :: (r.take (runL noteB r + m) ++ y)).drop (runL noteB (35 :: r)) = ((35 :: r).drop (runL noteB (35 :: r))).take m ++ y := by
   rw [← e1, List.take_add, List.append_assoc, List.drop_left' (by rw [List.length_take, Nat.min_eq_left (runL_le _ _)])]
  have := Reach.note (r.take (runL noteB r + m) ++ y) k (m + x.length) acc nt (by rw [e2, e3]; exact ih) (by omega)
  rwa [e2, ← Nat.add_assoc] at this
 | noteEnd r k =>
  intro x z hx hz hn hf
  have e1 : ((35 :: r).take (runL noteB (35 :: r)) ++ (x ++ z)) = 35 :: (r.take (runL noteB r) ++ (x ++ z)) := by rw [note_take]; rfl
  have e2 : runL noteB (35 :: (r.take (runL noteB r) ++ (x ++ z))) = runL noteB (35 :: r) + x.length := by
   rw [← e1, ← List.append_assoc, runL_app_all]
   ·rw [List.length_append, List.length_take, Nat.min_eq_left (runL_le _ _)]
   ·intro c hc
    rcases List.mem_append.1 hc with hc | hc
    ·exact take_run_all _ _ c hc
    ·exact hx c hc
   ·exact (hn rfl).not
  have := Reach.noteEnd (r.take (runL noteB r) ++ (x ++ z)) k
  rwa [e2, ← e1] at this
 | tok b r k m acc nt h1 h2 h3 h4 ih =>
  intro x z hx hz hn hf
  have ih := ih x z hx hz hn hf
  generalize x ++ z = y at *
  obtain ⟨n0, n1⟩ := tokL_len (b :: r) (by simp) h3
  have hlen := h4.left.1
  rw [List.length_drop] at hlen
  have hc := tok_cut (b :: r) y ((tokL (b :: r)).2.1 + m) h3 (by omega) (by omega) (by omega) hz
  obtain ⟨n, hn'⟩ : ∃ n, (tokL (b :: r)).2.1 = n + 1 := ⟨(tokL (b :: r)).2.1 - 1, by omega⟩
  have e1 : (b :: r).take ((tokL (b :: r)).2.1 + m) ++ y = b :: (r.take (n + m) ++ y) := by
   rw [hn', show n + 1 + m = (n + m) + 1 by omega]; rfl
  rw [e1] at hc ⊢
  have e3 : (b :: (r.take (n + m) ++ y)).drop (tokL (b :: r)).2.1 = ((b :: r).drop (tokL (b :: r)).2.1).take m ++ y := by
   rw [← e1, List.take_add, List.append_assoc, List.drop_left' (by rw [List.length_take, Nat.min_eq_left n1])]
  have := Reach.tok b (r.take (n + m) ++ y) k (m + x.length) acc nt h1 h2 (by rw [hc]; exact h3) (by rw [hc, e3]; exact ih)
  rwa [hc, ← Nat.add_assoc] at this
/-- .. so it is read as the tokens so far, and the other text behind them. -/
theorem Reach.read {l : List UInt8} {k m : Nat} {acc : List Tok} {nt : Bool} (h : Reach l k m acc nt) (z : List UInt8) (hz : Stops z) (hn : nt = true → Ends z) :
  lexAt k (l.take m ++ z) = (lexAt (k + m) z).map (acc ++ ·) := by
 have h1 := (h.cut [] z (by simp) hz hn (fun _ => rfl)).left.2
 rw [List.nil_append] at h1
 rw [h1, List.length_nil, Nat.add_zero, List.drop_left' (by rw [List.length_take, Nat.min_eq_left h.left.1])]
theorem lexL_ok_iff (l : List UInt8) (toks : List Tok) : lexL l = .ok toks ↔ l.length ≤ 65536 ∧ lexAt 0 l = .ok toks := by
 unfold lexL
 by_cases h : 65536 < l.length
 ·rw [if_pos h]; exact ⟨fun h => (nomatch h), fun h2 => by omega⟩
 ·rw [if_neg h]; exact ⟨fun h2 => ⟨by omega, h2⟩, fun h2 => h2.2⟩
end Go.Proofs.YtknnleiinhdklaaGreatDoor
