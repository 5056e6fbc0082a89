/-
  Plain Lean, no program: the lines of a text, step by step; verbs, names. No condition.
-/
import Derived.Test.YtfpneopobbfabaaDoorParR
namespace Go.Proofs.YtfpneopobbfabaaDoor
open Go

theorem tail_len (t : Tok) (r : List Tok) : ((t :: r).dropWhile notLine).tail.length ≤ r.length := by
  have h := dropWhile_len notLine r
  rw [List.dropWhile_cons]
  split
  · rw [List.length_tail]; omega
  · simp
theorem linesP_two (n : Int) : ∀ (f g : Nat) (r : List Tok) (p : Prg) (lines : Nat) (over : Bool), r.length ≤ f → r.length ≤ g → linesP n f r p lines over = linesP n g r p lines over := by
  intro f
  induction f with
  | zero =>
    intro g r p lines over h _
    have : r = [] := List.length_eq_zero_iff.1 (by omega)
    subst this
    cases g <;> rfl
  | succ f ih =>
    intro g r p lines over hf hg
    cases r with
    | nil => cases g <;> rfl
    | cons t r =>
      cases g with
      | zero => simp at hg
      | succ g =>
        simp only [List.length_cons] at hf hg
        have ht := tail_len t r
        simp only [linesP]
        rw [ih g _ p lines over (by omega) (by omega)]
        cases hi : intoP (placeP n ((t :: r).dropWhile notLine)) ((t :: r).takeWhile notLine) p lines over with
        | error x => rfl
        | ok q => dsimp only; rw [ih g _ q (lines + 1) (overP q) (by omega) (by omega)]
def linesX (n : Int) (r : List Tok) (p : Prg) (lines : Nat) (over : Bool) : Except Fault Prg := linesP n r.length r p lines over
theorem linesX_nil (n : Int) (p : Prg) (lines : Nat) (over : Bool) : linesX n [] p lines over = if over then .ok p else .error (n, 42) := rfl
theorem linesX_cons (n : Int) (t : Tok) (r : List Tok) (p : Prg) (lines : Nat) (over : Bool) : linesX n (t :: r) p lines over =
    if (t :: r).takeWhile notLine = [] then linesX n ((t :: r).dropWhile notLine).tail p lines over
    else match intoP (placeP n ((t :: r).dropWhile notLine)) ((t :: r).takeWhile notLine) p lines over with
      | .error x => .error x
      | .ok q => linesX n ((t :: r).dropWhile notLine).tail q (lines + 1) (overP q) := by
  have ht := tail_len t r
  show linesP n (r.length + 1) (t :: r) p lines over = _
  simp only [linesP]
  rw [linesP_two n r.length _ _ p lines over (by omega) (Nat.le_refl _)]
  cases hi : intoP (placeP n ((t :: r).dropWhile notLine)) ((t :: r).takeWhile notLine) p lines over with
  | error x => rfl
  | ok q => dsimp only; rw [linesP_two n r.length _ _ q (lines + 1) (overP q) (by omega) (Nat.le_refl _)]; rfl
theorem takeWhile_own (own : List Tok) (t : Tok) (r : List Tok) (ho : ∀ x ∈ own, notLine x = true) (ht : notLine t = false) : (own ++ t :: r).takeWhile notLine = own ∧ (own ++ t :: r).dropWhile notLine = t :: r := by
  induction own with
  | nil => simp [ht]
  | cons a own ih =>
    have ha := ho a (by simp)
    have := ih (fun x hx => ho x (by simp [hx]))
    rw [List.cons_append, List.takeWhile_cons, List.dropWhile_cons, ha]
    simp [this]
theorem takeWhile_all_own (own : List Tok) (ho : ∀ x ∈ own, notLine x = true) : own.takeWhile notLine = own ∧ own.dropWhile notLine = [] := by
  induction own with
  | nil => simp
  | cons a own ih =>
    have ha := ho a (by simp)
    have := ih (fun x hx => ho x (by simp [hx]))
    rw [List.takeWhile_cons, List.dropWhile_cons, ha]
    simp [this]
/-- A line's end, the line's tokens being known. -/
theorem linesX_line (n : Int) (own : List Tok) (t : Tok) (r : List Tok) (p : Prg) (lines : Nat) (over : Bool) (ho : ∀ x ∈ own, notLine x = true) (ht : notLine t = false) :
    linesX n (own ++ t :: r) p lines over = if own = [] then linesX n r p lines over
      else match intoP t.at_ own p lines over with
        | .error x => .error x
        | .ok q => linesX n r q (lines + 1) (overP q) := by
  obtain ⟨h1, h2⟩ := takeWhile_own own t r ho ht
  cases hc : own ++ t :: r with
  | nil => simp at hc
  | cons a b =>
    rw [linesX_cons, ← hc, h1, h2]
    rfl
theorem linesX_last (n : Int) (own : List Tok) (p : Prg) (lines : Nat) (over : Bool) (ho : ∀ x ∈ own, notLine x = true) (hne : own ≠ []) :
    linesX n own p lines over = match intoP n own p lines over with
        | .error x => .error x
        | .ok q => linesX n [] q (lines + 1) (overP q) := by
  obtain ⟨h1, h2⟩ := takeWhile_all_own own ho
  cases own with
  | nil => exact absurd rfl hne
  | cons a b =>
    rw [linesX_cons, h1, h2, if_neg hne]
    rfl

/-! ### the tokens of a text -/
/-- What the lexer tells of a token. -/
def Tok.lexed (t : Tok) : Prop := (t.kind = 1 ∧ t.n = 0 ∧ (∃ a r, t.word = a :: r ∧ letterB a = true) ∧ (∀ c ∈ t.word, alnumB c = true) ∧ t.word.length ≤ 16) ∨ (t.kind = 2 ∧ t.word = []) ∨ (t.kind = 3 ∧ t.n = 0 ∧ ∃ a r, t.word = a :: r ∧ signB a = true) ∨ (t.kind = 4 ∧ t.word = [] ∧ t.n = 0)
theorem sign_pos (l : List UInt8) (h : signL l ≠ 0) : ∃ a r, l.take (signL l) = a :: r ∧ signB a = true := by
  cases l with
  | nil => exact absurd rfl h
  | cons a r =>
    refine ⟨a, r.take (signL (a :: r) - 1), ?_, ?_⟩
    · obtain ⟨m, hm⟩ := Nat.exists_eq_succ_of_ne_zero h
      rw [hm]; rfl
    · unfold signL at h
      split at h
      · rename_i hp
        simp only [Bool.or_eq_true] at hp
        cases r with
        | nil => rcases hp with hp | hp <;> simp [Lib.hasPrefix] at hp
        | cons b r =>
          rcases hp with hp | hp
          · simp [Lib.hasPrefix, List.isPrefixOf] at hp
            rw [← hp.1]; decide
          · simp [Lib.hasPrefix, List.isPrefixOf] at hp
            rw [← hp.1]; decide
      · by_cases hs : signB a = true
        · exact hs
        · exact absurd (if_neg hs) h
theorem tokL_lexed (l : List UInt8) (hl : l ≠ []) (h : (tokL l).2.2 = 0) : (tokL l).1.lexed := by
  unfold tokL at h ⊢
  split
  · exact .inr (.inr (.inr ⟨rfl, rfl, rfl⟩))
  · rename_i c1
    rw [if_neg c1] at h
    split
    · rename_i c2
      rw [if_pos c2] at h
      split
      · rename_i c3; rw [if_pos c3] at h; simp at h
      · rename_i c3
        refine .inl ⟨rfl, rfl, ?_, fun c hc => take_run_all alnumB l c hc, ?_⟩
        · cases l with
          | nil => exact absurd rfl hl
          | cons a r =>
            simp only [List.headD_cons] at c2
            refine ⟨a, r.take (runL alnumB r), ?_, c2⟩
            rw [runL_cons, show alnumB a = true by simp [alnumB, c2]]
            rfl
        · dsimp only
          rw [List.length_take]
          omega
    · rename_i c2
      rw [if_neg c2] at h
      split
      · exact .inr (.inl ⟨rfl, rfl⟩)
      · rename_i c3
        rw [if_neg c3] at h
        split
        · rename_i c4; rw [if_pos c4] at h; simp at h
        · rename_i c4
          exact .inr (.inr (.inl ⟨rfl, rfl, sign_pos l c4⟩))
theorem lexAt_lexed (f : Nat) : ∀ (k : Nat) (l : List UInt8) (toks : List Tok), l.length ≤ f → lexAt k l = .ok toks → ∀ t ∈ toks, t.lexed := by
  induction f with
  | zero =>
    intro k l toks h he
    have : l = [] := List.length_eq_zero_iff.1 (by omega)
    subst this
    rw [lexAt_nil] at he
    injection he with he
    subst he
    simp
  | succ f ih =>
    intro k l toks h he
    cases l with
    | nil =>
      rw [lexAt_nil] at he
      injection he with he
      subst he
      simp
    | cons b r =>
      have hr : r.length ≤ f := by simpa using h
      rw [lexAt_cons] at he
      by_cases c1 : b = 32 ∨ b = 9
      · rw [if_pos c1] at he
        exact ih _ _ _ hr he
      · rw [if_neg c1] at he
        by_cases c2 : b = 35
        · have hn : 1 ≤ runL noteB (b :: r) := by subst c2; rw [runL_cons]; simp [noteB]
          rw [if_pos c2] at he
          exact ih _ _ _ (by simp only [List.length_drop, List.length_cons]; omega) he
        · rw [if_neg c2] at he
          by_cases c3 : (tokL (b :: r)).2.2 = 0
          · rw [if_neg (by simpa using c3)] at he
            have hp := (tokL_len (b :: r) (by simp) c3).1
            have hx := tokL_lexed (b :: r) (by simp) c3
            cases hy : lexAt (k + (tokL (b :: r)).2.1) ((b :: r).drop (tokL (b :: r)).2.1) with
            | error e => rw [hy] at he; cases he
            | ok v =>
              rw [hy] at he
              injection he with he
              subst he
              intro t ht
              rcases List.mem_cons.1 ht with rfl | ht
              · exact hx
              · exact ih _ _ _ (by simp only [List.length_drop, List.length_cons]; omega) hy t ht
          · rw [if_pos (by simpa using c3)] at he
            cases he
end Go.Proofs.YtfpneopobbfabaaDoor
