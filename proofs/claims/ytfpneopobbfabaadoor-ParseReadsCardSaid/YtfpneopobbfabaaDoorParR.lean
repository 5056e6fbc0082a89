/-
  Plain Lean, no program: an expression as the document tells it (by recursion) is what the machine makes of it. No condition.
-/
import Derived.Test.YtfpneopobbfabaaDoorParP
namespace Go.Proofs.YtfpneopobbfabaaDoor
open Go

theorem dropWhile_len (p : Tok → Bool) (l : List Tok) : (l.dropWhile p).length ≤ l.length := by
  induction l with
  | nil => simp
  | cons a l ih => rw [List.dropWhile_cons]; split <;> simp <;> omega
theorem phrase_len {left : Bool} {t : Tok} {r r2 : List Tok} {it : Itm} (h : phraseP left t r = .ok (it, r2)) : r2.length ≤ r.length := by
  unfold phraseP at h
  split at h
  · split at h
    · cases h
    · injection h with h; injection h with _ h; subst h; simp
  · split at h
    · split at h
      · cases h
      · injection h with h; injection h with _ h; subst h; simp
    · split at h
      · cases h
      · injection h with h; injection h with _ h; subst h; simp
theorem runM_two (e : Int) : ∀ (f g : Nat) (m : Bool) (r : List Tok) (out : List Itm) (todo : List (Option Itm)) (op : Nat), r.length < f → r.length < g → runM e f m r out todo op = runM e g m r out todo op := by
  intro f
  induction f with
  | zero => intro g m r out todo op h; omega
  | succ f ih =>
    intro g m r out todo op hf hg
    cases g with
    | zero => omega
    | succ g =>
      cases m with
      | true =>
        cases r with
        | nil => rfl
        | cons t r =>
          simp only [List.length_cons] at hf hg
          have hd := dropWhile_len isNum r
          simp only [runM]
          cases hp : phraseP false t r with
          | error x => rw [ih g true r _ _ _ (by omega) (by omega), ih g false (r.dropWhile isNum) _ _ _ (by omega) (by omega), ih g false r _ _ _ (by omega) (by omega)]
          | ok q =>
            obtain ⟨it, r2⟩ := q
            have hl := phrase_len hp
            dsimp only
            rw [ih g true r2 _ _ _ (by omega) (by omega), ih g true r _ _ _ (by omega) (by omega), ih g false (r.dropWhile isNum) _ _ _ (by omega) (by omega), ih g false r _ _ _ (by omega) (by omega)]
      | false =>
        cases r with
        | nil => rfl
        | cons t r =>
          simp only [List.length_cons] at hf hg
          simp only [runM]
          cases hp : phraseP true t r with
          | error x => rw [ih g false r _ _ _ (by omega) (by omega)]
          | ok q =>
            obtain ⟨it, r2⟩ := q
            have hl := phrase_len hp
            dsimp only
            rw [ih g true r2 _ _ _ (by omega) (by omega), ih g false r _ _ _ (by omega) (by omega)]
/-- The machine, with as much fuel as it takes. -/
def runX (e : Int) (m : Bool) (r : List Tok) (out : List Itm) (todo : List (Option Itm)) (op : Nat) : Except Fault (List Itm) := runM e (r.length + 1) m r out todo op
theorem runM_X (e : Int) (f : Nat) (m : Bool) (r : List Tok) (out : List Itm) (todo : List (Option Itm)) (op : Nat) (h : r.length < f) : runM e f m r out todo op = runX e m r out todo op := runM_two e f _ m r out todo op h (Nat.lt_succ_self _)
theorem runX_end (e : Int) (out : List Itm) (todo : List (Option Itm)) (op : Nat) : runX e true [] out todo op = .error (e, 42) := rfl
theorem runX_stop (e : Int) (out : List Itm) (todo : List (Option Itm)) (op : Nat) : runX e false [] out todo op = if 0 < op then .error (e, 42) else .ok (finP todo out).1 := rfl
theorem runX_cons (e : Int) (t : Tok) (r : List Tok) (out : List Itm) (todo : List (Option Itm)) (op : Nat) : runX e true (t :: r) out todo op =
    if t.kind ≠ 2 ∧ t.kind ≠ 4 ∧ verbB t.word = true then
      match phraseP false t r with
      | .error x => .error x
      | .ok (it, r2) => runX e true r2 out (some it :: todo) op
    else if signIs [40] t then if op = 32 then .error (t.at_, 44) else runX e true r out (none :: todo) (op + 1)
    else if isNum t then runX e false (r.dropWhile isNum) (out ++ [⟨1, t.at_, 0, [], t.n :: (r.takeWhile isNum).map Tok.n⟩]) todo op
    else if t.kind = 1 ∧ nameB t.word = true then runX e false r (out ++ [⟨2, t.at_, 0, t.word, []⟩]) todo op
    else if t.kind = 1 then .error (t.at_, 41)
    else .error (t.at_, 42) := by
  have hd := dropWhile_len isNum r
  show runM e (r.length + 2) true (t :: r) out todo op = _
  simp only [runM]
  cases hp : phraseP false t r with
  | error x => rw [runM_X e _ true r _ _ _ (by omega), runM_X e _ false (r.dropWhile isNum) _ _ _ (by omega), runM_X e _ false r _ _ _ (by omega)]
  | ok q =>
    obtain ⟨it, r2⟩ := q
    have hl := phrase_len hp
    dsimp only
    rw [runM_X e _ true r2 _ _ _ (by omega), runM_X e _ true r _ _ _ (by omega), runM_X e _ false (r.dropWhile isNum) _ _ _ (by omega), runM_X e _ false r _ _ _ (by omega)]
theorem runX_behind (e : Int) (t : Tok) (r : List Tok) (out : List Itm) (todo : List (Option Itm)) (op : Nat) : runX e false (t :: r) out todo op =
    if 0 < op ∧ signIs [41] t = true then runX e false r (finP todo out).1 (finP todo out).2.tail (op - 1)
    else if t.kind = 2 ∨ verbB t.word = false then .error (t.at_, 46)
    else match phraseP true t r with
      | .error x => .error x
      | .ok (it, r2) => runX e true r2 out (some it :: todo) op := by
  show runM e (r.length + 2) false (t :: r) out todo op = _
  simp only [runM]
  cases hp : phraseP true t r with
  | error x => rw [runM_X e _ false r _ _ _ (by omega)]
  | ok q =>
    obtain ⟨it, r2⟩ := q
    have hl := phrase_len hp
    dsimp only
    rw [runM_X e _ true r2 _ _ _ (by omega), runM_X e _ false r _ _ _ (by omega)]
theorem finP_some (l : List Itm) (s : List (Option Itm)) (out : List Itm) : finP (l.map some ++ s) out = finP s (out ++ l) := by
  induction l generalizing out with
  | nil => simp
  | cons a l ih =>
    show finP (some a :: (l.map some ++ s)) out = _
    rw [finP, ih]
    simp
theorem finP_none (s : List (Option Itm)) (out : List Itm) : finP (none :: s) out = (out, none :: s) := rfl
theorem finP_nil (out : List Itm) : finP [] out = (out, []) := rfl

/-! ### by recursion, as the document has it -/
def isVerb (t : Tok) : Bool := t.kind != 2 && verbB t.word
mutual
def exprR (e : Int) : Nat → Nat → List Tok → Except Fault (List Itm × List Tok)
  | 0, _, _ => .error (e, 0)
  | f + 1, nest, r =>
    match r with
    | [] => .error (e, 42)
    | t :: r1 =>
      if isVerb t then
        match phraseP false t r1 with
        | .error x => .error x
        | .ok (it, r2) => match exprR e f nest r2 with
          | .error x => .error x
          | .ok (l, r3) => .ok (l ++ [it], r3)
      else match operandR e f nest t r1 with
        | .error x => .error x
        | .ok (l0, r2) => match r2 with
          | [] => .ok (l0, [])
          | c :: r3 =>
            if signIs [41] c then .ok (l0, c :: r3)
            else if !isVerb c then .error (c.at_, 46)
            else match phraseP true c r3 with
              | .error x => .error x
              | .ok (it, r4) => match exprR e f nest r4 with
                | .error x => .error x
                | .ok (l, r5) => .ok (l0 ++ l ++ [it], r5)
def operandR (e : Int) : Nat → Nat → Tok → List Tok → Except Fault (List Itm × List Tok)
  | 0, _, _, _ => .error (e, 0)
  | f + 1, nest, t, r =>
    if signIs [40] t then
      if nest = 32 then .error (t.at_, 44)
      else match exprR e f (nest + 1) r with
        | .error x => .error x
        | .ok (l, r2) => match r2 with
          | [] => .error (e, 42)
          | c :: r3 => if signIs [41] c then .ok (l, r3) else .error (c.at_, 42)
    else if isNum t then .ok ([⟨1, t.at_, 0, [], t.n :: (r.takeWhile isNum).map Tok.n⟩], r.dropWhile isNum)
    else if nameT t then .ok ([⟨2, t.at_, 0, t.word, []⟩], r)
    else if t.kind = 1 then .error (t.at_, 41)
    else .error (t.at_, 42)
end
/-- Where an expression stops: at the line's end, or at a closing bracket. -/
def Stop (r : List Tok) : Prop := r = [] ∨ ∃ c r', r = c :: r' ∧ signIs [41] c = true
theorem verb_close {c : Tok} (h : signIs [41] c = true) : isVerb c = false := by
  simp only [signIs, Bool.and_eq_true, beq_iff_eq] at h
  unfold isVerb
  rw [h.2, show verbB [41] = false by decide]
  simp
theorem isVerb_iff {t : Tok} (h4 : t.kind ≠ 4) : (t.kind ≠ 2 ∧ t.kind ≠ 4 ∧ verbB t.word = true) ↔ isVerb t = true := by
  unfold isVerb
  simp [h4]
theorem isVerb_not {t : Tok} : (t.kind = 2 ∨ verbB t.word = false) ↔ isVerb t = false := by
  unfold isVerb
  by_cases h : t.kind = 2 <;> simp [h]
theorem phrase_mem {left : Bool} {t : Tok} {r r2 : List Tok} {it : Itm} (h : phraseP left t r = .ok (it, r2)) : ∀ x ∈ r2, x ∈ r := by
  unfold phraseP at h
  split at h
  · split at h
    · cases h
    · injection h with h; injection h with _ h; subst h; simp
  · split at h
    · split at h
      · cases h
      · injection h with h; injection h with _ h; subst h; intro x hx; simp [hx]
    · split at h
      · cases h
      · injection h with h; injection h with _ h; subst h; simp
theorem dropWhile_mem (p : Tok → Bool) (l : List Tok) : ∀ x ∈ l.dropWhile p, x ∈ l := by
  induction l with
  | nil => simp
  | cons a l ih =>
    rw [List.dropWhile_cons]
    split
    · intro x hx; simp [ih x hx]
    · intro x hx; exact hx
/-- What the recursion tells of an expression, and what the machine makes of it. -/
def Agree (e : Int) (r : List Tok) (out : List Itm) (todo : List (Option Itm)) (nest : Nat) (x : Except Fault (List Itm × List Tok)) : Prop :=
  match x with
  | .error y => runX e true r out todo nest = .error y
  | .ok (l, r') => Stop r' ∧ r'.length < r.length ∧ (∀ x ∈ r', x ∈ r) ∧ ∃ base pend : List Itm, l = base ++ pend ∧ runX e true r out todo nest = runX e false r' (out ++ base) (pend.map some ++ todo) nest
def AgreeO (e : Int) (t : Tok) (r : List Tok) (out : List Itm) (todo : List (Option Itm)) (nest : Nat) (x : Except Fault (List Itm × List Tok)) : Prop :=
  match x with
  | .error y => runX e true (t :: r) out todo nest = .error y
  | .ok (l, r') => r'.length ≤ r.length ∧ (∀ x ∈ r', x ∈ r) ∧ runX e true (t :: r) out todo nest = runX e false r' (out ++ l) todo nest
theorem agree_all (e : Int) : ∀ f : Nat,
    (∀ (r : List Tok) (out : List Itm) (todo : List (Option Itm)) (nest : Nat), 2 * r.length + 2 ≤ f → (∀ t ∈ r, t.kind ≠ 4) → Agree e r out todo nest (exprR e f nest r)) ∧
    (∀ (t : Tok) (r : List Tok) (out : List Itm) (todo : List (Option Itm)) (nest : Nat), 2 * r.length + 3 ≤ f → t.kind ≠ 4 → (∀ t ∈ r, t.kind ≠ 4) → isVerb t = false → AgreeO e t r out todo nest (operandR e f nest t r)) := by
  intro f
  induction f with
  | zero => exact ⟨fun r _ _ _ h => by omega, fun t r _ _ _ h => by omega⟩
  | succ f ih =>
    obtain ⟨ihE, ihO⟩ := ih
    refine ⟨?_, ?_⟩
    · intro r out todo nest hf hk
      cases r with
      | nil => rw [exprR]; exact runX_end e out todo nest
      | cons t r1 =>
        simp only [List.length_cons] at hf
        have hk1 : ∀ x ∈ r1, x.kind ≠ 4 := fun x hx => hk x (by simp [hx])
        have ht := hk t (by simp)
        rw [exprR]
        by_cases hv : isVerb t = true
        · simp only [hv, if_true]
          have hx := runX_cons e t r1 out todo nest
          rw [if_pos ((isVerb_iff ht).2 hv)] at hx
          cases hp : phraseP false t r1 with
          | error y => rw [hp] at hx; exact hx
          | ok q =>
            obtain ⟨it, r2⟩ := q
            rw [hp] at hx
            dsimp only at hx ⊢
            have hl := phrase_len hp
            have hm := phrase_mem hp
            have h2 := ihE r2 out (some it :: todo) nest (by omega) (fun x hx => hk1 x (hm x hx))
            cases hr : exprR e f nest r2 with
            | error y => rw [hr] at h2; exact hx.trans h2
            | ok q =>
              obtain ⟨l, r3⟩ := q
              rw [hr] at h2
              obtain ⟨h3, h4, h5, base, pend, rfl, h6⟩ := h2
              exact ⟨h3, by simp only [List.length_cons]; omega, fun x hx => List.mem_cons_of_mem _ (hm x (h5 x hx)), base, pend ++ [it], by simp, by rw [hx, h6]; simp⟩
        · have hv' : isVerb t = false := by simpa using hv
          simp only [hv', Bool.false_eq_true, if_false]
          have hO := ihO t r1 out todo nest (by omega) ht hk1 hv'
          cases ho : operandR e f nest t r1 with
          | error y => rw [ho] at hO; exact hO
          | ok q =>
            obtain ⟨l0, r2⟩ := q
            rw [ho] at hO
            obtain ⟨h1, h2, h3⟩ := hO
            cases r2 with
            | nil => exact ⟨.inl rfl, by simp, by simp, l0, [], by simp, by rw [h3]; simp⟩
            | cons c r3 =>
              dsimp only
              by_cases hc : signIs [41] c = true
              · simp only [hc, if_true]
                exact ⟨.inr ⟨c, r3, rfl, hc⟩, by simp only [List.length_cons] at h1 ⊢; omega, fun x hx => List.mem_cons_of_mem _ (h2 x hx), l0, [], by simp, by rw [h3]; simp⟩
              · have hc' : signIs [41] c = false := by simpa using hc
                simp only [hc', Bool.false_eq_true, if_false]
                have hb := runX_behind e c r3 (out ++ l0) todo nest
                rw [if_neg (by rintro ⟨_, h⟩; exact hc h)] at hb
                by_cases hw : isVerb c = true
                · simp only [hw, Bool.not_true, Bool.false_eq_true, if_false]
                  rw [if_neg (fun h => by rw [isVerb_not.1 h] at hw; cases hw)] at hb
                  cases hp : phraseP true c r3 with
                  | error y => rw [hp] at hb; exact h3.trans hb
                  | ok q =>
                    obtain ⟨it, r4⟩ := q
                    rw [hp] at hb
                    dsimp only at hb ⊢
                    have hl := phrase_len hp
                    have hm := phrase_mem hp
                    simp only [List.length_cons] at h1
                    have h4 := ihE r4 (out ++ l0) (some it :: todo) nest (by omega) (fun x hx => hk1 x (h2 x (by simp [hm x hx])))
                    cases hr : exprR e f nest r4 with
                    | error y => rw [hr] at h4; exact h3.trans (hb.trans h4)
                    | ok q =>
                      obtain ⟨l, r5⟩ := q
                      rw [hr] at h4
                      obtain ⟨k3, k4, k5, base, pend, rfl, k6⟩ := h4
                      exact ⟨k3, by simp only [List.length_cons]; omega, fun x hx => List.mem_cons_of_mem _ (h2 x (by simp [hm x (k5 x hx)])), l0 ++ base, pend ++ [it], by simp, by rw [h3, hb, k6]; simp⟩
                · have hw' : isVerb c = false := by simpa using hw
                  simp only [hw', Bool.not_false, if_true]
                  rw [if_pos (isVerb_not.2 hw')] at hb
                  exact h3.trans hb
    · intro t r out todo nest hf ht hk hv
      have hx := runX_cons e t r out todo nest
      rw [if_neg (fun h => by rw [(isVerb_iff ht).1 h] at hv; cases hv)] at hx
      rw [operandR]
      by_cases hb : signIs [40] t = true
      · simp only [hb, if_true] at hx ⊢
        by_cases hn : nest = 32
        · simp only [hn, if_true] at hx ⊢
          exact hx
        · simp only [hn, if_false] at hx ⊢
          have h2 := ihE r out (none :: todo) (nest + 1) (by omega) hk
          cases hr : exprR e f (nest + 1) r with
          | error y => rw [hr] at h2; exact hx.trans h2
          | ok q =>
            obtain ⟨l, r2⟩ := q
            rw [hr] at h2
            obtain ⟨h3, h4, h5, base, pend, rfl, h6⟩ := h2
            rcases h3 with rfl | ⟨c, r3, rfl, hc⟩
            · have := runX_stop e (out ++ base) (pend.map some ++ none :: todo) (nest + 1)
              rw [if_pos (by omega)] at this
              exact hx.trans (h6.trans this)
            · simp only [hc, if_true]
              have := runX_behind e c r3 (out ++ base) (pend.map some ++ none :: todo) (nest + 1)
              rw [if_pos ⟨by omega, hc⟩, finP_some, finP_none] at this
              refine ⟨by simp only [List.length_cons] at h4; omega, fun x hx => h5 x (by simp [hx]), ?_⟩
              rw [hx, h6, this]
              simp
      · have hb' : signIs [40] t = false := by simpa using hb
        simp only [hb', Bool.false_eq_true, if_false] at hx ⊢
        by_cases hn : isNum t = true
        · simp only [hn, if_true] at hx ⊢
          exact ⟨dropWhile_len _ _, dropWhile_mem _ _, hx⟩
        · have hn' : isNum t = false := by simpa using hn
          simp only [hn', Bool.false_eq_true, if_false] at hx ⊢
          by_cases hw : nameT t = true
          · have hw2 : t.kind = 1 ∧ nameB t.word = true := by simpa [nameT] using hw
            simp only [hw, if_true]
            rw [if_pos hw2] at hx
            exact ⟨Nat.le_refl _, fun x hx => hx, hx⟩
          · have hw' : nameT t = false := by simpa using hw
            simp only [hw', Bool.false_eq_true, if_false]
            rw [if_neg (fun h => hw (by simpa [nameT] using h))] at hx
            by_cases h1 : t.kind = 1
            · simp only [h1, if_true] at hx ⊢
              exact hx
            · simp only [h1, if_false] at hx ⊢
              exact hx
/-- An expression that goes to the line's end, as the document has it. -/
def wholeR (e : Int) (r : List Tok) : Except Fault (List Itm) :=
  match exprR e (2 * r.length + 2) 0 r with
  | .error x => .error x
  | .ok (l, []) => .ok l
  | .ok (_, c :: _) => .error (c.at_, 46)
theorem whole_eq (e : Int) (r : List Tok) (hk : ∀ t ∈ r, t.kind ≠ 4) : wholeR e r = exprP e r := by
  have h := (agree_all e (2 * r.length + 2)).1 r [] [] 0 (Nat.le_refl _) hk
  unfold wholeR
  show _ = runX e true r [] [] 0
  cases hr : exprR e (2 * r.length + 2) 0 r with
  | error y => rw [hr] at h; exact h.symm
  | ok q =>
    obtain ⟨l, r'⟩ := q
    rw [hr] at h
    obtain ⟨h3, _, _, base, pend, rfl, h6⟩ := h
    rcases h3 with rfl | ⟨c, r3, rfl, hc⟩
    · rw [h6, runX_stop, if_neg (by omega), finP_some, finP_nil]
      simp
    · rw [h6, runX_behind, if_neg (by omega), if_pos (isVerb_not.2 (verb_close hc))]
end Go.Proofs.YtfpneopobbfabaaDoor
