/-
  Plain Lean, no program: of what is read each item's values stand ahead of it; names, inputs, how many lines. No condition.
-/
import Derived.Test.YtfpneopobbfabaaDoorLwD
namespace Go.Proofs.YtfpneopobbfabaaDoor
open Go

def takesI (it : Itm) : Bool :=
  if it.how = 3 then takesB it.fn false || (decide (32 ≤ it.fn) && decide (it.fn ≤ 36))
  else if it.how = 4 then takesB it.fn true || (decide (37 ≤ it.fn) && decide (it.fn ≤ 40))
  else takesB it.fn true
/-- How many values there are behind an item. -/
def flatS (n : Nat) (it : Itm) : Option Nat :=
  if it.how = 1 then if it.nums = [] ∨ it.name ≠ [] ∨ it.fn ≠ 0 then none else some (n + 1)
  else if it.how = 2 then if it.nums ≠ [] ∨ it.name = [] ∨ it.fn ≠ 0 then none else some (n + 1)
  else if it.how = 3 ∨ it.how = 5 ∨ it.how = 6 then if n < 1 ∨ takesI it = false then none else some n
  else if it.how = 4 ∨ it.how = 7 then if n < 2 ∨ takesI it = false then none else some (n - 1)
  else none
def flatF : Nat → List Itm → Option Nat
  | n, [] => some n
  | n, it :: l => match flatS n it with
    | none => none
    | some m => flatF m l
def flatB (l : List Itm) : Bool := flatF 0 l == some 1
theorem flatF_app (a b : List Itm) : ∀ (n m : Nat), flatF n a = some m → flatF n (a ++ b) = flatF m b := by
  induction a with
  | nil => intro n m h; injection h with h; subst h; rfl
  | cons x a ih =>
    intro n m h
    rw [List.cons_append, flatF]
    rw [flatF] at h
    cases hs : flatS n x with
    | none => rw [hs] at h; cases h
    | some k => rw [hs] at h; exact ih k m h
theorem takes_two {s : List UInt8} (h0 : twoF s ≠ 0) : (twoF s ≤ 17 → takesB (twoF s) true = true) ∧ (takesB (twoF s) true || (decide (37 ≤ twoF s) && decide (twoF s ≤ 40))) = true := by
  rcases verb_cases s with h | h
  · have H : ∀ s ∈ verbTexts, twoF s ≠ 0 → (twoF s ≤ 17 → takesB (twoF s) true = true) ∧ (takesB (twoF s) true || (decide (37 ≤ twoF s) && decide (twoF s ≤ 40))) = true := by decide
    exact H s h h0
  · exact absurd h.1 h0
theorem takes_one {s : List UInt8} (h0 : oneF s ≠ 0) : (takesB (oneF s) false || (decide (32 ≤ oneF s) && decide (oneF s ≤ 36))) = true := by
  rcases verb_cases s with h | h
  · have H : ∀ s ∈ verbTexts, oneF s ≠ 0 → (takesB (oneF s) false || (decide (32 ≤ oneF s) && decide (oneF s ≤ 36))) = true := by decide
    exact H s h h0
  · exact absurd h.2.1 h0
theorem phrase_flat {left : Bool} {t : Tok} {r r2 : List Tok} {it : Itm} (h : phraseP left t r = .ok (it, r2)) (n : Nat) : flatS (n + if left then 2 else 1) it = some (n + 1) := by
  have plain : ∀ left : Bool, verbF t.word left ≠ 0 → flatS (n + if left then 2 else 1) ⟨if left then 4 else 3, t.at_, verbF t.word left, [], []⟩ = some (n + 1) := by
    intro left h0
    cases left with
    | true =>
      have h0 : twoF t.word ≠ 0 := h0
      have := (takes_two h0).2
      simp [flatS, takesI, verbF, this]
    | false =>
      have h0 : oneF t.word ≠ 0 := h0
      have := takes_one h0
      simp [flatS, takesI, verbF, this]
  unfold phraseP at h
  split at h
  · split at h
    · cases h
    · rename_i h0
      injection h with h; injection h with h1 h2; subst h1
      exact plain left h0
  · rename_i op r3
    split at h
    · split at h
      · cases h
      · rename_i h0
        injection h with h; injection h with h1 h2; subst h1
        have h1 : ¬ 17 < twoF t.word := fun e => h0 (.inl e)
        have h2 : (op.word == [46]) = left := by
          cases hd : decide ((op.word == [46]) = left) with
          | true => exact of_decide_eq_true hd
          | false => exact absurd (.inr (.inl (of_decide_eq_false hd))) h0
        have h3 : twoF t.word ≠ 0 := fun e => h0 (.inr (.inr e))
        have h4 := (takes_two h3).1 (by omega)
        subst h2
        by_cases h5 : op.word = [47]
        · simp [flatS, takesI, h5, h4]
        · by_cases h6 : op.word = [92]
          · simp [flatS, takesI, h6, h4]
          · rename_i ho
            have h7 : op.word = [46] := by
              simp only [isOp, Bool.and_eq_true, Bool.or_eq_true, beq_iff_eq] at ho
              rcases ho.2 with (h | h) | h
              · exact absurd h h5
              · exact absurd h h6
              · exact h
            simp [flatS, takesI, h7, h4]
    · split at h
      · cases h
      · rename_i h0
        injection h with h; injection h with h1 h2; subst h1
        exact plain left h0
theorem name_ne {s : List UInt8} (h : nameB s = true) : s ≠ [] := by
  rintro rfl
  revert h
  decide
theorem expr_flatR (e : Int) (f : Nat) : (∀ (nest : Nat) (r : List Tok) (l : List Itm) (r' : List Tok), exprR e f nest r = .ok (l, r') → ∀ n, flatF n l = some (n + 1)) ∧
    (∀ (nest : Nat) (t : Tok) (r : List Tok) (l : List Itm) (r' : List Tok), operandR e f nest t r = .ok (l, r') → ∀ n, flatF n l = some (n + 1)) := by
  induction f with
  | zero => exact ⟨fun nest r l r' h => (by cases h), fun nest t r l r' h => (by cases h)⟩
  | succ f ih =>
    obtain ⟨ihE, ihO⟩ := ih
    constructor
    · intro nest r l r' h n
      rw [exprR.eq_def] at h
      dsimp only at h
      cases r with
      | nil => cases h
      | cons t r1 =>
        dsimp only at h
        by_cases hv : isVerb t = true
        · rw [if_pos hv] at h
          cases hp : phraseP false t r1 with
          | error x => rw [hp] at h; cases h
          | ok q =>
            obtain ⟨it, r2⟩ := q
            rw [hp] at h
            dsimp only at h
            cases hr : exprR e f nest r2 with
            | error x => rw [hr] at h; cases h
            | ok q =>
              obtain ⟨l1, r3⟩ := q
              rw [hr] at h
              injection h with h
              injection h with h1 h2
              subst h1
              rw [flatF_app l1 [it] n (n + 1) (ihE nest r2 l1 r3 hr n), flatF]
              have := phrase_flat hp n
              rw [show (n + if false = true then 2 else 1) = n + 1 from rfl] at this
              rw [this]
              rfl
        · rw [if_neg hv] at h
          cases ho : operandR e f nest t r1 with
          | error x => rw [ho] at h; cases h
          | ok q =>
            obtain ⟨l0, r2⟩ := q
            rw [ho] at h
            dsimp only at h
            have h0 := ihO nest t r1 l0 r2 ho n
            cases r2 with
            | nil => injection h with h; injection h with h1 h2; subst h1; exact h0
            | cons c r3 =>
              dsimp only at h
              by_cases hc : signIs [41] c = true
              · rw [if_pos hc] at h
                injection h with h; injection h with h1 h2; subst h1; exact h0
              · rw [if_neg hc] at h
                by_cases hw : (!isVerb c) = true
                · rw [if_pos hw] at h; cases h
                · rw [if_neg hw] at h
                  cases hp : phraseP true c r3 with
                  | error x => rw [hp] at h; cases h
                  | ok q =>
                    obtain ⟨it, r4⟩ := q
                    rw [hp] at h
                    dsimp only at h
                    cases hr : exprR e f nest r4 with
                    | error x => rw [hr] at h; cases h
                    | ok q =>
                      obtain ⟨l1, r5⟩ := q
                      rw [hr] at h
                      injection h with h
                      injection h with h1 h2
                      subst h1
                      rw [List.append_assoc, flatF_app l0 _ n (n + 1) h0, flatF_app l1 [it] (n + 1) (n + 2) (ihE nest r4 l1 r5 hr (n + 1)), flatF]
                      have := phrase_flat hp n
                      rw [show (n + if true = true then 2 else 1) = n + 2 from rfl] at this
                      rw [this]
                      rfl
    · intro nest t r l r' h n
      rw [operandR.eq_def] at h
      dsimp only at h
      by_cases hb : signIs [40] t = true
      · rw [if_pos hb] at h
        by_cases hn : nest = 32
        · rw [if_pos hn] at h; cases h
        · rw [if_neg hn] at h
          cases hr : exprR e f (nest + 1) r with
          | error x => rw [hr] at h; cases h
          | ok q =>
            obtain ⟨l1, r2⟩ := q
            rw [hr] at h
            dsimp only at h
            cases r2 with
            | nil => cases h
            | cons c r3 =>
              dsimp only at h
              by_cases hc : signIs [41] c = true
              · rw [if_pos hc] at h
                injection h with h; injection h with h1 h2; subst h1
                exact ihE (nest + 1) r l1 _ hr n
              · rw [if_neg hc] at h; cases h
      · rw [if_neg hb] at h
        by_cases hn : isNum t = true
        · rw [if_pos hn] at h
          injection h with h; injection h with h1 h2; subst h1
          simp [flatF, flatS]
        · rw [if_neg hn] at h
          by_cases hw : nameT t = true
          · rw [if_pos hw] at h
            injection h with h; injection h with h1 h2; subst h1
            have hne : t.word ≠ [] := by
              simp only [nameT, Bool.and_eq_true] at hw
              exact name_ne hw.2
            simp [flatF, flatS, hne]
          · rw [if_neg hw] at h
            split at h <;> cases h
theorem expr_flat {e : Int} {r : List Tok} {l : List Itm} (hk : ∀ t ∈ r, notLine t = true) (h : exprP e r = .ok l) : flatB l = true := by
  have hw := whole_eq e r (fun t ht => by have := hk t ht; simpa [notLine] using this)
  rw [h] at hw
  unfold wholeR at hw
  cases hr : exprR e (2 * r.length + 2) 0 r with
  | error x => rw [hr] at hw; cases hw
  | ok q =>
    obtain ⟨l1, r'⟩ := q
    rw [hr] at hw
    cases r' with
    | cons c r' => cases hw
    | nil =>
      injection hw with hw
      subst hw
      unfold flatB
      rw [(expr_flatR e _).1 0 r l1 [] hr 0]
      rfl

/-! ### programs -/
structure Good (p : Prg) (lines : Nat) (over : Bool) : Prop where
  flat : ∀ x ∈ p.lines, flatB x.items = true
  ins : ∀ x ∈ p.inputs, nameB x.name = true ∧ x.sides.length ≤ 4
  names : if over = true then ∃ l x, p.lines = l ++ [x] ∧ x.name = [] ∧ ∀ y ∈ l, nameB y.name = true else ∀ y ∈ p.lines, nameB y.name = true
  count : p.inputs.length + p.lines.length = lines
  most : lines ≤ 64
theorem sides_len (r : List Tok) : ∀ acc l, acc.length ≤ 4 → sidesP acc r = .ok l → l.length ≤ 4 := by
  induction r with
  | nil => intro acc l ha h; injection h with h; subst h; exact ha
  | cons t r ih =>
    intro acc l ha h
    rw [sidesP] at h
    split at h
    · cases h
    · split at h
      · cases h
      · refine ih _ l ?_ h
        rw [List.length_append]
        show acc.length + 1 ≤ 4
        omega
theorem map_okE {α β : Type} {f : α → β} {x : Except Fault α} {b : β} (h : x.map f = .ok b) : ∃ a, x = .ok a ∧ b = f a := by
  cases x with
  | error e => cases h
  | ok a => injection h with h; exact ⟨a, rfl, h.symm⟩
theorem over_none {p : Prg} (h : ∀ y ∈ p.lines, nameB y.name = true) : overP p = false := by
  unfold overP
  cases hl : p.lines.getLast? with
  | none => rfl
  | some x =>
    have := name_ne (h x (List.mem_of_getLast? hl))
    simpa using this
theorem Good.into {e : Int} {toks : List Tok} {p q : Prg} {lines : Nat} {over : Bool} (hg : Good p lines over) (ho : over = overP p) (hk : ∀ t ∈ toks, notLine t = true) (hne : toks ≠ []) (h : intoP e toks p lines over = .ok q) : Good q (lines + 1) (overP q) := by
  cases toks with
  | nil => exact absurd rfl hne
  | cons t r =>
    have hk1 : ∀ t ∈ r, notLine t = true := fun x hx => hk x (by simp [hx])
    rw [intoP.eq_def] at h
    dsimp only at h
    split at h
    · cases h
    · rename_i h64
      have hmost := hg.most
      split at h
      · cases h
      · split at h
        · cases h
        · rename_i hov
          have hov : over = false := by
            cases over with
            | false => rfl
            | true => exact absurd (.inl rfl) hov
          have hnm := hg.names
          rw [hov, if_neg (by simp)] at hnm
          split at h
          · obtain ⟨x, hx, rfl⟩ := map_okE h
            have hx2 : nameB x.name = true ∧ x.sides.length ≤ 4 := by
              cases r with
              | nil => cases hx
              | cons t2 r =>
                rw [inputP] at hx
                split at hx
                · cases hx
                · rename_i hn
                  obtain ⟨l, hl, rfl⟩ := map_okE hx
                  refine ⟨?_, sides_len r [] l (by simp) hl⟩
                  simp only [nameT, Bool.not_eq_true', Bool.not_eq_false, Bool.and_eq_true] at hn
                  exact hn.2
            refine ⟨hg.flat, ?_, ?_, ?_, by omega⟩
            · intro y hy
              rcases List.mem_append.1 hy with hy | hy
              · exact hg.ins y hy
              · rw [List.mem_singleton.1 hy]; exact hx2
            · rw [over_none (p := { p with inputs := p.inputs ++ [x] }) hnm, if_neg (by simp)]
              exact hnm
            · have := hg.count
              rw [List.length_append]
              show p.inputs.length + 1 + p.lines.length = lines + 1
              omega
          · split at h
            · obtain ⟨l, hl, rfl⟩ := map_okE h
              refine ⟨?_, hg.ins, ?_, ?_, by omega⟩
              · intro y hy
                rcases List.mem_append.1 hy with hy | hy
                · exact hg.flat y hy
                · rw [List.mem_singleton.1 hy]; exact expr_flat hk1 hl
              · rw [over_snoc, if_pos (by rfl)]
                exact ⟨p.lines, _, rfl, rfl, hnm⟩
              · have := hg.count
                rw [List.length_append]
                show p.inputs.length + (p.lines.length + 1) = lines + 1
                omega
            · split at h
              · cases h
              · rename_i hnt
                split at h
                · cases h
                · rename_i c r2
                  split at h
                  · obtain ⟨l, hl, rfl⟩ := map_okE h
                    have hn : nameB t.word = true := by
                      simp only [nameT, Bool.not_eq_false, Bool.and_eq_true] at hnt
                      exact hnt.2
                    refine ⟨?_, hg.ins, ?_, ?_, by omega⟩
                    · intro y hy
                      rcases List.mem_append.1 hy with hy | hy
                      · exact hg.flat y hy
                      · rw [List.mem_singleton.1 hy]; exact expr_flat (fun x hx => hk1 x (by simp [hx])) hl
                    · have hall : ∀ y ∈ p.lines ++ [(⟨t.word, t.at_, l⟩ : Lin)], nameB y.name = true := by
                        intro y hy
                        rcases List.mem_append.1 hy with hy | hy
                        · exact hnm y hy
                        · rw [List.mem_singleton.1 hy]; exact hn
                      rw [over_none (p := { p with lines := p.lines ++ [(⟨t.word, t.at_, l⟩ : Lin)] }) hall, if_neg (by simp)]
                      exact hall
                    · have := hg.count
                      rw [List.length_append]
                      show p.inputs.length + (p.lines.length + 1) = lines + 1
                      omega
                  · cases h
theorem lines_good (n : Int) (r : List Tok) : ∀ (own : List Tok) (p q : Prg) (lines : Nat) (over : Bool), (∀ x ∈ own, notLine x = true) → Good p lines over → over = overP p →
    linesX n (own ++ r) p lines over = .ok q → ∃ k, Good q k true := by
  induction r with
  | nil =>
    intro own p q lines over ho hg hv h
    rw [List.append_nil] at h
    by_cases hn : own = []
    · subst hn
      rw [linesX_nil] at h
      split at h
      · rename_i hov
        injection h with h
        subst h hov
        exact ⟨lines, hg⟩
      · cases h
    · rw [linesX_last n own p lines over ho hn] at h
      cases hi : intoP n own p lines over with
      | error x => rw [hi] at h; cases h
      | ok q' =>
        rw [hi] at h
        dsimp only at h
        have hg' := hg.into hv ho hn hi
        rw [linesX_nil] at h
        split at h
        · rename_i hov
          injection h with h
          subst h
          rw [hov] at hg'
          exact ⟨_, hg'⟩
        · cases h
  | cons t r ih =>
    intro own p q lines over ho hg hv h
    by_cases ht : notLine t = true
    · refine ih (own ++ [t]) p q lines over ?_ hg hv (by rw [List.append_assoc]; exact h)
      intro x hx
      rcases List.mem_append.1 hx with h | h
      · exact ho x h
      · rw [List.mem_singleton.1 h]; exact ht
    · have ht' : notLine t = false := by simpa using ht
      rw [linesX_line n own t r p lines over ho ht'] at h
      by_cases hn : own = []
      · rw [if_pos hn] at h
        exact ih [] p q lines over (by simp) hg hv h
      · rw [if_neg hn] at h
        cases hi : intoP t.at_ own p lines over with
        | error x => rw [hi] at h; cases h
        | ok q' =>
          rw [hi] at h
          exact ih [] q' q (lines + 1) (overP q') (by simp) (hg.into hv ho hn hi) rfl h
theorem flat_law {l : List UInt8} {p : Prg} (h : parseL l = .ok p) : p.lines ≠ [] ∧ (∀ x ∈ p.lines, flatB x.items = true) ∧ (∀ x ∈ p.inputs, nameB x.name = true ∧ x.sides.length ≤ 4) ∧
    (∀ (i : Nat) (x : Lin), p.lines[i]? = some x → nameB x.name = decide (i + 1 < p.lines.length)) ∧ p.inputs.length + p.lines.length ≤ 64 := by
  unfold parseL at h
  cases hl : lexL l with
  | error y => rw [hl] at h; cases h
  | ok toks =>
    rw [hl] at h
    have hg0 : Good Prg.none 0 false := ⟨fun x hx => (by cases hx), fun x hx => (by cases hx), by simp [Prg.none], rfl, by omega⟩
    obtain ⟨k, hg⟩ := lines_good l.length toks [] Prg.none p 0 false (by simp) hg0 rfl h
    have hnm := hg.names
    rw [if_pos rfl] at hnm
    obtain ⟨ls, x, h1, h2, h3⟩ := hnm
    refine ⟨by rw [h1]; simp, hg.flat, hg.ins, fun i y hy => ?_, by have := hg.count; have := hg.most; omega⟩
    rw [h1] at hy
    rw [h1, List.length_append]
    show _ = decide (i + 1 < ls.length + 1)
    by_cases hi : i < ls.length
    · rw [List.getElem?_append_left hi] at hy
      rw [h3 y (List.mem_of_getElem? hy)]
      simp [hi]
    · rw [List.getElem?_append_right (by omega)] at hy
      have hz : i - ls.length = 0 := by
        have := (List.getElem?_eq_some_iff.1 hy).1
        simp at this
        omega
      rw [hz] at hy
      simp at hy
      subst hy
      rw [h2, show nameB [] = false by decide]
      simp [hi]
end Go.Proofs.YtfpneopobbfabaaDoor
