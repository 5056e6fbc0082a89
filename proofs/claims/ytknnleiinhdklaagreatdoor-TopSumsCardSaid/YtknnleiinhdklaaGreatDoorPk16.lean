/-
  Plain Lean, no program: where a fault lies, and what stands ahead of its line. No condition.
-/
import Derived.Test.YtknnleiinhdklaaGreatDoorPk06
namespace Go.Proofs.YtknnleiinhdklaaGreatDoor
open Go
/-- A fault's place is the end's, or a token's; its code is the parser's. -/
def Well (e : Int) (r : List Tok) (y : Fault) : Prop := (y.1 = e ∨ ∃ t ∈ r, y.1 = t.at_) ∧ 40 ≤ y.2 ∧ y.2 ≤ 46
theorem Well.mono {e : Int} {r r' : List Tok} {y : Fault} (h : Well e r y) (hs : ∀ t ∈ r, t ∈ r') : Well e r' y := by
 refine ⟨?_, h.2⟩
 rcases h.1 with h | ⟨t, ht, h⟩
 ·exact .inl h
 ·exact .inr ⟨t, hs t ht, h⟩
theorem phrase_fault {left : Bool} {t : Tok} {r : List Tok} {y : Fault} (h : phraseP left t r = .error y) : y = (t.at_, 43) := by
 unfold phraseP at h
 split at h
 ·split at h
  ·injection h with h; exact h.symm
  ·cases h
 ·split at h
  ·split at h
   ·injection h with h; exact h.symm
   ·cases h
  ·split at h
   ·injection h with h; exact h.symm
   ·cases h
theorem well_tok (e : Int) (t : Tok) (r : List Tok) (c : Nat) (h : 40 ≤ c ∧ c ≤ 46) : Well e (t :: r) (t.at_, c) := ⟨.inr ⟨t, by simp, rfl⟩, h⟩
theorem run_fault (e : Int) (f : Nat) : ∀ (m : Bool) (r : List Tok) (out : List Itm) (todo : List (Option Itm)) (op : Nat) (y : Fault), r.length ≤ f → runX e m r out todo op = .error y → Well e r y := by
 have stop : ∀ (m : Bool) (out : List Itm) (todo : List (Option Itm)) (op : Nat) (y : Fault), runX e m [] out todo op = .error y → Well e [] y := by
  intro m out todo op y h
  cases m with
  | true => rw [runX_end] at h; injection h with h; subst h; exact ⟨.inl rfl, by dsimp only; omega⟩
  | false =>
   rw [runX_stop] at h
   split at h
   ·injection h with h; subst h; exact ⟨.inl rfl, by dsimp only; omega⟩
   ·cases h
 induction f with
 | zero =>
  intro m r out todo op y hr h
  have : r = [] := List.length_eq_zero_iff.1 (by omega)
  subst this
  exact stop m out todo op y h
 | succ f ih =>
  intro m r out todo op y hr h
  cases r with
  | nil => exact stop m out todo op y h
  | cons t r =>
   simp only [List.length_cons] at hr
   cases m with
   | true =>
    rw [runX_cons] at h
    split at h
    ·cases hp : phraseP false t r with
     | error x => rw [hp] at h; injection h with h; subst h; rw [phrase_fault hp]; exact well_tok e t r 43 (by decide)
     | ok q =>
      obtain ⟨it, r2⟩ := q
      rw [hp] at h
      have hl := phrase_len hp
      exact (ih true r2 _ _ _ y (by omega) h).mono (fun x hx => List.mem_cons_of_mem _ (phrase_mem hp x hx))
    ·split at h
     ·split at h
      ·injection h with h; subst h; exact well_tok e t r 44 (by decide)
      ·exact (ih true r _ _ _ y (by omega) h).mono (fun x hx => List.mem_cons_of_mem _ hx)
     ·split at h
      ·have hl := dropWhile_len isNum r
       exact (ih false _ _ _ _ y (by omega) h).mono (fun x hx => List.mem_cons_of_mem _ (dropWhile_mem isNum r x hx))
      ·split at h
       ·exact (ih false r _ _ _ y (by omega) h).mono (fun x hx => List.mem_cons_of_mem _ hx)
       ·split at h
        ·injection h with h; subst h; exact well_tok e t r 41 (by decide)
        ·injection h with h; subst h; exact well_tok e t r 42 (by decide)
   | false =>
    rw [runX_behind] at h
    split at h
    ·exact (ih false r _ _ _ y (by omega) h).mono (fun x hx => List.mem_cons_of_mem _ hx)
    ·split at h
     ·injection h with h; subst h; exact well_tok e t r 46 (by decide)
     ·cases hp : phraseP true t r with
      | error x => rw [hp] at h; injection h with h; subst h; rw [phrase_fault hp]; exact well_tok e t r 43 (by decide)
      | ok q =>
       obtain ⟨it, r2⟩ := q
       rw [hp] at h
       have hl := phrase_len hp
       exact (ih true r2 _ _ _ y (by omega) h).mono (fun x hx => List.mem_cons_of_mem _ (phrase_mem hp x hx))
theorem expr_fault {e : Int} {r : List Tok} {y : Fault} (h : exprP e r = .error y) : Well e r y := run_fault e r.length true r [] [] 0 y (Nat.le_refl _) h
theorem sides_fault {e : Int} {y : Fault} (r : List Tok) : ∀ acc, sidesP acc r = .error y → Well e r y := by
 induction r with
 | nil => intro acc h; cases h
 | cons t r ih =>
  intro acc h
  rw [sidesP] at h
  split at h
  ·injection h with h; subst h; exact well_tok e t r 41 (by decide)
  ·split at h
   ·injection h with h; subst h; exact well_tok e t r 45 (by decide)
   ·exact (ih _ h).mono (fun x hx => List.mem_cons_of_mem _ hx)
theorem map_error {α β : Type} {f : α → β} {x : Except Fault α} {y : Fault} (h : x.map f = .error y) : x = .error y := by
 cases x with
 | error e => injection h with h; rw [h]
 | ok a => cases h
theorem input_fault {e : Int} {r : List Tok} {y : Fault} (h : inputP e r = .error y) : Well e r y := by
 cases r with
 | nil => injection h with h; subst h; exact ⟨.inl rfl, by dsimp only; omega⟩
 | cons t r =>
  rw [inputP] at h
  split at h
  ·injection h with h; subst h; exact well_tok e t r 41 (by decide)
  ·exact (sides_fault r [] (map_error h)).mono (fun x hx => List.mem_cons_of_mem _ hx)
theorem into_fault {e : Int} {toks : List Tok} {p : Prg} {lines : Nat} {over : Bool} {y : Fault} (h : intoP e toks p lines over = .error y) : Well e toks y := by
 cases toks with
 | nil => cases h
 | cons t r =>
  rw [intoP.eq_def] at h
  dsimp only at h
  split at h
  ·injection h with h; subst h; exact well_tok e t r 45 (by decide)
  ·split at h
   ·injection h with h
    subst h
    refine ⟨?_, by dsimp only; omega⟩
    unfold placeP
    split
    ·exact .inl rfl
    ·rename_i t' r' he
     exact .inr ⟨t', List.mem_of_mem_drop (i := 256) (by rw [he]; simp), rfl⟩
   ·split at h
    ·injection h with h; subst h; exact well_tok e t r 40 (by decide)
    ·split at h
     ·exact (input_fault (map_error h)).mono (fun x hx => List.mem_cons_of_mem _ hx)
     ·split at h
      ·exact (expr_fault (map_error h)).mono (fun x hx => List.mem_cons_of_mem _ hx)
      ·split at h
       ·injection h with h; subst h; exact well_tok e t r 40 (by decide)
       ·split at h
        ·injection h with h; subst h; exact ⟨.inl rfl, by dsimp only; omega⟩
        ·rename_i _ c r2 _
         split at h
         ·exact (expr_fault (map_error h)).mono (fun x hx => by simp [hx])
         ·injection h with h; subst h; exact ⟨.inr ⟨c, by simp, rfl⟩, by dsimp only; omega⟩
end Go.Proofs.YtknnleiinhdklaaGreatDoor
