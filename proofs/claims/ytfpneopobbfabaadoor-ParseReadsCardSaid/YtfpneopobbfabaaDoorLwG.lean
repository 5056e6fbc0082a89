/-
  Plain Lean, no program: how many items an expression has. No condition.
-/
import Derived.Test.YtfpneopobbfabaaDoorLwE
namespace Go.Proofs.YtfpneopobbfabaaDoor
open Go

theorem fin_len (todo : List (Option Itm)) (out : List Itm) : (finP todo out).1.length + (finP todo out).2.length = out.length + todo.length := by
  obtain ⟨l, rest, h1, h2, _⟩ := fin_split todo out
  rw [h2, h1]
  simp only [List.length_append, List.length_map]
  omega
theorem run_count (e : Int) (f : Nat) : ∀ (m : Bool) (r : List Tok) (out : List Itm) (todo : List (Option Itm)) (d : Nat) (its : List Itm), r.length ≤ f →
    runX e m r out todo d = .ok its → its.length ≤ out.length + todo.length + r.length := by
  have stop : ∀ (out : List Itm) (todo : List (Option Itm)) (d : Nat) (its : List Itm), runX e false [] out todo d = .ok its → its.length ≤ out.length + todo.length + 0 := by
    intro out todo d its h
    rw [runX_stop] at h
    split at h
    · cases h
    · injection h with h
      have := fin_len todo out
      rw [h] at this
      omega
  induction f with
  | zero =>
    intro m r out todo d its hr h
    have : r = [] := List.length_eq_zero_iff.1 (by omega)
    subst this
    cases m with
    | true => rw [runX_end] at h; cases h
    | false => exact stop out todo d its h
  | succ f ih =>
    intro m r out todo d its hr h
    cases r with
    | nil =>
      cases m with
      | true => rw [runX_end] at h; cases h
      | false => exact stop out todo d its h
    | cons t r =>
      simp only [List.length_cons] at hr ⊢
      cases m with
      | true =>
        rw [runX_cons] at h
        split at h
        · cases hp : phraseP false t r with
          | error x => rw [hp] at h; cases h
          | ok q =>
            obtain ⟨it, r2⟩ := q
            rw [hp] at h
            have hl := phrase_len hp
            have := ih true r2 out (some it :: todo) d its (by omega) h
            simp only [List.length_cons] at this
            omega
        · split at h
          · split at h
            · cases h
            · have := ih true r out (none :: todo) _ its (by omega) h
              simp only [List.length_cons] at this
              omega
          · split at h
            · have hl := dropWhile_len isNum r
              have := ih false (r.dropWhile isNum) _ todo d its (by omega) h
              simp only [List.length_append, List.length_singleton] at this
              omega
            · split at h
              · have := ih false r _ todo d its (by omega) h
                simp only [List.length_append, List.length_singleton] at this
                omega
              · split at h <;> cases h
      | false =>
        rw [runX_behind] at h
        split at h
        · have hz := fin_len todo out
          have := ih false r _ _ _ its (by omega) h
          have ht := @List.length_tail _ (finP todo out).2
          omega
        · split at h
          · cases h
          · cases hp : phraseP true t r with
            | error x => rw [hp] at h; cases h
            | ok q =>
              obtain ⟨it, r2⟩ := q
              rw [hp] at h
              have hl := phrase_len hp
              have := ih true r2 out (some it :: todo) d its (by omega) h
              simp only [List.length_cons] at this
              omega
theorem expr_count {e : Int} {r : List Tok} {l : List Itm} (h : exprP e r = .ok l) : l.length ≤ r.length := by
  unfold exprP at h
  have := run_count e r.length true r [] [] 0 l (Nat.le_refl _) h
  simp only [List.length_nil] at this
  omega
theorem flat_ne {l : List Itm} (h : flatB l = true) : 0 < l.length := by
  cases l with
  | nil => cases h
  | cons a l => exact Nat.succ_pos _
/-- An expression has items, and not more than there may be tokens. -/
theorem outP_count {e : List UInt8} {m : Nat} {l : List Itm} (he : plainB e m = true) (hm : m ≤ 60000) (h : outP e = some l) : 0 < l.length ∧ l.length ≤ 256 := by
  obtain ⟨h1, h2, h3⟩ := plainB_iff.1 he
  obtain ⟨x, _, hx, hE, hk, _⟩ := outP_some (by omega) h2 h
  have a := flat_ne (expr_flat hk hE)
  have b := expr_count hE
  rw [List.length_map] at a b
  omega
theorem name_len {s : List UInt8} (h : nameB s = true) : s.length ≤ 16 := by
  unfold nameB at h
  simp only [Bool.and_eq_true] at h
  exact ((wordIs_iff s).1 h.2).2.2
theorem names_short {l : List UInt8} {p : Prg} (h : parseL l = .ok p) : ∀ x ∈ p.lines, x.name.length ≤ 16 := by
  unfold parseL at h
  cases hl : lexL l with
  | error y => rw [hl] at h; cases h
  | ok toks =>
    rw [hl] at h
    have hg0 : Good Prg.none 0 false := ⟨fun x hx => (by cases hx), fun x hx => (by cases hx), by simp [Prg.none], rfl, by omega⟩
    obtain ⟨k, hg⟩ := lines_good l.length toks [] Prg.none p 0 false (by simp) hg0 rfl h
    have hnm := hg.names
    rw [if_pos rfl] at hnm
    obtain ⟨ls, x, h1, h2, h3⟩ := hnm
    intro y hy
    rw [h1] at hy
    rcases List.mem_append.1 hy with hy | hy
    · exact name_len (h3 y hy)
    · rw [List.mem_singleton.1 hy, h2]; exact Nat.zero_le _
end Go.Proofs.YtfpneopobbfabaaDoor
