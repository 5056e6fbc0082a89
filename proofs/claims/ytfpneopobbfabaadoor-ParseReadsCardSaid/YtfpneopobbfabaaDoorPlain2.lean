/-
  Plain Lean, no program: faults, and tokens' texts. No condition.
-/
import Derived.Test.YtfpneopobbfabaaDoorPlain
import Derived.Lib.ItoaNum
import Derived.Lib.SpaceU
import Derived.Lib.IndexMore
import Derived.Lib.Replace
namespace Go.Proofs.YtfpneopobbfabaaDoor
open Go

/-! ### a token's text -/
theorem lexAt_bad (f : Nat) : ∀ (j : Nat) (l : List UInt8) (a c : Nat), l.length ≤ f → lexAt j l = .error (a, c) → c ≠ 0 ∧ j ≤ a ∧ a < j + l.length := by
  induction f with
  | zero => intro j l a c hl h; have : l = [] := by cases l <;> simp_all
            subst this; cases h
  | succ f ih =>
    intro j l a c hl h
    cases l with
    | nil => cases h
    | cons b r =>
      rw [lexAt_cons] at h
      have hr : r.length ≤ f := by simpa using hl
      by_cases c1 : b = 32 ∨ b = 9
      · rw [if_pos c1] at h
        have := ih _ _ _ _ hr h
        simp only [List.length_cons]; omega
      · rw [if_neg c1] at h
        by_cases c2 : b = 35
        · have hn : 1 ≤ runL noteB (b :: r) := by subst c2; rw [runL_cons]; simp [noteB]
          have hn2 := runL_le noteB (b :: r)
          rw [if_pos c2] at h
          have := ih _ _ _ _ (by simp only [List.length_drop, List.length_cons]; omega) h
          simp only [List.length_drop, List.length_cons] at *; omega
        · rw [if_neg c2] at h
          by_cases c3 : (tokL (b :: r)).2.2 ≠ 0
          · rw [if_pos c3] at h
            injection h with h
            injection h with h1 h2
            simp only [List.length_cons]
            exact ⟨by omega, by omega, by omega⟩
          · rw [if_neg c3] at h
            have hl2 := tokL_len (b :: r) (by simp) (by simpa using c3)
            cases hx : lexAt (j + (tokL (b :: r)).2.1) ((b :: r).drop (tokL (b :: r)).2.1) with
            | ok v => rw [hx] at h; cases h
            | error e =>
              obtain ⟨a', c'⟩ := e
              rw [hx] at h
              injection h with h
              injection h with h1 h2
              subst h1 h2
              have := ih _ _ _ _ (by simp only [List.length_drop, List.length_cons]; omega) hx
              simp only [List.length_drop, List.length_cons] at *; omega
theorem lexL_bad {l : List UInt8} {a c : Nat} (h : lexL l = .error (a, c)) : c ≠ 0 := by
  unfold lexL at h
  split at h
  · injection h with h; injection h with h1 h2; omega
  · exact (lexAt_bad l.length 0 l a c (Nat.le_refl _) h).1
/-- A number's text. -/
def numT (n : Int) : List UInt8 := if n < 0 then 95 :: Lib.decDigits n.natAbs else Lib.decDigits n.toNat
def spellS (t : Tok) : List UInt8 := if t.kind = 2 then numT t.n else if t.kind = 4 then [10] else t.word
/-- A token's text, as the program tells it. -/
def spellP (t : Tok) : List UInt8 × Bool :=
  match lexL (spellS t) with
  | .ok [x] =>
    if 24 < (spellS t).length then ([], false)
    else if x = { t with at_ := 0 } ∧ (Lib.trimSpaceD (spellS t) = spellS t ∨ t.kind = 4) ∧ Lib.contains (spellS t) [35] = false then (spellS t, true)
    else ([], false)
  | _ => ([], false)
theorem digit_of (d : Nat) (h : d < 10) : digitB (UInt8.ofNat (48 + d)) = true := by
  have H : ∀ d : Fin 10, digitB (UInt8.ofNat (48 + d.val)) = true := by decide
  exact H ⟨d, h⟩
theorem decDigits_digits (n : Nat) : ∀ c ∈ Lib.decDigits n, digitB c = true := by
  induction n using Nat.strongRecOn with
  | ind n ih =>
    rw [Lib.decDigits]
    split
    · rename_i h
      intro c hc
      rw [List.mem_singleton] at hc
      rw [hc]
      exact digit_of n h
    · intro c hc
      rcases List.mem_append.1 hc with h | h
      · exact ih (n / 10) (by omega) c h
      · rw [List.mem_singleton] at h
        rw [h]
        exact digit_of _ (Nat.mod_lt _ (by decide))
theorem decDigits_ne (n : Nat) : Lib.decDigits n ≠ [] := by
  rw [Lib.decDigits]; split <;> simp
theorem spellP_bad {t : Tok} {e : Nat × Nat} (h : lexL (spellS t) = .error e) : spellP t = ([], false) := by unfold spellP; rw [h]
theorem spellP_nil {t : Tok} (h : lexL (spellS t) = .ok []) : spellP t = ([], false) := by unfold spellP; rw [h]
theorem spellP_two {t x y : Tok} {r : List Tok} (h : lexL (spellS t) = .ok (x :: y :: r)) : spellP t = ([], false) := by unfold spellP; rw [h]
theorem spellP_long {t x : Tok} (h : lexL (spellS t) = .ok [x]) (hl : 24 < (spellS t).length) : spellP t = ([], false) := by unfold spellP; rw [h]; exact if_pos hl
theorem spellP_ne {t x : Tok} (h : lexL (spellS t) = .ok [x]) (hx : x ≠ { t with at_ := 0 }) : spellP t = ([], false) := by
  unfold spellP; rw [h]; dsimp only
  split
  · rfl
  · rw [if_neg (fun c => hx c.1)]
theorem spellP_trim {t x : Tok} (h : lexL (spellS t) = .ok [x]) (ht : Lib.trimSpaceD (spellS t) ≠ spellS t) (hk : t.kind ≠ 4) : spellP t = ([], false) := by
  unfold spellP; rw [h]; dsimp only
  split
  · rfl
  · rw [if_neg (fun c => c.2.1.elim ht hk)]
theorem spellP_hash {t x : Tok} (h : lexL (spellS t) = .ok [x]) (hc : Lib.contains (spellS t) [35] = true) : spellP t = ([], false) := by
  unfold spellP; rw [h]; dsimp only
  split
  · rfl
  · rw [if_neg (fun c => by rw [hc] at c; exact Bool.noConfusion c.2.2)]
theorem spellP_ok {t x : Tok} (h : lexL (spellS t) = .ok [x]) (hl : ¬ 24 < (spellS t).length) (hx : x = { t with at_ := 0 }) (ht : Lib.trimSpaceD (spellS t) = spellS t ∨ t.kind = 4) (hc : Lib.contains (spellS t) [35] = false) : spellP t = (spellS t, true) := by
  unfold spellP; rw [h]; dsimp only
  rw [if_neg hl, if_pos ⟨hx, ht, hc⟩]
theorem index_absent (c : UInt8) (l : List UInt8) (h : c ∉ l) : Lib.index l [c] = -1 := by
  induction l with
  | nil => rfl
  | cons b l ih =>
    simp only [List.mem_cons, not_or] at h
    have hp : ([c] : List UInt8).isPrefixOf (b :: l) = false := by simp [List.isPrefixOf, h.1]
    rw [Lib.index, hp, ih h.2]; rfl
theorem no_minus (n : Nat) : (45 : UInt8) ∉ Lib.decDigits n := fun h => by
  have := decDigits_digits n 45 h
  revert this; decide
theorem replace_itoa (n : Int) : Lib.replace (Lib.itoa n) [45] [95] 1 = numT n := by
  unfold Lib.replace
  rw [if_neg (by decide)]
  unfold numT Lib.itoa
  by_cases h : n < 0
  · rw [if_pos h, if_pos h]
    have hi : Lib.index (45 :: Lib.decDigits n.natAbs) [45] = ((0 : Nat) : Int) := by rw [Lib.index]; simp [List.isPrefixOf]
    have hc : Lib.count (45 :: Lib.decDigits n.natAbs) [45] = 1 := by
      rw [Lib.count_cons_eq, Lib.count_miss (index_absent _ _ (no_minus _))]
    have hr : Lib.replaceNum (45 :: Lib.decDigits n.natAbs) [45] 1 = 1 := by unfold Lib.replaceNum; rw [hc]; rfl
    rw [hr, Lib.replaceK_hit _ _ _ _ _ hi]
    simp [Lib.replaceK]
  · rw [if_neg h, if_neg h]
    have hi := index_absent 45 _ (no_minus n.toNat)
    cases Lib.replaceNum (Lib.decDigits n.toNat) [45] 1 with
    | zero => rfl
    | succ k => rw [Lib.replaceK, hi]; rfl
end Go.Proofs.YtfpneopobbfabaaDoor
