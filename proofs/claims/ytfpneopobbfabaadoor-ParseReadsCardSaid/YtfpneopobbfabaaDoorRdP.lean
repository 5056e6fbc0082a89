/-
  Plain Lean, no program: what the document's reader asks of a token. Condition: the token is one that a text has.
-/
import Derived.Test.YtfpneopobbfabaaDoorParS
import Derived.Test.YtfpneopobbfabaaDoorParV
namespace Go.Proofs.YtfpneopobbfabaaDoor
open Go

theorem sign_not_letter (b : UInt8) : ¬ (signB b = true ∧ letterB b = true) := by
  have H : ∀ n : Fin 256, ¬ (signB (UInt8.ofNat n.val) = true ∧ letterB (UInt8.ofNat n.val) = true) := by decide +kernel
  have := H ⟨b.toNat, b.toNat_lt⟩
  rwa [UInt8.ofNat_toNat] at this
def isP (s : List UInt8) (r : List Tok) : Bool := match r with
  | [] => false
  | t :: _ => t.word == s && (t.kind == 1 || t.kind == 3)
def verbP (r : List Tok) : Bool := match r with
  | [] => false
  | t :: _ => t.kind != 2 && verbB t.word
theorem isP_sign {t : Tok} (h : t.lexed) (b : UInt8) (hb : letterB b = false) (r : List Tok) : isP [b] (t :: r) = signIs [b] t := by
  show (t.word == [b] && (t.kind == 1 || t.kind == 3)) = (t.kind == 3 && t.word == [b])
  rcases h with ⟨h1, _, ⟨a, q, hw, ha⟩, _⟩ | ⟨h1, hw⟩ | ⟨h1, _, _⟩ | ⟨h1, hw, _⟩
  · rw [h1, hw]
    have : (a :: q == [b]) = false := by
      rw [beq_eq_false_iff_ne]
      intro e
      injection e with e _
      rw [e, hb] at ha
      cases ha
    rw [this]
    rfl
  · rw [h1, hw]; rfl
  · rw [h1]; simp
  · rw [h1, hw]; rfl
theorem isP_word {t : Tok} (h : t.lexed) (a : UInt8) (q : List UInt8) (ha : letterB a = true) (r : List Tok) : isP (a :: q) (t :: r) = isWord (a :: q) t := by
  show (t.word == a :: q && (t.kind == 1 || t.kind == 3)) = (t.kind == 1 && t.word == a :: q)
  rcases h with ⟨h1, _, _⟩ | ⟨h1, hw⟩ | ⟨h1, _, b, p, hw, hb⟩ | ⟨h1, hw, _⟩
  · rw [h1]; simp
  · rw [h1, hw]; rfl
  · rw [h1, hw]
    have : (b :: p == a :: q) = false := by
      rw [beq_eq_false_iff_ne]
      intro e
      injection e with e _
      subst e
      exact sign_not_letter b ⟨hb, ha⟩
    rw [this]
    rfl
  · rw [h1, hw]; rfl
theorem isP_nil (s : List UInt8) : isP s [] = false := rfl
/-- Whether a phrase goes on. -/
def opP (r : List Tok) : Bool := match r with
  | [] => false
  | t :: _ => isOp t
theorem opP_eq {r : List Tok} (h : ∀ t ∈ r, t.lexed) : opP r = (isP [47] r || isP [92] r || isP [46] r) := by
  cases r with
  | nil => rfl
  | cons t r =>
    have ht := h t (by simp)
    rw [isP_sign ht 47 (by decide), isP_sign ht 92 (by decide), isP_sign ht 46 (by decide)]
    show (t.kind == 3 && (t.word == [47] || t.word == [92] || t.word == [46])) = (t.kind == 3 && t.word == [47] || t.kind == 3 && t.word == [92] || t.kind == 3 && t.word == [46])
    cases (t.kind == 3) <;> rfl
/-- One of three signs. -/
theorem op_cases {t : Tok} (h : isOp t = true) : t.kind = 3 ∧ (t.word = [47] ∨ t.word = [92] ∨ t.word = [46]) := by
  simp only [isOp, Bool.and_eq_true, Bool.or_eq_true, beq_iff_eq] at h
  exact ⟨h.1, by rcases h.2 with (h | h) | h <;> simp [h]⟩
theorem phrase_nop {left : Bool} {t : Tok} {r : List Tok} (h : opP r = false) : phraseP left t r = if verbF t.word left = 0 then .error (t.at_, 43) else .ok (⟨if left then 4 else 3, t.at_, verbF t.word left, [], []⟩, r) := by
  cases r with
  | nil => rfl
  | cons o r =>
    have h : isOp o = false := h
    simp only [phraseP, h]
    rfl
theorem phrase_op {left : Bool} {t o : Tok} {r : List Tok} (h : isOp o = true) : phraseP left t (o :: r) = if 17 < twoF t.word ∨ (o.word == [46]) ≠ left ∨ twoF t.word = 0 then .error (t.at_, 43) else .ok (⟨if o.word = [47] then 5 else if o.word = [92] then 6 else 7, t.at_, twoF t.word, [], []⟩, r) := by
  simp only [phraseP, h]
  rfl
/-- A word that is no verb and no name is in, or out. -/
theorem word_in_out {t : Tok} (h : t.lexed) (h1 : t.kind = 1) (hv : verbB t.word = false) (hn : nameT t = false) : t.word = [105, 110] ∨ t.word = [111, 117, 116] := by
  have hw := lexed_word h h1
  unfold nameT nameB at hn
  rw [h1, hv, hw] at hn
  simp at hn
  by_cases h2 : t.word = [105, 110]
  · exact .inl h2
  · exact .inr (hn h2)
end Go.Proofs.YtfpneopobbfabaaDoor
