/-
  Plain Lean, no program: verbs and names, as the program has them and as the document has them. No condition.
-/
import Derived.Test.YtfpneopobbfabaaDoorParS
import Derived.Test.YtfpneopobbfabaaDoorLawQ
namespace Go.Proofs.YtfpneopobbfabaaDoor
open Go

theorem letter_head {a : UInt8} (h : letterB a = true) : ¬ (a = 32 ∨ a = 9) ∧ a ≠ 35 ∧ a ≠ 10 := by
  have H : ∀ n : Fin 256, letterB (UInt8.ofNat n.val) = true → ¬ (UInt8.ofNat n.val = 32 ∨ UInt8.ofNat n.val = 9) ∧ UInt8.ofNat n.val ≠ 35 ∧ UInt8.ofNat n.val ≠ 10 := by decide +kernel
  have := H ⟨a.toNat, a.toNat_lt⟩
  rw [UInt8.ofNat_toNat] at this
  exact this h
/-- A word's text. -/
def WordText (s : List UInt8) : Prop := (∃ a r, s = a :: r ∧ letterB a = true) ∧ (∀ c ∈ s, alnumB c = true) ∧ s.length ≤ 16
theorem word_tok {s : List UInt8} (h : WordText s) : tokL s = (⟨1, 0, s, 0⟩, s.length, 0) ∧ lexL s = .ok [⟨1, 0, s, 0⟩] := by
  obtain ⟨⟨a, r, rfl, ha⟩, hall, hlen⟩ := h
  have hr : runL alnumB (a :: r) = (a :: r).length := by
    have := runL_app_all alnumB (a :: r) [] hall (by simp)
    rwa [List.append_nil] at this
  obtain ⟨h1, h2, h3⟩ := letter_head ha
  have ht : tokL (a :: r) = (⟨1, 0, a :: r, 0⟩, (a :: r).length, 0) := by
    rw [tok_word (a :: r) h3 ha, hr, if_neg (by omega), List.take_length]
  refine ⟨ht, (lexL_ok_iff _ _).2 ⟨by omega, ?_⟩⟩
  rw [lexAt_cons, if_neg h1, if_neg h2, ht, if_neg (by simp), List.drop_length, lexAt_nil]
  rfl
theorem wordIs_iff (s : List UInt8) : wordIs s = true ↔ WordText s := by
  constructor
  · intro h
    unfold wordIs at h
    split at h
    · rename_i t ht
      simp only [Bool.and_eq_true, beq_iff_eq] at h
      have hx := lexAt_lexed s.length 0 s [t] (Nat.le_refl _) ((lexL_ok_iff _ _).1 ht).2 t (by simp)
      rcases hx with ⟨_, _, h1, h2, h3⟩ | ⟨h1, _⟩ | ⟨h1, _⟩ | ⟨h1, _⟩
      · rw [h.2] at h1 h2 h3
        exact ⟨h1, h2, h3⟩
      · rw [h.1] at h1; cases h1
      · rw [h.1] at h1; cases h1
      · rw [h.1] at h1; cases h1
    · cases h
  · intro h
    unfold wordIs
    rw [(word_tok h).2]
    simp
theorem wordIs_spell (s : List UInt8) : wordIs s = (spellP ⟨1, 0, s, 0⟩).2 := by
  have hs : spellS ⟨1, 0, s, 0⟩ = s := by simp [spellS]
  rw [← spellR_eq ⟨1, 0, s, 0⟩ (by show (-9223372036854775808 : Int) ≤ 0; decide) (by show (0 : Int) ≤ 9223372036854775807; decide), Bool.eq_iff_iff, wordIs_iff]
  constructor
  · intro h
    have ht := (word_tok h).1
    obtain ⟨⟨a, r, rfl, ha⟩, hall, hlen⟩ := h
    obtain ⟨h1, h2, _⟩ := letter_head ha
    unfold spellR
    rw [hs, ht, if_neg, if_pos ⟨rfl, rfl, rfl⟩]
    rintro (g | g | g | g | g)
    · cases g
    · omega
    · exact h1 (.inl g)
    · exact h1 (.inr g)
    · exact h2 g
  · intro h
    unfold spellR at h
    rw [hs] at h
    split at h
    · cases h
    · rename_i c
      split at h
      · rename_i d
        obtain ⟨d1, d2, d3⟩ := d
        have hx := tokL_lexed s (fun e => c (.inl e)) d1
        rw [d3] at hx
        rcases hx with ⟨_, _, h1, h2, h3⟩ | ⟨h1, _⟩ | ⟨h1, _⟩ | ⟨h1, _⟩
        · exact ⟨h1, h2, h3⟩
        · cases h1
        · cases h1
        · cases h1
      · cases h
theorem lexed_word {t : Tok} (h : t.lexed) (h1 : t.kind = 1) : wordIs t.word = true := by
  rw [wordIs_iff]
  rcases h with ⟨_, _, h2, h3, h4⟩ | ⟨h2, _⟩ | ⟨h2, _⟩ | ⟨h2, _⟩
  · exact ⟨h2, h3, h4⟩
  · rw [h1] at h2; cases h2
  · rw [h1] at h2; cases h2
  · rw [h1] at h2; cases h2

/-! ### verbs, as the document has them -/
def takesB (f : Nat) (two : Bool) : Bool := if f < 1 ∨ 17 < f then false else if f = 16 then !two else two || decide (f ≤ 7)
def numberF (s : List UInt8) (two : Bool) : Nat :=
  if s = [43] then 1 else if s = [45] then 2 else if s = [42] then 3 else if s = [37] then 4 else if s = [124] then 5
  else if s = [109, 105, 110] then 6 else if s = [109, 97, 120] then 7 else if s = [61] then 8 else if s = [60] then 10
  else if s = [60, 61] then 11 else if s = [62, 61] then 12 else if s = [62] then 13 else if s = [97, 110, 100] then 14 else if s = [111, 114] then 15
  else if s = [112, 111, 119] then 17 else if s = [126] then (if two then 9 else 16) else 0
def arrTwo (s : List UInt8) : Nat := if s = [114, 104, 111] then 37 else if s = [116, 97, 107, 101] then 38 else if s = [100, 114, 111, 112] then 39 else if s = [99, 97, 116] then 40 else 0
def arrOne (s : List UInt8) : Nat := if s = [105, 111, 116, 97] then 32 else if s = [115, 104, 97, 112, 101] then 33 else if s = [114, 97, 118, 101, 108] then 34 else if s = [114, 101, 118] then 35 else if s = [116, 117, 114, 110] then 36 else 0
def verbR (s : List UInt8) (two : Bool) : Nat × Bool :=
  if numberF s two ≠ 0 then (if takesB (numberF s two) two then (numberF s two, true) else (0, false))
  else if arrTwo s ≠ 0 then (if two then (arrTwo s, true) else (0, false))
  else if arrOne s = 0 ∨ two = true then (0, false) else (arrOne s, true)
/-- One of the texts that are verbs, or none of them. -/
def verbTexts : List (List UInt8) := [[43], [45], [42], [37], [124], [109, 105, 110], [109, 97, 120], [61], [126], [60], [60, 61], [62, 61], [62], [97, 110, 100], [111, 114], [112, 111, 119], [114, 104, 111], [116, 97, 107, 101], [100, 114, 111, 112], [99, 97, 116], [105, 111, 116, 97], [115, 104, 97, 112, 101], [114, 97, 118, 101, 108], [114, 101, 118], [116, 117, 114, 110]]
theorem verb_cases (s : List UInt8) : s ∈ verbTexts ∨ (twoF s = 0 ∧ oneF s = 0 ∧ ∀ two, numberF s two = 0 ∧ arrTwo s = 0 ∧ arrOne s = 0) := by
  by_cases h : s ∈ verbTexts
  · exact .inl h
  · right
    simp only [verbTexts, List.mem_cons, not_or, List.not_mem_nil, not_false_eq_true, and_true] at h
    obtain ⟨h1, h2, h3, h4, h5, h6, h7, h8, h9, h10, h11, h12, h13, h14, h15, h16, h17, h18, h19, h20, h21, h22, h23, h24, h25⟩ := h
    refine ⟨?_, ?_, fun two => ⟨?_, ?_, ?_⟩⟩
    · simp [twoF, *]
    · simp [oneF, *]
    · simp [numberF, *]
    · simp [arrTwo, *]
    · simp [arrOne, *]
theorem verbR_eq (s : List UInt8) (two : Bool) : verbR s two = (verbF s two, verbF s two != 0) := by
  rcases verb_cases s with h | ⟨h1, h2, h3⟩
  · have H : ∀ s ∈ verbTexts, ∀ two, verbR s two = (verbF s two, verbF s two != 0) := by decide
    exact H s h two
  · unfold verbR verbF
    rw [(h3 two).1, (h3 two).2.1, (h3 two).2.2]
    cases two <;> simp [h1, h2]
end Go.Proofs.YtfpneopobbfabaaDoor
