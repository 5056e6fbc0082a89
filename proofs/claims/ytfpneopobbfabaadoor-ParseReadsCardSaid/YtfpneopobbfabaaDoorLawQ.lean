/-
  Plain Lean, no program: a token's text as the document tells it is the text as the program tells it; tokens' texts with blanks between are read as just these tokens. No condition.
-/
import Derived.Test.YtfpneopobbfabaaDoorLawP
import Derived.Lib.SpaceUEq
import Derived.Lib.ItoaLen
namespace Go.Proofs.YtfpneopobbfabaaDoor
open Go

/-! ### trimming -/
theorem stripL_drop : ∀ (f : Nat) (l : List UInt8), ∃ k, Lib.stripL f l = l.drop k := by
  intro f
  induction f with
  | zero => intro l; exact ⟨0, rfl⟩
  | succ f ih =>
    intro l
    rw [Lib.stripL]
    split
    · exact ⟨0, rfl⟩
    · obtain ⟨k, hk⟩ := ih (l.drop (Lib.headSpace l))
      exact ⟨_, by rw [hk, List.drop_drop]⟩
theorem stripR_take : ∀ (f : Nat) (l : List UInt8), ∃ k, Lib.stripR f l = l.take k := by
  intro f
  induction f with
  | zero => intro l; exact ⟨l.length, by rw [List.take_length]; rfl⟩
  | succ f ih =>
    intro l
    rw [Lib.stripR]
    split
    · exact ⟨l.length, by rw [List.take_length]⟩
    · obtain ⟨k, hk⟩ := ih (l.take (l.length - Lib.tailSpace l))
      exact ⟨_, by rw [hk, List.take_take]⟩
theorem head_space (b : UInt8) (r : List UInt8) (h : b = 32 ∨ b = 9) : Lib.headSpace (b :: r) = 1 := by
  rcases h with rfl | rfl <;> simp [Lib.headSpace, Lib.spaceSeqs, List.find?, List.isPrefixOf]
theorem tail_space (b : UInt8) (r : List UInt8) (h : b = 32 ∨ b = 9) : Lib.tailSpace (r ++ [b]) = 1 := by
  rcases h with rfl | rfl <;> simp [Lib.tailSpace, Lib.spaceSeqs, List.find?, List.isSuffixOf, List.isPrefixOf]
def okB (b : UInt8) : Bool := 33 ≤ b && b ≤ 126 && b != 35
theorem okB_not (b : UInt8) (h : okB b = true) : b ≠ 9 ∧ b ≠ 10 ∧ b ≠ 11 ∧ b ≠ 12 ∧ b ≠ 13 ∧ b ≠ 32 ∧ b ≠ 35 ∧ b < 128 := by
  have H : ∀ n : Fin 256, okB (UInt8.ofNat n.val) = true → UInt8.ofNat n.val ≠ 9 ∧ UInt8.ofNat n.val ≠ 10 ∧ UInt8.ofNat n.val ≠ 11 ∧ UInt8.ofNat n.val ≠ 12 ∧ UInt8.ofNat n.val ≠ 13 ∧ UInt8.ofNat n.val ≠ 32 ∧ UInt8.ofNat n.val ≠ 35 ∧ UInt8.ofNat n.val < 128 := by decide +kernel
  have := H ⟨b.toNat, b.toNat_lt⟩
  rw [UInt8.ofNat_toNat] at this
  exact this h
theorem ne_beq {a b : UInt8} (h : b ≠ a) : (a == b) = false := by rw [beq_eq_false_iff_ne]; exact fun e => h e.symm
theorem head_none (b : UInt8) (r : List UInt8) (h : okB b = true) : Lib.headSpace (b :: r) = 0 := by
  obtain ⟨h1, h2, h3, h4, h5, h6, _, h8⟩ := okB_not b h
  have g : ∀ c : UInt8, 128 ≤ c → (c == b) = false := fun c hc => by
    rw [beq_eq_false_iff_ne]; rintro rfl; exact absurd hc (by simpa using h8)
  simp [Lib.headSpace, Lib.spaceSeqs, List.find?, List.isPrefixOf, ne_beq h1, ne_beq h2, ne_beq h3, ne_beq h4, ne_beq h5, ne_beq h6, g 0xC2 (by decide), g 0xE1 (by decide), g 0xE2 (by decide), g 0xE3 (by decide)]
theorem tail_none (b : UInt8) (r : List UInt8) (h : okB b = true) : Lib.tailSpace (r ++ [b]) = 0 := by
  obtain ⟨h1, h2, h3, h4, h5, h6, _, h8⟩ := okB_not b h
  have g : ∀ c : UInt8, 128 ≤ c → (c == b) = false := fun c hc => by
    rw [beq_eq_false_iff_ne]; rintro rfl; exact absurd hc (by simpa using h8)
  simp [Lib.tailSpace, Lib.spaceSeqs, List.find?, List.isSuffixOf, List.isPrefixOf, ne_beq h1, ne_beq h2, ne_beq h3, ne_beq h4, ne_beq h5, ne_beq h6, g 0xA0 (by decide), g 0x80 (by decide), g 0x81 (by decide), g 0x82 (by decide), g 0x83 (by decide), g 0x84 (by decide), g 0x85 (by decide), g 0x86 (by decide), g 0x87 (by decide), g 0x88 (by decide), g 0x89 (by decide), g 0x8A (by decide), g 0xA8 (by decide), g 0xA9 (by decide), g 0xAF (by decide), g 0x9F (by decide)]
theorem trim_self (l : List UInt8) (h : ∀ c ∈ l, okB c = true) : Lib.trimSpaceD l = l := by
  rw [← Lib.trimSpaceU_eq]
  unfold Lib.trimSpaceU
  cases l with
  | nil => rfl
  | cons a r =>
    have e1 : Lib.stripL (a :: r).length (a :: r) = a :: r := by
      rw [List.length_cons, Lib.stripL, if_pos (head_none a r (h a (by simp)))]
    rw [e1]
    have e2 : a :: r = (a :: r).dropLast ++ [(a :: r).getLast (by simp)] := (List.dropLast_concat_getLast (by simp)).symm
    rw [List.length_cons, Lib.stripR, if_pos]
    rw [e2]
    exact tail_none _ _ (h _ (List.getLast_mem _))
theorem trim_head (b : UInt8) (r : List UInt8) (hb : b = 32 ∨ b = 9) : Lib.trimSpaceD (b :: r) ≠ b :: r := by
  rw [← Lib.trimSpaceU_eq]
  unfold Lib.trimSpaceU
  intro e
  have e1 : Lib.stripL (b :: r).length (b :: r) = Lib.stripL r.length r := by
    rw [List.length_cons, Lib.stripL, if_neg (by rw [head_space b r hb]; decide), head_space b r hb]; rfl
  rw [e1] at e
  obtain ⟨k, hk⟩ := stripL_drop r.length r
  rw [hk] at e
  obtain ⟨j, hj⟩ := stripR_take (b :: r).length (r.drop k)
  rw [hj] at e
  have := congrArg List.length e
  simp at this
  omega
theorem trim_tail (b : UInt8) (r : List UInt8) (hb : b = 32 ∨ b = 9) : Lib.trimSpaceD (r ++ [b]) ≠ r ++ [b] := by
  rw [← Lib.trimSpaceU_eq]
  unfold Lib.trimSpaceU
  intro e
  obtain ⟨k, hk⟩ := stripL_drop (r ++ [b]).length (r ++ [b])
  rw [hk] at e
  have hk0 : k = 0 := by
    obtain ⟨j, hj⟩ := stripR_take (r ++ [b]).length ((r ++ [b]).drop k)
    rw [hj] at e
    have := congrArg List.length e
    simp at this
    omega
  subst hk0
  rw [List.drop_zero, List.length_append, List.length_singleton, Lib.stripR, if_neg (by rw [tail_space b r hb]; decide)] at e
  obtain ⟨j, hj⟩ := stripR_take r.length ((r ++ [b]).take ((r ++ [b]).length - Lib.tailSpace (r ++ [b])))
  rw [hj, tail_space b r hb] at e
  have := congrArg List.length e
  simp at this
  omega

/-! ### a text that is one token -/
theorem alnum_ok (b : UInt8) (h : alnumB b = true) : okB b = true := by
  have H : ∀ n : Fin 256, alnumB (UInt8.ofNat n.val) = true → okB (UInt8.ofNat n.val) = true := by decide +kernel
  have := H ⟨b.toNat, b.toNat_lt⟩
  rw [UInt8.ofNat_toNat] at this
  exact this h
theorem digit_ok (b : UInt8) (h : digitB b = true) : okB b = true := alnum_ok b (by unfold alnumB; rw [h]; simp)
theorem sign_ok (b : UInt8) (h : signB b = true) : okB b = true := by
  have H : ∀ n : Fin 256, signB (UInt8.ofNat n.val) = true → okB (UInt8.ofNat n.val) = true := by decide +kernel
  have := H ⟨b.toNat, b.toNat_lt⟩
  rw [UInt8.ofNat_toNat] at this
  exact this h
theorem run_all (p : UInt8 → Bool) (l : List UInt8) (h : runL p l = l.length) : ∀ c ∈ l, p c = true := by
  have := take_run_all p l
  rwa [h, List.take_length] at this
/-- A number that is all of a text. -/
theorem num_whole (l : List UInt8) (h0 : 0 < (numL l).2.1) (h : (numL l).2.1 = l.length) : ∀ c ∈ l, okB c = true := by
  unfold numL at h h0
  split at h
  · rename_i hh
    rw [if_pos hh] at h0
    cases l with
    | nil => simp at hh
    | cons a r =>
      simp at hh
      subst hh
      rw [List.tail_cons] at h h0
      by_cases h1 : runL digitB r = 0
      · rw [if_pos h1] at h0; simp at h0
      · rw [if_neg h1] at h0 h
        by_cases h2 : decN (List.take (runL digitB r) r) 0 ≤ 9223372036854775808
        · rw [if_pos h2] at h
          dsimp only at h
          rw [List.length_cons] at h
          have := run_all digitB r (by omega)
          intro c hc
          rcases List.mem_cons.1 hc with rfl | hc
          · decide
          · exact digit_ok c (this c hc)
        · rw [if_neg h2] at h0; simp at h0
  · rename_i hh
    rw [if_neg hh] at h0
    split at h
    · rename_i h1; rw [if_pos h1] at h0; simp at h0
    · rename_i h1
      rw [if_neg h1] at h0
      split at h
      · exact fun c hc => digit_ok c (run_all digitB l h c hc)
      · rename_i h2; rw [if_neg h2] at h0; simp at h0
theorem sign_whole (l : List UInt8) (h0 : signL l ≠ 0) (h : signL l = l.length) : (∀ c ∈ l, okB c = true) ∧ l.length ≤ 2 := by
  cases l with
  | nil => rw [h] at h0; simp at h0
  | cons a r =>
    cases r with
    | nil =>
      rw [sign_one a [] (by simp)] at h0
      by_cases hs : signB a = true
      · exact ⟨fun c hc => by rw [List.mem_singleton] at hc; subst hc; exact sign_ok c hs, by simp⟩
      · rw [if_neg hs] at h0; exact absurd rfl h0
    | cons b r =>
      rw [sign_two a b r] at h
      split at h
      · rename_i hp
        have hr : r = [] := by
          cases r with
          | nil => rfl
          | cons _ _ => simp at h
        subst hr
        simp only [Bool.or_eq_true, Bool.and_eq_true, beq_iff_eq] at hp
        refine ⟨?_, by simp⟩
        rcases hp with ⟨rfl, rfl⟩ | ⟨rfl, rfl⟩ <;> decide
      · split at h <;> simp at h
/-- A token that is all of a text: of which bytes it is, and how many. -/
theorem tok_whole (l : List UInt8) (hl : l ≠ []) (he : (tokL l).2.2 = 0) (hn : (tokL l).2.1 = l.length) :
    (l = [10] ∧ (tokL l).1 = ⟨4, 0, [], 0⟩) ∨ ((∀ c ∈ l, okB c = true) ∧ (tokL l).1.kind ≠ 4 ∧ ((tokL l).1.kind = 2 ∨ l.length ≤ 16)) := by
  by_cases h1 : l.headD 0 = 10
  · rw [tok_line l h1] at hn ⊢
    cases l with
    | nil => exact absurd rfl hl
    | cons a r =>
      simp only [List.headD_cons] at h1
      dsimp only at hn
      rw [List.length_cons] at hn
      have : r = [] := List.length_eq_zero_iff.1 (by omega)
      subst this h1
      exact .inl ⟨rfl, rfl⟩
  · by_cases h2 : letterB (l.headD 0) = true
    · rw [tok_word l h1 h2] at hn he ⊢
      split at hn
      · rename_i h3; rw [if_pos h3] at he; simp at he
      · rename_i h3
        rw [if_neg h3]
        dsimp only at hn
        exact .inr ⟨fun c hc => alnum_ok c (run_all alnumB l hn c hc), by dsimp only; decide, .inr (by omega)⟩
    · rw [tok_rest l h1 h2] at hn he ⊢
      split at hn
      · rename_i h3
        rw [if_pos h3] at he ⊢
        dsimp only at hn he
        exact .inr ⟨num_whole l (by rcases h3 with h3 | h3; · exact h3
                                    · exact absurd he h3) hn, by dsimp only; decide, .inl rfl⟩
      · rename_i h3
        rw [if_neg h3] at he ⊢
        split at hn
        · rename_i h4; rw [if_pos h4] at he; simp at he
        · rename_i h4
          rw [if_neg h4]
          dsimp only at hn
          obtain ⟨a, b⟩ := sign_whole l h4 hn
          exact .inr ⟨a, by dsimp only; decide, .inr (by omega)⟩
theorem tok_at0 (l : List UInt8) : (tokL l).1.at_ = 0 := by
  unfold tokL
  repeat' split
  all_goals rfl
theorem contains_no (l : List UInt8) (h : ∀ c ∈ l, okB c = true) : Lib.contains l [35] = false := by
  have : Lib.index l [35] = -1 := index_absent 35 l (fun hc => (okB_not 35 (h 35 hc)).2.2.2.2.2.2.1 rfl)
  unfold Lib.contains
  rw [this]; rfl
theorem index_present (c : UInt8) (l : List UInt8) (h : c ∈ l) : 0 ≤ Lib.index l [c] := by
  induction l with
  | nil => simp at h
  | cons b l ih =>
    rw [Lib.index]
    by_cases hb : c = b
    · subst hb; simp [List.isPrefixOf]
    · have hm : c ∈ l := by
        rcases List.mem_cons.1 h with h | h
        · exact absurd h hb
        · exact h
      have hp : ([c] : List UInt8).isPrefixOf (b :: l) = false := by simp [List.isPrefixOf, hb]
      have := ih hm
      rw [hp]
      simp only [Bool.false_eq_true, if_false]
      have hne : (Lib.index l [c] == -1) = false := by rw [beq_eq_false_iff_ne]; omega
      rw [hne]
      simp only [Bool.false_eq_true, if_false]
      omega
theorem contains_yes (l : List UInt8) (h : Lib.contains l [35] = false) : (35 : UInt8) ∉ l := fun hc => by
  have := index_present 35 l hc
  unfold Lib.contains at h
  simp at h
  omega
/-- What has no token and no note is blanks. -/
theorem lex_blanks (f : Nat) : ∀ (k : Nat) (l : List UInt8), l.length ≤ f → lexAt k l = .ok [] → (35 : UInt8) ∉ l → l = [] ∨ ∃ r b, l = r ++ [b] ∧ (b = 32 ∨ b = 9) := by
  induction f with
  | zero => intro k l h _ _; exact .inl (List.length_eq_zero_iff.1 (by omega))
  | succ f ih =>
    intro k l h he hno
    cases l with
    | nil => exact .inl rfl
    | cons a r =>
      rw [lexAt_cons] at he
      by_cases h1 : a = 32 ∨ a = 9
      · rw [if_pos h1] at he
        rcases ih (k + 1) r (by simpa using h) he (fun hc => hno (by simp [hc])) with rfl | ⟨r', b, rfl, hb⟩
        · exact .inr ⟨[], a, rfl, h1⟩
        · exact .inr ⟨a :: r', b, rfl, hb⟩
      · rw [if_neg h1, if_neg (fun e => hno (by simp [e]))] at he
        split at he
        · cases he
        · cases hx : lexAt (k + (tokL (a :: r)).2.1) ((a :: r).drop (tokL (a :: r)).2.1) with
          | error e => rw [hx] at he; cases he
          | ok v => rw [hx] at he; injection he with he; cases he

/-! ### Spell -/
/-- A token's text, as the document tells it. -/
def spellR (t : Tok) : List UInt8 × Bool :=
  if spellS t = [] ∨ 100 < (spellS t).length ∨ (spellS t).headD 0 = 32 ∨ (spellS t).headD 0 = 9 ∨ (spellS t).headD 0 = 35 then ([], false)
  else if (tokL (spellS t)).2.2 = 0 ∧ (tokL (spellS t)).2.1 = (spellS t).length ∧ (tokL (spellS t)).1 = { t with at_ := 0 } then (spellS t, true)
  else ([], false)
theorem numT_len (n : Int) (h0 : -9223372036854775808 ≤ n) (h1 : n ≤ 9223372036854775807) : (numT n).length ≤ 21 := by
  have h2 := Lib.itoa_length_le n h0 h1
  have h3 : (numT n).length = (Lib.itoa n).length := by unfold numT Lib.itoa; split <;> simp
  omega
theorem spellR_eq (t : Tok) (h0 : -9223372036854775808 ≤ t.n) (h1 : t.n ≤ 9223372036854775807) : spellR t = spellP t := by
  have hlen : t.kind = 2 → (spellS t).length ≤ 21 := fun h => by unfold spellS; rw [if_pos h]; exact numT_len t.n h0 h1
  have hfour : t.kind = 4 → spellS t = [10] := fun h => by unfold spellS; rw [if_neg (by omega), if_pos h]
  generalize hs : spellS t = s at hlen hfour
  unfold spellR
  rw [hs]
  by_cases c0 : s = []
  · rw [if_pos (.inl c0)]
    refine (spellP_nil (by rw [hs, c0]; rfl)).symm
  · obtain ⟨a, r, rfl⟩ : ∃ a r, s = a :: r := by cases s with
      | nil => exact absurd rfl c0
      | cons a r => exact ⟨a, r, rfl⟩
    by_cases c1 : 100 < (a :: r).length
    · rw [if_pos (.inr (.inl c1))]
      cases hx : lexL (a :: r) with
      | error e => exact (spellP_bad (by rw [hs]; exact hx)).symm
      | ok v => match v with
        | [] => exact (spellP_nil (by rw [hs]; exact hx)).symm
        | [x] => exact (spellP_long (by rw [hs]; exact hx) (by rw [hs]; omega)).symm
        | x :: y :: z => exact (spellP_two (by rw [hs]; exact hx)).symm
    · have hl : lexL (a :: r) = lexAt 0 (a :: r) := by unfold lexL; rw [if_neg (by omega)]
      by_cases c2 : a = 32 ∨ a = 9
      · rw [if_pos (.inr (.inr (by rcases c2 with h | h; · exact .inl h
                                   · exact .inr (.inl h))))]
        have hk : t.kind ≠ 4 := fun h => by
          have := hfour h
          injection this with h3 _
          subst h3
          revert c2; decide
        cases hx : lexL (a :: r) with
        | error e => exact (spellP_bad (by rw [hs]; exact hx)).symm
        | ok v => match v with
          | [] => exact (spellP_nil (by rw [hs]; exact hx)).symm
          | [x] => exact (spellP_trim (by rw [hs]; exact hx) (by rw [hs]; exact trim_head a r c2) hk).symm
          | x :: y :: z => exact (spellP_two (by rw [hs]; exact hx)).symm
      · by_cases c3 : a = 35
        · rw [if_pos (.inr (.inr (.inr (.inr c3))))]
          have hc : Lib.contains (a :: r) [35] = true := by
            cases hx : Lib.contains (a :: r) [35] with
            | true => rfl
            | false => exact absurd (by rw [c3]; simp) (contains_yes _ hx)
          cases hx : lexL (a :: r) with
          | error e => exact (spellP_bad (by rw [hs]; exact hx)).symm
          | ok v => match v with
            | [] => exact (spellP_nil (by rw [hs]; exact hx)).symm
            | [x] => exact (spellP_hash (by rw [hs]; exact hx) (by rw [hs]; exact hc)).symm
            | x :: y :: z => exact (spellP_two (by rw [hs]; exact hx)).symm
        · rw [if_neg (by
            rintro (h | h | h | h | h)
            · exact c0 h
            · exact c1 h
            · exact c2 (.inl h)
            · exact c2 (.inr h)
            · exact c3 h)]
          have hx : lexL (a :: r) = if (tokL (a :: r)).2.2 ≠ 0 then .error (0, (tokL (a :: r)).2.2)
              else (lexAt (0 + (tokL (a :: r)).2.1) ((a :: r).drop (tokL (a :: r)).2.1)).map (fun l => { (tokL (a :: r)).1 with at_ := 0 } :: l) := by
            rw [hl, lexAt_cons, if_neg c2, if_neg c3]; rfl
          by_cases e0 : (tokL (a :: r)).2.2 = 0
          · rw [if_neg (by simpa using e0)] at hx
            have htl := tokL_len (a :: r) c0 e0
            have hat : ({ (tokL (a :: r)).1 with at_ := 0 } : Tok) = (tokL (a :: r)).1 := by
              have := tok_at0 (a :: r)
              generalize (tokL (a :: r)).1 = q at *
              obtain ⟨q1, q2, q3, q4⟩ := q
              simp at this ⊢
              exact this.symm
            rw [hat] at hx
            by_cases e1 : (tokL (a :: r)).2.1 = (a :: r).length
            · rw [e1, List.drop_length, lexAt_nil] at hx
              have hx : lexL (a :: r) = .ok [(tokL (a :: r)).1] := hx
              by_cases e2 : (tokL (a :: r)).1 = { t with at_ := 0 }
              · rw [if_pos ⟨e0, e1, e2⟩]
                have hw := tok_whole (a :: r) c0 e0 e1
                rw [e2] at hw
                dsimp only at hw
                refine ((spellP_ok (by rw [hs]; exact hx) ?_ e2 ?_ ?_).trans (by rw [hs])).symm
                · rw [hs]
                  rcases hw with ⟨h, _⟩ | ⟨_, _, h | h⟩
                  · rw [h]; decide
                  · have := hlen h; omega
                  · omega
                · rw [hs]
                  rcases hw with ⟨_, h⟩ | ⟨h, _⟩
                  · exact .inr (congrArg Tok.kind h)
                  · exact .inl (trim_self _ h)
                · rw [hs]
                  rcases hw with ⟨h, _⟩ | ⟨h, _⟩
                  · rw [h]; decide
                  · exact contains_no _ h
              · rw [if_neg (fun h => e2 h.2.2)]
                exact (spellP_ne (by rw [hs]; exact hx) e2).symm
            · rw [if_neg (fun h => e1 h.2.1)]
              cases hy : lexAt (0 + (tokL (a :: r)).2.1) ((a :: r).drop (tokL (a :: r)).2.1) with
              | error e => rw [hy] at hx; exact (spellP_bad (by rw [hs]; exact hx)).symm
              | ok v =>
                rw [hy] at hx
                have hx : lexL (a :: r) = .ok ((tokL (a :: r)).1 :: v) := hx
                match v, hx, hy with
                | [], hx, hy =>
                  cases hc : Lib.contains (a :: r) [35] with
                  | true => exact (spellP_hash (by rw [hs]; exact hx) (by rw [hs]; exact hc)).symm
                  | false =>
                    have hno := contains_yes _ hc
                    have hb := lex_blanks _ _ _ (Nat.le_refl _) hy (fun h => hno (List.mem_of_mem_drop h))
                    rcases hb with hb | ⟨q, b, hb, hbb⟩
                    · have := congrArg List.length hb
                      rw [List.length_drop] at this
                      simp only [List.length_nil] at this
                      omega
                    · have hk : t.kind ≠ 4 := fun h => by
                        have := congrArg List.length (hfour h)
                        have h2 := congrArg List.length hb
                        rw [List.length_drop, List.length_append] at h2
                        simp only [List.length_singleton] at h2 this
                        omega
                      refine (spellP_trim (by rw [hs]; exact hx) ?_ hk).symm
                      rw [hs]
                      have : a :: r = ((a :: r).take (tokL (a :: r)).2.1 ++ q) ++ [b] := by
                        rw [List.append_assoc, ← hb, List.take_append_drop]
                      rw [this]
                      exact trim_tail b _ hbb
                | y :: z, hx, hy => exact (spellP_two (by rw [hs]; exact hx)).symm
          · rw [if_pos e0] at hx
            rw [if_neg (fun h => e0 h.1)]
            exact (spellP_bad (by rw [hs]; exact hx)).symm
/-- What a token that has a text is. -/
theorem spell_tok (t : Tok) (h0 : -9223372036854775808 ≤ t.n) (h1 : t.n ≤ 9223372036854775807) (h : (spellP t).2 = true) :
    ∃ a r, (spellP t).1 = a :: r ∧ (a :: r).length ≤ 100 ∧ ¬ (a = 32 ∨ a = 9) ∧ a ≠ 35 ∧ (tokL (a :: r)) = ({ t with at_ := 0 }, (a :: r).length, 0) := by
  rw [← spellR_eq t h0 h1] at h ⊢
  unfold spellR at h ⊢
  split at h
  · cases h
  · rename_i c
    rw [if_neg c]
    split at h
    · rename_i d
      rw [if_pos d]
      obtain ⟨d1, d2, d3⟩ := d
      cases hs : spellS t with
      | nil => exact absurd (.inl hs) c
      | cons a r =>
        rw [hs] at c d1 d2 d3
        refine ⟨a, r, rfl, ?_, ?_, ?_, ?_⟩
        · rcases Nat.lt_or_ge 100 (a :: r).length with g | g
          · exact absurd (.inr (.inl g)) c
          · exact g
        · rintro (g | g)
          · exact c (.inr (.inr (.inl g)))
          · exact c (.inr (.inr (.inr (.inl g))))
        · exact fun g => c (.inr (.inr (.inr (.inr g))))
        · rw [← d1, ← d2, ← d3]
    · cases h
theorem spell_no_text (t : Tok) (h : (spellP t).2 = false) : (spellP t).1 = [] := by
  unfold spellP at h ⊢
  split at h
  · split at h
    · rename_i c; rw [if_pos c]
    · rename_i c
      rw [if_neg c]
      split at h
      · cases h
      · rename_i d; rw [if_neg d]
  · rfl

theorem map_cons_one (x : Except (Nat × Nat) (List Tok)) (t : Tok) : x.map (fun l => t :: l) = x.map ([t] ++ ·) := rfl
/-! ### LexBack -/
/-- A text, whatever stands behind it, is read as these tokens and what stands behind. -/
def Said (s : List UInt8) (acc : List Tok) : Prop := ∀ z, lexAt 0 (s ++ z) = (lexAt s.length z).map (acc ++ ·)
theorem Said.nil : Said [] [] := fun z => by rw [map_nil]; rfl
theorem Said.step {s : List UInt8} {acc : List Tok} (h : Said s acc) (t : Tok) (h0 : -9223372036854775808 ≤ t.n) (h1 : t.n ≤ 9223372036854775807) (ht : (spellP t).2 = true) :
    Said (s ++ (spellP t).1 ++ [32]) (acc ++ [{ t with at_ := s.length }]) := by
  intro z
  obtain ⟨a, r, e, _, hb, hn, htok⟩ := spell_tok t h0 h1 ht
  rw [e]
  have hcut : tokL ((a :: r) ++ 32 :: z) = ({ t with at_ := 0 }, (a :: r).length, 0) := by
    have := tok_cut (a :: r) (32 :: z) (a :: r).length (by rw [htok]) (by rw [htok]; exact Nat.le_refl _) (by simp) (Nat.le_refl _) (.inr ⟨32, z, rfl, .inl rfl⟩)
    rw [List.take_length] at this
    rw [this, htok]
  rw [show s ++ (a :: r) ++ [32] ++ z = s ++ ((a :: r) ++ 32 :: z) by simp, h, List.cons_append, lexAt_cons, if_neg hb, if_neg hn]
  rw [← List.cons_append, hcut]
  rw [if_neg (by simp)]
  rw [List.drop_left', lexAt_blank _ _ _ (.inl rfl)]
  · rw [map_cons_one, map_map]
    congr 1
    simp [Nat.add_assoc]
  · rfl
theorem Said.all {s : List UInt8} {acc : List Tok} (h : Said s acc) (hl : s.length ≤ 65536) : lexL s = .ok acc := by
  have := h []
  rw [List.append_nil, lexAt_nil] at this
  rw [(lexL_ok_iff _ _).2 ⟨hl, this⟩]
  simp
end Go.Proofs.YtfpneopobbfabaaDoor
