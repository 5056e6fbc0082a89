/-
  Plain Lean, no program: what empty lines, blanks and notes, and brackets, leave as it was; a verb takes all on its right; lines hang on no other. No condition.
-/
import Derived.Test.YtfpneopobbfabaaDoorLwA
namespace Go.Proofs.YtfpneopobbfabaaDoor
open Go

/-! ### empty lines, blanks, notes -/
def insB (l : List UInt8) : List UInt8 := l.flatMap fun b => if b = 10 then [9, 35, 10, 10, 10] else [b]
def headB : List UInt8 := [10, 32, 35, 32, 102, 105, 114, 115, 116, 10]
theorem insB_cons (b : UInt8) (l : List UInt8) : insB (b :: l) = (if b = 10 then [9, 35, 10, 10, 10] else [b]) ++ insB l := by simp [insB]
theorem insB_snoc (l : List UInt8) (b : UInt8) : insB (l ++ [b]) = insB l ++ (if b = 10 then [9, 35, 10, 10, 10] else [b]) := by simp [insB]
theorem insB_len (l : List UInt8) : (insB l).length ≤ 5 * l.length := by
  induction l with
  | nil => simp [insB]
  | cons b l ih =>
    rw [insB_cons]
    split <;> simp only [List.length_append, List.length_cons, List.length_nil] <;> omega
def linesC (l : List UInt8) : Except Nat (List (List Tok)) := (lexC l).map (splitA [])
theorem linesC_line (l z : List UInt8) : linesC (l ++ 10 :: z) = match lexC l with
    | .error c => .error c
    | .ok x => (linesC z).map (splitA [] x ++ ·) := by
  unfold linesC
  rw [lexC_line]
  cases lexC l with
  | error c => rfl
  | ok x =>
    dsimp only
    cases lexC z with
    | error c => rfl
    | ok y =>
      show Except.ok _ = Except.ok _
      rw [split_line]
theorem linesC_noted (l z : List UInt8) : linesC (l ++ 9 :: 35 :: 10 :: z) = linesC (l ++ 10 :: z) := by
  unfold linesC
  rw [lexC_noted, lexC_line]
theorem linesC_ten (z : List UInt8) : linesC (10 :: z) = linesC z := by
  have h := linesC_line [] z
  rw [List.nil_append] at h
  rw [h, show lexC [] = .ok [] from rfl]
  show (linesC z).map (([] : List (List Tok)) ++ ·) = _
  cases linesC z <;> rfl
theorem ins_lines (l : List UInt8) : ∀ own : List UInt8, linesC (own ++ insB l) = linesC (own ++ l) := by
  induction l with
  | nil => intro own; rfl
  | cons b l ih =>
    intro own
    rw [insB_cons]
    by_cases hb : b = 10
    · subst hb
      rw [if_pos rfl]
      show linesC (own ++ 9 :: 35 :: 10 :: 10 :: 10 :: insB l) = _
      rw [linesC_noted, linesC_line, linesC_line, linesC_ten, linesC_ten]
      have := ih []
      rw [List.nil_append, List.nil_append] at this
      rw [this]
    · rw [if_neg hb]
      have := ih (own ++ [b])
      rw [List.append_assoc, List.append_assoc] at this
      exact this
theorem head_lines (z : List UInt8) : linesC (headB ++ z) = linesC z := by
  show linesC (10 :: ([32, 35, 32, 102, 105, 114, 115, 116] ++ 10 :: z)) = _
  rw [linesC_ten, linesC_line, show lexC [32, 35, 32, 102, 105, 114, 115, 116] = .ok [] from rfl]
  show (linesC z).map (([] : List (List Tok)) ++ ·) = _
  cases linesC z <;> rfl
/-- A text's program, its places apart, by its lines. -/
theorem parse_lines {l : List UInt8} (h : l.length ≤ 65536) : bareE Prg.bare (parseL l) = match linesC l with
    | .error c => .error (0, c)
    | .ok ls => linesQ ls Prg.none 0 false := by
  rw [parse_C h]
  unfold linesC
  cases lexC l <;> rfl
theorem blanks_law (l : List UInt8) (h : l.length ≤ 10000) : bareE Prg.bare (parseL (headB ++ insB l)) = bareE Prg.bare (parseL l) := by
  have hl := insB_len l
  have h10 : headB.length = 10 := rfl
  rw [parse_lines (by rw [List.length_append]; omega), parse_lines (by omega), head_lines]
  have := ins_lines l []
  rw [List.nil_append, List.nil_append] at this
  rw [this]

/-! ### one expression -/
def outW : List UInt8 := [111, 117, 116]
def outT : Tok := ⟨1, 0, [111, 117, 116], 0⟩
def openT : Tok := ⟨3, 0, [40], 0⟩
def closeT : Tok := ⟨3, 0, [41], 0⟩
def maxT : Tok := ⟨1, 0, [109, 97, 120], 0⟩
theorem lexC_tok (l : List UInt8) (b : UInt8) (r : List UInt8) (hb : ¬ (b = 32 ∨ b = 9)) (hc : b ≠ 35) (t : Tok) (n : Nat) (ht : tokL (b :: r) = (t, n, 0)) (ha : t.at_ = 0) (hl : (b :: r).drop n = l) :
    lexC (b :: r) = (lexC l).map ([t] ++ ·) := by
  unfold lexC
  rw [lexAt_cons, if_neg hb, if_neg hc, ht, if_neg (by simp), hl]
  show bareL ((lexAt _ _).map ([_] ++ ·)) = _
  rw [bareL_map, lexC_at]
  have : ({ t with at_ := ((0 : Nat) : Int) } : Tok).bare = t := by
    cases t
    simp only at ha
    subst ha
    rfl
  rw [List.map_singleton, this]
  rfl
theorem tok_out (z : List UInt8) : tokL (111 :: 117 :: 116 :: 32 :: z) = (outT, 3, 0) := by
  have hr : runL alnumB (111 :: 117 :: 116 :: 32 :: z) = 3 := by rw [runL_cons, runL_cons, runL_cons, runL_cons]; rfl
  rw [tok_word _ (by simp) (by rw [List.headD_cons]; decide), hr]
  rfl
theorem tok_max (z : List UInt8) : tokL (109 :: 97 :: 120 :: 32 :: z) = (maxT, 3, 0) := by
  have hr : runL alnumB (109 :: 97 :: 120 :: 32 :: z) = 3 := by rw [runL_cons, runL_cons, runL_cons, runL_cons]; rfl
  rw [tok_word _ (by simp) (by rw [List.headD_cons]; decide), hr]
  rfl
theorem tok_sign1 (b : UInt8) (z : List UInt8) (h1 : b ≠ 10) (h2 : letterB b = false) (h3 : digitB b = false) (h4 : b ≠ 95) (h5 : signB b = true) (h6 : b ≠ 60 ∧ b ≠ 62) : tokL (b :: z) = (⟨3, 0, [b], 0⟩, 1, 0) := by
  have hn : numL (b :: z) = (0, 0, 0) := by
    rw [num_plain _ (by simpa using h4), runL_cons, h3]
    rfl
  have hs : signL (b :: z) = 1 := by
    cases z with
    | nil => rw [sign_one b [] (by simp), if_pos h5]
    | cons c r =>
      rw [sign_two, ne_beq h6.1, ne_beq h6.2, if_neg (by simp), if_pos h5]
  rw [tok_rest _ (by simpa using h1) (by simpa using h2), hn, hs]
  rfl
theorem lexC_out (z : List UInt8) : lexC (111 :: 117 :: 116 :: 32 :: z) = (lexC z).map ([outT] ++ ·) := by
  rw [lexC_tok (32 :: z) _ _ (by decide) (by decide) outT 3 (tok_out z) rfl rfl, lexC_blank 32 z (.inl rfl)]
theorem lexC_max (z : List UInt8) : lexC (109 :: 97 :: 120 :: 32 :: z) = (lexC z).map ([maxT] ++ ·) := by
  rw [lexC_tok (32 :: z) _ _ (by decide) (by decide) maxT 3 (tok_max z) rfl rfl, lexC_blank 32 z (.inl rfl)]
theorem lexC_open (z : List UInt8) : lexC (40 :: z) = (lexC z).map ([openT] ++ ·) :=
  lexC_tok z _ _ (by decide) (by decide) openT 1 (tok_sign1 40 z (by decide) (by decide) (by decide) (by decide) (by decide) (by decide)) rfl rfl
theorem lexC_close (z : List UInt8) : lexC (41 :: z) = (lexC z).map ([closeT] ++ ·) :=
  lexC_tok z _ _ (by decide) (by decide) closeT 1 (tok_sign1 41 z (by decide) (by decide) (by decide) (by decide) (by decide) (by decide)) rfl rfl
def pOut (e : List UInt8) : List UInt8 := [111, 117, 116, 32] ++ e
/-- The items of an expression, if it is one. -/
def outP (e : List UInt8) : Option (List Itm) := match parseL (pOut e) with
  | .ok ⟨[], [l]⟩ => some l.items
  | _ => none
def plainB (e : List UInt8) (m : Nat) : Bool := decide (e.length ≤ m) && e.all fun b => b != 10 && b != 35
theorem plainB_iff {e : List UInt8} {m : Nat} : plainB e m = true ↔ e.length ≤ m ∧ (10 : UInt8) ∉ e ∧ (35 : UInt8) ∉ e := by
  unfold plainB
  rw [Bool.and_eq_true, decide_eq_true_iff, List.all_eq_true]
  constructor
  · rintro ⟨h1, h2⟩
    refine ⟨h1, fun h => ?_, fun h => ?_⟩
    · have := h2 _ h; simp at this
    · have := h2 _ h; simp at this
  · rintro ⟨h1, h2, h3⟩
    refine ⟨h1, fun x hx => ?_⟩
    rw [Bool.and_eq_true, bne_iff_ne, bne_iff_ne]
    exact ⟨fun h => h2 (h ▸ hx), fun h => h3 (h ▸ hx)⟩
theorem lexC_isBare {l : List UInt8} {x : List Tok} (h : lexC l = .ok x) : x.map Tok.bare = x := by
  unfold lexC at h
  cases hl : lexAt 0 l with
  | error e => rw [hl] at h; cases h
  | ok t =>
    rw [hl] at h
    injection h with h
    subst h
    rw [List.map_map]
    exact List.map_congr_left fun t _ => bare_bare t
theorem bareE_id (toks : List Tok) (hb : toks.map Tok.bare = toks) : bareE (List.map Itm.bare) (exprP 0 toks) = exprP 0 toks := by
  rw [← expr_bare, hb]
/-- One line that begins with out. -/
theorem one_out (toks : List Tok) (hb : toks.map Tok.bare = toks) : linesQ [outT :: toks] Prg.none 0 false = if 256 < toks.length + 1 then .error (0, 45) else (exprP 0 toks).map fun l => ⟨[], [⟨[], 0, l⟩]⟩ := by
  have hi : intoP 0 (outT :: toks) Prg.none 0 false = if 256 < toks.length + 1 then .error (0, 45) else (exprP 0 toks).map fun l => ⟨[], [⟨[], 0, l⟩]⟩ := by
    rw [intoP.eq_def]
    dsimp only
    rw [if_neg (by decide), List.length_cons]
    by_cases h : 256 < toks.length + 1
    · rw [if_pos h, if_pos h]
      have : placeP 0 ((outT :: toks).drop 256) = 0 := by
        show placeP 0 (toks.drop 255) = 0
        rw [← hb, ← List.map_drop, place_bare]
      rw [this]
    · rw [if_neg h, if_neg h, if_neg (by decide), if_neg (by decide), if_pos (by decide)]
      rfl
  rw [linesQ, hi]
  by_cases h : 256 < toks.length + 1
  · rw [if_pos h]
  · rw [if_neg h]
    cases exprP 0 toks with
    | error x => rfl
    | ok l => rfl
/-- An expression's line. -/
theorem linesC_one {l : List UInt8} {x : List Tok} (h : lexC l = .ok x) (hn : (10 : UInt8) ∉ l) (hx : x ≠ []) : linesC l = .ok [x] := by
  unfold linesC
  rw [h]
  show Except.ok _ = _
  rw [split_all x [] (lexC_flat l.length l x (Nat.le_refl _) hn h), List.nil_append, if_neg hx]
theorem one_bare {p : Prg} {l : List Itm} (h : p.bare = ⟨[], [⟨[], 0, l⟩]⟩) : ∃ a its, p = ⟨[], [⟨[], a, its⟩]⟩ ∧ its.map Itm.bare = l := by
  obtain ⟨inp, lns⟩ := p
  injection h with e1 e2
  rw [List.map_eq_nil_iff] at e1
  subst e1
  cases lns with
  | nil => cases e2
  | cons x r =>
    cases r with
    | cons y r => simp at e2
    | nil =>
      obtain ⟨nm, a, its⟩ := x
      injection e2 with e2 _
      injection e2 with e3 _ e4
      subst e3
      exact ⟨a, its, rfl, e4⟩
theorem bareE_eq_ok {q : Prg} {x : Except Fault Prg} (h : bareE Prg.bare x = .ok q) : ∃ p, x = .ok p ∧ p.bare = q := by
  cases x with
  | error e => cases h
  | ok p => injection h with h; exact ⟨p, rfl, h⟩
theorem bareE_eq_error {x : Except Fault Prg} {y : Fault} (h : bareE Prg.bare x = .error y) : ∃ a, x = .error (a, y.2) := by
  cases x with
  | error e => injection h with h; subst h; exact ⟨e.1, rfl⟩
  | ok p => cases h
/-- What an expression's items tell of its tokens. -/
theorem outP_some {e : List UInt8} {l : List Itm} (he : e.length ≤ 60000) (hn : (10 : UInt8) ∉ e) (h : outP e = some l) :
    ∃ x, lexC e = .ok x ∧ x.length + 1 ≤ 256 ∧ exprP 0 x = .ok (l.map Itm.bare) ∧ (∀ t ∈ x, notLine t = true) ∧ x.map Tok.bare = x := by
  have hC := parse_lines (l := pOut e) (by unfold pOut; rw [List.length_append]; show 4 + e.length ≤ 65536; omega)
  unfold outP at h
  split at h
  · rename_i ln hp
    injection h with h
    subst h
    rw [hp] at hC
    have hcl : lexC (pOut e) = (lexC e).map ([outT] ++ ·) := lexC_out e
    cases hx : lexC e with
    | error c =>
      unfold linesC at hC
      rw [hcl, hx] at hC
      cases hC
    | ok x =>
      rw [hx] at hcl
      have hcl : lexC (pOut e) = .ok (outT :: x) := hcl
      have hnp : (10 : UInt8) ∉ pOut e := by
        unfold pOut
        intro hm
        rcases List.mem_append.1 hm with hm | hm
        · revert hm; decide
        · exact hn hm
      have hb := lexC_isBare hx
      rw [linesC_one hcl hnp (by simp)] at hC
      dsimp only at hC
      rw [one_out x hb] at hC
      by_cases h256 : 256 < x.length + 1
      · rw [if_pos h256] at hC; cases hC
      · rw [if_neg h256] at hC
        refine ⟨x, rfl, by omega, ?_, lexC_flat e.length e x (Nat.le_refl _) hn hx, hb⟩
        cases hE : exprP 0 x with
        | error y => rw [hE] at hC; cases hC
        | ok its =>
          rw [hE] at hC
          injection hC with hC
          injection hC with _ hC
          injection hC with hC _
          injection hC with _ _ hC
          have hi := bareE_id x hb
          rw [hE] at hi
          rw [← hC]
  · cases h

/-! ### brackets -/
def nones : List (Option Itm) → Nat
  | [] => 0
  | none :: s => nones s + 1
  | some _ :: s => nones s
theorem nones_some (l : List Itm) (s : List (Option Itm)) : nones (l.map some ++ s) = nones s := by
  induction l with
  | nil => rfl
  | cons a l ih => exact ih
theorem fin_split (todo : List (Option Itm)) : ∀ out, ∃ l rest, todo = l.map some ++ rest ∧ finP todo out = (out ++ l, rest) ∧ (rest = [] ∨ ∃ s, rest = none :: s) := by
  induction todo with
  | nil => intro out; exact ⟨[], [], rfl, by rw [finP_nil, List.append_nil], .inl rfl⟩
  | cons x s ih =>
    intro out
    cases x with
    | none => exact ⟨[], none :: s, rfl, by rw [finP_none, List.append_nil], .inr ⟨s, rfl⟩⟩
    | some it =>
      obtain ⟨l, rest, h1, h2, h3⟩ := ih (out ++ [it])
      refine ⟨it :: l, rest, by rw [h1]; rfl, ?_, h3⟩
      show finP s (out ++ [it]) = _
      rw [h2]
      simp
theorem phrase_then {left : Bool} {t : Tok} {r r2 : List Tok} {it : Itm} (h : phraseP left t r = .ok (it, r2)) (c : Tok) (rest : List Tok) (hc : isOp c = false) : phraseP left t (r ++ c :: rest) = .ok (it, r2 ++ c :: rest) := by
  cases r with
  | nil =>
    unfold phraseP at h ⊢
    dsimp only [List.nil_append] at h ⊢
    rw [hc]
    by_cases h0 : verbF t.word left = 0
    · rw [if_pos h0] at h; cases h
    · rw [if_neg h0] at h
      injection h with h
      injection h with h1 h2
      subst h1 h2
      rw [if_neg (by simp), if_neg h0]
      rfl
  | cons op r =>
    unfold phraseP at h ⊢
    dsimp only [List.cons_append] at h ⊢
    by_cases ho : isOp op = true
    · rw [if_pos ho] at h ⊢
      split at h
      · cases h
      · rename_i h0
        rw [if_neg h0]
        injection h with h
        injection h with h1 h2
        subst h1 h2
        rfl
    · rw [if_neg ho] at h ⊢
      split at h
      · cases h
      · rename_i h0
        rw [if_neg h0]
        injection h with h
        injection h with h1 h2
        subst h1 h2
        rfl
theorem nums_then (r : List Tok) (c : Tok) (rest : List Tok) (hc : isNum c = false) : (r ++ c :: rest).takeWhile isNum = r.takeWhile isNum ∧ (r ++ c :: rest).dropWhile isNum = r.dropWhile isNum ++ c :: rest := by
  induction r with
  | nil => simp [hc]
  | cons a r ih =>
    rw [List.cons_append, List.takeWhile_cons, List.dropWhile_cons, List.takeWhile_cons, List.dropWhile_cons]
    by_cases h : isNum a = true
    · simp only [h, if_true, ih.1, ih.2]; exact ⟨trivial, trivial⟩
    · simp [h]
theorem close_facts {c : Tok} (hc : signIs [41] c = true) : isOp c = false ∧ isNum c = false ∧ verbB c.word = false := by
  simp only [signIs, Bool.and_eq_true, beq_iff_eq] at hc
  obtain ⟨h1, h2⟩ := hc
  unfold isOp isNum
  rw [h1, h2]
  decide
/-- What an expression leaves, a bracket being open around it. -/
theorem run_close (e : Int) (c : Tok) (rest : List Tok) (hc : signIs [41] c = true) (f : Nat) : ∀ (m : Bool) (r : List Tok) (out : List Itm) (todo : List (Option Itm)) (its : List Itm), r.length ≤ f →
    runX e m r out todo (nones todo) = .ok its →
    (∃ x, runX e m (r ++ c :: rest) out (todo ++ [none]) (nones todo + 1) = .error (x, 44)) ∨ runX e m (r ++ c :: rest) out (todo ++ [none]) (nones todo + 1) = runX e false rest its [] 0 := by
  obtain ⟨k1, k2, k3⟩ := close_facts hc
  have stop : ∀ (out : List Itm) (todo : List (Option Itm)) (its : List Itm), runX e false [] out todo (nones todo) = .ok its → runX e false (c :: rest) out (todo ++ [none]) (nones todo + 1) = runX e false rest its [] 0 := by
    intro out todo its h
    rw [runX_stop] at h
    by_cases h0 : 0 < nones todo
    · rw [if_pos h0] at h; cases h
    · rw [if_neg h0] at h
      injection h with h
      obtain ⟨l, rs, h1, h2, h3⟩ := fin_split todo out
      have hrs : rs = [] := by
        rcases h3 with h3 | ⟨s, h3⟩
        · exact h3
        · subst h3
          rw [h1, nones_some] at h0
          exact absurd (Nat.succ_pos _) h0
      subst hrs
      rw [List.append_nil] at h1
      rw [h2] at h
      subst h
      have hz : nones todo = 0 := by omega
      rw [runX_behind, if_pos ⟨by omega, hc⟩, hz, h1, finP_some, finP_none]
      rfl
  induction f with
  | zero =>
    intro m r out todo its hr h
    have : r = [] := List.length_eq_zero_iff.1 (by omega)
    subst this
    cases m with
    | true => rw [runX_end] at h; cases h
    | false => exact .inr (stop out todo its h)
  | succ f ih =>
    intro m r out todo its hr h
    cases r with
    | nil =>
      cases m with
      | true => rw [runX_end] at h; cases h
      | false => exact .inr (stop out todo its h)
    | cons t r =>
      simp only [List.length_cons] at hr
      cases m with
      | true =>
        rw [runX_cons] at h
        rw [List.cons_append, runX_cons]
        by_cases h1 : t.kind ≠ 2 ∧ t.kind ≠ 4 ∧ verbB t.word = true
        · rw [if_pos h1] at h ⊢
          cases hp : phraseP false t r with
          | error x => rw [hp] at h; cases h
          | ok q =>
            obtain ⟨it, r2⟩ := q
            rw [hp] at h
            rw [phrase_then hp c rest k1]
            have hl := phrase_len hp
            exact ih true r2 out (some it :: todo) its (by omega) h
        · rw [if_neg h1] at h ⊢
          by_cases h2 : signIs [40] t = true
          · rw [if_pos h2] at h ⊢
            by_cases h3 : nones todo = 32
            · rw [if_pos h3] at h; cases h
            · rw [if_neg h3] at h
              by_cases h4 : nones todo + 1 = 32
              · rw [if_pos h4]; exact .inl ⟨_, rfl⟩
              · rw [if_neg h4]
                exact ih true r out (none :: todo) its (by omega) h
          · rw [if_neg h2] at h ⊢
            by_cases h3 : isNum t = true
            · rw [if_pos h3] at h ⊢
              rw [(nums_then r c rest k2).1, (nums_then r c rest k2).2]
              have hl := dropWhile_len isNum r
              exact ih false (r.dropWhile isNum) _ todo its (by omega) h
            · rw [if_neg h3] at h ⊢
              by_cases h4 : t.kind = 1 ∧ nameB t.word = true
              · rw [if_pos h4] at h ⊢
                exact ih false r _ todo its (by omega) h
              · rw [if_neg h4] at h
                split at h <;> cases h
      | false =>
        rw [runX_behind] at h
        rw [List.cons_append, runX_behind]
        by_cases ht : signIs [41] t = true
        · by_cases h0 : 0 < nones todo
          · rw [if_pos ⟨h0, ht⟩] at h
            rw [if_pos ⟨by omega, ht⟩]
            obtain ⟨l, rs, h1, h2, h3⟩ := fin_split todo out
            rcases h3 with h3 | ⟨s, h3⟩
            · subst h3
              rw [h1, nones_some] at h0
              exact absurd h0 (by decide)
            · subst h3
              have hs : nones todo = nones s + 1 := by rw [h1, nones_some]; rfl
              rw [h2, hs] at h
              have hb : finP (todo ++ [none]) out = (out ++ l, none :: (s ++ [none])) := by
                rw [h1, List.append_assoc, finP_some]
                rfl
              rw [hb, hs]
              exact ih false r (out ++ l) s its (by omega) h
          · rw [if_neg (fun h => h0 h.1), if_pos (.inr (close_facts ht).2.2)] at h
            cases h
        · rw [if_neg (fun h => ht h.2)] at h ⊢
          by_cases h2 : t.kind = 2 ∨ verbB t.word = false
          · rw [if_pos h2] at h; cases h
          · rw [if_neg h2] at h ⊢
            cases hp : phraseP true t r with
            | error x => rw [hp] at h; cases h
            | ok q =>
              obtain ⟨it, r2⟩ := q
              rw [hp] at h
              rw [phrase_then hp c rest k1]
              have hl := phrase_len hp
              exact ih true r2 out (some it :: todo) its (by omega) h
theorem expr_open (x rest : List Tok) (its : List Itm) (h : exprP 0 x = .ok its) :
    (∃ a, exprP 0 (openT :: (x ++ closeT :: rest)) = .error (a, 44)) ∨ exprP 0 (openT :: (x ++ closeT :: rest)) = runX 0 false rest its [] 0 := by
  have h1 : exprP 0 (openT :: (x ++ closeT :: rest)) = runX 0 true (x ++ closeT :: rest) [] [none] 1 := by
    show runX 0 true (openT :: (x ++ closeT :: rest)) [] [] 0 = _
    rw [runX_cons, if_neg (by decide), if_pos (by decide), if_neg (by decide)]
  rw [h1]
  exact run_close 0 closeT rest (by decide) x.length true x [] [] its (Nat.le_refl _) h
def pBr (e : List UInt8) : List UInt8 := [111, 117, 116, 32, 40] ++ e ++ [41]
theorem stops_close (z : List UInt8) : Stops (41 :: z) := .inr ⟨41, z, rfl, by simp⟩
theorem lexC_br {e : List UInt8} {x : List Tok} (h : lexC e = .ok x) (hs : (35 : UInt8) ∉ e) (z : List UInt8) (y : List Tok) (hz : lexC z = .ok y) : lexC ([111, 117, 116, 32, 40] ++ e ++ 41 :: z) = .ok (outT :: openT :: (x ++ closeT :: y)) := by
  have h1 : lexC (e ++ 41 :: z) = .ok (x ++ closeT :: y) := by
    rw [lexC_then h (41 :: z) (stops_close z) (.inr hs), lexC_close, hz]
    rfl
  show lexC (111 :: 117 :: 116 :: 32 :: 40 :: (e ++ 41 :: z)) = _
  rw [lexC_out, lexC_open, h1]
  rfl
theorem brackets_law {e : List UInt8} {l : List Itm} (he : plainB e 10000 = true) (h : outP e = some l) :
    (∃ x, parseL (pBr e) = .error (x, 44)) ∨ (∃ x, parseL (pBr e) = .error (x, 45)) ∨ ∃ a l', parseL (pBr e) = .ok ⟨[], [⟨[], a, l'⟩]⟩ ∧ l'.map Itm.bare = l.map Itm.bare := by
  obtain ⟨h1, h2, h3⟩ := plainB_iff.1 he
  obtain ⟨x, hx, hlen, hE, hnl, hb⟩ := outP_some (by omega) h2 h
  have hlb : (pBr e).length ≤ 65536 := by unfold pBr; simp only [List.length_append, List.length_cons, List.length_nil]; omega
  have hC := parse_lines hlb
  have hlx : lexC (pBr e) = .ok (outT :: openT :: (x ++ [closeT])) := lexC_br hx h3 [] [] rfl
  have hnp : (10 : UInt8) ∉ pBr e := by
    unfold pBr
    intro hm
    rcases List.mem_append.1 hm with hm | hm
    · rcases List.mem_append.1 hm with hm | hm
      · revert hm; decide
      · exact h2 hm
    · revert hm; decide
  rw [linesC_one hlx hnp (by simp)] at hC
  dsimp only at hC
  rw [one_out _ (by rw [List.map_cons, List.map_append, hb]; rfl)] at hC
  split at hC
  · obtain ⟨a, ha⟩ := bareE_eq_error hC
    exact .inr (.inl ⟨a, ha⟩)
  · rcases expr_open x [] _ hE with ⟨a, ha⟩ | ha
    · rw [ha] at hC
      obtain ⟨a, ha⟩ := bareE_eq_error hC
      exact .inl ⟨a, ha⟩
    · rw [ha, runX_stop] at hC
      obtain ⟨p, hp, hpb⟩ := bareE_eq_ok hC
      refine .inr (.inr ?_)
      obtain ⟨a, its, rfl, hi⟩ := one_bare hpb
      exact ⟨a, its, hp, hi⟩

/-! ### a verb takes all on its right -/
def pRt (a b : List UInt8) : List UInt8 := [111, 117, 116, 32, 40] ++ a ++ [41, 109, 97, 120, 32] ++ b
def maxI : Itm := ⟨4, 0, 7, [], []⟩
theorem run_max {x : List Tok} {its : List Itm} (h : exprP 0 x = .ok its) (hn : ∀ t ∈ x, notLine t = true) (out : List Itm) : runX 0 false (maxT :: x) out [] 0 = .ok (out ++ its ++ [maxI]) := by
  have hph : phraseP true maxT x = .ok (maxI, x) := by
    cases x with
    | nil => rfl
    | cons t r =>
      have ho : isOp t = false := by
        cases hop : isOp t with
        | false => rfl
        | true =>
          exfalso
          have h : runX 0 true (t :: r) [] [] 0 = .ok its := h
          rw [runX_cons] at h
          simp only [isOp, Bool.and_eq_true, Bool.or_eq_true, beq_iff_eq] at hop
          obtain ⟨hk, hw⟩ := hop
          have hv : verbB t.word = false := by rcases hw with (hw | hw) | hw <;> rw [hw] <;> decide
          have hs : signIs [40] t = false := by
            unfold signIs
            rcases hw with (hw | hw) | hw <;> rw [hw, hk] <;> decide
          rw [if_neg (by rw [hv]; simp), hs, if_neg (by simp), if_neg (by unfold isNum; rw [hk]; decide), if_neg (by rw [hk]; intro h; exact absurd h.1 (by decide)), if_neg (by rw [hk]; decide)] at h
          cases h
      unfold phraseP
      dsimp only
      rw [ho]
      rfl
  have hw := whole_eq 0 x (fun t ht => by have := hn t ht; simpa [notLine] using this)
  rw [h] at hw
  unfold wholeR at hw
  have hA := (agree_all 0 (2 * x.length + 2)).1 x out [some maxI] 0 (Nat.le_refl _) (fun t ht => by have := hn t ht; simpa [notLine] using this)
  rw [runX_behind, if_neg (by simp), if_neg (by decide), hph]
  dsimp only
  cases hr : exprR 0 (2 * x.length + 2) 0 x with
  | error y => rw [hr] at hw; cases hw
  | ok q =>
    obtain ⟨l, r'⟩ := q
    rw [hr] at hw hA
    cases r' with
    | cons c r' => cases hw
    | nil =>
      injection hw with hw
      subst hw
      obtain ⟨_, _, _, base, pend, rfl, h6⟩ := hA
      rw [h6, runX_stop, if_neg (by omega), finP_some]
      show Except.ok (out ++ base ++ pend ++ [maxI]) = _
      simp
theorem right_law {a b : List UInt8} {la lb : List Itm} (ha : plainB a 10000 = true) (hb : plainB b 10000 = true) (h : outP a = some la) (g : outP b = some lb) :
    (∃ x, parseL (pRt a b) = .error (x, 44)) ∨ (∃ x, parseL (pRt a b) = .error (x, 45)) ∨ ∃ k l', parseL (pRt a b) = .ok ⟨[], [⟨[], k, l'⟩]⟩ ∧ l'.map Itm.bare = la.map Itm.bare ++ lb.map Itm.bare ++ [maxI] := by
  obtain ⟨h1, h2, h3⟩ := plainB_iff.1 ha
  obtain ⟨g1, g2, g3⟩ := plainB_iff.1 hb
  obtain ⟨x, hx, hlen, hE, hnl, hxb⟩ := outP_some (by omega) h2 h
  obtain ⟨y, hy, glen, gE, gnl, hyb⟩ := outP_some (by omega) g2 g
  have hlb : (pRt a b).length ≤ 65536 := by unfold pRt; simp only [List.length_append, List.length_cons, List.length_nil]; omega
  have hC := parse_lines hlb
  have hlx : lexC (pRt a b) = .ok (outT :: openT :: (x ++ closeT :: maxT :: y)) := by
    have : lexC (109 :: 97 :: 120 :: 32 :: b) = .ok (maxT :: y) := by rw [lexC_max, hy]; rfl
    have := lexC_br hx h3 _ _ this
    unfold pRt
    rw [List.append_assoc]
    exact this
  have hnp : (10 : UInt8) ∉ pRt a b := by
    unfold pRt
    intro hm
    rcases List.mem_append.1 hm with hm | hm
    · rcases List.mem_append.1 hm with hm | hm
      · rcases List.mem_append.1 hm with hm | hm
        · revert hm; decide
        · exact h2 hm
      · revert hm; decide
    · exact g2 hm
  rw [linesC_one hlx hnp (by simp)] at hC
  dsimp only at hC
  rw [one_out _ (by rw [List.map_cons, List.map_append, hxb, List.map_cons, List.map_cons, hyb]; rfl)] at hC
  split at hC
  · obtain ⟨a, ha⟩ := bareE_eq_error hC
    exact .inr (.inl ⟨a, ha⟩)
  · rcases expr_open x (maxT :: y) _ hE with ⟨a, ha⟩ | ha
    · rw [ha] at hC
      obtain ⟨a, ha⟩ := bareE_eq_error hC
      exact .inl ⟨a, ha⟩
    · rw [ha, run_max gE gnl] at hC
      obtain ⟨p, hp, hpb⟩ := bareE_eq_ok hC
      refine .inr (.inr ?_)
      obtain ⟨a, its, rfl, hi⟩ := one_bare hpb
      exact ⟨a, its, hp, hi⟩
end Go.Proofs.YtfpneopobbfabaaDoor
