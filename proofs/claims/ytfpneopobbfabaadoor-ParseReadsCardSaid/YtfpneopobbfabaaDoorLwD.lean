/-
  Plain Lean, no program: where a fault lies, and what stands ahead of its line. No condition.
-/
import Derived.Test.YtfpneopobbfabaaDoorLwC
namespace Go.Proofs.YtfpneopobbfabaaDoor
open Go

/-- A fault's place is the end's, or a token's; its code is the parser's. -/
def Well (e : Int) (r : List Tok) (y : Fault) : Prop := (y.1 = e ∨ ∃ t ∈ r, y.1 = t.at_) ∧ 40 ≤ y.2 ∧ y.2 ≤ 46
theorem Well.mono {e : Int} {r r' : List Tok} {y : Fault} (h : Well e r y) (hs : ∀ t ∈ r, t ∈ r') : Well e r' y := by
  refine ⟨?_, h.2⟩
  rcases h.1 with h | ⟨t, ht, h⟩
  · exact .inl h
  · exact .inr ⟨t, hs t ht, h⟩
theorem phrase_fault {left : Bool} {t : Tok} {r : List Tok} {y : Fault} (h : phraseP left t r = .error y) : y = (t.at_, 43) := by
  unfold phraseP at h
  split at h
  · split at h
    · injection h with h; exact h.symm
    · cases h
  · split at h
    · split at h
      · injection h with h; exact h.symm
      · cases h
    · split at h
      · injection h with h; exact h.symm
      · cases h
theorem well_tok (e : Int) (t : Tok) (r : List Tok) (c : Nat) (h : 40 ≤ c ∧ c ≤ 46) : Well e (t :: r) (t.at_, c) := ⟨.inr ⟨t, by simp, rfl⟩, h⟩
theorem run_fault (e : Int) (f : Nat) : ∀ (m : Bool) (r : List Tok) (out : List Itm) (todo : List (Option Itm)) (op : Nat) (y : Fault), r.length ≤ f → runX e m r out todo op = .error y → Well e r y := by
  have stop : ∀ (m : Bool) (out : List Itm) (todo : List (Option Itm)) (op : Nat) (y : Fault), runX e m [] out todo op = .error y → Well e [] y := by
    intro m out todo op y h
    cases m with
    | true => rw [runX_end] at h; injection h with h; subst h; exact ⟨.inl rfl, by dsimp only; omega⟩
    | false =>
      rw [runX_stop] at h
      split at h
      · injection h with h; subst h; exact ⟨.inl rfl, by dsimp only; omega⟩
      · cases h
  induction f with
  | zero =>
    intro m r out todo op y hr h
    have : r = [] := List.length_eq_zero_iff.1 (by omega)
    subst this
    exact stop m out todo op y h
  | succ f ih =>
    intro m r out todo op y hr h
    cases r with
    | nil => exact stop m out todo op y h
    | cons t r =>
      simp only [List.length_cons] at hr
      cases m with
      | true =>
        rw [runX_cons] at h
        split at h
        · cases hp : phraseP false t r with
          | error x => rw [hp] at h; injection h with h; subst h; rw [phrase_fault hp]; exact well_tok e t r 43 (by decide)
          | ok q =>
            obtain ⟨it, r2⟩ := q
            rw [hp] at h
            have hl := phrase_len hp
            exact (ih true r2 _ _ _ y (by omega) h).mono (fun x hx => List.mem_cons_of_mem _ (phrase_mem hp x hx))
        · split at h
          · split at h
            · injection h with h; subst h; exact well_tok e t r 44 (by decide)
            · exact (ih true r _ _ _ y (by omega) h).mono (fun x hx => List.mem_cons_of_mem _ hx)
          · split at h
            · have hl := dropWhile_len isNum r
              exact (ih false _ _ _ _ y (by omega) h).mono (fun x hx => List.mem_cons_of_mem _ (dropWhile_mem isNum r x hx))
            · split at h
              · exact (ih false r _ _ _ y (by omega) h).mono (fun x hx => List.mem_cons_of_mem _ hx)
              · split at h
                · injection h with h; subst h; exact well_tok e t r 41 (by decide)
                · injection h with h; subst h; exact well_tok e t r 42 (by decide)
      | false =>
        rw [runX_behind] at h
        split at h
        · exact (ih false r _ _ _ y (by omega) h).mono (fun x hx => List.mem_cons_of_mem _ hx)
        · split at h
          · injection h with h; subst h; exact well_tok e t r 46 (by decide)
          · cases hp : phraseP true t r with
            | error x => rw [hp] at h; injection h with h; subst h; rw [phrase_fault hp]; exact well_tok e t r 43 (by decide)
            | ok q =>
              obtain ⟨it, r2⟩ := q
              rw [hp] at h
              have hl := phrase_len hp
              exact (ih true r2 _ _ _ y (by omega) h).mono (fun x hx => List.mem_cons_of_mem _ (phrase_mem hp x hx))
theorem expr_fault {e : Int} {r : List Tok} {y : Fault} (h : exprP e r = .error y) : Well e r y := run_fault e r.length true r [] [] 0 y (Nat.le_refl _) h
theorem sides_fault {e : Int} {y : Fault} (r : List Tok) : ∀ acc, sidesP acc r = .error y → Well e r y := by
  induction r with
  | nil => intro acc h; cases h
  | cons t r ih =>
    intro acc h
    rw [sidesP] at h
    split at h
    · injection h with h; subst h; exact well_tok e t r 41 (by decide)
    · split at h
      · injection h with h; subst h; exact well_tok e t r 45 (by decide)
      · exact (ih _ h).mono (fun x hx => List.mem_cons_of_mem _ hx)
theorem map_error {α β : Type} {f : α → β} {x : Except Fault α} {y : Fault} (h : x.map f = .error y) : x = .error y := by
  cases x with
  | error e => injection h with h; rw [h]
  | ok a => cases h
theorem input_fault {e : Int} {r : List Tok} {y : Fault} (h : inputP e r = .error y) : Well e r y := by
  cases r with
  | nil => injection h with h; subst h; exact ⟨.inl rfl, by dsimp only; omega⟩
  | cons t r =>
    rw [inputP] at h
    split at h
    · injection h with h; subst h; exact well_tok e t r 41 (by decide)
    · exact (sides_fault r [] (map_error h)).mono (fun x hx => List.mem_cons_of_mem _ hx)
theorem into_fault {e : Int} {toks : List Tok} {p : Prg} {lines : Nat} {over : Bool} {y : Fault} (h : intoP e toks p lines over = .error y) : Well e toks y := by
  cases toks with
  | nil => cases h
  | cons t r =>
    rw [intoP.eq_def] at h
    dsimp only at h
    split at h
    · injection h with h; subst h; exact well_tok e t r 45 (by decide)
    · split at h
      · injection h with h
        subst h
        refine ⟨?_, by dsimp only; omega⟩
        unfold placeP
        split
        · exact .inl rfl
        · rename_i t' r' he
          exact .inr ⟨t', List.mem_of_mem_drop (i := 256) (by rw [he]; simp), rfl⟩
      · split at h
        · injection h with h; subst h; exact well_tok e t r 40 (by decide)
        · split at h
          · exact (input_fault (map_error h)).mono (fun x hx => List.mem_cons_of_mem _ hx)
          · split at h
            · exact (expr_fault (map_error h)).mono (fun x hx => List.mem_cons_of_mem _ hx)
            · split at h
              · injection h with h; subst h; exact well_tok e t r 40 (by decide)
              · split at h
                · injection h with h; subst h; exact ⟨.inl rfl, by dsimp only; omega⟩
                · rename_i _ c r2 _
                  split at h
                  · exact (expr_fault (map_error h)).mono (fun x hx => by simp [hx])
                  · injection h with h; subst h; exact ⟨.inr ⟨c, by simp, rfl⟩, by dsimp only; omega⟩

/-! ### a text's lines -/
theorem cut_line (l : List UInt8) : ∃ a, (10 : UInt8) ∉ a ∧ (l = a ∨ ∃ r, l = a ++ 10 :: r) := by
  induction l with
  | nil => exact ⟨[], by simp, .inl rfl⟩
  | cons b l ih =>
    by_cases hb : b = 10
    · subst hb; exact ⟨[], by simp, .inr ⟨l, rfl⟩⟩
    · obtain ⟨a, h1, h2⟩ := ih
      refine ⟨b :: a, ?_, ?_⟩
      · intro h
        rcases List.mem_cons.1 h with h | h
        · exact hb h.symm
        · exact h1 h
      · rcases h2 with rfl | ⟨r, rfl⟩
        · exact .inl rfl
        · exact .inr ⟨r, rfl⟩
theorem lexAt_line {k : Nat} {a : List UInt8} {x : List Tok} (h : lexAt k a = .ok x) (r : List UInt8) : lexAt k (a ++ 10 :: r) = (lexAt (k + a.length + 1) r).map ((x ++ [⟨4, ((k + a.length : Nat) : Int), [], 0⟩]) ++ ·) := by
  obtain ⟨⟨nt, h1⟩, _⟩ := reach_all a.length k a x (Nat.le_refl _) h
  have h2 := h1.read (10 :: r) (stops_ten r) (fun _ => .inr ⟨r, rfl⟩)
  rw [List.take_length] at h2
  rw [h2, lexAt_cons, if_neg (by decide), if_neg (by decide), tok_line (10 :: r) rfl, if_neg (by decide)]
  show Except.map _ (Except.map ([_] ++ ·) _) = _
  rw [map_map]
  rfl
theorem flat_line {k : Nat} {a : List UInt8} {x : List Tok} (hn : (10 : UInt8) ∉ a) (h : lexAt k a = .ok x) : ∀ t ∈ x, notLine t = true := by
  intro t ht
  have h1 : lexC a = .ok (x.map Tok.bare) := by rw [← lexC_at k a, h]; rfl
  have := lexC_flat a.length a _ (Nat.le_refl _) hn h1 t.bare (List.mem_map.2 ⟨t, ht, rfl⟩)
  exact this
/-- From a line's start j on to the fault's place there is no line's end; ahead of it all is of a program so far. -/
def Ahead (k : Nat) (l : List UInt8) (p : Prg) (lines : Nat) (over : Bool) (a : Int) (c : Nat) : Prop :=
  (40 ≤ c ∧ c ≤ 46) ∧ ∃ j m : Nat, j ≤ m ∧ m ≤ l.length ∧ a = ((k + m : Nat) : Int) ∧ (j = 0 ∨ l[j - 1]? = some 10) ∧ (∀ i, j ≤ i → i < m → l[i]? ≠ some 10) ∧
    ∃ toks, lexAt k (l.take j) = .ok toks ∧ ((∃ q, linesX ((k + j : Nat) : Int) toks p lines over = .ok q) ∨ linesX ((k + j : Nat) : Int) toks p lines over = .error (((k + j : Nat) : Int), 42))
theorem no_ten {a : List UInt8} (h : (10 : UInt8) ∉ a) (i : Nat) : a[i]? ≠ some 10 := fun e => h (List.mem_of_getElem? e)
theorem ahead_here {k : Nat} {l : List UInt8} {p : Prg} {lines : Nat} {over : Bool} {m c : Nat} {a : Int} (hc : 40 ≤ c ∧ c ≤ 46) (hm : m ≤ l.length) (ha : a = ((k + m : Nat) : Int)) (h : ∀ i, i < m → l[i]? ≠ some 10) : Ahead k l p lines over a c := by
  refine ⟨hc, 0, m, Nat.zero_le _, hm, ha, .inl rfl, fun i _ => h i, [], by rw [List.take_zero, lexAt_nil], ?_⟩
  rw [linesX_nil, Nat.add_zero]
  cases over with
  | true => exact .inl ⟨p, rfl⟩
  | false => exact .inr rfl
theorem ahead_at (f : Nat) : ∀ (k : Nat) (l : List UInt8) (toks : List Tok) (p : Prg) (lines : Nat) (over : Bool) (a : Int) (c : Nat), l.length ≤ f → lexAt k l = .ok toks →
    linesX ((k + l.length : Nat) : Int) toks p lines over = .error (a, c) → Ahead k l p lines over a c := by
  induction f with
  | zero =>
    intro k l toks p lines over a c hl h he
    have : l = [] := List.length_eq_zero_iff.1 (by omega)
    subst this
    rw [lexAt_nil] at h
    injection h with h
    subst h
    rw [linesX_nil] at he
    cases over with
    | true => cases he
    | false =>
      injection he with he
      injection he with e1 e2
      exact ahead_here (m := 0) (by omega) (Nat.le_refl _) e1.symm (fun i hi => by omega)
  | succ f ih =>
    intro k l toks p lines over a c hl h he
    obtain ⟨b, hb, hcut⟩ := cut_line l
    rcases hcut with rfl | ⟨r, rfl⟩
    · have hp := (lex_places l.length k l toks (Nat.le_refl _) h).1
      have hfl := flat_line hb h
      have fin : linesX ((k + l.length : Nat) : Int) [] p lines over = .error (a, c) → Ahead k l p lines over a c := by
        intro he
        rw [linesX_nil] at he
        cases over with
        | true => cases he
        | false =>
          injection he with he
          injection he with e1 e2
          exact ahead_here (m := l.length) (by omega) (Nat.le_refl _) e1.symm (fun i _ => no_ten hb i)
      by_cases hx : toks = []
      · subst hx; exact fin he
      · rw [linesX_last _ toks p lines over hfl hx] at he
        cases hi : intoP ((k + l.length : Nat) : Int) toks p lines over with
        | error y =>
          rw [hi] at he
          injection he with he
          subst he
          obtain ⟨hw, hc⟩ := into_fault hi
          have hin : ∃ m : Nat, m ≤ l.length ∧ a = ((k + m : Nat) : Int) := by
            rcases hw with hw | ⟨t, ht, hw⟩
            · exact ⟨l.length, Nat.le_refl _, hw⟩
            · obtain ⟨g1, g2⟩ := hp t ht
              dsimp only at hw
              refine ⟨(a - k).toNat, by omega, by omega⟩
          obtain ⟨m, h1, h2⟩ := hin
          exact ahead_here hc h1 h2 (fun i _ => no_ten hb i)
        | ok q =>
          rw [hi] at he
          dsimp only at he
          rw [linesX_nil] at he
          split at he
          · cases he
          · injection he with he
            injection he with e1 e2
            exact ahead_here (m := l.length) (by omega) (Nat.le_refl _) e1.symm (fun i _ => no_ten hb i)
    · cases hx : lexAt k b with
      | error e => rw [lexAt_bad_then b.length k b (10 :: r) e (Nat.le_refl _) (stops_ten r) hx] at h; cases h
      | ok x =>
        have hlen : (b ++ 10 :: r).length = b.length + 1 + r.length := by rw [List.length_append, List.length_cons]; omega
        rw [lexAt_line hx] at h
        cases hy : lexAt (k + b.length + 1) r with
        | error e => rw [hy] at h; cases h
        | ok y =>
          rw [hy] at h
          injection h with h
          have h : (x ++ [⟨4, ((k + b.length : Nat) : Int), [], 0⟩]) ++ y = toks := h
          rw [List.append_assoc] at h
          have h : x ++ ⟨4, ((k + b.length : Nat) : Int), [], 0⟩ :: y = toks := h
          subst h
          have hp := (lex_places b.length k b x (Nat.le_refl _) hx).1
          have hfl := flat_line hb hx
          have hk : k + (b ++ 10 :: r).length = k + b.length + 1 + r.length := by omega
          have hmid : (b ++ 10 :: r)[b.length]? = some 10 := by rw [List.getElem?_append_right (Nat.le_refl _), Nat.sub_self]; rfl
          have hbeh : ∀ i, (b ++ 10 :: r)[b.length + 1 + i]? = r[i]? := by
            intro i
            rw [List.getElem?_append_right (by omega), show b.length + 1 + i - b.length = i + 1 by omega]
            rfl
          have htake : ∀ i, (b ++ 10 :: r).take (b.length + 1 + i) = b ++ 10 :: r.take i := by
            intro i
            rw [List.take_append, List.take_of_length_le (by omega), show b.length + 1 + i - b.length = i + 1 by omega]
            rfl
          have next : ∀ (p' : Prg) (lines' : Nat) (over' : Bool), linesX ((k + (b ++ 10 :: r).length : Nat) : Int) y p' lines' over' = .error (a, c) →
              (∀ (n : Int) (z : List Tok), linesX n (x ++ ⟨4, ((k + b.length : Nat) : Int), [], 0⟩ :: z) p lines over = linesX n z p' lines' over') → Ahead k (b ++ 10 :: r) p lines over a c := by
            intro p' lines' over' hz hq
            rw [hk] at hz
            rw [hlen] at hl
            obtain ⟨hc, j, m, h1, h2, h3, h4, h5, toks', h6, h7⟩ := ih (k + b.length + 1) r y p' lines' over' a c (by omega) hy hz
            refine ⟨hc, b.length + 1 + j, b.length + 1 + m, by omega, by omega, by rw [h3]; congr 1; omega, .inr ?_, ?_, x ++ ⟨4, ((k + b.length : Nat) : Int), [], 0⟩ :: toks', ?_, ?_⟩
            · rcases h4 with h4 | h4
              · subst h4
                exact hmid
              · by_cases hj : j = 0
                · subst hj; exact hmid
                · rw [show b.length + 1 + j - 1 = b.length + 1 + (j - 1) by omega, hbeh]
                  exact h4
            · intro i hi1 hi2
              obtain ⟨i', rfl⟩ : ∃ i', i = b.length + 1 + i' := ⟨i - (b.length + 1), by omega⟩
              rw [hbeh]
              exact h5 i' (by omega) (by omega)
            · rw [htake, lexAt_line hx, h6]
              show Except.ok ((x ++ [⟨4, ((k + b.length : Nat) : Int), [], 0⟩]) ++ toks') = Except.ok _
              rw [List.append_assoc]
              rfl
            · rw [hq, show k + (b.length + 1 + j) = k + b.length + 1 + j by omega]
              exact h7
          rw [linesX_line _ x _ y p lines over hfl rfl] at he
          by_cases hx0 : x = []
          · rw [if_pos hx0] at he
            refine next p lines over he (fun n z => ?_)
            rw [linesX_line n x _ z p lines over hfl rfl, if_pos hx0]
          · rw [if_neg hx0] at he
            cases hi : intoP ((k + b.length : Nat) : Int) x p lines over with
            | error y' =>
              have he : (Except.error y' : Except Fault Prg) = .error (a, c) := by rw [← he]; dsimp only; rw [hi]
              injection he with he
              subst he
              obtain ⟨hw, hc⟩ := into_fault hi
              have hin : ∃ m : Nat, m ≤ b.length ∧ a = ((k + m : Nat) : Int) := by
                rcases hw with hw | ⟨t, ht, hw⟩
                · exact ⟨b.length, Nat.le_refl _, hw⟩
                · obtain ⟨g1, g2⟩ := hp t ht
                  dsimp only at hw
                  refine ⟨(a - k).toNat, by omega, by omega⟩
              obtain ⟨m, h1, h2⟩ := hin
              refine ahead_here hc (by omega) h2 (fun i hi => ?_)
              rw [List.getElem?_append_left (by omega)]
              exact no_ten hb i
            | ok q =>
              have he : linesX ((k + (b ++ 10 :: r).length : Nat) : Int) y q (lines + 1) (overP q) = .error (a, c) := by rw [← he]; dsimp only; rw [hi]
              refine next q (lines + 1) (overP q) he (fun n z => ?_)
              rw [linesX_line n x _ z p lines over hfl rfl, if_neg hx0]
              dsimp only
              rw [hi]
/-- A fault, and what stands ahead of its line. -/
theorem faults_law {l : List UInt8} {a : Int} {c : Nat} (h : parseL l = .error (a, c)) : ∃ m : Nat, a = m ∧ m ≤ l.length ∧ ((30 ≤ c ∧ c ≤ 33) ∨ ((40 ≤ c ∧ c ≤ 46) ∧
    ∀ from_ : Nat, from_ ≤ m → (from_ = 0 ∨ l[from_ - 1]? = some 10) → (∀ i, from_ ≤ i → i < m → l[i]? ≠ some 10) → (∃ q, parseL (l.take from_) = .ok q) ∨ parseL (l.take from_) = .error ((from_ : Int), 42))) := by
  unfold parseL at h
  cases hl : lexL l with
  | error y =>
    obtain ⟨a', c'⟩ := y
    rw [hl] at h
    injection h with h
    injection h with e1 e2
    refine ⟨a', e1.symm, ?_, .inl ?_⟩
    · rcases fault_law l a' c' hl with ⟨_, h0, _⟩ | ⟨_, h0, _⟩ <;> omega
    · subst e2
      unfold lexL at hl
      split at hl
      · injection hl with hl
        injection hl with _ hl
        omega
      · obtain ⟨m, acc, nt, b, r, _, _, _, _, _, h6, h7⟩ := reach_bad l.length 0 l a' c' (Nat.le_refl _) hl
        have : (tokL (b :: r)).2.2 = 0 ∨ (31 ≤ (tokL (b :: r)).2.2 ∧ (tokL (b :: r)).2.2 ≤ 33) := by
          unfold tokL
          split
          · exact .inl rfl
          · split
            · split
              · exact .inr (by decide)
              · exact .inl rfl
            · split
              · have := numL_code (b :: r)
                show (numL (b :: r)).2.2 = 0 ∨ (31 ≤ (numL (b :: r)).2.2 ∧ (numL (b :: r)).2.2 ≤ 33)
                omega
              · split
                · exact .inr (by decide)
                · exact .inl rfl
        omega
  | ok toks =>
    rw [hl] at h
    obtain ⟨hlen, hat⟩ := (lexL_ok_iff _ _).1 hl
    have h : linesX ((0 + l.length : Nat) : Int) toks Prg.none 0 false = .error (a, c) := by rw [Nat.zero_add]; exact h
    obtain ⟨hc, j, m, h1, h2, h3, h4, h5, toks', h6, h7⟩ := ahead_at l.length 0 l toks Prg.none 0 false a c (Nat.le_refl _) hat h
    rw [Nat.zero_add] at h3
    refine ⟨m, h3, h2, .inr ⟨hc, fun g g1 g2 g3 => ?_⟩⟩
    have hjg : g = j := by
      rcases Nat.lt_trichotomy g j with hlt | rfl | hlt
      · rcases h4 with h4 | h4
        · omega
        · exact absurd h4 (g3 (j - 1) (by omega) (by omega))
      · rfl
      · rcases g2 with g2 | g2
        · omega
        · exact absurd g2 (h5 (g - 1) (by omega) (by omega))
    subst hjg
    rw [Nat.zero_add] at h7
    have hlx : lexL (l.take g) = .ok toks' := (lexL_ok_iff _ _).2 ⟨by rw [List.length_take]; omega, h6⟩
    have hp : parseL (l.take g) = linesX (g : Int) toks' Prg.none 0 false := by
      unfold parseL
      rw [hlx]
      show linesX (((l.take g).length : Nat) : Int) toks' Prg.none 0 false = _
      rw [List.length_take, Nat.min_eq_left (by omega)]
    rw [hp]
    exact h7
end Go.Proofs.YtfpneopobbfabaaDoor
