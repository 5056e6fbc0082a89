/-
  Plain Lean, no program: lines are read one by one; where a fault lies, and what stands ahead of its line. No condition.
-/
import Derived.Test.YtfpneopobbfabaaDoorLwB
namespace Go.Proofs.YtfpneopobbfabaaDoor
open Go

/-! ### lines -/
def aT : Tok := ⟨1, 0, [97], 0⟩
def colT : Tok := ⟨3, 0, [58], 0⟩
def lineA (e : List UInt8) : List UInt8 := [97, 32, 58, 32] ++ e ++ [10]
def outA : List UInt8 := [111, 117, 116, 32, 97]
theorem tok_a (z : List UInt8) : tokL (97 :: 32 :: z) = (aT, 1, 0) := by
  have hr : runL alnumB (97 :: 32 :: z) = 1 := by rw [runL_cons, runL_cons]; rfl
  rw [tok_word _ (by simp) (by rw [List.headD_cons]; decide), hr]
  rfl
theorem lexC_a (z : List UInt8) : lexC (97 :: 32 :: 58 :: 32 :: z) = (lexC z).map ([aT, colT] ++ ·) := by
  rw [lexC_tok (32 :: 58 :: 32 :: z) _ _ (by decide) (by decide) aT 1 (tok_a _) rfl rfl, lexC_blank 32 _ (.inl rfl),
    lexC_tok (32 :: z) 58 _ (by decide) (by decide) colT 1 (tok_sign1 58 _ (by decide) (by decide) (by decide) (by decide) (by decide) (by decide)) rfl rfl, lexC_blank 32 _ (.inl rfl), mapE_map]
  rfl
theorem into_a (x : List Tok) (hb : x.map Tok.bare = x) (p : Prg) (n : Nat) (hn : n < 64) : intoP 0 (aT :: colT :: x) p n false = if 256 < x.length + 2 then .error (0, 45) else (exprP 0 x).map fun l => { p with lines := p.lines ++ [⟨[97], 0, l⟩] } := by
  rw [intoP.eq_def]
  dsimp only
  rw [if_neg (by omega), List.length_cons, List.length_cons]
  by_cases h : 256 < x.length + 2
  · rw [if_pos h, if_pos h]
    have : placeP 0 ((aT :: colT :: x).drop 256) = 0 := by
      show placeP 0 (x.drop 254) = 0
      rw [← hb, ← List.map_drop, place_bare]
    rw [this]
  · have h1 : isWord [105, 110] aT = false := by decide
    have h2 : isWord [111, 117, 116] aT = false := by decide
    have h3 : nameT aT = true := by rfl
    have h4 : signIs [58] colT = true := by decide
    rw [if_neg h, if_neg h, h1, h2, h3, h4]
    simp only [Bool.false_eq_true, false_or, false_and, if_false, if_true, Bool.true_eq_false]
    rfl
theorem into_last (p : Prg) (n : Nat) (hn : n < 64) : intoP 0 [outT, aT] p n false = .ok { p with lines := p.lines ++ [⟨[], 0, [⟨2, 0, 0, [97], []⟩]⟩] } := by
  rw [intoP.eq_def]
  dsimp only
  rw [if_neg (by omega), if_neg (by decide)]
  have h1 : isWord [105, 110] outT = false := by decide
  have h2 : isWord [111, 117, 116] outT = true := by decide
  rw [h1, h2]
  simp only [Bool.false_eq_true, false_or, false_and, if_false, if_true]
  rfl
theorem over_snoc (p : Prg) (l : Lin) : overP { p with lines := p.lines ++ [l] } = (l.name == []) := by
  unfold overP
  simp
theorem lines_run (xs : List (List Tok × List Itm)) : ∀ (p : Prg) (n : Nat), n + xs.length < 64 → (∀ q ∈ xs, q.1.map Tok.bare = q.1 ∧ exprP 0 q.1 = .ok q.2) →
    linesQ (xs.map (fun q => aT :: colT :: q.1) ++ [[outT, aT]]) p n false = .error (0, 45) ∨
    linesQ (xs.map (fun q => aT :: colT :: q.1) ++ [[outT, aT]]) p n false = .ok { p with lines := p.lines ++ xs.map (fun q => ⟨[97], 0, q.2⟩) ++ [⟨[], 0, [⟨2, 0, 0, [97], []⟩]⟩] } := by
  induction xs with
  | nil =>
    intro p n hn _
    right
    rw [List.map_nil, List.nil_append, linesQ, into_last p n (by simpa using hn)]
    dsimp only
    rw [over_snoc, linesQ]
    simp
  | cons q xs ih =>
    intro p n hn h
    obtain ⟨h1, h2⟩ := h q (by simp)
    simp only [List.length_cons] at hn
    rw [List.map_cons, List.cons_append, linesQ, into_a q.1 h1 p n (by omega)]
    by_cases h3 : 256 < q.1.length + 2
    · rw [if_pos h3]; exact .inl rfl
    · rw [if_neg h3, h2]
      have := ih { p with lines := p.lines ++ [⟨[97], 0, q.2⟩] } (n + 1) (by omega) (fun z hz => h z (by simp [hz]))
      show linesQ _ _ _ (overP { p with lines := p.lines ++ [⟨[97], 0, q.2⟩] }) = _ ∨ linesQ _ _ _ (overP { p with lines := p.lines ++ [⟨[97], 0, q.2⟩] }) = _
      rw [over_snoc]
      show linesQ _ _ _ false = _ ∨ linesQ _ _ _ false = _
      rcases this with this | this
      · exact .inl this
      · right
        rw [this]
        simp
theorem linesC_a {e : List UInt8} {x : List Tok} (hx : lexC e = .ok x) (hn : ∀ t ∈ x, notLine t = true) (z : List UInt8) : linesC (lineA e ++ z) = (linesC z).map ([aT :: colT :: x] ++ ·) := by
  have h1 : lexC ([97, 32, 58, 32] ++ e) = .ok (aT :: colT :: x) := by
    show lexC (97 :: 32 :: 58 :: 32 :: e) = _
    rw [lexC_a, hx]
    rfl
  have h2 : lineA e ++ z = ([97, 32, 58, 32] ++ e) ++ 10 :: z := by unfold lineA; simp
  rw [h2, linesC_line, h1]
  dsimp only
  rw [split_all _ [] (by
    intro t ht
    rcases List.mem_cons.1 ht with rfl | ht
    · rfl
    · rcases List.mem_cons.1 ht with rfl | ht
      · rfl
      · exact hn t ht), List.nil_append, if_neg (by simp)]
theorem linesC_as (xs : List (List UInt8 × List Tok)) : (∀ q ∈ xs, lexC q.1 = .ok q.2 ∧ ∀ t ∈ q.2, notLine t = true) →
    linesC (xs.flatMap (fun q => lineA q.1) ++ outA) = .ok (xs.map (fun q => aT :: colT :: q.2) ++ [[outT, aT]]) := by
  induction xs with
  | nil => intro _; rfl
  | cons q xs ih =>
    intro h
    obtain ⟨h1, h2⟩ := h q (by simp)
    rw [List.flatMap_cons, List.append_assoc, linesC_a h1 h2, ih (fun z hz => h z (by simp [hz]))]
    rfl
def linesT (es : List (List UInt8)) : List UInt8 := es.flatMap lineA
theorem linesT_len (es : List (List UInt8)) (h : ∀ e ∈ es, e.length ≤ 1000) : (linesT es).length ≤ 1005 * es.length := by
  induction es with
  | nil => simp [linesT]
  | cons e es ih =>
    have h1 := h e (by simp)
    have h2 := ih (fun z hz => h z (by simp [hz]))
    have h3 : (linesT (e :: es)).length = (lineA e).length + (linesT es).length := by simp [linesT]
    have h4 : (lineA e).length = e.length + 5 := by unfold lineA; simp only [List.length_append, List.length_cons, List.length_nil]; omega
    rw [h3, h4, List.length_cons]
    omega
theorem linesT_snoc (es : List (List UInt8)) (e : List UInt8) : linesT (es ++ [e]) = linesT es ++ ([97, 32, 58, 32] ++ e ++ [10]) := by simp [linesT, lineA]
theorem choose_toks (es : List (List UInt8 × List Itm)) (h : ∀ q ∈ es, plainB q.1 1000 = true ∧ outP q.1 = some q.2) :
    ∃ xs : List (List Tok), xs.length = es.length ∧ ∀ (i : Nat) (q : List UInt8 × List Itm) (x : List Tok), es[i]? = some q → xs[i]? = some x → lexC q.1 = .ok x ∧ x.map Tok.bare = x ∧ exprP 0 x = .ok (q.2.map Itm.bare) ∧ ∀ t ∈ x, notLine t = true := by
  induction es with
  | nil => exact ⟨[], rfl, fun i q x h => by simp at h⟩
  | cons q es ih =>
    obtain ⟨xs, h1, h2⟩ := ih (fun z hz => h z (by simp [hz]))
    obtain ⟨hp, ho⟩ := h q (by simp)
    obtain ⟨p1, p2, p3⟩ := plainB_iff.1 hp
    obtain ⟨x, hx, _, hE, hnl, hb⟩ := outP_some (by omega) p2 ho
    refine ⟨x :: xs, by simp [h1], fun i q' x' hq hx' => ?_⟩
    cases i with
    | zero =>
      simp at hq hx'
      subst hq hx'
      exact ⟨hx, hb, hE, hnl⟩
    | succ i => exact h2 i q' x' (by simpa using hq) (by simpa using hx')
theorem lines_law (es : List (List UInt8 × List Itm)) (hes : es.length ≤ 60) (h : ∀ q ∈ es, plainB q.1 1000 = true ∧ outP q.1 = some q.2) :
    (∃ x, parseL (linesT (es.map Prod.fst) ++ outA) = .error (x, 45)) ∨ ∃ p, parseL (linesT (es.map Prod.fst) ++ outA) = .ok p ∧ p.lines.length = es.length + 1 ∧
      ∀ (i : Nat) (q : List UInt8 × List Itm), es[i]? = some q → ∃ (a : Int) (l : List Itm), p.lines[i]? = some ⟨[97], a, l⟩ ∧ l.map Itm.bare = q.2.map Itm.bare := by
  obtain ⟨xs, hl, hx⟩ := choose_toks es h
  have hlen := linesT_len (es.map Prod.fst) (by
    intro e he
    obtain ⟨q, hq, rfl⟩ := List.mem_map.1 he
    exact (plainB_iff.1 (h q hq).1).1)
  rw [List.length_map] at hlen
  have hC := parse_lines (l := linesT (es.map Prod.fst) ++ outA) (by rw [List.length_append]; show _ + 5 ≤ 65536; omega)
  have mem : ∀ (α β : Type) (a : List α) (b : List β) (z : α × β), z ∈ a.zip b → ∃ i : Nat, a[i]? = some z.1 ∧ b[i]? = some z.2 := by
    intro α β a b z hz
    obtain ⟨i, hi, he⟩ := List.getElem_of_mem hz
    rw [List.getElem_zip] at he
    rw [List.length_zip] at hi
    exact ⟨i, by rw [List.getElem?_eq_getElem (by omega), ← he], by rw [List.getElem?_eq_getElem (by omega), ← he]⟩
  have e1 : linesT (es.map Prod.fst) ++ outA = ((es.map Prod.fst).zip xs).flatMap (fun q => lineA q.1) ++ outA := by
    have h0 : (((es.map Prod.fst).zip xs).map Prod.fst).flatMap lineA = ((es.map Prod.fst).zip xs).flatMap (fun q => lineA q.1) := by rw [List.flatMap_map]
    rw [← h0, List.map_fst_zip (by rw [List.length_map]; omega)]
    rfl
  have e2 : ((es.map Prod.fst).zip xs).map (fun q => aT :: colT :: q.2) = (xs.zip (es.map fun q => q.2.map Itm.bare)).map (fun q => aT :: colT :: q.1) := by
    have : ((es.map Prod.fst).zip xs).map Prod.snd = (xs.zip (es.map fun q => q.2.map Itm.bare)).map Prod.fst := by
      rw [List.map_snd_zip (by rw [List.length_map]; omega), List.map_fst_zip (by rw [List.length_map]; omega)]
    have := congrArg (List.map fun x => aT :: colT :: x) this
    rw [List.map_map, List.map_map] at this
    exact this
  have h1 := linesC_as ((es.map Prod.fst).zip xs) (by
    intro z hz
    obtain ⟨i, hi1, hi2⟩ := mem _ _ _ _ z hz
    rw [List.getElem?_map] at hi1
    cases hq : es[i]? with
    | none => rw [hq] at hi1; cases hi1
    | some q =>
      rw [hq] at hi1
      injection hi1 with hi1
      have := hx i q z.2 hq hi2
      rw [← hi1]
      exact ⟨this.1, this.2.2.2⟩)
  rw [← e1, e2] at h1
  rw [h1] at hC
  dsimp only at hC
  have h2 := lines_run (xs.zip (es.map fun q => q.2.map Itm.bare)) Prg.none 0 (by rw [List.length_zip, List.length_map]; omega) (by
    intro z hz
    obtain ⟨i, hi1, hi2⟩ := mem _ _ _ _ z hz
    rw [List.getElem?_map] at hi2
    cases hq : es[i]? with
    | none => rw [hq] at hi2; cases hi2
    | some q =>
      rw [hq] at hi2
      injection hi2 with hi2
      have := hx i q z.1 hq hi1
      rw [← hi2]
      exact ⟨this.2.1, this.2.2.1⟩)
  rcases h2 with h2 | h2
  · rw [h2] at hC
    exact .inl (bareE_eq_error hC)
  · rw [h2] at hC
    obtain ⟨p, hp, hpb⟩ := bareE_eq_ok hC
    refine .inr ⟨p, hp, ?_, fun i q hq => ?_⟩
    · have := congrArg (fun p => p.lines.length) hpb
      simp only [Prg.bare, Prg.none, List.length_map, List.nil_append, List.length_append, List.length_zip, List.length_cons, List.length_nil] at this
      omega
    · have hi : i < es.length := (List.getElem?_eq_some_iff.1 hq).1
      have h3 := congrArg (fun p => p.lines[i]?) hpb
      have h4 : ((xs.zip (es.map fun q => q.2.map Itm.bare)).map (fun q => (⟨[97], 0, q.2⟩ : Lin)) ++ [⟨[], 0, [⟨2, 0, 0, [97], []⟩]⟩])[i]? = some ⟨[97], 0, q.2.map Itm.bare⟩ := by
        rw [List.getElem?_append_left (by rw [List.length_map, List.length_zip, List.length_map]; omega), List.getElem?_map]
        have : (xs.zip (es.map fun q => q.2.map Itm.bare))[i]? = some (xs[i]'(by omega), q.2.map Itm.bare) := by
          rw [List.getElem?_eq_getElem (by rw [List.length_zip, List.length_map]; omega), List.getElem_zip]
          rw [List.getElem_map]
          have : es[i] = q := by
            rw [List.getElem?_eq_getElem hi] at hq
            injection hq
          rw [this]
        rw [this]
        rfl
      simp only [Prg.none, List.nil_append] at h3
      rw [h4] at h3
      simp only [Prg.bare, List.getElem?_map] at h3
      cases hl' : p.lines[i]? with
      | none => rw [hl'] at h3; cases h3
      | some ln =>
        rw [hl'] at h3
        injection h3 with h3
        obtain ⟨nm, a, its⟩ := ln
        injection h3 with e1 _ e3
        subst e1
        exact ⟨a, its, rfl, e3⟩
end Go.Proofs.YtfpneopobbfabaaDoor
