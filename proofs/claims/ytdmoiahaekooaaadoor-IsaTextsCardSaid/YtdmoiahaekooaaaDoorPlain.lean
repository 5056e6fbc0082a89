/-
  Plain Lean, no program: what the lexer's functions compute, on lists of bytes. No condition.
-/
import Derived.Lib.ParseIntB
import Derived.Lib.Strings
namespace Go.Proofs.YtdmoiahaekooaaaDoor
open Go

/-! ### strings as lists of bytes -/
def mkS (l : List UInt8) : ByteArray := ⟨l.toArray⟩
@[simp] theorem mkS_toList (l : List UInt8) : (mkS l).data.toList = l := by simp [mkS]
@[simp] theorem mkS_of (s : ByteArray) : mkS s.data.toList = s := by cases s; simp [mkS]
@[simp] theorem mkS_size (l : List UInt8) : (mkS l).size = l.length := by simp [mkS, ByteArray.size]
theorem mkS_inj {a b : List UInt8} (h : mkS a = mkS b) : a = b := by simpa using congrArg (fun s : ByteArray => s.data.toList) h
theorem size_list (s : ByteArray) : s.size = s.data.toList.length := rfl
theorem eq_mkS {s : ByteArray} {l : List UInt8} (h : s.data.toList = l) : s = mkS l := by rw [← h, mkS_of]
theorem extract_mkS (s : ByteArray) (a b : Nat) : s.extract a b = mkS ((s.data.toList.take b).drop a) := by
  apply eq_mkS
  simp [ByteArray.data_extract, Array.toList_extract, List.extract_eq_take_drop, List.drop_take]
theorem get_list (s : ByteArray) (k : Nat) (h : k < s.size) : s[k] = s.data.toList[k]'(show k < s.data.toList.length from h) := rfl

/-! ### bytes -/
def letterB (b : UInt8) : Bool := (97 ≤ b && b ≤ 122) || (65 ≤ b && b ≤ 90)
def digitB (b : UInt8) : Bool := 48 ≤ b && b ≤ 57
def alnumB (b : UInt8) : Bool := letterB b || digitB b
def noteB (b : UInt8) : Bool := !(b == 10)
def signB (b : UInt8) : Bool := [43, 45, 42, 37, 124, 61, 126, 60, 62, 47, 92, 46, 58, 40, 41].contains b

/-! ### runs -/
def runL (p : UInt8 → Bool) (l : List UInt8) : Nat := (l.takeWhile p).length
@[simp] theorem runL_nil (p : UInt8 → Bool) : runL p [] = 0 := rfl
theorem runL_cons (p : UInt8 → Bool) (a : UInt8) (l : List UInt8) : runL p (a :: l) = if p a then runL p l + 1 else 0 := by
  unfold runL; rw [List.takeWhile_cons]; split <;> simp
theorem runL_drop (p : UInt8 → Bool) (s : ByteArray) (k : Nat) (h : k < s.size) : runL p (s.data.toList.drop k) = if p s[k] then runL p (s.data.toList.drop (k+1)) + 1 else 0 := by
  rw [List.drop_eq_getElem_cons (show k < s.data.toList.length from h), runL_cons]; rfl
theorem runL_le (p : UInt8 → Bool) (l : List UInt8) : runL p l ≤ l.length := by
  induction l with
  | nil => simp
  | cons a l ih => rw [runL_cons]; split <;> simp <;> omega
theorem take_runL (p : UInt8 → Bool) (l : List UInt8) : l.take (runL p l) = l.takeWhile p := by
  induction l with
  | nil => simp
  | cons a l ih => rw [runL_cons, List.takeWhile_cons]; split <;> simp [*]
theorem drop_runL (p : UInt8 → Bool) (l : List UInt8) : l.drop (runL p l) = l.dropWhile p := by
  induction l with
  | nil => simp
  | cons a l ih => rw [runL_cons, List.dropWhile_cons]; split <;> simp [*]

/-! ### numbers -/
def dv (c : UInt8) : Nat := c.toNat - 48
/-- The decimal number that digits spell, behind 'acc'. -/
def decN : List UInt8 → Nat → Nat
  | [], acc => acc
  | c :: l, acc => decN l (acc * 10 + dv c)
theorem decN_nil (acc : Nat) : decN [] acc = acc := rfl
theorem decN_cons (acc : Nat) (c : UInt8) (l : List UInt8) : decN (c :: l) acc = decN l (acc * 10 + dv c) := rfl
theorem decN_ge (l : List UInt8) : ∀ acc, acc ≤ decN l acc := by
  induction l with
  | nil => intro acc; rw [decN_nil]; exact Nat.le_refl _
  | cons c l ih => intro acc; rw [decN_cons]; have := ih (acc * 10 + dv c); omega
/-- What a number at the head of a text is: its value, its length, what is wrong (32: too great). Length 0 and nothing wrong: none. -/
def numL (l : List UInt8) : Int × Nat × Nat :=
  if l.head? = some 95 then
    if runL digitB l.tail = 0 then (0, 0, 0)
    else if decN (l.tail.take (runL digitB l.tail)) 0 ≤ 9223372036854775808 then (-(decN (l.tail.take (runL digitB l.tail)) 0 : Int), runL digitB l.tail + 1, 0)
    else (0, 0, 32)
  else
    if runL digitB l = 0 then (0, 0, 0)
    else if decN (l.take (runL digitB l)) 0 < 9223372036854775808 then ((decN (l.take (runL digitB l)) 0 : Int), runL digitB l, 0)
    else (0, 0, 32)
def signL (l : List UInt8) : Nat :=
  if Lib.hasPrefix l [60, 61] || Lib.hasPrefix l [62, 61] then 2 else if signB (l.headD 0) then 1 else 0

/-! ### tokens -/
structure Tok where
  kind : Int
  at_ : Int
  word : List UInt8
  n : Int
  deriving DecidableEq
def Tok.none : Tok := ⟨0, 0, [], 0⟩
/-- The token at a text's head (its place is 0), its length, what is wrong. -/
def tokL (l : List UInt8) : Tok × Nat × Nat :=
  if l.headD 0 = 10 then (⟨4, 0, [], 0⟩, 1, 0)
  else if letterB (l.headD 0) then
    if 16 < runL alnumB l then (Tok.none, 0, 33) else (⟨1, 0, l.take (runL alnumB l), 0⟩, runL alnumB l, 0)
  else if 0 < (numL l).2.1 ∨ (numL l).2.2 ≠ 0 then (⟨2, 0, [], (numL l).1⟩, (numL l).2.1, (numL l).2.2)
  else if signL l = 0 then (Tok.none, 0, 31)
  else (⟨3, 0, l.take (signL l), 0⟩, signL l, 0)

/-! ### texts -/
/-- The tokens of what is left of a text, whose place is given; or the fault's place and code. -/
def lexF : Nat → Nat → List UInt8 → Except (Nat × Nat) (List Tok)
  | _, _, [] => .ok []
  | 0, _, _ :: _ => .ok []
  | f + 1, k, b :: r =>
    if b = 32 ∨ b = 9 then lexF f (k + 1) r
    else if b = 35 then lexF f (k + runL noteB (b :: r)) ((b :: r).drop (runL noteB (b :: r)))
    else if (tokL (b :: r)).2.2 ≠ 0 then .error (k, (tokL (b :: r)).2.2)
    else (lexF f (k + (tokL (b :: r)).2.1) ((b :: r).drop (tokL (b :: r)).2.1)).map (fun l => { (tokL (b :: r)).1 with at_ := k } :: l)
def lexAt (k : Nat) (l : List UInt8) : Except (Nat × Nat) (List Tok) := lexF l.length k l
/-- A text's tokens, or its fault. -/
def lexL (l : List UInt8) : Except (Nat × Nat) (List Tok) := if 65536 < l.length then .error (0, 30) else lexAt 0 l

theorem numL_len (l : List UInt8) (h : 0 < (numL l).2.1) : (numL l).2.1 ≤ l.length ∧ (numL l).2.2 = 0 := by
  unfold numL at h ⊢
  split at h
  · rename_i hh
    rw [if_pos hh]
    have := runL_le digitB l.tail
    have hl : 1 ≤ l.length := by cases l <;> simp_all
    simp only [List.length_tail] at this
    split at h
    · simp at h
    · rename_i h1
      rw [if_neg h1]
      split at h
      · rename_i h2
        rw [if_pos h2]
        exact ⟨by show runL digitB l.tail + 1 ≤ l.length; omega, rfl⟩
      · simp at h
  · rename_i hh
    rw [if_neg hh]
    have := runL_le digitB l
    split at h
    · simp at h
    · rename_i h1
      rw [if_neg h1]
      split at h
      · rename_i h2
        rw [if_pos h2]
        exact ⟨this, rfl⟩
      · simp at h
theorem signL_le (l : List UInt8) (h : l ≠ []) : signL l ≤ l.length := by
  unfold signL
  cases l with
  | nil => exact absurd rfl h
  | cons a r =>
    split
    · rename_i hp
      cases r with
      | nil => simp [Lib.hasPrefix] at hp
      | cons b r => simp
    · split <;> simp

theorem tokL_len (l : List UInt8) (hl : l ≠ []) (h : (tokL l).2.2 = 0) : 0 < (tokL l).2.1 ∧ (tokL l).2.1 ≤ l.length := by
  have h1 : 1 ≤ l.length := by cases l <;> simp_all
  unfold tokL at h ⊢
  split
  · exact ⟨by simp, h1⟩
  · rename_i c1
    rw [if_neg c1] at h
    split
    · rename_i c2
      rw [if_pos c2] at h
      split
      · rename_i c3; rw [if_pos c3] at h; simp at h
      · refine ⟨?_, runL_le _ _⟩
        cases l with
        | nil => exact absurd rfl hl
        | cons a r => simp only [List.headD_cons] at c2; simp [runL_cons, alnumB, c2]
    · rename_i c2
      rw [if_neg c2] at h
      split
      · rename_i c3
        rw [if_pos c3] at h
        rcases c3 with c3 | c3
        · exact ⟨c3, (numL_len l c3).1⟩
        · exact absurd h c3
      · rename_i c3
        rw [if_neg c3] at h
        split
        · rename_i c4; rw [if_pos c4] at h; simp at h
        · rename_i c4
          exact ⟨by show 0 < signL l; omega, signL_le l hl⟩

theorem lexF_two : ∀ (f g k : Nat) (l : List UInt8), l.length ≤ f → l.length ≤ g → lexF f k l = lexF g k l := by
  intro f
  induction f with
  | zero =>
    intro g k l h _
    have : l = [] := by cases l <;> simp_all
    subst this
    cases g <;> rfl
  | succ f ih =>
    intro g k l h hg
    cases l with
    | nil => cases g <;> rfl
    | cons b r =>
      have hr : r.length ≤ f := by simpa using h
      cases g with
      | zero => simp at hg
      | succ g =>
        have hr' : r.length ≤ g := by simpa using hg
        simp only [lexF]
        by_cases c1 : b = 32 ∨ b = 9
        · rw [if_pos c1, if_pos c1, ih g _ _ hr hr']
        · rw [if_neg c1, if_neg c1]
          by_cases c2 : b = 35
          · have hn : 1 ≤ runL noteB (b :: r) := by subst c2; rw [runL_cons]; simp [noteB]
            rw [if_pos c2, if_pos c2]
            exact ih g _ _ (by simp only [List.length_drop, List.length_cons]; omega) (by simp only [List.length_drop, List.length_cons]; omega)
          · rw [if_neg c2, if_neg c2]
            by_cases c3 : (tokL (b :: r)).2.2 ≠ 0
            · rw [if_pos c3, if_pos c3]
            · rw [if_neg c3, if_neg c3]
              have := (tokL_len (b :: r) (by simp) (by simpa using c3)).1
              rw [ih g _ _ (by simp only [List.length_drop, List.length_cons]; omega) (by simp only [List.length_drop, List.length_cons]; omega)]
theorem lexF_at (f k : Nat) (l : List UInt8) (h : l.length ≤ f) : lexF f k l = lexAt k l := lexF_two f l.length k l h (Nat.le_refl _)

/-! ### one step of a text -/
@[simp] theorem lexAt_nil (k : Nat) : lexAt k [] = .ok [] := rfl
theorem lexAt_cons (k : Nat) (b : UInt8) (r : List UInt8) : lexAt k (b :: r) =
    if b = 32 ∨ b = 9 then lexAt (k + 1) r
    else if b = 35 then lexAt (k + runL noteB (b :: r)) ((b :: r).drop (runL noteB (b :: r)))
    else if (tokL (b :: r)).2.2 ≠ 0 then .error (k, (tokL (b :: r)).2.2)
    else (lexAt (k + (tokL (b :: r)).2.1) ((b :: r).drop (tokL (b :: r)).2.1)).map (fun l => { (tokL (b :: r)).1 with at_ := k } :: l) := by
  show lexF (r.length + 1) k (b :: r) = _
  simp only [lexF]
  by_cases c1 : b = 32 ∨ b = 9
  · rw [if_pos c1, if_pos c1]; rfl
  · rw [if_neg c1, if_neg c1]
    by_cases c2 : b = 35
    · have hn : 1 ≤ runL noteB (b :: r) := by subst c2; rw [runL_cons]; simp [noteB]
      rw [if_pos c2, if_pos c2]
      exact lexF_at _ _ _ (by simp only [List.length_drop, List.length_cons]; omega)
    · rw [if_neg c2, if_neg c2]
      by_cases c3 : (tokL (b :: r)).2.2 ≠ 0
      · rw [if_pos c3, if_pos c3]
      · rw [if_neg c3, if_neg c3]
        have := (tokL_len (b :: r) (by simp) (by simpa using c3)).1
        rw [lexF_at _ _ _ (by simp only [List.length_drop, List.length_cons]; omega)]

/-! ### digits as strconv.ParseInt reads them -/
theorem digitB_iff (c : UInt8) : digitB c = true ↔ 48 ≤ c.toNat ∧ c.toNat ≤ 57 := by
  unfold digitB; simp [UInt8.le_iff_toNat_le]
theorem decN_mono (l : List UInt8) : ∀ a b, a ≤ b → decN l a ≤ decN l b := by
  induction l with
  | nil => intro a b h; simpa [decN_nil] using h
  | cons c l ih => intro a b h; rw [decN_cons, decN_cons]; exact ih _ _ (by omega)
theorem parseUintM_digits (M : Nat) (hM : M ≤ 18446744073709551615) : ∀ (l : List UInt8) (acc : Nat), (∀ c ∈ l, digitB c = true) → acc ≤ M →
    Lib.parseUintM M acc l = if decN l acc ≤ M then .ok (decN l acc) else .range := by
  intro l
  induction l with
  | nil => intro acc _ h; rw [Lib.parseUintM, decN_nil, if_pos h]
  | cons c l ih =>
    intro acc hd hacc
    have hc := (digitB_iff c).1 (hd c (by simp))
    have hr : ∀ x ∈ l, digitB x = true := fun x hx => hd x (by simp [hx])
    rw [Lib.parseUintM, if_pos hc, decN_cons]
    have hdv : c.toNat - 48 = dv c := rfl
    rw [hdv]
    have hge := decN_ge l (acc * 10 + dv c)
    by_cases h1 : 1844674407370955162 ≤ acc
    · rw [if_pos h1, if_neg (by omega)]
    · rw [if_neg h1]
      by_cases h2 : M < acc * 10 + dv c
      · rw [if_pos h2, if_neg (by omega)]
      · rw [if_neg h2]
        exact ih _ hr (by omega)
theorem parseUintB64_digits (l : List UInt8) (hl : l ≠ []) (hd : ∀ c ∈ l, digitB c = true) :
    Lib.parseUintB 64 l = if decN l 0 ≤ 18446744073709551615 then .ok (decN l 0) else .range := by
  rw [Lib.parseUintB, if_neg hl]
  exact parseUintM_digits (2 ^ 64 - 1) (by decide) l 0 hd (by decide)
theorem parseIntB64_minus (l : List UInt8) (hl : l ≠ []) (hd : ∀ c ∈ l, digitB c = true) :
    Lib.parseIntB 64 (45 :: l) = if decN l 0 ≤ 9223372036854775808 then .ok (-(decN l 0 : Int)) else .range := by
  have e : (45 : UInt8).toNat = 45 := rfl
  simp only [Lib.parseIntB, e, or_true, if_true]
  rw [parseUintB64_digits l hl hd]
  by_cases h : decN l 0 ≤ 18446744073709551615
  · rw [if_pos h]
    by_cases h2 : decN l 0 ≤ 9223372036854775808
    · rw [if_pos h2]; simp; omega
    · rw [if_neg h2]; simp; omega
  · rw [if_neg h, if_neg (by omega)]
theorem parseIntB64_plain (l : List UInt8) (hl : l ≠ []) (hd : ∀ c ∈ l, digitB c = true) :
    Lib.parseIntB 64 l = if decN l 0 < 9223372036854775808 then .ok (decN l 0 : Int) else .range := by
  cases l with
  | nil => exact absurd rfl hl
  | cons c r =>
    have hc := (digitB_iff c).1 (hd c (by simp))
    have e1 : ¬ c.toNat = 43 := by omega
    have e2 : ¬ c.toNat = 45 := by omega
    simp only [Lib.parseIntB, e1, e2, or_false, if_false]
    rw [parseUintB64_digits (c :: r) hl hd]
    by_cases h : decN (c :: r) 0 ≤ 18446744073709551615
    · rw [if_pos h]
      by_cases h2 : decN (c :: r) 0 < 9223372036854775808
      · rw [if_pos h2]; simp; omega
      · rw [if_neg h2]; simp; omega
    · rw [if_neg h, if_neg (by omega)]
/-! ### rounds: the tokens so far, what is left -/
/-- What holds at the head of a round: the tokens so far, what is left. -/
def Rest (l : List UInt8) (k : Nat) (acc : List Tok) : Prop := lexAt 0 l = (lexAt k (l.drop k)).map (acc ++ ·)
theorem Rest.start (l : List UInt8) : Rest l 0 [] := by
  unfold Rest; rw [List.drop_zero]; cases lexAt 0 l <;> rfl
theorem Rest.end_ {l : List UInt8} {acc : List Tok} (h : Rest l l.length acc) : lexAt 0 l = .ok acc := by
  unfold Rest at h; rw [h, List.drop_length, lexAt_nil]; simp [Except.map]
theorem drop_at (l : List UInt8) (k : Nat) (h : k < l.length) : l.drop k = l[k] :: l.drop (k + 1) := List.drop_eq_getElem_cons h
theorem Rest.blank {l : List UInt8} {k : Nat} {acc : List Tok} (h : Rest l k acc) (hk : k < l.length) (hb : l[k] = 32 ∨ l[k] = 9) : Rest l (k + 1) acc := by
  unfold Rest at h ⊢; rw [h, drop_at l k hk, lexAt_cons, if_pos hb]
theorem Rest.note {l : List UInt8} {k : Nat} {acc : List Tok} (h : Rest l k acc) (hk : k < l.length) (hb : l[k] = 35) : Rest l (k + runL noteB (l.drop k)) acc := by
  unfold Rest at h ⊢; rw [h, drop_at l k hk, lexAt_cons, if_neg (by rw [hb]; decide), if_pos hb, ← drop_at l k hk, List.drop_drop]
theorem Rest.bad {l : List UInt8} {k : Nat} {acc : List Tok} (h : Rest l k acc) (hk : k < l.length) (h1 : ¬ (l[k] = 32 ∨ l[k] = 9)) (h2 : l[k] ≠ 35) (he : (tokL (l.drop k)).2.2 ≠ 0) : lexAt 0 l = .error (k, (tokL (l.drop k)).2.2) := by
  unfold Rest at h; rw [h]
  have e := drop_at l k hk
  rw [e] at he ⊢
  rw [lexAt_cons, if_neg h1, if_neg h2, if_pos he]; rfl
theorem Rest.tok {l : List UInt8} {k : Nat} {acc : List Tok} (h : Rest l k acc) (hk : k < l.length) (h1 : ¬ (l[k] = 32 ∨ l[k] = 9)) (h2 : l[k] ≠ 35) (he : (tokL (l.drop k)).2.2 = 0) :
    Rest l (k + (tokL (l.drop k)).2.1) (acc ++ [{ (tokL (l.drop k)).1 with at_ := k }]) := by
  unfold Rest at h ⊢; rw [h]
  have e := drop_at l k hk
  rw [← List.drop_drop]
  rw [e] at he ⊢
  rw [lexAt_cons, if_neg h1, if_neg h2, if_neg (by simpa using he)]
  generalize lexAt (k + (tokL (l[k] :: l.drop (k + 1))).2.1) (List.drop (tokL (l[k] :: l.drop (k + 1))).2.1 (l[k] :: l.drop (k + 1))) = x
  cases x <;> simp [Except.map]
theorem takeWhile_all (p : UInt8 → Bool) (l : List UInt8) : ∀ c ∈ l.takeWhile p, p c = true := by
  induction l with
  | nil => simp
  | cons a l ih =>
    rw [List.takeWhile_cons]
    split
    · intro c hc
      rcases List.mem_cons.1 hc with rfl | h
      · assumption
      · exact ih c h
    · simp
theorem take_run_all (p : UInt8 → Bool) (l : List UInt8) : ∀ c ∈ l.take (runL p l), p c = true := by rw [take_runL]; exact takeWhile_all p l
theorem take_run_ne (p : UInt8 → Bool) (l : List UInt8) (h : runL p l ≠ 0) : l.take (runL p l) ≠ [] := by
  intro h0
  have := congrArg List.length h0
  rw [List.length_take, Nat.min_eq_left (runL_le p l)] at this
  exact h (by simpa using this)
end Go.Proofs.YtdmoiahaekooaaaDoor
