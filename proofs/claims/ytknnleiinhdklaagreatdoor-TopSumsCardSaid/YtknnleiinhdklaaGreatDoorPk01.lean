/-
  Of no program: a map that the call makes, whatever its elements: what stands at each key is held as it is; the laws at the operations. No condition.   Plain Lean, no program: what the lexer's functions compute, on lists of bytes. No condition.   Plain Lean, no program: what the parser's functions compute, on lists of tokens. No condition.
-/
import Derived.Maps.OwnSet
import Derived.Lib.ParseIntB
import Derived.Lib.Strings
namespace Go.Proofs.YtknnleiinhdklaaGreatDoor
section
open Go Go.RowKit Go.Maps
def RV (v : Value) : Option (DataW Value × List MemPlace) := some (.held v, [])
/-- Block b is a map of at most n entries that holds at each key what f says. -/
def MapV (P : Program) (k : TypeId) (w : World) (b n : Nat) (f : Lit → Option Value) : Prop :=
 ∃ D, w.ownsMap P k RV b n D ∧ (∀ kl z, D.atKey kl (.held z) = .held ((f kl).getD z)) ∧ ∀ kl, Maps.has D kl = (f kl).isSome
def putF (f : Lit → Option Value) (kl : Lit) (v : Value) : Lit → Option Value := fun k' => if k'.sameKey kl = true then some v else f k'
theorem putF_same (f : Lit → Option Value) {kl : Lit} (hk : WideAt.IsKeyLit kl) (v : Value) : putF f kl v kl = some v := if_pos (WideAt.sameKey_self hk)
theorem putF_other (f : Lit → Option Value) {kl kl' : Lit} (h : kl' ≠ kl) (v : Value) : putF f kl v kl' = f kl' := if_neg (by rw [sameKey_ne h]; decide)
section
variable {P : Program} {k : TypeId} {w : World} {b n : Nat} {f : Lit → Option Value}
theorem MapV.made (w : World) (P : Program) (k : TypeId) : MapV P k (w.alloc (.map #[] 0)) w.heap.size 0 fun _ => none :=
 ⟨_, World.ownsMap_made w P k RV, fun _ _ => rfl, fun _ => rfl⟩
theorem MapV.lt (h : MapV P k w b n f) : b < w.heap.size := let ⟨_, h1, _⟩ := h; h1.lt
theorem MapV.kept {w' : World} {row : Option Nat} (h : MapV P k w b n f) (hg : w.grownBy w' row) (hne : some b ≠ row) : MapV P k w' b n f := let ⟨D, h1, h2⟩ := h; ⟨D, h1.kept hg hne, h2⟩
theorem MapV.block {w' : World} (h : MapV P k w b n f) (hb : w'.heap[b]? = w.heap[b]?) : MapV P k w' b n f := let ⟨D, ⟨es, clock, h1, h1'⟩, h2⟩ := h; ⟨D, ⟨es, clock, hb.trans h1, h1'⟩, h2⟩
theorem MapV.below {w' : World} (h : MapV P k w b n f) (hb : Below w.heap.size w w') : MapV P k w' b n f := h.block (hb.block b h.lt)
theorem MapV.is_map (h : MapV P k w b n f) : ∃ es clock, w.heap[b]? = some (.map es clock) := let ⟨_, ⟨es, clock, hb, _⟩, _⟩ := h; ⟨es, clock, hb⟩
theorem MapV.imp {f' : Lit → Option Value} (h : MapV P k w b n f) (he : ∀ kl, f kl = f' kl) : MapV P k w b n f' := by
 have : f = f' := funext he
 rwa [← this]
theorem MapV.up {n' : Nat} (h : MapV P k w b n f) (hn : n ≤ n') : MapV P k w b n' f := let ⟨D, h1, h2⟩ := h; ⟨D, h1.mono hn, h2⟩
end
/-- A store of whatever value at whatever key. -/
theorem MapV.update {P : Program} {k t e : TypeId} {w : World} {b n : Nat} {f : Lit → Option Value} (hown : MapV P k w b n f) (K : Keyed P k) (ht : P.underlying t = some (.map k e)) (hn : n < maxLen) {key : Value} {kl : Lit} (hkey : keyOf P k key = some kl) (val : Value) :
  ∃ w', (Instr.mapUpdate t (.map (some b)) key val).run P w = .ok () w' ∧ MapV P k w' b (n + 1) (putF f kl val) ∧ w.grownBy w' (some b) := by
 obtain ⟨D, h1, h2, h3⟩ := hown
 have hkl := K.key hkey
 obtain ⟨w', hrun, ho, hgr⟩ := h1.update K ht hn hkey (d := .held val) (ps := []) rfl
 refine ⟨w', hrun, ⟨_, ho, ?_, ?_⟩, hgr⟩
 ·intro k' z
  by_cases hk : k' = kl
  ·subst hk
   rw [putF_same f hkl, atKey_put_same h1.isMap hkl]
   rfl
  ·rw [putF_other f hk, atKey_put_other hk, h2]
 ·intro k'
  by_cases hk : k' = kl
  ·subst hk
   rw [putF_same f hkl, has_put_same h1.isMap hkl]
   rfl
  ·rw [putF_other f hk, has_put_other hk, h3]
section
variable {P : Program} {w : World} {ops : Array Oper} {rest : List Oper} {o : Oper} {a : Act} {Q : Exit → Act → World → Prop}
/-- 'm[k] = v'. -/
theorem wpList_put_V (hg : o.guard = none) (m x v : Operand) (t : TypeId) (hop : o.op = Op.mapUpdate t m x v) (k e : TypeId) (K : Keyed P k) (ht : P.underlying t = some (.map k e)) (b n : Nat) (f : Lit → Option Value)
  (hm : a.eval m = .map (some b)) (hown : MapV P k w b n f) (hn : n < maxLen) (key val : Value) (kl : Lit) (hx : a.eval x = key) (hv : a.eval v = val) (hkey : keyOf P k key = some kl)
  (hK : ∀ w', MapV P k w' b (n + 1) (putF f kl val) → w.grownBy w' (some b) → wpList P ops Q rest (a.put o.dst undef) w') :
  wpList P ops Q (o :: rest) a w := by
 refine wpList_plain hg fun K' hK' => ?_
 obtain ⟨w', hrun, r1, r2⟩ := hown.update K ht hn hkey val
 unfold Oper.wp
 simp [execOp, hop, hm, hx, hv, hrun, Result.andThen]
 exact hK' _ _ (hK w' r1 r2)
/-- an entry of a map that is written out. -/
theorem wpList_ins_V (hg : o.guard = none) (m x v : Operand) (t : TypeId) (hop : o.op = Op.insert t m x v) (k e : TypeId) (K : Keyed P k) (ht : P.underlying t = some (.map k e)) (b n : Nat) (f : Lit → Option Value)
  (hm : a.eval m = .map (some b)) (hown : MapV P k w b n f) (hn : n < maxLen) (key val : Value) (kl : Lit) (hx : a.eval x = key) (hv : a.eval v = val) (hkey : keyOf P k key = some kl)
  (hK : ∀ w', MapV P k w' b (n + 1) (putF f kl val) → w.grownBy w' (some b) → wpList P ops Q rest (a.put o.dst undef) w') :
  wpList P ops Q (o :: rest) a w := by
 refine wpList_plain hg fun K' hK' => ?_
 obtain ⟨w', hrun, r1, r2⟩ := hown.update K ht hn hkey val
 unfold Oper.wp
 simp [execOp, hop, hm, hx, hv, hrun, Result.andThen]
 exact hK' _ _ (hK w' r1 r2)
theorem RV_inv {v z : Value} {ps : List MemPlace} (h : RV v = some (.held z, ps)) : v = z := by
 unfold RV at h
 simp only [Option.some.injEq, Prod.mk.injEq, DataW.held.injEq] at h
 exact h.1
/-- 'm[k]', 'v, ok := m[k]' as equations. -/
theorem MapV.look_run {k t e : TypeId} {b n : Nat} {f : Lit → Option Value} (hown : MapV P k w b n f) (K : Keyed P k) (ht : P.underlying t = some (.map k e)) {z : Value} (hz : (zeroValue e).run P w = .ok z w) {key : Value} {kl : Lit} (hkey : keyOf P k key = some kl) {v : Value} (hf : (f kl).getD z = v) :
  (Instr.lookup t (.map (some b)) key false).run P w = .ok v w := by
 obtain ⟨D, h1, h2, h3⟩ := hown
 obtain ⟨u, ps, hrun, hu⟩ := h1.lookup K ht hz (zd := .held z) (zp := []) rfl hkey
 rw [h2, hf] at hu
 obtain rfl := RV_inv hu
 exact hrun
theorem MapV.lookok_run {k t e : TypeId} {b n : Nat} {f : Lit → Option Value} (hown : MapV P k w b n f) (K : Keyed P k) (ht : P.underlying t = some (.map k e)) {z : Value} (hz : (zeroValue e).run P w = .ok z w) {key : Value} {kl : Lit} (hkey : keyOf P k key = some kl) {v : Value} (hf : f kl = some v) :
  (Instr.lookup t (.map (some b)) key true).run P w = .ok (.tuple #[v, .bool true]) w := by
 obtain ⟨D, h1, h2, h3⟩ := hown
 obtain ⟨u, ps, hrun, hu⟩ := h1.look_ok K ht hz (zd := .held z) (zp := []) rfl hkey
 rw [h2, hf] at hu
 obtain rfl := RV_inv hu
 rw [h3, hf] at hrun
 exact hrun
/-- 'm[k]'. -/
theorem wpList_look_V (hg : o.guard = none) (m x : Operand) (t : TypeId) (hop : o.op = Op.lookup t m x false) (k e : TypeId) (K : Keyed P k) (ht : P.underlying t = some (.map k e)) (z : Value) (hz : (zeroValue e).run P w = .ok z w) (b n : Nat) (f : Lit → Option Value)
  (hm : a.eval m = .map (some b)) (hown : MapV P k w b n f) (key : Value) (kl : Lit) (hx : a.eval x = key) (hkey : keyOf P k key = some kl) (v : Value) (hf : (f kl).getD z = v)
  (hK : wpList P ops Q rest (a.put o.dst v) w) :
  wpList P ops Q (o :: rest) a w := by
 obtain ⟨D, h1, h2, h3⟩ := hown
 refine wpList_plain hg fun K' hK' => ?_
 obtain ⟨u, ps, hrun, hu⟩ := h1.lookup K ht hz (zd := .held z) (zp := []) rfl hkey
 rw [h2, hf] at hu
 obtain rfl := RV_inv hu
 unfold Oper.wp
 simp [execOp, hop, hm, hx, hrun, Result.andThen]
 exact hK' _ _ hK
end
end
section
open Go
def mkS (l : List UInt8) : ByteArray := ⟨l.toArray⟩
@[simp] theorem mkS_toList (l : List UInt8) : (mkS l).data.toList = l := by simp [mkS]
@[simp] theorem mkS_of (s : ByteArray) : mkS s.data.toList = s := by cases s; simp [mkS]
@[simp] theorem mkS_size (l : List UInt8) : (mkS l).size = l.length := by simp [mkS, ByteArray.size]
theorem size_list (s : ByteArray) : s.size = s.data.toList.length := rfl
theorem eq_mkS {s : ByteArray} {l : List UInt8} (h : s.data.toList = l) : s = mkS l := by rw [← h, mkS_of]
theorem extract_mkS (s : ByteArray) (a b : Nat) : s.extract a b = mkS ((s.data.toList.take b).drop a) := by
 apply eq_mkS
 simp [ByteArray.data_extract, Array.toList_extract, List.extract_eq_take_drop, List.drop_take]
theorem get_list (s : ByteArray) (k : Nat) (h : k < s.size) : s[k] = s.data.toList[k]'(show k < s.data.toList.length from h) := rfl
def letterB (b : UInt8) : Bool := (97 ≤ b && b ≤ 122) || (65 ≤ b && b ≤ 90)
def digitB (b : UInt8) : Bool := 48 ≤ b && b ≤ 57
def alnumB (b : UInt8) : Bool := letterB b || digitB b
def noteB (b : UInt8) : Bool := !(b == 10)
def signB (b : UInt8) : Bool := [43, 45, 42, 37, 124, 61, 126, 60, 62, 47, 92, 46, 58, 40, 41].contains b
def runL (p : UInt8 → Bool) (l : List UInt8) : Nat := (l.takeWhile p).length
@[simp] theorem runL_nil (p : UInt8 → Bool) : runL p [] = 0 := rfl
theorem runL_cons (p : UInt8 → Bool) (a : UInt8) (l : List UInt8) : runL p (a :: l) = if p a then runL p l + 1 else 0 := by
 unfold runL; rw [List.takeWhile_cons]; split <;> simp
theorem runL_drop (p : UInt8 → Bool) (s : ByteArray) (k : Nat) (h : k < s.size) : runL p (s.data.toList.drop k) = if p s[k] then runL p (s.data.toList.drop (k+1)) + 1 else 0 := by
 rw [List.drop_eq_getElem_cons (show k < s.data.toList.length from h), runL_cons]; rfl
theorem runL_le (p : UInt8 → Bool) (l : List UInt8) : runL p l ≤ l.length := by
 induction l with
 | nil => simp
 | cons a l ih => rw [runL_cons]; split <;> simp <;> omega
theorem take_runL (p : UInt8 → Bool) (l : List UInt8) : l.take (runL p l) = l.takeWhile p := by
 induction l with
 | nil => simp
 | cons a l ih => rw [runL_cons, List.takeWhile_cons]; split <;> simp [*]
theorem drop_runL (p : UInt8 → Bool) (l : List UInt8) : l.drop (runL p l) = l.dropWhile p := by
 induction l with
 | nil => simp
 | cons a l ih => rw [runL_cons, List.dropWhile_cons]; split <;> simp [*]
def dv (c : UInt8) : Nat := c.toNat - 48
/-- The decimal number that digits spell, behind 'acc'. -/
def decN : List UInt8 → Nat → Nat
 | [], acc => acc
 | c :: l, acc => decN l (acc * 10 + dv c)
theorem decN_nil (acc : Nat) : decN [] acc = acc := rfl
theorem decN_cons (acc : Nat) (c : UInt8) (l : List UInt8) : decN (c :: l) acc = decN l (acc * 10 + dv c) := rfl
theorem decN_ge (l : List UInt8) : ∀ acc, acc ≤ decN l acc := by
 induction l with
 | nil => intro acc; rw [decN_nil]; exact Nat.le_refl _
 | cons c l ih => intro acc; rw [decN_cons]; have := ih (acc * 10 + dv c); omega
/-- What a number at the head of a text is: its value, its length, what is wrong (32: too great). Length 0 and nothing wrong: none. -/
def numL (l : List UInt8) : Int × Nat × Nat :=
 if l.head? = some 95 then
  if runL digitB l.tail = 0 then (0, 0, 0)
  else if decN (l.tail.take (runL digitB l.tail)) 0 ≤ 9223372036854775808 then (-(decN (l.tail.take (runL digitB l.tail)) 0 : Int), runL digitB l.tail + 1, 0)
  else (0, 0, 32)
 else
  if runL digitB l = 0 then (0, 0, 0)
  else if decN (l.take (runL digitB l)) 0 < 9223372036854775808 then ((decN (l.take (runL digitB l)) 0 : Int), runL digitB l, 0)
  else (0, 0, 32)
def signL (l : List UInt8) : Nat :=
 if Lib.hasPrefix l [60, 61] || Lib.hasPrefix l [62, 61] then 2 else if signB (l.headD 0) then 1 else 0
structure Tok where
 kind : Int
 at_ : Int
 word : List UInt8
 n : Int
 deriving DecidableEq
def Tok.none : Tok := ⟨0, 0, [], 0⟩
/-- The token at a text's head (its place is 0), its length, what is wrong. -/
def tokL (l : List UInt8) : Tok × Nat × Nat :=
 if l.headD 0 = 10 then (⟨4, 0, [], 0⟩, 1, 0)
 else if letterB (l.headD 0) then
  if 16 < runL alnumB l then (Tok.none, 0, 33) else (⟨1, 0, l.take (runL alnumB l), 0⟩, runL alnumB l, 0)
 else if 0 < (numL l).2.1 ∨ (numL l).2.2 ≠ 0 then (⟨2, 0, [], (numL l).1⟩, (numL l).2.1, (numL l).2.2)
 else if signL l = 0 then (Tok.none, 0, 31)
 else (⟨3, 0, l.take (signL l), 0⟩, signL l, 0)
/-- The tokens of what is left of a text, whose place is given; or the fault's place and code. -/
def lexF : Nat → Nat → List UInt8 → Except (Nat × Nat) (List Tok)
 | _, _, [] => .ok []
 | 0, _, _ :: _ => .ok []
 | f + 1, k, b :: r =>
  if b = 32 ∨ b = 9 then lexF f (k + 1) r
  else if b = 35 then lexF f (k + runL noteB (b :: r)) ((b :: r).drop (runL noteB (b :: r)))
  else if (tokL (b :: r)).2.2 ≠ 0 then .error (k, (tokL (b :: r)).2.2)
  else (lexF f (k + (tokL (b :: r)).2.1) ((b :: r).drop (tokL (b :: r)).2.1)).map (fun l => { (tokL (b :: r)).1 with at_ := k } :: l)
def lexAt (k : Nat) (l : List UInt8) : Except (Nat × Nat) (List Tok) := lexF l.length k l
/-- A text's tokens, or its fault. -/
def lexL (l : List UInt8) : Except (Nat × Nat) (List Tok) := if 65536 < l.length then .error (0, 30) else lexAt 0 l
theorem numL_len (l : List UInt8) (h : 0 < (numL l).2.1) : (numL l).2.1 ≤ l.length ∧ (numL l).2.2 = 0 := by
 unfold numL at h ⊢
 split at h
 ·rename_i hh
  rw [if_pos hh]
  have := runL_le digitB l.tail
  have hl : 1 ≤ l.length := by cases l <;> simp_all
  simp only [List.length_tail] at this
  split at h
  ·simp at h
  ·rename_i h1
   rw [if_neg h1]
   split at h
   ·rename_i h2
    rw [if_pos h2]
    exact ⟨by show runL digitB l.tail + 1 ≤ l.length; omega, rfl⟩
   ·simp at h
 ·rename_i hh
  rw [if_neg hh]
  have := runL_le digitB l
  split at h
  ·simp at h
  ·rename_i h1
   rw [if_neg h1]
   split at h
   ·rename_i h2
    rw [if_pos h2]
    exact ⟨this, rfl⟩
   ·simp at h
theorem signL_le (l : List UInt8) (h : l ≠ []) : signL l ≤ l.length := by
 unfold signL
 cases l with
 | nil => exact absurd rfl h
 | cons a r =>
  split
  ·rename_i hp
   cases r with
   | nil => simp [Lib.hasPrefix] at hp
   | cons b r => simp
  ·split <;> simp
theorem tokL_len (l : List UInt8) (hl : l ≠ []) (h : (tokL l).2.2 = 0) : 0 < (tokL l).2.1 ∧ (tokL l).2.1 ≤ l.length := by
 have h1 : 1 ≤ l.length := by cases l <;> simp_all
 unfold tokL at h ⊢
 split
 ·exact ⟨by simp, h1⟩
 ·rename_i c1
  rw [if_neg c1] at h
  split
  ·rename_i c2
   rw [if_pos c2] at h
   split
   ·rename_i c3; rw [if_pos c3] at h; simp at h
   ·refine ⟨?_, runL_le _ _⟩
    cases l with
    | nil => exact absurd rfl hl
    | cons a r => simp only [List.headD_cons] at c2; simp [runL_cons, alnumB, c2]
  ·rename_i c2
   rw [if_neg c2] at h
   split
   ·rename_i c3
    rw [if_pos c3] at h
    rcases c3 with c3 | c3
    ·exact ⟨c3, (numL_len l c3).1⟩
    ·exact absurd h c3
   ·rename_i c3
    rw [if_neg c3] at h
    split
    ·rename_i c4; rw [if_pos c4] at h; simp at h
    ·rename_i c4
     exact ⟨by show 0 < signL l; omega, signL_le l hl⟩
theorem lexF_two : ∀ (f g k : Nat) (l : List UInt8), l.length ≤ f → l.length ≤ g → lexF f k l = lexF g k l := by
 intro f
 induction f with
 | zero =>
  intro g k l h _
  have : l = [] := by cases l <;> simp_all
  subst this
  cases g <;> rfl
 | succ f ih =>
  intro g k l h hg
  cases l with
  | nil => cases g <;> rfl
  | cons b r =>
   have hr : r.length ≤ f := by simpa using h
   cases g with
   | zero => simp at hg
   | succ g =>
    have hr' : r.length ≤ g := by simpa using hg
    simp only [lexF]
    by_cases c1 : b = 32 ∨ b = 9
    ·rw [if_pos c1, if_pos c1, ih g _ _ hr hr']
    ·rw [if_neg c1, if_neg c1]
     by_cases c2 : b = 35
     ·have hn : 1 ≤ runL noteB (b :: r) := by subst c2; rw [runL_cons]; simp [noteB]
      rw [if_pos c2, if_pos c2]
      exact ih g _ _ (by simp only [List.length_drop, List.length_cons]; omega) (by simp only [List.length_drop, List.length_cons]; omega)
     ·rw [if_neg c2, if_neg c2]
      by_cases c3 : (tokL (b :: r)).2.2 ≠ 0
      ·rw [if_pos c3, if_pos c3]
      ·rw [if_neg c3, if_neg c3]
       have := (tokL_len (b :: r) (by simp) (by simpa using c3)).1
       rw [ih g _ _ (by simp only [List.length_drop, List.length_cons]; omega) (by simp only [List.length_drop, List.length_cons]; omega)]
theorem lexF_at (f k : Nat) (l : List UInt8) (h : l.length ≤ f) : lexF f k l = lexAt k l := lexF_two f l.length k l h (Nat.le_refl _)
@[simp] theorem lexAt_nil (k : Nat) : lexAt k [] = .ok [] := rfl
theorem lexAt_cons (k : Nat) (b : UInt8) (r : List UInt8) : lexAt k (b :: r) =
  if b = 32 ∨ b = 9 then lexAt (k + 1) r
  else if b = 35 then lexAt (k + runL noteB (b :: r)) ((b :: r).drop (runL noteB (b :: r)))
  else if (tokL (b :: r)).2.2 ≠ 0 then .error (k, (tokL (b :: r)).2.2)
  else (lexAt (k + (tokL (b :: r)).2.1) ((b :: r).drop (tokL (b :: r)).2.1)).map (fun l => { (tokL (b :: r)).1 with at_ := k } :: l) := by
 show lexF (r.length + 1) k (b :: r) = _
 simp only [lexF]
 by_cases c1 : b = 32 ∨ b = 9
 ·rw [if_pos c1, if_pos c1]; rfl
 ·rw [if_neg c1, if_neg c1]
  by_cases c2 : b = 35
  ·have hn : 1 ≤ runL noteB (b :: r) := by subst c2; rw [runL_cons]; simp [noteB]
   rw [if_pos c2, if_pos c2]
   exact lexF_at _ _ _ (by simp only [List.length_drop, List.length_cons]; omega)
  ·rw [if_neg c2, if_neg c2]
   by_cases c3 : (tokL (b :: r)).2.2 ≠ 0
   ·rw [if_pos c3, if_pos c3]
   ·rw [if_neg c3, if_neg c3]
    have := (tokL_len (b :: r) (by simp) (by simpa using c3)).1
    rw [lexF_at _ _ _ (by simp only [List.length_drop, List.length_cons]; omega)]
theorem digitB_iff (c : UInt8) : digitB c = true ↔ 48 ≤ c.toNat ∧ c.toNat ≤ 57 := by
 unfold digitB; simp [UInt8.le_iff_toNat_le]
theorem parseUintM_digits (M : Nat) (hM : M ≤ 18446744073709551615) : ∀ (l : List UInt8) (acc : Nat), (∀ c ∈ l, digitB c = true) → acc ≤ M →
  Lib.parseUintM M acc l = if decN l acc ≤ M then .ok (decN l acc) else .range := by
 intro l
 induction l with
 | nil => intro acc _ h; rw [Lib.parseUintM, decN_nil, if_pos h]
 | cons c l ih =>
  intro acc hd hacc
  have hc := (digitB_iff c).1 (hd c (by simp))
  have hr : ∀ x ∈ l, digitB x = true := fun x hx => hd x (by simp [hx])
  rw [Lib.parseUintM, if_pos hc, decN_cons]
  have hdv : c.toNat - 48 = dv c := rfl
  rw [hdv]
  have hge := decN_ge l (acc * 10 + dv c)
  by_cases h1 : 1844674407370955162 ≤ acc
  ·rw [if_pos h1, if_neg (by omega)]
  ·rw [if_neg h1]
   by_cases h2 : M < acc * 10 + dv c
   ·rw [if_pos h2, if_neg (by omega)]
   ·rw [if_neg h2]
    exact ih _ hr (by omega)
theorem parseUintB64_digits (l : List UInt8) (hl : l ≠ []) (hd : ∀ c ∈ l, digitB c = true) :
  Lib.parseUintB 64 l = if decN l 0 ≤ 18446744073709551615 then .ok (decN l 0) else .range := by
 rw [Lib.parseUintB, if_neg hl]
 exact parseUintM_digits (2 ^ 64 - 1) (by decide) l 0 hd (by decide)
theorem parseIntB64_minus (l : List UInt8) (hl : l ≠ []) (hd : ∀ c ∈ l, digitB c = true) :
  Lib.parseIntB 64 (45 :: l) = if decN l 0 ≤ 9223372036854775808 then .ok (-(decN l 0 : Int)) else .range := by
 have e : (45 : UInt8).toNat = 45 := rfl
 simp only [Lib.parseIntB, e, or_true, if_true]
 rw [parseUintB64_digits l hl hd]
 by_cases h : decN l 0 ≤ 18446744073709551615
 ·rw [if_pos h]
  by_cases h2 : decN l 0 ≤ 9223372036854775808
  ·rw [if_pos h2]; simp; omega
  ·rw [if_neg h2]; simp; omega
 ·rw [if_neg h, if_neg (by omega)]
theorem parseIntB64_plain (l : List UInt8) (hl : l ≠ []) (hd : ∀ c ∈ l, digitB c = true) :
  Lib.parseIntB 64 l = if decN l 0 < 9223372036854775808 then .ok (decN l 0 : Int) else .range := by
 cases l with
 | nil => exact absurd rfl hl
 | cons c r =>
  have hc := (digitB_iff c).1 (hd c (by simp))
  have e1 : ¬ c.toNat = 43 := by omega
  have e2 : ¬ c.toNat = 45 := by omega
  simp only [Lib.parseIntB, e1, e2, or_false, if_false]
  rw [parseUintB64_digits (c :: r) hl hd]
  by_cases h : decN (c :: r) 0 ≤ 18446744073709551615
  ·rw [if_pos h]
   by_cases h2 : decN (c :: r) 0 < 9223372036854775808
   ·rw [if_pos h2]; simp; omega
   ·rw [if_neg h2]; simp; omega
  ·rw [if_neg h, if_neg (by omega)]
/-- What holds at the head of a round: the tokens so far, what is left. -/
def Rest (l : List UInt8) (k : Nat) (acc : List Tok) : Prop := lexAt 0 l = (lexAt k (l.drop k)).map (acc ++ ·)
theorem Rest.start (l : List UInt8) : Rest l 0 [] := by
 unfold Rest; rw [List.drop_zero]; cases lexAt 0 l <;> rfl
theorem Rest.end_ {l : List UInt8} {acc : List Tok} (h : Rest l l.length acc) : lexAt 0 l = .ok acc := by
 unfold Rest at h; rw [h, List.drop_length, lexAt_nil]; simp [Except.map]
theorem drop_at (l : List UInt8) (k : Nat) (h : k < l.length) : l.drop k = l[k] :: l.drop (k + 1) := List.drop_eq_getElem_cons h
theorem Rest.blank {l : List UInt8} {k : Nat} {acc : List Tok} (h : Rest l k acc) (hk : k < l.length) (hb : l[k] = 32 ∨ l[k] = 9) : Rest l (k + 1) acc := by
 unfold Rest at h ⊢; rw [h, drop_at l k hk, lexAt_cons, if_pos hb]
theorem Rest.note {l : List UInt8} {k : Nat} {acc : List Tok} (h : Rest l k acc) (hk : k < l.length) (hb : l[k] = 35) : Rest l (k + runL noteB (l.drop k)) acc := by
 unfold Rest at h ⊢; rw [h, drop_at l k hk, lexAt_cons, if_neg (by rw [hb]; decide), if_pos hb, ← drop_at l k hk, List.drop_drop]
theorem Rest.bad {l : List UInt8} {k : Nat} {acc : List Tok} (h : Rest l k acc) (hk : k < l.length) (h1 : ¬ (l[k] = 32 ∨ l[k] = 9)) (h2 : l[k] ≠ 35) (he : (tokL (l.drop k)).2.2 ≠ 0) : lexAt 0 l = .error (k, (tokL (l.drop k)).2.2) := by
 unfold Rest at h; rw [h]
 have e := drop_at l k hk
 rw [e] at he ⊢
 rw [lexAt_cons, if_neg h1, if_neg h2, if_pos he]; rfl
theorem Rest.tok {l : List UInt8} {k : Nat} {acc : List Tok} (h : Rest l k acc) (hk : k < l.length) (h1 : ¬ (l[k] = 32 ∨ l[k] = 9)) (h2 : l[k] ≠ 35) (he : (tokL (l.drop k)).2.2 = 0) :
  Rest l (k + (tokL (l.drop k)).2.1) (acc ++ [{ (tokL (l.drop k)).1 with at_ := k }]) := by
 unfold Rest at h ⊢; rw [h]
 have e := drop_at l k hk
 rw [← List.drop_drop]
 rw [e] at he ⊢
 rw [lexAt_cons, if_neg h1, if_neg h2, if_neg (by simpa using he)]
 generalize lexAt (k + (tokL (l[k] :: l.drop (k + 1))).2.1) (List.drop (tokL (l[k] :: l.drop (k + 1))).2.1 (l[k] :: l.drop (k + 1))) = x
 cases x <;> simp [Except.map]
theorem takeWhile_all (p : UInt8 → Bool) (l : List UInt8) : ∀ c ∈ l.takeWhile p, p c = true := by
 induction l with
 | nil => simp
 | cons a l ih =>
  rw [List.takeWhile_cons]
  split
  ·intro c hc
   rcases List.mem_cons.1 hc with rfl | h
   ·assumption
   ·exact ih c h
  ·simp
theorem take_run_all (p : UInt8 → Bool) (l : List UInt8) : ∀ c ∈ l.take (runL p l), p c = true := by rw [take_runL]; exact takeWhile_all p l
theorem take_run_ne (p : UInt8 → Bool) (l : List UInt8) (h : runL p l ≠ 0) : l.take (runL p l) ≠ [] := by
 intro h0
 have := congrArg List.length h0
 rw [List.length_take, Nat.min_eq_left (runL_le p l)] at this
 exact h (by simpa using this)
end
section
open Go
def twoF (s : List UInt8) : Nat :=
 if s = [43] then 1 else if s = [45] then 2 else if s = [42] then 3 else if s = [37] then 4 else if s = [124] then 5
 else if s = [109, 105, 110] then 6 else if s = [109, 97, 120] then 7 else if s = [61] then 8 else if s = [126] then 9 else if s = [60] then 10
 else if s = [60, 61] then 11 else if s = [62, 61] then 12 else if s = [62] then 13 else if s = [97, 110, 100] then 14 else if s = [111, 114] then 15
 else if s = [112, 111, 119] then 17 else if s = [114, 104, 111] then 37 else if s = [116, 97, 107, 101] then 38 else if s = [100, 114, 111, 112] then 39
 else if s = [99, 97, 116] then 40 else 0
def oneF (s : List UInt8) : Nat :=
 if s = [43] ∨ s = [45] ∨ s = [42] ∨ s = [37] ∨ s = [124] ∨ s = [109, 105, 110] ∨ s = [109, 97, 120] then twoF s
 else if s = [126] then 16 else if s = [105, 111, 116, 97] then 32 else if s = [115, 104, 97, 112, 101] then 33 else if s = [114, 97, 118, 101, 108] then 34
 else if s = [114, 101, 118] then 35 else if s = [116, 117, 114, 110] then 36 else 0
def verbF (s : List UInt8) (two : Bool) : Nat := if two then twoF s else oneF s
def verbB (s : List UInt8) : Bool := oneF s != 0 || twoF s != 0
def wordIs (s : List UInt8) : Bool := match lexL s with | .ok [t] => t.kind == 1 && t.word == s | _ => false
def nameB (s : List UInt8) : Bool := !(verbB s || s == [105, 110] || s == [111, 117, 116]) && wordIs s
structure Itm where
 how : Int
 at_ : Int
 fn : Nat
 name : List UInt8
 nums : List Int
 deriving DecidableEq
abbrev Fault := Int × Nat
/-- The place of the next token. -/
def placeP (e : Int) (r : List Tok) : Int := match r with | [] => e | t :: _ => t.at_
def signIs (w : List UInt8) (t : Tok) : Bool := t.kind == 3 && t.word == w
def isOp (t : Tok) : Bool := t.kind == 3 && (t.word == [47] || t.word == [92] || t.word == [46])
def isNum (t : Tok) : Bool := t.kind == 2
/-- A phrase: the verb t, and what stands behind it. -/
def phraseP (left : Bool) (t : Tok) (r : List Tok) : Except Fault (Itm × List Tok) :=
 match r with
 | [] => if verbF t.word left = 0 then .error (t.at_, 43) else .ok (⟨if left then 4 else 3, t.at_, verbF t.word left, [], []⟩, [])
 | op :: r2 =>
  if isOp op then
   if 17 < twoF t.word ∨ (op.word == [46]) ≠ left ∨ twoF t.word = 0 then .error (t.at_, 43)
   else .ok (⟨if op.word = [47] then 5 else if op.word = [92] then 6 else 7, t.at_, twoF t.word, [], []⟩, r2)
  else if verbF t.word left = 0 then .error (t.at_, 43) else .ok (⟨if left then 4 else 3, t.at_, verbF t.word left, [], []⟩, op :: r2)
/-- What is to be done up to the last open bracket is done. -/
def finP : List (Option Itm) → List Itm → List Itm × List (Option Itm)
 | some x :: s, out => finP s (out ++ [x])
 | s, out => (out, s)
/-- The machine: true: ahead of an operand; false: behind one. What is to be done: the last one first. -/
def runM (e : Int) : Nat → Bool → List Tok → List Itm → List (Option Itm) → Nat → Except Fault (List Itm)
 | 0, _, _, _, _, _ => .error (e, 0)
 | _ + 1, true, [], _, _, _ => .error (e, 42)
 | f + 1, true, t :: r, out, todo, open_ =>
  if t.kind ≠ 2 ∧ t.kind ≠ 4 ∧ verbB t.word = true then
   match phraseP false t r with
   | .error x => .error x
   | .ok (it, r2) => runM e f true r2 out (some it :: todo) open_
  else if signIs [40] t then if open_ = 32 then .error (t.at_, 44) else runM e f true r out (none :: todo) (open_ + 1)
  else if isNum t then runM e f false (r.dropWhile isNum) (out ++ [⟨1, t.at_, 0, [], t.n :: (r.takeWhile isNum).map Tok.n⟩]) todo open_
  else if t.kind = 1 ∧ nameB t.word = true then runM e f false r (out ++ [⟨2, t.at_, 0, t.word, []⟩]) todo open_
  else if t.kind = 1 then .error (t.at_, 41)
  else .error (t.at_, 42)
 | _ + 1, false, [], out, todo, open_ => if 0 < open_ then .error (e, 42) else .ok (finP todo out).1
 | f + 1, false, t :: r, out, todo, open_ =>
  if 0 < open_ ∧ signIs [41] t = true then runM e f false r (finP todo out).1 (finP todo out).2.tail (open_ - 1)
  else if t.kind = 2 ∨ verbB t.word = false then .error (t.at_, 46)
  else match phraseP true t r with
   | .error x => .error x
   | .ok (it, r2) => runM e f true r2 out (some it :: todo) open_
def exprP (e : Int) (r : List Tok) : Except Fault (List Itm) := runM e (r.length + 1) true r [] [] 0
structure Inp where
 name : List UInt8
 at_ : Int
 sides : List (List UInt8 × Int)
 deriving DecidableEq
structure Lin where
 name : List UInt8
 at_ : Int
 items : List Itm
 deriving DecidableEq
structure Prg where
 inputs : List Inp
 lines : List Lin
 deriving DecidableEq
def Prg.none : Prg := ⟨[], []⟩
def nameT (t : Tok) : Bool := t.kind == 1 && nameB t.word
def sidesP (acc : List (List UInt8 × Int)) : List Tok → Except Fault (List (List UInt8 × Int))
 | [] => .ok acc
 | t :: r => if !isNum t && !nameT t then .error (t.at_, 41) else if acc.length = 4 then .error (t.at_, 45) else sidesP (acc ++ [(t.word, t.n)]) r
/-- What stands behind 'in'. -/
def inputP (e : Int) : List Tok → Except Fault Inp
 | [] => .error (e, 42)
 | t :: r => if !nameT t then .error (t.at_, 41) else (sidesP [] r).map fun l => ⟨t.word, t.at_, l⟩
def isWord (w : List UInt8) (t : Tok) : Bool := t.kind == 1 && t.word == w
/-- A line that has tokens, into a program. -/
def intoP (e : Int) (toks : List Tok) (p : Prg) (lines : Nat) (over : Bool) : Except Fault Prg :=
 match toks with
 | [] => .ok p
 | t :: r =>
  if lines = 64 then .error (t.at_, 45)
  else if 256 < toks.length then .error (placeP e (toks.drop 256), 45)
  else if over = true ∨ isWord [105, 110] t = true ∧ p.lines ≠ [] then .error (t.at_, 40)
  else if isWord [105, 110] t = true then (inputP e r).map fun x => { p with inputs := p.inputs ++ [x] }
  else if isWord [111, 117, 116] t = true then (exprP e r).map fun l => { p with lines := p.lines ++ [⟨[], t.at_, l⟩] }
  else if nameT t = false then .error (t.at_, 40)
  else match r with
   | [] => .error (e, 42)
   | c :: r2 => if signIs [58] c then (exprP e r2).map fun l => { p with lines := p.lines ++ [⟨t.word, t.at_, l⟩] } else .error (c.at_, 42)
def notLine (t : Tok) : Bool := t.kind != 4
def overP (p : Prg) : Bool := match p.lines.getLast? with | none => false | some l => l.name == []
/-- The lines of a text. n: its length. -/
def linesP (n : Int) : Nat → List Tok → Prg → Nat → Bool → Except Fault Prg
 | _, [], p, _, over => if over then .ok p else .error (n, 42)
 | 0, _ :: _, _, _, _ => .error (n, 0)
 | f + 1, t :: r, p, lines, over =>
  if (t :: r).takeWhile notLine = [] then linesP n f ((t :: r).dropWhile notLine).tail p lines over
  else match intoP (placeP n ((t :: r).dropWhile notLine)) ((t :: r).takeWhile notLine) p lines over with
   | .error x => .error x
   | .ok q => linesP n f ((t :: r).dropWhile notLine).tail q (lines + 1) (overP q)
def parseT (n : Int) (toks : List Tok) : Except Fault Prg := linesP n toks.length toks Prg.none 0 false
/-- A text's program, or its fault. -/
def parseL (l : List UInt8) : Except Fault Prg :=
 match lexL l with
 | .error (a, c) => .error (a, c)
 | .ok toks => parseT l.length toks
end
end Go.Proofs.YtknnleiinhdklaaGreatDoor
