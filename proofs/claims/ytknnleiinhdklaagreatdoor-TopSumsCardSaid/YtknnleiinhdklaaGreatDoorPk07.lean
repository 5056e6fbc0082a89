/-
  Plain Lean, no program: the texts of the theorems of stage 8 are read as these programs. Condition: the sides are an array's.   Plain Lean, no program: the programs of the theorems of stage 8, without places. Condition: the sides are an array's.   Plain Lean, no program: the program of TopParts, without places. Condition: the sides are an array's; k is a number of 64 bits.   Plain Lean, no program: what show writes of an expression: pieces on a stack; the laws' programs may be shown. No condition.
-/
import Derived.KernelRfl
import Derived.Lib.Fields
import Derived.Test.YtknnleiinhdklaaGreatDoorPk01
import Derived.Test.YtknnleiinhdklaaGreatDoorPk06
namespace Go.Proofs.YtknnleiinhdklaaGreatDoor
section
open Go
def numTok (n : Int) : Tok := ⟨2, 0, [], n⟩
theorem decN_app (l : List UInt8) (c : UInt8) : ∀ acc, decN (l ++ [c]) acc = decN l acc * 10 + dv c := by
 induction l with
 | nil => intro acc; rfl
 | cons a l ih => intro acc; rw [List.cons_append, decN_cons, decN_cons, ih]
theorem dv_digit (d : Nat) (h : d < 10) : dv (UInt8.ofNat (48 + d)) = d := by
 unfold dv
 rw [UInt8.toNat_ofNat']
 omega
theorem decN_digits (u : Nat) : decN (Lib.decDigits u) 0 = u := by
 induction u using Nat.strongRecOn with
 | _ u ih =>
  rw [Lib.decDigits]
  by_cases h : u < 10
  ·rw [dif_pos h, decN_cons, decN_nil, dv_digit u h]
   omega
  ·rw [dif_neg h, decN_app, ih (u / 10) (by omega), dv_digit (u % 10) (by omega)]
   omega
theorem run_digits (u : Nat) : runL digitB (Lib.decDigits u) = (Lib.decDigits u).length := by
 have := runL_app_all digitB (Lib.decDigits u) [] (decDigits_digits u) (fun b r h => by cases h)
 rwa [List.append_nil] at this
theorem digits_cons (u : Nat) : ∃ a r, Lib.decDigits u = a :: r ∧ digitB a = true := by
 cases h : Lib.decDigits u with
 | nil => exact absurd h (decDigits_ne u)
 | cons a r => exact ⟨a, r, rfl, decDigits_digits u a (by rw [h]; simp)⟩
theorem digit_facts {a : UInt8} (h : digitB a = true) : a ≠ 95 ∧ a ≠ 10 ∧ letterB a = false ∧ a ≠ 32 ∧ a ≠ 9 ∧ a ≠ 35 := by
 unfold digitB at h
 rw [Bool.and_eq_true, decide_eq_true_iff, decide_eq_true_iff, UInt8.le_iff_toNat_le, UInt8.le_iff_toNat_le] at h
 have h1 : 48 ≤ a.toNat := h.1
 have h2 : a.toNat ≤ 57 := h.2
 have ne : ∀ c : UInt8, (c.toNat < 48 ∨ 57 < c.toNat) → a ≠ c := fun c hc e => by subst e; omega
 refine ⟨ne 95 (by decide), ne 10 (by decide), ?_, ne 32 (by decide), ne 9 (by decide), ne 35 (by decide)⟩
 unfold letterB
 have e1 : ((97 : UInt8) ≤ a) = False := by rw [UInt8.le_iff_toNat_le]; exact eq_false (by show ¬ 97 ≤ a.toNat; omega)
 have e2 : ((65 : UInt8) ≤ a) = False := by rw [UInt8.le_iff_toNat_le]; exact eq_false (by show ¬ 65 ≤ a.toNat; omega)
 simp [e1, e2]
theorem tok_num (n : Int) (h0 : -9223372036854775808 ≤ n) (h1 : n ≤ 9223372036854775807) : tokL (numT n) = (numTok n, (numT n).length, 0) := by
 by_cases hn : n < 0
 ·have e : numT n = 95 :: Lib.decDigits n.natAbs := by unfold numT; rw [if_pos hn]
  have hd : (Lib.decDigits n.natAbs).length ≠ 0 := fun h => decDigits_ne _ (List.eq_nil_of_length_eq_zero h)
  have hnum : numL (numT n) = (n, (numT n).length, 0) := by
   rw [e, num_under, run_digits, if_neg hd, List.take_length, decN_digits, if_pos (by omega), List.length_cons]
   congr 1
   omega
  rw [tok_rest _ (by rw [e, List.headD_cons]; decide) (by rw [e, List.headD_cons]; decide), hnum, if_pos (.inl (by rw [e]; simp))]
  rfl
 ·have e : numT n = Lib.decDigits n.toNat := by unfold numT; rw [if_neg hn]
  obtain ⟨a, r, ha, hda⟩ := digits_cons n.toNat
  obtain ⟨f1, f2, f3, _⟩ := digit_facts hda
  have hd : (Lib.decDigits n.toNat).length ≠ 0 := fun h => decDigits_ne _ (List.eq_nil_of_length_eq_zero h)
  have hnum : numL (numT n) = (n, (numT n).length, 0) := by
   rw [e, num_plain _ (by rw [ha, List.head?_cons]; simpa using f1), run_digits, if_neg hd, List.take_length, decN_digits, if_pos (by omega)]
   congr 1
   omega
  rw [tok_rest _ (by rw [e, ha]; exact f2) (by rw [e, ha, List.headD_cons, f3]; decide), hnum, if_pos (.inl (by rw [e]; exact Nat.pos_of_ne_zero hd))]
  rfl
theorem num_ne (n : Int) : numT n ≠ [] := by
 unfold numT
 split
 ·simp
 ·exact decDigits_ne _
theorem num_head (n : Int) : ∃ a r, numT n = a :: r ∧ ¬ (a = 32 ∨ a = 9) ∧ a ≠ 35 := by
 unfold numT
 split
 ·exact ⟨95, _, rfl, by decide, by decide⟩
 ·obtain ⟨a, r, ha, hda⟩ := digits_cons n.toNat
  obtain ⟨_, _, _, f4, f5, f6⟩ := digit_facts hda
  exact ⟨a, r, ha, by rintro (h | h); exact f4 h; exact f5 h, f6⟩
theorem lexC_num (n : Int) (h0 : -9223372036854775808 ≤ n) (h1 : n ≤ 9223372036854775807) (z : List UInt8) (hz : Stops z) : lexC (numT n ++ z) = (lexC z).map ([numTok n] ++ ·) := by
 have ht := tok_then (numT n) z (num_ne n) hz
 rw [tok_num n h0 h1] at ht
 obtain ⟨a, r, e, hb, hc⟩ := num_head n
 rw [e] at ht ⊢
 rw [List.cons_append] at ht ⊢
 refine lexC_tok z a (r ++ z) hb hc (numTok n) (a :: r).length ht rfl ?_
 rw [← List.cons_append, List.drop_left]
def inT : Tok := ⟨1, 0, [105, 110], 0⟩
def xT : Tok := ⟨1, 0, [120], 0⟩
def numsL (s : List Nat) : List UInt8 := s.flatMap fun n : Nat => 32 :: numT (n : Int)
def inL (s : List Nat) : List UInt8 := [105, 110, 32, 120] ++ numsL s
theorem stops_nums (s : List Nat) : Stops (numsL s) := by
 cases s with
 | nil => exact .inl rfl
 | cons n r => exact .inr ⟨32, _, rfl, .inl rfl⟩
theorem lexC_nums (s : List Nat) (hs : ∀ n ∈ s, n ≤ 65536) : lexC (numsL s) = .ok (s.map fun n : Nat => numTok (n : Int)) := by
 induction s with
 | nil => rfl
 | cons n r ih =>
  have e : numsL (n :: r) = 32 :: (numT n ++ numsL r) := by simp [numsL]
  have hn := hs n (by simp)
  rw [e, lexC_blank 32 _ (.inl rfl), lexC_num n (by omega) (by omega) _ (stops_nums r), ih (fun m hm => hs m (by simp [hm]))]
  rfl
theorem lexC_in (s : List Nat) (hs : ∀ n ∈ s, n ≤ 65536) : lexC (inL s) = .ok (inT :: xT :: s.map fun n : Nat => numTok (n : Int)) := by
 unfold inL
 rw [lexC_then (l := [105, 110, 32, 120]) (x := [inT, xT]) rfl _ (stops_nums s) (.inr (by decide)), lexC_nums s hs]
 rfl
theorem numT_short (n : Nat) (h : n ≤ 65536) : (numT n).length ≤ 20 := by
 have e : numT (n : Int) = Lib.decDigits n := by unfold numT; rw [if_neg (by omega), Int.toNat_natCast]
 rw [e, Lib.decDigits_length]
 exact Lib.nDigits_le20 _ (by omega)
theorem nums_len (s : List Nat) (hs : ∀ n ∈ s, n ≤ 65536) : (numsL s).length ≤ 21 * s.length := by
 induction s with
 | nil => simp [numsL]
 | cons n r ih =>
  have e : numsL (n :: r) = 32 :: (numT n ++ numsL r) := by simp [numsL]
  have := ih (fun m hm => hs m (by simp [hm]))
  have := numT_short n (hs n (by simp))
  rw [e, List.length_cons, List.length_append, List.length_cons]
  omega
def xInp (s : List Nat) : Inp := ⟨[120], 0, s.map fun n : Nat => ([], (n : Int))⟩
theorem sides_nums (s : List Nat) : ∀ acc, acc.length + s.length ≤ 4 → sidesP acc (s.map fun n : Nat => numTok (n : Int)) = .ok (acc ++ s.map fun n : Nat => ([], (n : Int))) := by
 induction s with
 | nil => intro acc _; rw [List.map_nil, List.map_nil, List.append_nil]; rfl
 | cons n r ih =>
  intro acc h
  rw [List.length_cons] at h
  rw [List.map_cons, List.map_cons, sidesP, if_neg (by simp [isNum, numTok]), if_neg (by omega), ih _ (by rw [List.length_append, List.length_singleton]; omega), List.append_assoc]
  rfl
theorem into_in (s : List Nat) (hl : s.length ≤ 4) : intoP 0 (inT :: xT :: s.map fun n : Nat => numTok (n : Int)) Prg.none 0 false = .ok ⟨[xInp s], []⟩ := by
 rw [intoP.eq_def]
 dsimp only
 rw [if_neg (by decide), if_neg (by simp only [List.length_cons, List.length_map]; omega), if_neg (by decide), if_pos (by decide)]
 have e : inputP 0 (xT :: s.map fun n : Nat => numTok (n : Int)) = .ok (xInp s) := by
  unfold inputP
  dsimp only
  rw [if_neg (by decide), sides_nums s [] (by simpa using hl)]
  rfl
 rw [e]
 rfl
/-- What stands behind the first line, in a program that has that input. -/
def progOf (rest : List UInt8) (i : Inp) : Except Fault Prg := match linesC rest with
 | .error c => .error (0, c)
 | .ok ls => linesQ ls ⟨[i], []⟩ 1 false
/-- A text whose first line declares x. -/
theorem parse_in (s : List Nat) (hs : ∀ n ∈ s, n ≤ 65536) (hl : s.length ≤ 4) (rest : List UInt8) (hr : rest.length ≤ 10000) :
  bareE Prg.bare (parseL (inL s ++ 10 :: rest)) = progOf rest (xInp s) := by
 have h1 := nums_len s hs
 rw [parse_lines (by unfold inL; simp only [List.length_append, List.length_cons, List.length_nil]; omega), linesC_line, lexC_in s hs]
 unfold progOf
 dsimp only
 cases linesC rest with
 | error c => rfl
 | ok ls =>
  have hsp : splitA [] (inT :: xT :: s.map fun n : Nat => numTok (n : Int)) = [inT :: xT :: s.map fun n : Nat => numTok (n : Int)] := by
   rw [split_all _ _ (by
    intro t ht
    rw [List.mem_cons, List.mem_cons, List.mem_map] at ht
    rcases ht with rfl | rfl | ⟨n, _, rfl⟩ <;> rfl), if_neg (by simp)]
   rfl
  rw [hsp]
  show linesQ ([inT :: xT :: s.map fun n : Nat => numTok (n : Int)] ++ ls) _ _ _ = _
  rw [List.singleton_append, linesQ, into_in s hl]
  rfl
end
section
open Go
def nmI (s : List UInt8) : Itm := ⟨2, 0, 0, s, []⟩
def nuI (n : Int) : Itm := ⟨1, 0, 0, [], [n]⟩
def moI (f : Nat) : Itm := ⟨3, 0, f, [], []⟩
def dyI (f : Nat) : Itm := ⟨4, 0, f, [], []⟩
def foI (f : Nat) : Itm := ⟨5, 0, f, [], []⟩
def xI : Itm := nmI [120]
def begunS : List UInt8 := [105, 110, 32, 120, 32, 51, 10, 111, 117, 116, 32, 43, 47, 32, 120]
def begunP : Prg := ⟨[xInp [3]], [⟨[], 0, [xI, foI 1]⟩]⟩
theorem parse_begun : bareE Prg.bare (parseL begunS) = .ok begunP := by
 have e : begunS = inL [3] ++ 10 :: [111, 117, 116, 32, 43, 47, 32, 120] := by
  have h3 : numT ((3 : Nat) : Int) = [51] := by
   unfold numT
   rw [if_neg (by decide), Int.toNat_natCast, Lib.decDigits, dif_pos (by decide)]
   rfl
  show begunS = [105, 110, 32, 120] ++ ((32 :: numT ((3 : Nat) : Int)) ++ []) ++ 10 :: [111, 117, 116, 32, 43, 47, 32, 120]
  rw [h3]
  rfl
 have h : ∀ i : Inp, progOf [111, 117, 116, 32, 43, 47, 32, 120] i = .ok ⟨[i], [⟨[], 0, [xI, foI 1]⟩]⟩ := fun i => by kernel_rfl
 rw [e, parse_in [3] (by decide) (by decide) _ (by decide), h]
 rfl
def twiceL : List UInt8 := [121, 58, 32, 114, 101, 118, 32, 114, 101, 118, 32, 120, 10, 122, 58, 32, 116, 117, 114, 110, 32, 116, 117, 114, 110, 32, 120, 10, 111, 117, 116, 32, 114, 97, 118, 101, 108, 32, 120]
def twiceP (s : List Nat) : Prg := ⟨[xInp s], [⟨[121], 0, [xI, moI 35, moI 35]⟩, ⟨[122], 0, [xI, moI 36, moI 36]⟩, ⟨[], 0, [xI, moI 34]⟩]⟩
theorem parse_twice (s : List Nat) (hs : ∀ n ∈ s, n ≤ 65536) (hl : s.length ≤ 4) : bareE Prg.bare (parseL (inL s ++ 10 :: twiceL)) = .ok (twiceP s) := by
 have h : ∀ i : Inp, progOf twiceL i = .ok { twiceP [] with inputs := [i] } := fun i => by kernel_rfl
 rw [parse_in s hs hl _ (by decide), h]
 rfl
def shapesL : List UInt8 := [121, 58, 32, 115, 104, 97, 112, 101, 32, 120, 10, 111, 117, 116, 32, 121, 32, 114, 104, 111, 32, 114, 97, 118, 101, 108, 32, 120]
def shapesP (s : List Nat) : Prg := ⟨[xInp s], [⟨[121], 0, [xI, moI 33]⟩, ⟨[], 0, [nmI [121], xI, moI 34, dyI 37]⟩]⟩
theorem parse_shapes (s : List Nat) (hs : ∀ n ∈ s, n ≤ 65536) (hl : s.length ≤ 4) : bareE Prg.bare (parseL (inL s ++ 10 :: shapesL)) = .ok (shapesP s) := by
 have h : ∀ i : Inp, progOf shapesL i = .ok { shapesP [] with inputs := [i] } := fun i => by kernel_rfl
 rw [parse_in s hs hl _ (by decide), h]
 rfl
/-- One of the four verbs that do not ask for an order: its text, its number. -/
def ordT (k : Nat) : List UInt8 := if k = 0 then [43] else if k = 1 then [42] else if k = 2 then [109, 105, 110] else [109, 97, 120]
def ordF (k : Nat) : Nat := if k = 0 then 1 else if k = 1 then 3 else if k = 2 then 6 else 7
/-- So many folds. -/
def allT (k : Nat) : Nat → List UInt8
 | 0 => []
 | n + 1 => allT k n ++ ordT k ++ [47, 32]
def sumsL (k n : Nat) : List UInt8 := [121, 58, 32] ++ allT k n ++ [120, 10, 122, 58, 32] ++ allT k n ++ [116, 117, 114, 110, 32, 120, 10, 111, 117, 116, 32] ++ ordT k ++ [47, 32, 114, 97, 118, 101, 108, 32, 120]
def sumsP (s : List Nat) (k : Nat) : Prg := ⟨[xInp s], [⟨[121], 0, xI :: List.replicate s.length (foI (ordF k))⟩, ⟨[122], 0, xI :: moI 36 :: List.replicate s.length (foI (ordF k))⟩, ⟨[], 0, [xI, moI 34, foI (ordF k)]⟩]⟩
theorem parse_sums (s : List Nat) (hs : ∀ n ∈ s, n ≤ 65536) (hl : s.length ≤ 4) (k : Nat) (hk : k < 4) : bareE Prg.bare (parseL (inL s ++ 10 :: sumsL k s.length)) = .ok (sumsP s k) := by
 have key : ∀ n, n ≤ 4 → (sumsL k n).length ≤ 10000 ∧ ∀ i : Inp, progOf (sumsL k n) i = .ok ⟨[i], [⟨[121], 0, xI :: List.replicate n (foI (ordF k))⟩, ⟨[122], 0, xI :: moI 36 :: List.replicate n (foI (ordF k))⟩, ⟨[], 0, [xI, moI 34, foI (ordF k)]⟩]⟩ := by
  intro n hn
  match k, hk, n, hn with
  | 0, _, 0, _ => exact ⟨by decide, fun i => by kernel_rfl⟩
  | 0, _, 1, _ => exact ⟨by decide, fun i => by kernel_rfl⟩
  | 0, _, 2, _ => exact ⟨by decide, fun i => by kernel_rfl⟩
  | 0, _, 3, _ => exact ⟨by decide, fun i => by kernel_rfl⟩
  | 0, _, 4, _ => exact ⟨by decide, fun i => by kernel_rfl⟩
  | 1, _, 0, _ => exact ⟨by decide, fun i => by kernel_rfl⟩
  | 1, _, 1, _ => exact ⟨by decide, fun i => by kernel_rfl⟩
  | 1, _, 2, _ => exact ⟨by decide, fun i => by kernel_rfl⟩
  | 1, _, 3, _ => exact ⟨by decide, fun i => by kernel_rfl⟩
  | 1, _, 4, _ => exact ⟨by decide, fun i => by kernel_rfl⟩
  | 2, _, 0, _ => exact ⟨by decide, fun i => by kernel_rfl⟩
  | 2, _, 1, _ => exact ⟨by decide, fun i => by kernel_rfl⟩
  | 2, _, 2, _ => exact ⟨by decide, fun i => by kernel_rfl⟩
  | 2, _, 3, _ => exact ⟨by decide, fun i => by kernel_rfl⟩
  | 2, _, 4, _ => exact ⟨by decide, fun i => by kernel_rfl⟩
  | 3, _, 0, _ => exact ⟨by decide, fun i => by kernel_rfl⟩
  | 3, _, 1, _ => exact ⟨by decide, fun i => by kernel_rfl⟩
  | 3, _, 2, _ => exact ⟨by decide, fun i => by kernel_rfl⟩
  | 3, _, 3, _ => exact ⟨by decide, fun i => by kernel_rfl⟩
  | 3, _, 4, _ => exact ⟨by decide, fun i => by kernel_rfl⟩
  | k + 4, hk, _, _ => exact absurd hk (by omega)
  | _, _, n + 5, hn => exact absurd hn (by omega)
 obtain ⟨h0, h1⟩ := key s.length hl
 rw [parse_in s hs hl _ h0, h1]
 rfl
end
section
open Go
def partA1 (k : Int) : List UInt8 := numT k ++ ([32, 116, 97, 107, 101, 32, 120, 41, 32, 99, 97, 116] ++ (32 :: (numT k ++ [32, 100, 114, 111, 112, 32, 120])))
def partB1 (k : Int) : List UInt8 := numT k ++ ([32, 100, 114, 111, 112, 32, 120, 41, 32, 99, 97, 116] ++ (32 :: (numT k ++ [32, 116, 97, 107, 101, 32, 120])))
def partsL (k : Nat) : List UInt8 := [121, 58, 32, 40] ++ partA1 k ++ 10 :: ([111, 117, 116, 32, 40] ++ partB1 (-(k : Int)))
def yT : Tok := ⟨1, 0, [121], 0⟩
def partsP (s : List Nat) (k : Nat) : Prg := ⟨[xInp s], [⟨[121], 0, [nuI k, xI, dyI 38, nuI k, xI, dyI 39, dyI 40]⟩, ⟨[], 0, [nuI (-(k : Int)), xI, dyI 39, nuI (-(k : Int)), xI, dyI 38, dyI 40]⟩]⟩
theorem tok_y (z : List UInt8) : tokL (121 :: 58 :: z) = (yT, 1, 0) := by
 have hr : runL alnumB (121 :: 58 :: z) = 1 := by rw [runL_cons, runL_cons]; rfl
 rw [tok_word _ (by simp) (by rw [List.headD_cons]; decide), hr]
 rfl
theorem lexC_y (z : List UInt8) : lexC (121 :: 58 :: 32 :: 40 :: z) = (lexC z).map ([yT, colT, openT] ++ ·) := by
 rw [lexC_tok (58 :: 32 :: 40 :: z) _ _ (by decide) (by decide) yT 1 (tok_y _) rfl rfl,
  lexC_tok (32 :: 40 :: z) 58 _ (by decide) (by decide) colT 1 (tok_sign1 58 _ (by decide) (by decide) (by decide) (by decide) (by decide) (by decide)) rfl rfl,
  lexC_blank 32 _ (.inl rfl), lexC_open, mapE_map, mapE_map]
 rfl
theorem lexC_A (k : Int) (h0 : -9223372036854775808 ≤ k) (h1 : k ≤ 9223372036854775807) : lexC (partA1 k) = .ok [numTok k, ⟨1, 0, [116, 97, 107, 101], 0⟩, xT, closeT, ⟨1, 0, [99, 97, 116], 0⟩, numTok k, ⟨1, 0, [100, 114, 111, 112], 0⟩, xT] := by
 unfold partA1
 have s32 : ∀ z : List UInt8, Stops (32 :: z) := fun z => .inr ⟨32, z, rfl, .inl rfl⟩
 rw [lexC_num k h0 h1 _ (show Stops ([32, 116, 97, 107, 101, 32, 120, 41, 32, 99, 97, 116] ++ (32 :: (numT k ++ [32, 100, 114, 111, 112, 32, 120]))) from s32 _), lexC_then (l := [32, 116, 97, 107, 101, 32, 120, 41, 32, 99, 97, 116]) (x := [⟨1, 0, [116, 97, 107, 101], 0⟩, xT, closeT, ⟨1, 0, [99, 97, 116], 0⟩]) (by kernel_rfl) _ (s32 _) (.inr (by decide)), lexC_blank 32 _ (.inl rfl), lexC_num k h0 h1 _ (show Stops [32, 100, 114, 111, 112, 32, 120] from s32 _),
  show lexC [32, 100, 114, 111, 112, 32, 120] = .ok [⟨1, 0, [100, 114, 111, 112], 0⟩, xT] from by kernel_rfl]
 rfl
theorem lexC_B (k : Int) (h0 : -9223372036854775808 ≤ k) (h1 : k ≤ 9223372036854775807) : lexC (partB1 k) = .ok [numTok k, ⟨1, 0, [100, 114, 111, 112], 0⟩, xT, closeT, ⟨1, 0, [99, 97, 116], 0⟩, numTok k, ⟨1, 0, [116, 97, 107, 101], 0⟩, xT] := by
 unfold partB1
 have s32 : ∀ z : List UInt8, Stops (32 :: z) := fun z => .inr ⟨32, z, rfl, .inl rfl⟩
 rw [lexC_num k h0 h1 _ (show Stops ([32, 100, 114, 111, 112, 32, 120, 41, 32, 99, 97, 116] ++ (32 :: (numT k ++ [32, 116, 97, 107, 101, 32, 120]))) from s32 _), lexC_then (l := [32, 100, 114, 111, 112, 32, 120, 41, 32, 99, 97, 116]) (x := [⟨1, 0, [100, 114, 111, 112], 0⟩, xT, closeT, ⟨1, 0, [99, 97, 116], 0⟩]) (by kernel_rfl) _ (s32 _) (.inr (by decide)), lexC_blank 32 _ (.inl rfl), lexC_num k h0 h1 _ (show Stops [32, 116, 97, 107, 101, 32, 120] from s32 _),
  show lexC [32, 116, 97, 107, 101, 32, 120] = .ok [⟨1, 0, [116, 97, 107, 101], 0⟩, xT] from by kernel_rfl]
 rfl
theorem parts_lines (a b : Int) (i : Inp) : linesQ [[yT, colT, openT, numTok a, ⟨1, 0, [116, 97, 107, 101], 0⟩, xT, closeT, ⟨1, 0, [99, 97, 116], 0⟩, numTok a, ⟨1, 0, [100, 114, 111, 112], 0⟩, xT], [outT, openT, numTok b, ⟨1, 0, [100, 114, 111, 112], 0⟩, xT, closeT, ⟨1, 0, [99, 97, 116], 0⟩, numTok b, ⟨1, 0, [116, 97, 107, 101], 0⟩, xT]] ⟨[i], []⟩ 1 false =
  .ok ⟨[i], [⟨[121], 0, [nuI a, xI, dyI 38, nuI a, xI, dyI 39, dyI 40]⟩, ⟨[], 0, [nuI b, xI, dyI 39, nuI b, xI, dyI 38, dyI 40]⟩]⟩ := by kernel_rfl
theorem parts_prog (k : Nat) (hk : k ≤ 65536) (i : Inp) : progOf (partsL k) i = .ok { partsP [] k with inputs := [i] } := by
 have hA : lexC ([121, 58, 32, 40] ++ partA1 k) = .ok [yT, colT, openT, numTok k, ⟨1, 0, [116, 97, 107, 101], 0⟩, xT, closeT, ⟨1, 0, [99, 97, 116], 0⟩, numTok k, ⟨1, 0, [100, 114, 111, 112], 0⟩, xT] := by
  show lexC (121 :: 58 :: 32 :: 40 :: partA1 k) = _
  rw [lexC_y, lexC_A k (by omega) (by omega)]
  rfl
 have hB : lexC ([111, 117, 116, 32, 40] ++ partB1 (-(k : Int))) = .ok [outT, openT, numTok (-(k : Int)), ⟨1, 0, [100, 114, 111, 112], 0⟩, xT, closeT, ⟨1, 0, [99, 97, 116], 0⟩, numTok (-(k : Int)), ⟨1, 0, [116, 97, 107, 101], 0⟩, xT] := by
  show lexC (111 :: 117 :: 116 :: 32 :: 40 :: partB1 (-(k : Int))) = _
  rw [lexC_out, lexC_open, lexC_B (-(k : Int)) (by omega) (by omega)]
  rfl
 have hB2 : linesC ([111, 117, 116, 32, 40] ++ partB1 (-(k : Int))) = .ok [[outT, openT, numTok (-(k : Int)), ⟨1, 0, [100, 114, 111, 112], 0⟩, xT, closeT, ⟨1, 0, [99, 97, 116], 0⟩, numTok (-(k : Int)), ⟨1, 0, [116, 97, 107, 101], 0⟩, xT]] := by
  unfold linesC
  rw [hB]
  rfl
 have hL : linesC (partsL k) = .ok [[yT, colT, openT, numTok k, ⟨1, 0, [116, 97, 107, 101], 0⟩, xT, closeT, ⟨1, 0, [99, 97, 116], 0⟩, numTok k, ⟨1, 0, [100, 114, 111, 112], 0⟩, xT], [outT, openT, numTok (-(k : Int)), ⟨1, 0, [100, 114, 111, 112], 0⟩, xT, closeT, ⟨1, 0, [99, 97, 116], 0⟩, numTok (-(k : Int)), ⟨1, 0, [116, 97, 107, 101], 0⟩, xT]] := by
  unfold partsL
  rw [linesC_line, hA, hB2]
  rfl
 unfold progOf
 rw [hL]
 exact parts_lines k (-(k : Int)) i
theorem partA1_len (k : Int) (h0 : -9223372036854775808 ≤ k) (h1 : k ≤ 9223372036854775807) : (partA1 k).length ≤ 100 ∧ (partB1 k).length ≤ 100 := by
 have h2 := numT_len k h0 h1
 unfold partA1 partB1
 simp only [List.length_append, List.length_cons, List.length_nil]
 omega
theorem parse_parts (s : List Nat) (hs : ∀ n ∈ s, n ≤ 65536) (hl : s.length ≤ 4) (k : Nat) (hk : k ≤ 65536) : bareE Prg.bare (parseL (inL s ++ 10 :: partsL k)) = .ok (partsP s k) := by
 have h1 := partA1_len k (by omega) (by omega)
 have h2 := partA1_len (-(k : Int)) (by omega) (by omega)
 have h3 : (partsL k).length ≤ 10000 := by
  unfold partsL
  simp only [List.length_append, List.length_cons, List.length_nil]
  omega
 rw [parse_in s hs hl _ h3, parts_prog k hk]
 rfl
end
section
open Go Go.RowKit
def fieldsT : List UInt8 := [43, 32, 45, 32, 42, 32, 37, 32, 124, 32, 109, 105, 110, 32, 109, 97, 120, 32, 61, 32, 126, 32, 60, 32, 60, 61, 32, 62, 61, 32, 62, 32, 97, 110, 100, 32, 111, 114, 32, 112, 111, 119, 32, 114, 104, 111, 32, 116, 97, 107, 101, 32, 100, 114, 111, 112, 32, 99, 97, 116, 32, 105, 111, 116, 97, 32, 115, 104, 97, 112, 101, 32, 114, 97, 118, 101, 108, 32, 114, 101, 118, 32, 116, 117, 114, 110]
def fieldsW : List (List UInt8) := Lib.fields fieldsT
/-- What the map holds when these words have been looked at. -/
def textsM (two : Bool) (l : List (List UInt8)) : Lit → Option Value := l.foldl (fun m s => if verbF s two ≠ 0 then putF m (.int .u8 (verbF s two)) (.string (mkS s)) else m) fun _ => none
theorem textsM_snoc (two : Bool) (l : List (List UInt8)) (s : List UInt8) : textsM two (l ++ [s]) = if verbF s two ≠ 0 then putF (textsM two l) (.int .u8 (verbF s two)) (.string (mkS s)) else textsM two l := by
 unfold textsM
 rw [List.foldl_append]
 rfl
/-- A verb's text, and of how many tokens it is. -/
def Vt (how : Int) (f : Nat) (w : List UInt8) (n : Nat) : Prop :=
 w ≠ [] ∧ w.length ≤ 10 ∧ ((how = 3 ∧ textsM false fieldsW (.int .u8 f) = some (.string (mkS w)) ∧ n = 1) ∨ (how = 4 ∧ textsM true fieldsW (.int .u8 f) = some (.string (mkS w)) ∧ n = 1) ∨
  (how = 5 ∧ f ≤ 17 ∧ n = 2 ∧ ∃ v, v ≠ [] ∧ w = v ++ [47] ∧ textsM true fieldsW (.int .u8 f) = some (.string (mkS v))))
structure Pc where
 words : List (List UInt8)
 nest : Nat
 tokens : Nat
 plain : Bool
def Pc.fine (p : Pc) : Prop := p.words ≠ [] ∧ p.words.length ≤ p.tokens ∧ (∀ s ∈ p.words, s.length ≤ 100 + p.tokens) ∧ p.nest ≤ p.tokens
def br1 (l : List (List UInt8)) : List (List UInt8) := l.set 0 (40 :: l.getD 0 [])
def br2 (l : List (List UInt8)) : List (List UInt8) := l.set (l.length - 1) (l.getD (l.length - 1) [] ++ [41])
def bracket (p : Pc) : Pc := if p.plain = true then p else ⟨br2 (br1 p.words), p.nest + 1, p.tokens + 2, false⟩
def monP (w : List UInt8) (n : Nat) (p : Pc) : Pc := ⟨w :: p.words, p.nest, p.tokens + n, false⟩
def dyP (w : List UInt8) (n : Nat) (p l : Pc) : Pc := ⟨l.words ++ (w :: p.words), max p.nest l.nest, p.tokens + n + l.tokens, false⟩
def spelt (k : Int) : List UInt8 := (spellP ⟨2, 0, [], k⟩).1
theorem spelt_len (k : Int) : (spelt k).length ≤ 24 := by
 unfold spelt spellP
 split
 ·split
  ·exact Nat.zero_le _
  ·split
   ·rename_i h _
    exact Nat.le_of_not_lt h
   ·exact Nat.zero_le _
 ·exact Nat.zero_le _
def in64 (k : Int) : Prop := -9223372036854775808 ≤ k ∧ k ≤ 9223372036854775807
/-- What an item does to the stack, the last one on the right. -/
def StS (it : Itm) (st st' : List Pc) : Prop :=
 (it.how = 1 ∧ it.fn = 0 ∧ it.name = [] ∧ ∃ k, in64 k ∧ it.nums = [k] ∧ st' = st ++ [⟨[spelt k], 0, 1, true⟩]) ∨
 (it.how = 2 ∧ it.fn = 0 ∧ it.nums = [] ∧ nameB it.name = true ∧ it.name.length ≤ 100 ∧ st' = st ++ [⟨[it.name], 0, 1, true⟩]) ∨
 (it.nums = [] ∧ it.name = [] ∧ it.how ≠ 4 ∧ ∃ w n p r, Vt it.how it.fn w n ∧ st = r ++ [p] ∧ st' = r ++ [monP w n p]) ∨
 (it.nums = [] ∧ it.name = [] ∧ it.how = 4 ∧ ∃ w n p l r, Vt 4 it.fn w n ∧ st = r ++ [l, p] ∧ st' = r ++ [dyP w n p (bracket l)])
def sumT (l : List Pc) : Nat := (l.map Pc.tokens).sum
theorem sumT_append (l r : List Pc) : sumT (l ++ r) = sumT l + sumT r := by unfold sumT; rw [List.map_append, List.sum_append]
theorem sumT_one (p : Pc) : sumT [p] = p.tokens := by simp [sumT]
theorem sumT_two (p q : Pc) : sumT [p, q] = p.tokens + q.tokens := by simp [sumT]
theorem bracket_tokens (p : Pc) : (bracket p).tokens ≤ p.tokens + 2 := by
 unfold bracket
 split
 ·omega
 ·exact Nat.le_refl _
theorem Vt.two {how : Int} {f : Nat} {w : List UInt8} {n : Nat} (h : Vt how f w n) : 1 ≤ n ∧ n ≤ 2 ∧ (how = 4 → n = 1) := by
 obtain ⟨_, _, ⟨h1, _, rfl⟩ | ⟨_, _, rfl⟩ | ⟨h1, _, rfl, _⟩⟩ := h
 ·exact ⟨by omega, by omega, fun _ => rfl⟩
 ·exact ⟨by omega, by omega, fun _ => rfl⟩
 ·exact ⟨by omega, by omega, fun e => by rw [h1] at e; exact absurd e (by decide)⟩
theorem StS.sum {it : Itm} {st st' : List Pc} (h : StS it st st') : sumT st' ≤ sumT st + 3 ∧ st'.length ≤ st.length + 1 := by
 rcases h with ⟨_, _, _, k, _, _, rfl⟩ | ⟨_, _, _, _, _, rfl⟩ | ⟨_, _, _, w, n, p, r, hv, rfl, rfl⟩ | ⟨_, _, _, w, n, p, l, r, hv, rfl, rfl⟩
 ·rw [sumT_append, sumT_one, List.length_append]
  exact ⟨by show sumT st + 1 ≤ _; omega, Nat.le_refl _⟩
 ·rw [sumT_append, sumT_one, List.length_append]
  exact ⟨by show sumT st + 1 ≤ _; omega, Nat.le_refl _⟩
 ·have := hv.two
  rw [sumT_append, sumT_one, sumT_append, sumT_one, List.length_append, List.length_append]
  exact ⟨by show sumT r + (p.tokens + n) ≤ _; omega, by simp⟩
 ·have h1 := hv.two
  have h2 := bracket_tokens l
  rw [sumT_append, sumT_one, sumT_append, sumT_two, List.length_append, List.length_append]
  exact ⟨by show sumT r + (p.tokens + n + (bracket l).tokens) ≤ _; have := h1.2.2 rfl; omega, by simp⟩
theorem mem_set_or {α : Type} {l : List α} {i : Nat} {x y : α} (h : y ∈ l.set i x) : y ∈ l ∨ y = x := List.mem_or_eq_of_mem_set h
theorem getD_mem {l : List (List UInt8)} {i : Nat} (h : i < l.length) : l.getD i [] ∈ l := by
 rw [List.getD_eq_getElem?_getD, List.getElem?_eq_getElem h]
 exact List.getElem_mem h
theorem bracket_fine {p : Pc} (h : p.fine) : (bracket p).fine := by
 unfold bracket
 split
 ·exact h
 ·obtain ⟨h1, h2, h3, h4⟩ := h
  have hl : 0 < p.words.length := List.length_pos_iff.2 h1
  have l1 : (br1 p.words).length = p.words.length := List.length_set ..
  have l2 : (br2 (br1 p.words)).length = p.words.length := (List.length_set ..).trans l1
  refine ⟨?_, ?_, ?_, by show p.nest + 1 ≤ p.tokens + 2; omega⟩
  ·intro e
   have : (br2 (br1 p.words)).length = 0 := by
    show (Pc.words ⟨br2 (br1 p.words), p.nest + 1, p.tokens + 2, false⟩).length = 0
    rw [e]
    rfl
   omega
  ·show (br2 (br1 p.words)).length ≤ p.tokens + 2
   omega
  ·intro s hs
   have hs : s ∈ br2 (br1 p.words) := hs
   show s.length ≤ 100 + (p.tokens + 2)
   have k1 : ∀ s ∈ br1 p.words, s.length ≤ 100 + (p.tokens + 1) := by
    intro s hs
    rcases mem_set_or hs with h | rfl
    ·have := h3 s h
     omega
    ·have := h3 _ (getD_mem hl)
     rw [List.length_cons]
     omega
   rcases mem_set_or hs with h | rfl
   ·have := k1 s h
    omega
   ·have := k1 _ (getD_mem (l := br1 p.words) (i := (br1 p.words).length - 1) (by omega))
    rw [List.length_append, List.length_singleton]
    omega
theorem monP_fine {w : List UInt8} {n : Nat} {p : Pc} (h : p.fine) (hw : w.length ≤ 10) (hn : 1 ≤ n) : (monP w n p).fine := by
 obtain ⟨h1, h2, h3, h4⟩ := h
 refine ⟨List.cons_ne_nil _ _, ?_, ?_, by show p.nest ≤ p.tokens + n; omega⟩
 ·show p.words.length + 1 ≤ p.tokens + n
  omega
 ·intro s hs
  show s.length ≤ 100 + (p.tokens + n)
  rcases List.mem_cons.1 hs with rfl | h
  ·omega
  ·have := h3 s h
   omega
theorem dyP_fine {w : List UInt8} {n : Nat} {p l : Pc} (h : p.fine) (hl : l.fine) (hw : w.length ≤ 10) (hn : 1 ≤ n) : (dyP w n p l).fine := by
 obtain ⟨h1, h2, h3, h4⟩ := h
 obtain ⟨g1, g2, g3, g4⟩ := hl
 refine ⟨by show l.words ++ (w :: p.words) ≠ []; simp, ?_, ?_, by show max p.nest l.nest ≤ p.tokens + n + l.tokens; omega⟩
 ·show (l.words ++ (w :: p.words)).length ≤ p.tokens + n + l.tokens
  rw [List.length_append, List.length_cons]
  omega
 ·intro s hs
  show s.length ≤ 100 + (p.tokens + n + l.tokens)
  rcases List.mem_append.1 hs with h | h
  ·have := g3 s h
   omega
  ·rcases List.mem_cons.1 h with rfl | h
   ·omega
   ·have := h3 s h
    omega
theorem StS.fine {it : Itm} {st st' : List Pc} (h : StS it st st') (hf : ∀ p ∈ st, p.fine) : ∀ p ∈ st', p.fine := by
 rcases h with ⟨_, _, _, k, hk, _, rfl⟩ | ⟨_, _, _, _, hl, rfl⟩ | ⟨_, _, _, w, n, p, r, hv, rfl, rfl⟩ | ⟨_, _, _, w, n, p, l, r, hv, rfl, rfl⟩
 ·intro q hq
  rcases List.mem_append.1 hq with h | h
  ·exact hf q h
  ·obtain rfl : q = _ := List.mem_singleton.1 h
   refine ⟨List.cons_ne_nil _ _, Nat.le_refl _, fun s hs => ?_, Nat.zero_le _⟩
   obtain rfl : s = _ := List.mem_singleton.1 hs
   have := spelt_len k
   show (spelt k).length ≤ 100 + 1
   omega
 ·intro q hq
  rcases List.mem_append.1 hq with h | h
  ·exact hf q h
  ·obtain rfl : q = _ := List.mem_singleton.1 h
   refine ⟨List.cons_ne_nil _ _, Nat.le_refl _, fun s hs => ?_, Nat.zero_le _⟩
   obtain rfl : s = _ := List.mem_singleton.1 hs
   show it.name.length ≤ 100 + 1
   omega
 ·intro q hq
  rcases List.mem_append.1 hq with h | h
  ·exact hf q (List.mem_append.2 (.inl h))
  ·obtain rfl : q = _ := List.mem_singleton.1 h
   exact monP_fine (hf p (by simp)) hv.2.1 hv.two.1
 ·intro q hq
  rcases List.mem_append.1 hq with h | h
  ·exact hf q (List.mem_append.2 (.inl h))
  ·obtain rfl : q = _ := List.mem_singleton.1 h
   exact dyP_fine (hf p (by simp)) (bracket_fine (hf l (by simp))) hv.2.1 hv.two.1
/-- Items, one by one. -/
def RunS : List Itm → List Pc → List Pc → Prop
 | [], st, st' => st' = st
 | it :: r, st, st' => ∃ s1, StS it st s1 ∧ RunS r s1 st'
theorem RunS_bare : ∀ {l : List Itm} {st st' : List Pc}, RunS (l.map Itm.bare) st st' → RunS l st st'
 | [], _, _, h => h
 | _ :: _, _, _, ⟨s1, h1, h2⟩ => ⟨s1, h1, RunS_bare h2⟩
/-- An expression may be shown, in a line of so many tokens. -/
def ExprOk (l : List Itm) (most : Nat) : Prop := l.length ≤ most ∧ ∃ p, RunS l [] [p] ∧ p.tokens ≤ most ∧ p.nest ≤ 32
theorem ExprOk_bare {l m : List Itm} {most : Nat} (e : l.map Itm.bare = m) (h : ExprOk m most) : ExprOk l most := by
 subst e
 obtain ⟨h1, p, h2, h3⟩ := h
 rw [List.length_map] at h1
 exact ⟨h1, p, RunS_bare h2, h3⟩
end
end Go.Proofs.YtknnleiinhdklaaGreatDoor
