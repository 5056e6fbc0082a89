/-
  Walk of package lex: token. Condition: the text is not empty, and has at most 65536 bytes; strconv.ErrRange holds an error.   Walk of package lex: Lex. Condition: strconv.ErrRange holds an error.   Plain Lean, no program: faults, and tokens' texts. No condition.
-/
import Derived.WalkSmall
import Derived.Lib.ItoaNum
import Derived.Lib.SpaceU
import Derived.Lib.IndexMore
import Derived.Lib.Replace
import Derived.Test.YtknnleiinhdklaaGreatDoorPk01
import Derived.Test.YtknnleiinhdklaaGreatDoorPk02
namespace Go.Proofs.YtknnleiinhdklaaGreatDoor
section
open Go.RowKit Go.Shelf
def Tok.val (t : Tok) : Value := .agg #[.int .i64 t.kind, .int .i64 t.at_, .string (mkS t.word), .int .i64 t.n]
theorem bcell {W w1 : World} (hb : Below W.heap.size W w1) : (∀ b o, b < W.heap.size → w1.cell? ⟨b, o, none⟩ = W.cell? ⟨b, o, none⟩) ∧ (∀ b o, b < W.heap.size → w1.frozen? ⟨b, o, none⟩ = W.frozen? ⟨b, o, none⟩) :=
 ⟨fun b o h => hb.cell (p := ⟨b, o, none⟩) h, fun b o h => hb.frozen (p := ⟨b, o, none⟩) h⟩
theorem below_set {B : Nat} {w w1 : World} (h : Below B w w1) {b o : Nat} (hb : B ≤ b) (v : Value) : Below B w (w1.setCell ⟨b, o, none⟩ v) := h.setCell (p := ⟨b, o, none⟩) hb v
theorem ErrIs.below {B : Nat} {w w' : World} (h : ErrIs w) (hb : Below B w w') (hB : 2 < B) : ErrIs w' := by
 obtain ⟨tp, p, hv⟩ := h
 exact ⟨tp, p, var?_below hb (by kernel_rfl) hB hv⟩
theorem ErrIs.lt {w : World} (h : ErrIs w) : 2 < w.heap.size := by
 obtain ⟨tp, p, hv⟩ := h
 have hg : Tryz.prog.globalNamed "strconv.ErrRange" = some 2 := by kernel_rfl
 rcases Nat.lt_or_ge 2 w.heap.size with hlt | hge
 ·exact hlt
 ·simp [World.var?, hg, Array.getElem?_eq_none hge] at hv
theorem ErrIs.kept {w w' : World} (h : ErrIs w) (hb : Below w.heap.size w w') : ErrIs w' := h.below hb h.lt
set_option maxHeartbeats 400000 in
theorem token_any (s : ByteArray) (w : World) (h0 : 0 < s.size) (hs : s.size ≤ 65536) (hE : ErrIs w) :
  Calls Tryz.prog 26 #[.string s] w fun e w' => e = .returned (.tuple #[(tokL s.data.toList).1.val, .int .i64 (tokL s.data.toList).2.1, .int .i64 (tokL s.data.toList).2.2]) ∧ Below w.heap.size w w' := by
 have hd := head_get s h0
 by_cases h10 : s[0] = 10
 ·have hb : (((s[0]).toNat : Int) == 10) = true := by rw [h10]; rfl
  have hT : tokL s.data.toList = (⟨4, 0, [], 0⟩, 1, 0) := by rw [tokL, if_pos (by rw [hd, h10])]
  rw [hT]
  clear hT hd h10
  go_enter Tryz.func26, Tryz.ntmps26
  go_wp2
  exact bodyPost_ret (v := .tuple #[.agg #[.int .i64 4, .int .i64 0, .string ⟨#[]⟩, .int .i64 0], .int .i64 1, .int .i64 0]) (by simp [results, Tryz.results26, go_sem]) rfl ⟨rfl, (Below.refl _ _).alloc (Nat.le_refl _) _⟩
 ·have hb : (((s[0]).toNat : Int) == 10) = false := byte_ne _ 10 h10
  have hT : tokL s.data.toList = if letterB s[0] then
    if 16 < runL alnumB s.data.toList then (Tok.none, 0, 33) else (⟨1, 0, s.data.toList.take (runL alnumB s.data.toList), 0⟩, runL alnumB s.data.toList, 0)
   else if 0 < (numL s.data.toList).2.1 ∨ (numL s.data.toList).2.2 ≠ 0 then (⟨2, 0, [], (numL s.data.toList).1⟩, (numL s.data.toList).2.1, (numL s.data.toList).2.2)
   else if signL s.data.toList = 0 then (Tok.none, 0, 31)
   else (⟨3, 0, s.data.toList.take (signL s.data.toList), 0⟩, signL s.data.toList, 0) := by rw [tokL, if_neg (by rw [hd]; exact h10), hd]
  rw [hT]
  clear hT hd h10
  cases hl : letterB s[0]
  ·have HL := Lib.hid hl
   clear hl
   rw [if_neg (by simp)]
   have hnum := number_any s
   have hsg := sign_any s
   have hx := fun n => extract_mkS s 0 n
   have hsl := signL_le s.data.toList (by intro h; rw [size_list, h] at h0; simp at h0)
   rw [← size_list] at hsl
   have HX := Lib.hid hx
   have HN := Lib.hid hnum
   have HS := Lib.hid hsg
   clear hnum hsg hx
   generalize s.data.toList = l at *
   generalize numL l = r at *
   obtain ⟨v, n, er⟩ := r
   generalize signL l = q at *
   dsimp only at HN ⊢
   by_cases hn : 0 < n
   ·rw [if_pos (.inl hn)]
    go_enter Tryz.func26, Tryz.ntmps26
    go_wp2_with fail
    refine (letter_any _ _).mono ?_
    rintro e w1 ⟨rfl, rfl⟩
    rw [HL.out]
    go_wp2_with fail
    refine (HN.out _ h0 hs (hE.kept ((Below.refl _ _).alloc (Nat.le_refl _) _))).mono ?_
    rintro e w1 ⟨rfl, hb1⟩
    have hw1 := ((Below.refl _ _).alloc (Nat.le_refl _) _).trans (hb1.mono (by simp))
    obtain ⟨hc, hf⟩ := bcell hb1
    clear hb1
    have HW := Lib.hid hw1
    clear hw1
    go_wp2
    refine bodyPost_ret (v := .tuple #[.agg #[.int .i64 2, .int .i64 0, .string ⟨#[]⟩, .int .i64 v], .int .i64 n, .int .i64 er]) (by simp [results, Tryz.results26, go_sem, hc]) rfl ⟨?_, ?_⟩
    ·rfl
    ·repeat (first | exact HW.out | refine below_set ?_ (Nat.le_refl _) _)
   ·obtain rfl : n = 0 := by omega
    by_cases he : er = 0
    ·subst he
     rw [if_neg (by simp)]
     by_cases hq : q = 0
     ·rw [if_pos hq]
      have hq' : ((q : Int) == 0) = true := by subst hq; rfl
      clear hq
      go_enter Tryz.func26, Tryz.ntmps26
      go_wp2_with fail
      refine (letter_any _ _).mono ?_
      rintro e w1 ⟨rfl, rfl⟩
      rw [HL.out]
      go_wp2_with fail
      refine (HN.out _ h0 hs (hE.kept ((Below.refl _ _).alloc (Nat.le_refl _) _))).mono ?_
      rintro e w1 ⟨rfl, hb1⟩
      have hw1 := ((Below.refl _ _).alloc (Nat.le_refl _) _).trans (hb1.mono (by simp))
      obtain ⟨hc, hf⟩ := bcell hb1
      clear hb1
      have HW := Lib.hid hw1
      clear hw1
      go_wp2_with fail
      refine (HS.out _ h0).mono ?_
      rintro e w2 ⟨rfl, rfl⟩
      go_wp2
      refine bodyPost_ret (v := .tuple #[.agg #[.int .i64 0, .int .i64 0, .string ⟨#[]⟩, .int .i64 0], .int .i64 0, .int .i64 31]) (by simp [results, Tryz.results26, go_sem, hc]) rfl ⟨?_, ?_⟩
      ·rfl
      ·repeat (first | exact HW.out | refine below_set ?_ (Nat.le_refl _) _)
     ·rw [if_neg hq]
      have hq' : ((q : Int) == 0) = false := by rw [beq_eq_false_iff_ne]; omega
      clear hq
      go_enter Tryz.func26, Tryz.ntmps26
      go_wp2_with fail
      refine (letter_any _ _).mono ?_
      rintro e w1 ⟨rfl, rfl⟩
      rw [HL.out]
      go_wp2_with fail
      refine (HN.out _ h0 hs (hE.kept ((Below.refl _ _).alloc (Nat.le_refl _) _))).mono ?_
      rintro e w1 ⟨rfl, hb1⟩
      have hw1 := ((Below.refl _ _).alloc (Nat.le_refl _) _).trans (hb1.mono (by simp))
      obtain ⟨hc, hf⟩ := bcell hb1
      clear hb1
      have HW := Lib.hid hw1
      clear hw1
      go_wp2_with fail
      refine (HS.out _ h0).mono ?_
      rintro e w2 ⟨rfl, rfl⟩
      go_wp2
      refine bodyPost_ret (v := .tuple #[.agg #[.int .i64 3, .int .i64 0, .string (s.extract 0 q), .int .i64 0], .int .i64 q, .int .i64 0]) (by simp [results, Tryz.results26, go_sem, hc]) rfl ⟨?_, ?_⟩
      ·rw [HX.out]; rfl
      ·repeat (first | exact HW.out | refine below_set ?_ (Nat.le_refl _) _)
    ·rw [if_pos (.inr he)]
     have he' : ((er : Int) != 0) = true := by rw [bne_iff_ne]; omega
     clear he
     go_enter Tryz.func26, Tryz.ntmps26
     go_wp2_with fail
     refine (letter_any _ _).mono ?_
     rintro e w1 ⟨rfl, rfl⟩
     rw [HL.out]
     go_wp2_with fail
     refine (HN.out _ h0 hs (hE.kept ((Below.refl _ _).alloc (Nat.le_refl _) _))).mono ?_
     rintro e w1 ⟨rfl, hb1⟩
     have hw1 := ((Below.refl _ _).alloc (Nat.le_refl _) _).trans (hb1.mono (by simp))
     obtain ⟨hc, hf⟩ := bcell hb1
     clear hb1
     have HW := Lib.hid hw1
     clear hw1
     go_wp2
     refine bodyPost_ret (v := .tuple #[.agg #[.int .i64 2, .int .i64 0, .string ⟨#[]⟩, .int .i64 v], .int .i64 0, .int .i64 er]) (by simp [results, Tryz.results26, go_sem, hc]) rfl ⟨?_, ?_⟩
     ·rfl
     ·repeat (first | exact HW.out | refine below_set ?_ (Nat.le_refl _) _)
  ·have HL := Lib.hid hl
   clear hl
   rw [if_pos rfl]
   have hle := runL_le alnumB s.data.toList
   rw [← size_list] at hle
   have hr := run_letter s
   have hx := fun n => extract_mkS s 0 n
   have HX := Lib.hid hx
   have HR := Lib.hid hr
   clear hr hx
   generalize s.data.toList = l at *
   generalize runL alnumB l = n at *
   by_cases h16 : 16 < n
   ·rw [if_pos h16]
    go_enter Tryz.func26, Tryz.ntmps26
    go_wp2_with fail
    refine (letter_any _ _).mono ?_
    rintro e w1 ⟨rfl, rfl⟩
    rw [HL.out]
    go_wp2_with fail
    refine (HR.out _ (by unfold maxLen; omega)).mono ?_
    rintro e w1 ⟨rfl, rfl⟩
    go_wp2
    exact bodyPost_ret (v := .tuple #[.agg #[.int .i64 0, .int .i64 0, .string ⟨#[]⟩, .int .i64 0], .int .i64 0, .int .i64 33]) (by simp [results, Tryz.results26, go_sem]) rfl ⟨rfl, (Below.refl _ _).alloc (Nat.le_refl _) _⟩
   ·rw [if_neg h16]
    go_enter Tryz.func26, Tryz.ntmps26
    go_wp2_with fail
    refine (letter_any _ _).mono ?_
    rintro e w1 ⟨rfl, rfl⟩
    rw [HL.out]
    go_wp2_with fail
    refine (HR.out _ (by unfold maxLen; omega)).mono ?_
    rintro e w1 ⟨rfl, rfl⟩
    go_wp2
    refine bodyPost_ret (v := .tuple #[.agg #[.int .i64 1, .int .i64 0, .string (s.extract 0 n), .int .i64 0], .int .i64 n, .int .i64 0]) (by simp [results, Tryz.results26, go_sem]) rfl ⟨?_, (Below.refl _ _).alloc (Nat.le_refl _) _⟩
    rw [HX.out]
    rfl
end
section
open Go.RowKit Go.Shelf
def Tok.cells (t : Tok) : List Value := [.int .i64 t.kind, .int .i64 t.at_, .string (mkS t.word), .int .i64 t.n]
def tokCells (l : List Tok) : List Value := l.flatMap Tok.cells
theorem Tryz.infoTok : (Tryz.prog.info? 60).map (fun i => (i.zero, i.size, i.bytes)) = some (some (.agg #[.int .i64 0, .int .i64 0, .string ⟨#[]⟩, .int .i64 0]), 4, 40) := by kernel_rfl
/-- What lex.Lex gives: the tokens, in new memory, and no fault; or nothing and the fault. -/
def LexPost (l : List UInt8) (w : World) (e : Ending) (w' : World) : Prop :=
 (∃ v toks, lexL l = .ok toks ∧ e = .returned (.tuple #[v, .agg #[.int .i64 0, .int .i64 0]]) ∧ w'.ownsRow w.heap.size 60 4 v toks.length (tokCells toks) ∧ Below w.heap.size w w') ∨
 (∃ k c : Nat, lexL l = .error (k, c) ∧ e = .returned (.tuple #[.slice none 0 0, .agg #[.int .i64 k, .int .i64 c]]) ∧ Below w.heap.size w w')
theorem own_below {w w' : World} {base e size n : Nat} {v : Value} {xs : List Value} (h : w.ownsRow base e size v n xs) (hb : Below w.heap.size w w') : w'.ownsRow base e size v n xs :=
 h.kept (row := none) ⟨hb.os, hb.tape, hb.output, hb.size, fun k hk _ => hb.block k hk⟩ (by cases v.ownBlock <;> simp)
theorem own_base {w : World} {base base' e size n : Nat} {v : Value} {xs : List Value} (h : w.ownsRow base e size v n xs) (hb : base' ≤ base) : w.ownsRow base' e size v n xs := by
 refine ⟨h.1, ?_⟩
 rcases h.2 with h0 | ⟨g, cap, cur, hv, hg, rest⟩
 ·exact .inl h0
 ·exact .inr ⟨g, cap, cur, hv, Nat.le_trans hb hg, rest⟩
theorem two_cells {w : World} {b : Nat} {x y : Value} {t : TypeId} (h : w.heap[b]? = some (.cells #[x, y] t (0, 0))) :
  w.cell? ⟨b, 0, none⟩ = some x ∧ w.cell? ⟨b, 1, none⟩ = some y ∧ w.frozen? ⟨b, 0, none⟩ = false ∧ w.frozen? ⟨b, 1, none⟩ = false := by
 simp [World.cell?, World.frozen?, h]
theorem cells4 (w : World) (a b c d : Value) (t : TypeId) {g : Nat} (hg : g = w.heap.size) : ∀ (j : Nat) (u : Value), [a, b, c, d][j]? = some u → (w.alloc (.cells #[a, b, c, d] t)).cell? ((⟨g, 0, none⟩ : Addr).add j) = some u := by
 subst hg
 intro j u hj
 match j, hj with
 | 0, hj => simp at hj; subst hj; simp [Addr.add]
 | 1, hj => simp at hj; subst hj; simp [Addr.add]
 | 2, hj => simp at hj; subst hj; simp [Addr.add]
 | 3, hj => simp at hj; subst hj; simp [Addr.add]
 | j + 4, hj => simp at hj
theorem tokCells_append (l : List Tok) (t : Tok) : tokCells (l ++ [t]) = tokCells l ++ t.cells := by simp [tokCells]
theorem byte_eq (b c : UInt8) (h : (b.toNat : Int) = (c.toNat : Int)) : b = c := UInt8.toNat_inj.1 (by omega)
theorem extract_head (s : ByteArray) (k : Nat) (hk : k < s.data.toList.length) (h : 0 < (s.extract k s.size).size) : (s.extract k s.size)[0]'h = s.data.toList[k] := by
 have hdr : (s.extract k s.size).data.toList = s.data.toList.drop k := by rw [extract_mkS, mkS_toList, size_list, List.take_length]
 rw [get_list _ 0 h, List.getElem_of_eq hdr, List.getElem_drop]
 rfl
set_option maxRecDepth 100000 in
set_option maxHeartbeats 4000000 in
theorem Lex_any (s : ByteArray) (w : World) (hs : s.size ≤ maxLen) (hE : ErrIs w) :
  Calls Tryz.prog 19 #[.string s] w (LexPost s.data.toList w) := by
 unfold maxLen at hs
 obtain ⟨i0, hi, hz0, hz1, hz2⟩ := info_parts Tryz.infoTok
 by_cases hbig : 65536 < s.size
 ·go_enter Tryz.func19, Tryz.ntmps19
  go_wp2
  go_step3
  go_wp2
  rw [Exit.noGoto_ret]
  refine bodyPost_ret (v := .tuple #[.slice none 0 0, .agg #[.int .i64 0, .int .i64 30]]) (by simp [results, Tryz.results19, go_sem]) rfl ?_
  exact Or.inr ⟨0, 30, by rw [lexL, ← size_list, if_pos hbig], rfl, (Below.refl _ _).alloc (Nat.le_refl _) _⟩
 ·go_enter Tryz.func19, Tryz.ntmps19
  go_wp2
  go_step3
  go_wp2
  go_step3
  go_wp2
  go_outline
  go_loopw [4, 5] (fun v i wr => ∃ (k : Nat) (acc : List Tok), k ≤ s.size ∧ acc.length ≤ k ∧ i = .int .i64 k ∧ wr.ownsRow (w.heap.size + 1) 60 4 v acc.length (tokCells acc) ∧ Below w.heap.size w wr ∧
    wr.heap[w.heap.size]? = some (.cells #[.int .i64 0, .int .i64 0] 44 (0, 0)) ∧ Rest s.data.toList k acc)
   (fun _ i _ => s.size - (intOf i).toNat)
  case atStart =>
   refine ⟨0, [], Nat.zero_le _, Nat.le_refl _, rfl, World.ownsRow_nil _ _ _ _, (Below.refl _ _).alloc (Nat.le_refl _) _, heap_alloc_new _ _, Rest.start _⟩
  case round =>
   obtain ⟨k, acc, hk, hak, rfl, hown, hbel, hblk, hrest⟩ := hrel
   have HR := Lib.hid hrest
   clear hrest
   by_cases hlt : k < s.size
   ·have hr0 : 0 < (s.extract k s.size).size := by simp; omega
    have hlk : k < s.data.toList.length := hlt
    have hg := extract_head s k hlk hr0
    have hsz : (s.extract k s.size).size = s.size - k := by simp
    have hdr : (s.extract k s.size).data.toList = s.data.toList.drop k := by rw [extract_mkS, mkS_toList, size_list, List.take_length]
    have hrun := run_note (s.extract k s.size)
    have htk := token_any (s.extract k s.size)
    rw [hdr] at hrun htk
    have hrl := runL_le noteB (s.data.toList.drop k)
    rw [List.length_drop, ← size_list] at hrl
    have HG := Lib.hid hg
    have HN := Lib.hid hrun
    have HT := Lib.hid htk
    clear hg hdr hrun htk
    have hEr : ErrIs wr := hE.kept hbel
    by_cases h32 : (((s.extract k s.size)[0]'hr0).toNat : Int) = 32
    ·have hb : ((((s.extract k s.size)[0]'hr0).toNat : Int) == 32) = true := by rw [h32]; rfl
     have hs32 : s.data.toList[k] = 32 := by rw [← HG.out]; exact byte_eq _ 32 h32
     have HS := Lib.hid hs32
     clear hs32 h32
     go_wp2
     go_roundw
     case rel => exact ⟨k + 1, acc, by omega, by omega, by go_num, hown, hbel, hblk, HR.out.blank hlk (.inl HS.out)⟩
     case measure => simp [intOf]; omega
    ·have hb : ((((s.extract k s.size)[0]'hr0).toNat : Int) == 32) = false := by rw [beq_eq_false_iff_ne]; exact h32
     by_cases h9 : (((s.extract k s.size)[0]'hr0).toNat : Int) = 9
     ·have hb9 : ((((s.extract k s.size)[0]'hr0).toNat : Int) == 9) = true := by rw [h9]; rfl
      have hs9 : s.data.toList[k] = 9 := by rw [← HG.out]; exact byte_eq _ 9 h9
      have HS := Lib.hid hs9
      clear hs9 h9 h32
      go_wp2
      go_roundw
      case rel => exact ⟨k + 1, acc, by omega, by omega, by go_num, hown, hbel, hblk, HR.out.blank hlk (.inr HS.out)⟩
      case measure => simp [intOf]; omega
     ·have hb9 : ((((s.extract k s.size)[0]'hr0).toNat : Int) == 9) = false := by rw [beq_eq_false_iff_ne]; exact h9
      have hs1 : Hid (¬ (s.data.toList[k] = 32 ∨ s.data.toList[k] = 9)) := by
       apply Lib.hid
       rw [← HG.out]
       rintro (h | h)
       ·exact h32 (by rw [h]; rfl)
       ·exact h9 (by rw [h]; rfl)
      clear h32 h9
      by_cases h35 : (((s.extract k s.size)[0]'hr0).toNat : Int) = 35
      ·have hb35 : ((((s.extract k s.size)[0]'hr0).toNat : Int) == 35) = true := by rw [h35]; rfl
       have hs35 : s.data.toList[k] = 35 := by rw [← HG.out]; exact byte_eq _ 35 h35
       have hn1 : 1 ≤ runL noteB (s.data.toList.drop k) := by rw [drop_at _ k hlk, runL_cons, hs35]; simp [noteB]
       have HS := Lib.hid (HR.out.note hlk hs35)
       clear hs35 h35
       generalize runL noteB (s.data.toList.drop k) = n at *
       go_wp2_with fail
       refine (HN.out _ (by unfold maxLen; omega)).mono ?_
       rintro e w1 ⟨rfl, rfl⟩
       go_wp2
       go_roundw
       case rel => exact ⟨k + n, acc, by omega, by omega, by go_num, hown, hbel, hblk, HS.out⟩
       case measure => simp [intOf]; omega
      ·have hb35 : ((((s.extract k s.size)[0]'hr0).toNat : Int) == 35) = false := by rw [beq_eq_false_iff_ne]; exact h35
       have hs35 : Hid (s.data.toList[k] ≠ 35) := by
        apply Lib.hid
        rw [← HG.out]
        intro h
        exact h35 (by rw [h]; rfl)
       clear h35
       have hne : s.data.toList.drop k ≠ [] := by rw [drop_at _ k hlk]; simp
       have htl := tokL_len (s.data.toList.drop k) hne
       rw [List.length_drop, ← size_list] at htl
       have hbad := HR.out.bad hlk hs1.out hs35.out
       have htok := HR.out.tok hlk hs1.out hs35.out
       have HL := Lib.hid htl
       have HB := Lib.hid hbad
       have HK := Lib.hid htok
       clear htl hbad htok hne
       generalize tokL (s.data.toList.drop k) = r at *
       obtain ⟨⟨kd, pl, wd, nn⟩, n, er⟩ := r
       unfold Tok.val at HT
       dsimp only at HL HB HK HT
       by_cases he : er = 0
       ·subst he
        obtain ⟨hn1, hn2⟩ := HL.out rfl
        have HK2 := Lib.hid (HK.out rfl)
        clear HB HL HN hrl HK
        go_wp2_with fail
        refine (HT.out _ hr0 (by omega) hEr).mono ?_
        rintro e w1 ⟨rfl, hb1⟩
        have hown1 : w1.ownsRow (w.heap.size + 1) 60 4 u4 acc.length (tokCells acc) := own_below hown hb1
        have hblk1 : w1.heap[w.heap.size]? = some (.cells #[.int .i64 0, .int .i64 0] 44 (0, 0)) := (hb1.block _ (lt_of_block hblk)).trans hblk
        have hbel1 := hbel.trans (hb1.mono hbel.size)
        clear hb1 hown hblk hbel hEr HT
        go_wp2_with (at_builtin; refine wpList_append_own _ rfl (.tmp 53) (.tmp 55) 53 rfl (w.heap.size + 1) 60 i0 (.agg #[.int .i64 0, .int .i64 0, .string ⟨#[]⟩, .int .i64 0]) 4 40 Tryz.underlying53 hi hz0 hz1 hz2 rfl (by decide) _ _ _ rfl ((hown1.alloc _).alloc _) ⟨w1.heap.size + 1, 0, none⟩ 1 1 (Tok.cells ⟨kd, k, wd, nn⟩) rfl rfl ?c1 ?c2 ?c3 ?c4 ?c5 ?_)
        case c1 => exact cells4 _ _ _ _ _ _ (by simp)
        case c2 => intro u hu; simp [Tok.cells] at hu; rcases hu with rfl | rfl | rfl | rfl <;> rfl
        case c3 => unfold maxLen; omega
        case c4 => omega
        case c5 => have := hbel1.size; simp; omega
        intro v' w2 hown2 hg2 _
        have hbel2 : Below w.heap.size w w2 := ((hbel1.alloc hbel1.size _).alloc (by have := hbel1.size; simp; omega) _).grown hg2 (by have := hbel1.size; simp; omega) (fun j hj => by have := (hown1.lt j hj).1; omega)
        have hblk2 : w2.heap[w.heap.size]? = some (.cells #[.int .i64 0, .int .i64 0] 44 (0, 0)) := by
         rw [hg2.block w.heap.size (by have := lt_of_block hblk1; simp; omega) (fun e => by have := (hown1.lt _ e.symm).1; omega)]
         rw [Below.heap_alloc _ _ _ (by have := lt_of_block hblk1; simp; omega), Below.heap_alloc _ _ _ (lt_of_block hblk1)]
         exact hblk1
        clear hg2 hown1 hblk1 hbel1
        go_wp2
        go_roundw
        case rel => exact ⟨k + n, acc ++ [⟨kd, k, wd, nn⟩], by omega, by simp; omega, by go_num, by rw [List.length_append, tokCells_append]; exact hown2, hbel2, hblk2, HK2.out⟩
        case measure => simp [intOf]; omega
       ·have he' : ((er : Int) != 0) = true := by rw [bne_iff_ne]; omega
        have HB2 := Lib.hid (HB.out he)
        clear HK HL HN hrl HB
        go_wp2_with fail
        refine (HT.out _ hr0 (by omega) hEr).mono ?_
        rintro e w1 ⟨rfl, hb1⟩
        have hblk1 : w1.heap[w.heap.size]? = some (.cells #[.int .i64 0, .int .i64 0] 44 (0, 0)) := (hb1.block _ (lt_of_block hblk)).trans hblk
        have hbel1 := hbel.trans (hb1.mono hbel.size)
        clear hb1 hown hblk hbel hEr HT
        have hlb := lt_of_block hblk1
        obtain ⟨hc0, hc1, hf0, hf1⟩ := two_cells hblk1
        go_wp2
        rw [Exit.noGoto_ret]
        refine bodyPost_ret (v := .tuple #[.slice none 0 0, .agg #[.int .i64 k, .int .i64 er]]) (by simp [results, Tryz.results19, go_sem, World.cell?_alloc_lt, hlb, hc0, hc1]) rfl ?_
        refine Or.inr ⟨k, er, by rw [lexL, ← size_list, if_neg hbig]; exact HB2.out, rfl, ?_⟩
        exact (below_set (below_set hbel1 (Nat.le_refl _) _) (Nat.le_refl _) _).alloc (by have := hbel1.size; simp; omega) _
   ·obtain rfl : k = s.size := by omega
    obtain ⟨hc0, hc1, hf0, hf1⟩ := two_cells hblk
    have hlex := HR.out.end_
    have HE := Lib.hid hlex
    clear hlex HR
    go_wp2
    rw [Exit.noGoto_ret]
    refine bodyPost_ret (v := .tuple #[u4, .agg #[.int .i64 0, .int .i64 0]]) (by simp [results, Tryz.results19, go_sem, hc0, hc1]) rfl ?_
    refine Or.inl ⟨u4, acc, by rw [lexL, ← size_list, if_neg hbig]; exact HE.out, rfl, ?_, ?_⟩
    ·exact own_base (ownsRow_setCell_below (ownsRow_setCell_below hown (Nat.lt_succ_self _) _) (Nat.lt_succ_self _) _) (Nat.le_succ _)
    ·exact below_set (below_set hbel (Nat.le_refl _) _) (Nat.le_refl _) _
end
section
open Go
theorem lexAt_bad (f : Nat) : ∀ (j : Nat) (l : List UInt8) (a c : Nat), l.length ≤ f → lexAt j l = .error (a, c) → c ≠ 0 ∧ j ≤ a ∧ a < j + l.length := by
 induction f with
 | zero => intro j l a c hl h; have : l = [] := by cases l <;> simp_all
           subst this; cases h
 | succ f ih =>
  intro j l a c hl h
  cases l with
  | nil => cases h
  | cons b r =>
   rw [lexAt_cons] at h
   have hr : r.length ≤ f := by simpa using hl
   by_cases c1 : b = 32 ∨ b = 9
   ·rw [if_pos c1] at h
    have := ih _ _ _ _ hr h
    simp only [List.length_cons]; omega
   ·rw [if_neg c1] at h
    by_cases c2 : b = 35
    ·have hn : 1 ≤ runL noteB (b :: r) := by subst c2; rw [runL_cons]; simp [noteB]
     have hn2 := runL_le noteB (b :: r)
     rw [if_pos c2] at h
     have := ih _ _ _ _ (by simp only [List.length_drop, List.length_cons]; omega) h
     simp only [List.length_drop, List.length_cons] at *; omega
    ·rw [if_neg c2] at h
     by_cases c3 : (tokL (b :: r)).2.2 ≠ 0
     ·rw [if_pos c3] at h
      injection h with h
      injection h with h1 h2
      simp only [List.length_cons]
      exact ⟨by omega, by omega, by omega⟩
     ·rw [if_neg c3] at h
      have hl2 := tokL_len (b :: r) (by simp) (by simpa using c3)
      cases hx : lexAt (j + (tokL (b :: r)).2.1) ((b :: r).drop (tokL (b :: r)).2.1) with
      | ok v => rw [hx] at h; cases h
      | error e =>
       obtain ⟨a', c'⟩ := e
       rw [hx] at h
       injection h with h
       injection h with h1 h2
       subst h1 h2
       have := ih _ _ _ _ (by simp only [List.length_drop, List.length_cons]; omega) hx
       simp only [List.length_drop, List.length_cons] at *; omega
theorem lexL_bad {l : List UInt8} {a c : Nat} (h : lexL l = .error (a, c)) : c ≠ 0 := by
 unfold lexL at h
 split at h
 ·injection h with h; injection h with h1 h2; omega
 ·exact (lexAt_bad l.length 0 l a c (Nat.le_refl _) h).1
/-- A number's text. -/
def numT (n : Int) : List UInt8 := if n < 0 then 95 :: Lib.decDigits n.natAbs else Lib.decDigits n.toNat
def spellS (t : Tok) : List UInt8 := if t.kind = 2 then numT t.n else if t.kind = 4 then [10] else t.word
/-- A token's text, as the program tells it. -/
def spellP (t : Tok) : List UInt8 × Bool :=
 match lexL (spellS t) with
 | .ok [x] =>
  if 24 < (spellS t).length then ([], false)
  else if x = { t with at_ := 0 } ∧ (Lib.trimSpaceD (spellS t) = spellS t ∨ t.kind = 4) ∧ Lib.contains (spellS t) [35] = false then (spellS t, true)
  else ([], false)
 | _ => ([], false)
theorem digit_of (d : Nat) (h : d < 10) : digitB (UInt8.ofNat (48 + d)) = true := by
 have H : ∀ d : Fin 10, digitB (UInt8.ofNat (48 + d.val)) = true := by decide
 exact H ⟨d, h⟩
theorem decDigits_digits (n : Nat) : ∀ c ∈ Lib.decDigits n, digitB c = true := by
 induction n using Nat.strongRecOn with
 | ind n ih =>
  rw [Lib.decDigits]
  split
  ·rename_i h
   intro c hc
   rw [List.mem_singleton] at hc
   rw [hc]
   exact digit_of n h
  ·intro c hc
   rcases List.mem_append.1 hc with h | h
   ·exact ih (n / 10) (by omega) c h
   ·rw [List.mem_singleton] at h
    rw [h]
    exact digit_of _ (Nat.mod_lt _ (by decide))
theorem decDigits_ne (n : Nat) : Lib.decDigits n ≠ [] := by
 rw [Lib.decDigits]; split <;> simp
theorem spellP_bad {t : Tok} {e : Nat × Nat} (h : lexL (spellS t) = .error e) : spellP t = ([], false) := by unfold spellP; rw [h]
theorem spellP_nil {t : Tok} (h : lexL (spellS t) = .ok []) : spellP t = ([], false) := by unfold spellP; rw [h]
theorem spellP_two {t x y : Tok} {r : List Tok} (h : lexL (spellS t) = .ok (x :: y :: r)) : spellP t = ([], false) := by unfold spellP; rw [h]
theorem spellP_long {t x : Tok} (h : lexL (spellS t) = .ok [x]) (hl : 24 < (spellS t).length) : spellP t = ([], false) := by unfold spellP; rw [h]; exact if_pos hl
theorem spellP_ne {t x : Tok} (h : lexL (spellS t) = .ok [x]) (hx : x ≠ { t with at_ := 0 }) : spellP t = ([], false) := by
 unfold spellP; rw [h]; dsimp only
 split
 ·rfl
 ·rw [if_neg (fun c => hx c.1)]
theorem spellP_trim {t x : Tok} (h : lexL (spellS t) = .ok [x]) (ht : Lib.trimSpaceD (spellS t) ≠ spellS t) (hk : t.kind ≠ 4) : spellP t = ([], false) := by
 unfold spellP; rw [h]; dsimp only
 split
 ·rfl
 ·rw [if_neg (fun c => c.2.1.elim ht hk)]
theorem spellP_hash {t x : Tok} (h : lexL (spellS t) = .ok [x]) (hc : Lib.contains (spellS t) [35] = true) : spellP t = ([], false) := by
 unfold spellP; rw [h]; dsimp only
 split
 ·rfl
 ·rw [if_neg (fun c => by rw [hc] at c; exact Bool.noConfusion c.2.2)]
theorem spellP_ok {t x : Tok} (h : lexL (spellS t) = .ok [x]) (hl : ¬ 24 < (spellS t).length) (hx : x = { t with at_ := 0 }) (ht : Lib.trimSpaceD (spellS t) = spellS t ∨ t.kind = 4) (hc : Lib.contains (spellS t) [35] = false) : spellP t = (spellS t, true) := by
 unfold spellP; rw [h]; dsimp only
 rw [if_neg hl, if_pos ⟨hx, ht, hc⟩]
theorem index_absent (c : UInt8) (l : List UInt8) (h : c ∉ l) : Lib.index l [c] = -1 := by
 induction l with
 | nil => rfl
 | cons b l ih =>
  simp only [List.mem_cons, not_or] at h
  have hp : ([c] : List UInt8).isPrefixOf (b :: l) = false := by simp [List.isPrefixOf, h.1]
  rw [Lib.index, hp, ih h.2]; rfl
theorem no_minus (n : Nat) : (45 : UInt8) ∉ Lib.decDigits n := fun h => by
 have := decDigits_digits n 45 h
 revert this; decide
theorem replace_itoa (n : Int) : Lib.replace (Lib.itoa n) [45] [95] 1 = numT n := by
 unfold Lib.replace
 rw [if_neg (by decide)]
 unfold numT Lib.itoa
 by_cases h : n < 0
 ·rw [if_pos h, if_pos h]
  have hi : Lib.index (45 :: Lib.decDigits n.natAbs) [45] = ((0 : Nat) : Int) := by rw [Lib.index]; simp [List.isPrefixOf]
  have hc : Lib.count (45 :: Lib.decDigits n.natAbs) [45] = 1 := by
   rw [Lib.count_cons_eq, Lib.count_miss (index_absent _ _ (no_minus _))]
  have hr : Lib.replaceNum (45 :: Lib.decDigits n.natAbs) [45] 1 = 1 := by unfold Lib.replaceNum; rw [hc]; rfl
  rw [hr, Lib.replaceK_hit _ _ _ _ _ hi]
  simp [Lib.replaceK]
 ·rw [if_neg h, if_neg h]
  have hi := index_absent 45 _ (no_minus n.toNat)
  cases Lib.replaceNum (Lib.decDigits n.toNat) [45] 1 with
  | zero => rfl
  | succ k => rw [Lib.replaceK, hi]; rfl
end
end Go.Proofs.YtknnleiinhdklaaGreatDoor
