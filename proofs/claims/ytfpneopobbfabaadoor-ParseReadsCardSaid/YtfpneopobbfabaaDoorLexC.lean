/-
  Walk of package lex: token. Condition: the text is not empty, and has at most 65536 bytes; strconv.ErrRange holds an error.
-/
import Derived.Test.YtfpneopobbfabaaDoorLexB
import Derived.WalkSmall
namespace Go.Proofs.YtfpneopobbfabaaDoor
open Go.RowKit Go.Shelf

def Tok.val (t : Tok) : Value := .agg #[.int .i64 t.kind, .int .i64 t.at_, .string (mkS t.word), .int .i64 t.n]
theorem bcell {W w1 : World} (hb : Below W.heap.size W w1) : (∀ b o, b < W.heap.size → w1.cell? ⟨b, o, none⟩ = W.cell? ⟨b, o, none⟩) ∧ (∀ b o, b < W.heap.size → w1.frozen? ⟨b, o, none⟩ = W.frozen? ⟨b, o, none⟩) :=
  ⟨fun b o h => hb.cell (p := ⟨b, o, none⟩) h, fun b o h => hb.frozen (p := ⟨b, o, none⟩) h⟩
theorem below_set {B : Nat} {w w1 : World} (h : Below B w w1) {b o : Nat} (hb : B ≤ b) (v : Value) : Below B w (w1.setCell ⟨b, o, none⟩ v) := h.setCell (p := ⟨b, o, none⟩) hb v
theorem ErrIs.below {B : Nat} {w w' : World} (h : ErrIs w) (hb : Below B w w') (hB : 1 < B) : ErrIs w' := by
  obtain ⟨tp, p, hv⟩ := h
  exact ⟨tp, p, var?_below hb (by kernel_rfl) hB hv⟩
theorem ErrIs.lt {w : World} (h : ErrIs w) : 1 < w.heap.size := by
  obtain ⟨tp, p, hv⟩ := h
  have hg : Tryd.prog.globalNamed "strconv.ErrRange" = some 1 := by kernel_rfl
  rcases Nat.lt_or_ge 1 w.heap.size with hlt | hge
  · exact hlt
  · simp [World.var?, hg, Array.getElem?_eq_none hge] at hv
theorem ErrIs.kept {w w' : World} (h : ErrIs w) (hb : Below w.heap.size w w') : ErrIs w' := h.below hb h.lt
set_option maxHeartbeats 400000 in
theorem token_any (s : ByteArray) (w : World) (h0 : 0 < s.size) (hs : s.size ≤ 65536) (hE : ErrIs w) :
    Calls Tryd.prog 38 #[.string s] w fun e w' => e = .returned (.tuple #[(tokL s.data.toList).1.val, .int .i64 (tokL s.data.toList).2.1, .int .i64 (tokL s.data.toList).2.2]) ∧ Below w.heap.size w w' := by
  have hd := head_get s h0
  by_cases h10 : s[0] = 10
  · have hb : (((s[0]).toNat : Int) == 10) = true := by rw [h10]; rfl
    have hT : tokL s.data.toList = (⟨4, 0, [], 0⟩, 1, 0) := by rw [tokL, if_pos (by rw [hd, h10])]
    rw [hT]
    clear hT hd h10
    go_enter Tryd.func38, Tryd.ntmps38
    go_wp2
    exact bodyPost_ret (v := .tuple #[.agg #[.int .i64 4, .int .i64 0, .string ⟨#[]⟩, .int .i64 0], .int .i64 1, .int .i64 0]) (by simp [results, Tryd.results38, go_sem]) rfl ⟨rfl, (Below.refl _ _).alloc (Nat.le_refl _) _⟩
  · have hb : (((s[0]).toNat : Int) == 10) = false := byte_ne _ 10 h10
    have hT : tokL s.data.toList = if letterB s[0] then
        if 16 < runL alnumB s.data.toList then (Tok.none, 0, 33) else (⟨1, 0, s.data.toList.take (runL alnumB s.data.toList), 0⟩, runL alnumB s.data.toList, 0)
      else if 0 < (numL s.data.toList).2.1 ∨ (numL s.data.toList).2.2 ≠ 0 then (⟨2, 0, [], (numL s.data.toList).1⟩, (numL s.data.toList).2.1, (numL s.data.toList).2.2)
      else if signL s.data.toList = 0 then (Tok.none, 0, 31)
      else (⟨3, 0, s.data.toList.take (signL s.data.toList), 0⟩, signL s.data.toList, 0) := by rw [tokL, if_neg (by rw [hd]; exact h10), hd]
    rw [hT]
    clear hT hd h10
    cases hl : letterB s[0]
    · have HL := Lib.hid hl
      clear hl
      rw [if_neg (by simp)]
      have hnum := number_any s
      have hsg := sign_any s
      have hx := fun n => extract_mkS s 0 n
      have hsl := signL_le s.data.toList (by intro h; rw [size_list, h] at h0; simp at h0)
      rw [← size_list] at hsl
      have HX := Lib.hid hx
      have HN := Lib.hid hnum
      have HS := Lib.hid hsg
      clear hnum hsg hx
      generalize s.data.toList = l at *
      generalize numL l = r at *
      obtain ⟨v, n, er⟩ := r
      generalize signL l = q at *
      dsimp only at HN ⊢
      by_cases hn : 0 < n
      · rw [if_pos (.inl hn)]
        go_enter Tryd.func38, Tryd.ntmps38
        go_wp2_with fail
        refine (letter_any _ _).mono ?_
        rintro e w1 ⟨rfl, rfl⟩
        rw [HL.out]
        go_wp2_with fail
        refine (HN.out _ h0 hs (hE.kept ((Below.refl _ _).alloc (Nat.le_refl _) _))).mono ?_
        rintro e w1 ⟨rfl, hb1⟩
        have hw1 := ((Below.refl _ _).alloc (Nat.le_refl _) _).trans (hb1.mono (by simp))
        obtain ⟨hc, hf⟩ := bcell hb1
        clear hb1
        have HW := Lib.hid hw1
        clear hw1
        go_wp2
        refine bodyPost_ret (v := .tuple #[.agg #[.int .i64 2, .int .i64 0, .string ⟨#[]⟩, .int .i64 v], .int .i64 n, .int .i64 er]) (by simp [results, Tryd.results38, go_sem, hc]) rfl ⟨?_, ?_⟩
        · rfl
        · repeat (first | exact HW.out | refine below_set ?_ (Nat.le_refl _) _)
      · obtain rfl : n = 0 := by omega
        by_cases he : er = 0
        · subst he
          rw [if_neg (by simp)]
          by_cases hq : q = 0
          · rw [if_pos hq]
            have hq' : ((q : Int) == 0) = true := by subst hq; rfl
            clear hq
            go_enter Tryd.func38, Tryd.ntmps38
            go_wp2_with fail
            refine (letter_any _ _).mono ?_
            rintro e w1 ⟨rfl, rfl⟩
            rw [HL.out]
            go_wp2_with fail
            refine (HN.out _ h0 hs (hE.kept ((Below.refl _ _).alloc (Nat.le_refl _) _))).mono ?_
            rintro e w1 ⟨rfl, hb1⟩
            have hw1 := ((Below.refl _ _).alloc (Nat.le_refl _) _).trans (hb1.mono (by simp))
            obtain ⟨hc, hf⟩ := bcell hb1
            clear hb1
            have HW := Lib.hid hw1
            clear hw1
            go_wp2_with fail
            refine (HS.out _ h0).mono ?_
            rintro e w2 ⟨rfl, rfl⟩
            go_wp2
            refine bodyPost_ret (v := .tuple #[.agg #[.int .i64 0, .int .i64 0, .string ⟨#[]⟩, .int .i64 0], .int .i64 0, .int .i64 31]) (by simp [results, Tryd.results38, go_sem, hc]) rfl ⟨?_, ?_⟩
            · rfl
            · repeat (first | exact HW.out | refine below_set ?_ (Nat.le_refl _) _)
          · rw [if_neg hq]
            have hq' : ((q : Int) == 0) = false := by rw [beq_eq_false_iff_ne]; omega
            clear hq
            go_enter Tryd.func38, Tryd.ntmps38
            go_wp2_with fail
            refine (letter_any _ _).mono ?_
            rintro e w1 ⟨rfl, rfl⟩
            rw [HL.out]
            go_wp2_with fail
            refine (HN.out _ h0 hs (hE.kept ((Below.refl _ _).alloc (Nat.le_refl _) _))).mono ?_
            rintro e w1 ⟨rfl, hb1⟩
            have hw1 := ((Below.refl _ _).alloc (Nat.le_refl _) _).trans (hb1.mono (by simp))
            obtain ⟨hc, hf⟩ := bcell hb1
            clear hb1
            have HW := Lib.hid hw1
            clear hw1
            go_wp2_with fail
            refine (HS.out _ h0).mono ?_
            rintro e w2 ⟨rfl, rfl⟩
            go_wp2
            refine bodyPost_ret (v := .tuple #[.agg #[.int .i64 3, .int .i64 0, .string (s.extract 0 q), .int .i64 0], .int .i64 q, .int .i64 0]) (by simp [results, Tryd.results38, go_sem, hc]) rfl ⟨?_, ?_⟩
            · rw [HX.out]; rfl
            · repeat (first | exact HW.out | refine below_set ?_ (Nat.le_refl _) _)
        · rw [if_pos (.inr he)]
          have he' : ((er : Int) != 0) = true := by rw [bne_iff_ne]; omega
          clear he
          go_enter Tryd.func38, Tryd.ntmps38
          go_wp2_with fail
          refine (letter_any _ _).mono ?_
          rintro e w1 ⟨rfl, rfl⟩
          rw [HL.out]
          go_wp2_with fail
          refine (HN.out _ h0 hs (hE.kept ((Below.refl _ _).alloc (Nat.le_refl _) _))).mono ?_
          rintro e w1 ⟨rfl, hb1⟩
          have hw1 := ((Below.refl _ _).alloc (Nat.le_refl _) _).trans (hb1.mono (by simp))
          obtain ⟨hc, hf⟩ := bcell hb1
          clear hb1
          have HW := Lib.hid hw1
          clear hw1
          go_wp2
          refine bodyPost_ret (v := .tuple #[.agg #[.int .i64 2, .int .i64 0, .string ⟨#[]⟩, .int .i64 v], .int .i64 0, .int .i64 er]) (by simp [results, Tryd.results38, go_sem, hc]) rfl ⟨?_, ?_⟩
          · rfl
          · repeat (first | exact HW.out | refine below_set ?_ (Nat.le_refl _) _)
    · have HL := Lib.hid hl
      clear hl
      rw [if_pos rfl]
      have hle := runL_le alnumB s.data.toList
      rw [← size_list] at hle
      have hr := run_letter s
      have hx := fun n => extract_mkS s 0 n
      have HX := Lib.hid hx
      have HR := Lib.hid hr
      clear hr hx
      generalize s.data.toList = l at *
      generalize runL alnumB l = n at *
      by_cases h16 : 16 < n
      · rw [if_pos h16]
        go_enter Tryd.func38, Tryd.ntmps38
        go_wp2_with fail
        refine (letter_any _ _).mono ?_
        rintro e w1 ⟨rfl, rfl⟩
        rw [HL.out]
        go_wp2_with fail
        refine (HR.out _ (by unfold maxLen; omega)).mono ?_
        rintro e w1 ⟨rfl, rfl⟩
        go_wp2
        exact bodyPost_ret (v := .tuple #[.agg #[.int .i64 0, .int .i64 0, .string ⟨#[]⟩, .int .i64 0], .int .i64 0, .int .i64 33]) (by simp [results, Tryd.results38, go_sem]) rfl ⟨rfl, (Below.refl _ _).alloc (Nat.le_refl _) _⟩
      · rw [if_neg h16]
        go_enter Tryd.func38, Tryd.ntmps38
        go_wp2_with fail
        refine (letter_any _ _).mono ?_
        rintro e w1 ⟨rfl, rfl⟩
        rw [HL.out]
        go_wp2_with fail
        refine (HR.out _ (by unfold maxLen; omega)).mono ?_
        rintro e w1 ⟨rfl, rfl⟩
        go_wp2
        refine bodyPost_ret (v := .tuple #[.agg #[.int .i64 1, .int .i64 0, .string (s.extract 0 n), .int .i64 0], .int .i64 n, .int .i64 0]) (by simp [results, Tryd.results38, go_sem]) rfl ⟨?_, (Below.refl _ _).alloc (Nat.le_refl _) _⟩
        rw [HX.out]
        rfl
end Go.Proofs.YtfpneopobbfabaaDoor
