/-
  Walk of package parse: a line's phrase, by cases. Condition: the line lies in memory, its tokens too, there is a token.
-/
import Derived.Test.YtknnleiinhdklaaGreatDoorPk11
namespace Go.Proofs.YtknnleiinhdklaaGreatDoor
open Go.RowKit Go.Shelf Go.Sort
set_option maxHeartbeats 4000000 in
set_option maxRecDepth 100000 in
theorem phrase_plain_false (B L : Nat) (vt : Value) (toks : List Tok) (k : Nat) (e : Int) (t : Tok) (w : World) (hA : At w B L vt toks k e) (ht : toks[k]? = some t) (hop : isOp (peekT toks (k + 1)) = false) :
  Calls Tryz.prog 53 #[.pointer (some ⟨L, 0, none⟩), .bool false] w (PhrasePost B L vt toks e (phraseP false t (toks.drop (k + 1))) w) := by
 have HP1 := Lib.hid (fun wx (hb : Below w.heap.size w wx) => peek_any L vt toks k e wx (hA.line.below hb) (hA.below hb).full)
 have HF1 := Lib.hid (fun wx (hb : Below w.heap.size w wx) => fault_any L vt toks k e 43 wx (hA.line.below hb) (hA.below hb).full)
 have HP2 := Lib.hid (fun wx (hg : w.grownBy wx (some L)) (hl : LineIs wx L vt (k + 1) e) => peek_any L vt toks (k + 1) e wx hl (hA.gb hg hl).full)
 have HV := Lib.hid (fun w => Verb_any (mkS t.word) false w)
 have HV2 := Lib.hid (fun w => two_any (mkS t.word) w)
 have tl := two_lt t.word
 rw [place_in e ht] at HF1
 rw [peek_in ht] at HP1
 rw [mkS_toList] at HV HV2
 have HPP := Lib.hid (phraseP_plain (left := false) (t := t) (toks := toks) (k := k + 1) hop)
 obtain ⟨kd, pl, wd, nn⟩ := t
 dsimp only at HF1 HP1 HV HV2 HPP tl
 have hL := hA.line
 have hlt := hL.lt
 have hkm : k + 1 ≤ 9223372036854775807 := by
  obtain ⟨_, _, _, h2, h3, _⟩ := hA.toks
  have := (List.getElem?_eq_some_iff.1 ht).1
  unfold maxLen at h3
  omega
 have hki : (k : Int) + 1 ≤ 9223372036854775807 := by omega
 have HA := Lib.hid hA
 clear ht hA hL
 unfold Tok.val at HP1 HP2
 dsimp only at HP1
 generalize peekT toks (k + 1) = op at *
 obtain ⟨ok, oa, ow, on⟩ := op
 dsimp only at HP2 HPP
 generalize hF : verbF wd false = F at *
 generalize twoF wd = T at *
 simp only [isOp] at hop
 have hw3 : (ok == 3) = false ∨ ((ok == 3) = true ∧ ((mkS ow).toList == [47]) = false ∧ ((mkS ow).toList == [92]) = false ∧ ((mkS ow).toList == [46]) = false) := by
  cases h3 : (ok == 3)
  ·exact .inl rfl
  ·rw [h3] at hop
   simp only [Bool.true_and, Bool.or_eq_false_iff] at hop
   refine .inr ⟨rfl, ?_⟩
   rw [ByteArray.toList_eq, mkS_toList]
   exact ⟨hop.1.1, hop.1.2, hop.2⟩
 clear hop
 by_cases hF0 : F = 0
 case' neg =>
  have hf0 : ((F : Int) == 0) = false := by rw [beq_eq_false_iff_ne]; omega
  have HPH := Lib.hid (HPP.out.trans (if_neg hF0))
  clear hF0
  rcases hw3 with q3 | ⟨q3, q47, q92, q46⟩
 case' pos =>
  have hf0 : ((F : Int) == 0) = true := by rw [hF0]; rfl
  have HPH := Lib.hid (HPP.out.trans (if_pos hF0))
  clear hF0
  rcases hw3 with q3 | ⟨q3, q47, q92, q46⟩
 all_goals
  go_enter Tryz.func53, Tryz.ntmps53
  go_wp2_with fail
  refine (HP1.out _ (by exact ((Below.refl _ _).alloc (Nat.le_refl _) _).alloc (by simp) _)).mono ?_
  rintro e1 w1 ⟨rfl, hb1⟩
  have e1 : Below w.heap.size w w1 := (((Below.refl _ _).alloc (Nat.le_refl _) _).alloc (by simp) _).trans (hb1.mono (by simp; omega))
  have hz1 : w.heap.size + 1 < w1.heap.size := by have := hb1.size; simp at this; omega
  have kA : Blk w1 w.heap.size 71 #[.int .i64 0, .int .i64 0, .int .u8 0, .string ⟨#[]⟩, .slice none 0 0] := (((Blk.new w _ _ rfl).alloc _)).below hb1
  have kB : Blk w1 (w.heap.size + 1) 44 #[.int .i64 0, .int .i64 0] := (Blk.new _ _ _ (by simp)).below hb1
  have KA := Lib.hid kA
  have KB := Lib.hid kB
  clear hb1 kA kB
  go_wp2_with fail
  refine (HF1.out _ (by exact e1.alloc e1.size _)).mono ?_
  rintro e2 w2 ⟨rfl, hb2⟩
  have e2 : Below w.heap.size w w2 := (e1.alloc e1.size _).trans (hb2.mono (by have := e1.size; simp; omega))
  have hz2 : w1.heap.size < w2.heap.size := by have := hb2.size; simp at this; omega
  have KA2 := Lib.hid ((KA.out.alloc _).below hb2)
  have KB2 := Lib.hid ((KB.out.alloc _).below hb2)
  have kC : Blk w2 w1.heap.size 60 #[.int .i64 kd, .int .i64 pl, .string (mkS wd), .int .i64 nn] := (Blk.new w1 _ _ rfl).below hb2
  have KC2 := Lib.hid kC
  have t0 : w2.cell? ⟨w1.heap.size, 0, none⟩ = some (.int .i64 kd) := kC.cell 0
  have t1 : w2.cell? ⟨w1.heap.size, 1, none⟩ = some (.int .i64 pl) := kC.cell 1
  have t2 : w2.cell? ⟨w1.heap.size, 2, none⟩ = some (.string (mkS wd)) := kC.cell 2
  have hL2 := (HA.out.line).below e2
  obtain ⟨l0, l1, l2, lf0, lf1, lf2⟩ := hL2.cells
  have hltw : L < w2.heap.size := by have := e2.size; omega
  have HL2 := Lib.hid hL2
  clear hL2 hb2 kC
  have hl3 : ∀ o o', LineIs (((w2.setCell ⟨L, 1, none⟩ (.int .i64 ((k : Int) + 1))).alloc o).alloc o') L vt (k + 1) e := fun o o' => ((HL2.out.next (k + 1) (by simp)).alloc o).alloc o'
  have hg3 : ∀ o o', w.grownBy (((w2.setCell ⟨L, 1, none⟩ (.int .i64 ((k : Int) + 1))).alloc o).alloc o') (some L) := fun o o' => gb_alloc (gb_alloc (gb_own (gb_below e2) 1 _) o) o'
  have HL3 := Lib.hid hl3
  have HG3 := Lib.hid hg3
  clear hl3 hg3 HL2 e2
  go_wp2_with fail
  refine (HV.out _).mono ?_
  rintro e3 w3 ⟨rfl, rfl⟩
  go_wp2_with fail
  refine (HP2.out _ (HG3.out _ _) (HL3.out _ _)).mono ?_
  rintro e4 w4 ⟨rfl, hb4⟩
  have hz4 : w2.heap.size + 2 ≤ w4.heap.size := by have := hb4.size; simpa using this
  have HG4 := Lib.hid (gb_then (HG3.out _ _) hb4)
  have hL4 := (HL3.out _ _).below hb4
  have HL4 := Lib.hid hL4
  obtain ⟨l40, l41, l42, lf40, lf41, lf42⟩ := hL4.cells
  have kA4 : Blk w4 w.heap.size 71 #[.int .i64 0, .int .i64 0, .int .u8 0, .string ⟨#[]⟩, .slice none 0 0] := (((KA2.out.other (by omega) _ _).alloc _).alloc _).below hb4
  have kB4 : Blk w4 (w.heap.size + 1) 44 #[.int .i64 0, .int .i64 0] := (((KB2.out.other (by omega) _ _).alloc _).alloc _).below hb4
  have kC4 : Blk w4 w1.heap.size 60 #[.int .i64 kd, .int .i64 pl, .string (mkS wd), .int .i64 nn] := (((KC2.out.other (by omega) _ _).alloc _).alloc _).below hb4
  have kD4 : Blk w4 w2.heap.size 44 #[.int .i64 pl, .int .i64 43] := ((Blk.new _ _ _ (by simp)).alloc _).below hb4
  have kE4 : Blk w4 (w2.heap.size + 1) 71 #[.int .i64 3, .int .i64 pl, .int .u8 F, .string ⟨#[]⟩, .slice none 0 0] := (Blk.new _ _ _ (by simp)).below hb4
  have a0 : w4.cell? ⟨w.heap.size, 0, none⟩ = some (.int .i64 0) := kA4.cell 0
  have a1 : w4.cell? ⟨w.heap.size, 1, none⟩ = some (.int .i64 0) := kA4.cell 1
  have a2 : w4.cell? ⟨w.heap.size, 2, none⟩ = some (.int .u8 0) := kA4.cell 2
  have a3 : w4.cell? ⟨w.heap.size, 3, none⟩ = some (.string ⟨#[]⟩) := kA4.cell 3
  have a4 : w4.cell? ⟨w.heap.size, 4, none⟩ = some (.slice none 0 0) := kA4.cell 4
  have b0 : w4.cell? ⟨(w.heap.size + 1), 0, none⟩ = some (.int .i64 0) := kB4.cell 0
  have b1 : w4.cell? ⟨(w.heap.size + 1), 1, none⟩ = some (.int .i64 0) := kB4.cell 1
  have d0 : w4.cell? ⟨w2.heap.size, 0, none⟩ = some (.int .i64 pl) := kD4.cell 0
  have d1 : w4.cell? ⟨w2.heap.size, 1, none⟩ = some (.int .i64 43) := kD4.cell 1
  have i0 : w4.cell? ⟨(w2.heap.size + 1), 0, none⟩ = some (.int .i64 3) := kE4.cell 0
  have i1 : w4.cell? ⟨(w2.heap.size + 1), 1, none⟩ = some (.int .i64 pl) := kE4.cell 1
  have i2 : w4.cell? ⟨(w2.heap.size + 1), 2, none⟩ = some (.int .u8 F) := kE4.cell 2
  have i3 : w4.cell? ⟨(w2.heap.size + 1), 3, none⟩ = some (.string ⟨#[]⟩) := kE4.cell 3
  have i4 : w4.cell? ⟨(w2.heap.size + 1), 4, none⟩ = some (.slice none 0 0) := kE4.cell 4
  have t42 : w4.cell? ⟨w1.heap.size, 2, none⟩ = some (.string (mkS wd)) := kC4.cell 2
  have fa := kA4.froz
  have fb := kB4.froz
  have fe := kE4.froz
  have hza : w.heap.size < w4.heap.size := by omega
  have hzb : w.heap.size + 1 < w4.heap.size := by omega
  have hzc : w1.heap.size < w4.heap.size := by omega
  have hzd : w2.heap.size < w4.heap.size := by omega
  have hze : w2.heap.size + 1 < w4.heap.size := by omega
  have hzl : L < w4.heap.size := by omega
  clear kA4 kB4 kC4 kD4 kE4 hb4 t0 t1 t2 l0 l1 l2 lf0 lf1 lf2 e1 hL4
  go_wp2
 ·go_region
  go_wp2
  refine bodyPost_ret (v := .tuple #[.agg #[.int .i64 3, .int .i64 pl, .int .u8 F, .string ⟨#[]⟩, .slice none 0 0], .agg #[.int .i64 pl, .int .i64 43]]) (by simp [results, Tryz.results53, go_sem, World.cell?_alloc_lt, hza, hzb, a0, a1, a2, a3, a4, b0, b1]) rfl ?_
  rw [HPH.out]
  refine ⟨⟨3, pl, F, [], []⟩, rfl, ?_, k + 1, ?_⟩
  ·exact (by repeat (first | with_reducible exact HG4.out | with_reducible refine gb_alloc ?_ _ | with_reducible refine gb_draws ?_ _ | with_reducible refine gb_drew ?_ | with_reducible refine gb_own ?_ _ _ | with_reducible refine gb_new ?_ (by omega) _ _))
  ·exact (by repeat (first | with_reducible exact HL4.out | with_reducible refine LineIs.alloc ?_ _ | with_reducible refine LineIs.draws ?_ _ | with_reducible refine LineIs.drew ?_ | with_reducible refine LineIs.other ?_ (by omega) _ _))
 ·go_region
  go_wp2
  refine bodyPost_ret (v := .tuple #[.agg #[.int .i64 3, .int .i64 pl, .int .u8 F, .string ⟨#[]⟩, .slice none 0 0], .agg #[.int .i64 pl, .int .i64 43]]) (by simp [results, Tryz.results53, go_sem, World.cell?_alloc_lt, hza, hzb, a0, a1, a2, a3, a4, b0, b1]) rfl ?_
  rw [HPH.out]
  refine ⟨⟨3, pl, F, [], []⟩, rfl, ?_, k + 1, ?_⟩
  ·exact (by repeat (first | with_reducible exact HG4.out | with_reducible refine gb_alloc ?_ _ | with_reducible refine gb_draws ?_ _ | with_reducible refine gb_drew ?_ | with_reducible refine gb_own ?_ _ _ | with_reducible refine gb_new ?_ (by omega) _ _))
  ·exact (by repeat (first | with_reducible exact HL4.out | with_reducible refine LineIs.alloc ?_ _ | with_reducible refine LineIs.draws ?_ _ | with_reducible refine LineIs.drew ?_ | with_reducible refine LineIs.other ?_ (by omega) _ _))
 ·refine bodyPost_ret (v := .tuple #[.agg #[.int .i64 3, .int .i64 pl, .int .u8 F, .string ⟨#[]⟩, .slice none 0 0], .agg #[.int .i64 0, .int .i64 0]]) (by simp [results, Tryz.results53, go_sem, World.cell?_alloc_lt, hza, hzb, a0, a1, a2, a3, a4, b0, b1]) rfl ?_
  rw [HPH.out]
  refine ⟨rfl, ?_, k + 1, ?_, rfl⟩
  ·exact (by repeat (first | with_reducible exact HG4.out | with_reducible refine gb_alloc ?_ _ | with_reducible refine gb_draws ?_ _ | with_reducible refine gb_drew ?_ | with_reducible refine gb_own ?_ _ _ | with_reducible refine gb_new ?_ (by omega) _ _))
  ·refine HA.out.gb ?_ ?_
   ·exact (by repeat (first | with_reducible exact HG4.out | with_reducible refine gb_alloc ?_ _ | with_reducible refine gb_draws ?_ _ | with_reducible refine gb_drew ?_ | with_reducible refine gb_own ?_ _ _ | with_reducible refine gb_new ?_ (by omega) _ _))
   ·exact (by repeat (first | with_reducible exact HL4.out | with_reducible refine LineIs.alloc ?_ _ | with_reducible refine LineIs.draws ?_ _ | with_reducible refine LineIs.drew ?_ | with_reducible refine LineIs.other ?_ (by omega) _ _))
 ·refine bodyPost_ret (v := .tuple #[.agg #[.int .i64 3, .int .i64 pl, .int .u8 F, .string ⟨#[]⟩, .slice none 0 0], .agg #[.int .i64 0, .int .i64 0]]) (by simp [results, Tryz.results53, go_sem, World.cell?_alloc_lt, hza, hzb, a0, a1, a2, a3, a4, b0, b1]) rfl ?_
  rw [HPH.out]
  refine ⟨rfl, ?_, k + 1, ?_, rfl⟩
  ·exact (by repeat (first | with_reducible exact HG4.out | with_reducible refine gb_alloc ?_ _ | with_reducible refine gb_draws ?_ _ | with_reducible refine gb_drew ?_ | with_reducible refine gb_own ?_ _ _ | with_reducible refine gb_new ?_ (by omega) _ _))
  ·refine HA.out.gb ?_ ?_
   ·exact (by repeat (first | with_reducible exact HG4.out | with_reducible refine gb_alloc ?_ _ | with_reducible refine gb_draws ?_ _ | with_reducible refine gb_drew ?_ | with_reducible refine gb_own ?_ _ _ | with_reducible refine gb_new ?_ (by omega) _ _))
   ·exact (by repeat (first | with_reducible exact HL4.out | with_reducible refine LineIs.alloc ?_ _ | with_reducible refine LineIs.draws ?_ _ | with_reducible refine LineIs.drew ?_ | with_reducible refine LineIs.other ?_ (by omega) _ _))
set_option maxHeartbeats 4000000 in
set_option maxRecDepth 100000 in
theorem phrase_plain_true (B L : Nat) (vt : Value) (toks : List Tok) (k : Nat) (e : Int) (t : Tok) (w : World) (hA : At w B L vt toks k e) (ht : toks[k]? = some t) (hop : isOp (peekT toks (k + 1)) = false) :
  Calls Tryz.prog 53 #[.pointer (some ⟨L, 0, none⟩), .bool true] w (PhrasePost B L vt toks e (phraseP true t (toks.drop (k + 1))) w) := by
 have HP1 := Lib.hid (fun wx (hb : Below w.heap.size w wx) => peek_any L vt toks k e wx (hA.line.below hb) (hA.below hb).full)
 have HF1 := Lib.hid (fun wx (hb : Below w.heap.size w wx) => fault_any L vt toks k e 43 wx (hA.line.below hb) (hA.below hb).full)
 have HP2 := Lib.hid (fun wx (hg : w.grownBy wx (some L)) (hl : LineIs wx L vt (k + 1) e) => peek_any L vt toks (k + 1) e wx hl (hA.gb hg hl).full)
 have HV := Lib.hid (fun w => Verb_any (mkS t.word) true w)
 have HV2 := Lib.hid (fun w => two_any (mkS t.word) w)
 have tl := two_lt t.word
 rw [place_in e ht] at HF1
 rw [peek_in ht] at HP1
 rw [mkS_toList] at HV HV2
 have HPP := Lib.hid (phraseP_plain (left := true) (t := t) (toks := toks) (k := k + 1) hop)
 obtain ⟨kd, pl, wd, nn⟩ := t
 dsimp only at HF1 HP1 HV HV2 HPP tl
 have hL := hA.line
 have hlt := hL.lt
 have hkm : k + 1 ≤ 9223372036854775807 := by
  obtain ⟨_, _, _, h2, h3, _⟩ := hA.toks
  have := (List.getElem?_eq_some_iff.1 ht).1
  unfold maxLen at h3
  omega
 have hki : (k : Int) + 1 ≤ 9223372036854775807 := by omega
 have HA := Lib.hid hA
 clear ht hA hL
 unfold Tok.val at HP1 HP2
 dsimp only at HP1
 generalize peekT toks (k + 1) = op at *
 obtain ⟨ok, oa, ow, on⟩ := op
 dsimp only at HP2 HPP
 generalize hF : verbF wd true = F at *
 generalize twoF wd = T at *
 simp only [isOp] at hop
 have hw3 : (ok == 3) = false ∨ ((ok == 3) = true ∧ ((mkS ow).toList == [47]) = false ∧ ((mkS ow).toList == [92]) = false ∧ ((mkS ow).toList == [46]) = false) := by
  cases h3 : (ok == 3)
  ·exact .inl rfl
  ·rw [h3] at hop
   simp only [Bool.true_and, Bool.or_eq_false_iff] at hop
   refine .inr ⟨rfl, ?_⟩
   rw [ByteArray.toList_eq, mkS_toList]
   exact ⟨hop.1.1, hop.1.2, hop.2⟩
 clear hop
 by_cases hF0 : F = 0
 case' neg =>
  have hf0 : ((F : Int) == 0) = false := by rw [beq_eq_false_iff_ne]; omega
  have HPH := Lib.hid (HPP.out.trans (if_neg hF0))
  clear hF0
  rcases hw3 with q3 | ⟨q3, q47, q92, q46⟩
 case' pos =>
  have hf0 : ((F : Int) == 0) = true := by rw [hF0]; rfl
  have HPH := Lib.hid (HPP.out.trans (if_pos hF0))
  clear hF0
  rcases hw3 with q3 | ⟨q3, q47, q92, q46⟩
 all_goals
  go_enter Tryz.func53, Tryz.ntmps53
  go_wp2_with fail
  refine (HP1.out _ (by exact ((Below.refl _ _).alloc (Nat.le_refl _) _).alloc (by simp) _)).mono ?_
  rintro e1 w1 ⟨rfl, hb1⟩
  have e1 : Below w.heap.size w w1 := (((Below.refl _ _).alloc (Nat.le_refl _) _).alloc (by simp) _).trans (hb1.mono (by simp; omega))
  have hz1 : w.heap.size + 1 < w1.heap.size := by have := hb1.size; simp at this; omega
  have kA : Blk w1 w.heap.size 71 #[.int .i64 0, .int .i64 0, .int .u8 0, .string ⟨#[]⟩, .slice none 0 0] := (((Blk.new w _ _ rfl).alloc _)).below hb1
  have kB : Blk w1 (w.heap.size + 1) 44 #[.int .i64 0, .int .i64 0] := (Blk.new _ _ _ (by simp)).below hb1
  have KA := Lib.hid kA
  have KB := Lib.hid kB
  clear hb1 kA kB
  go_wp2_with fail
  refine (HF1.out _ (by exact e1.alloc e1.size _)).mono ?_
  rintro e2 w2 ⟨rfl, hb2⟩
  have e2 : Below w.heap.size w w2 := (e1.alloc e1.size _).trans (hb2.mono (by have := e1.size; simp; omega))
  have hz2 : w1.heap.size < w2.heap.size := by have := hb2.size; simp at this; omega
  have KA2 := Lib.hid ((KA.out.alloc _).below hb2)
  have KB2 := Lib.hid ((KB.out.alloc _).below hb2)
  have kC : Blk w2 w1.heap.size 60 #[.int .i64 kd, .int .i64 pl, .string (mkS wd), .int .i64 nn] := (Blk.new w1 _ _ rfl).below hb2
  have KC2 := Lib.hid kC
  have t0 : w2.cell? ⟨w1.heap.size, 0, none⟩ = some (.int .i64 kd) := kC.cell 0
  have t1 : w2.cell? ⟨w1.heap.size, 1, none⟩ = some (.int .i64 pl) := kC.cell 1
  have t2 : w2.cell? ⟨w1.heap.size, 2, none⟩ = some (.string (mkS wd)) := kC.cell 2
  have hL2 := (HA.out.line).below e2
  obtain ⟨l0, l1, l2, lf0, lf1, lf2⟩ := hL2.cells
  have hltw : L < w2.heap.size := by have := e2.size; omega
  have HL2 := Lib.hid hL2
  clear hL2 hb2 kC
  have hl3 : ∀ o o', LineIs (((w2.setCell ⟨L, 1, none⟩ (.int .i64 ((k : Int) + 1))).alloc o).alloc o') L vt (k + 1) e := fun o o' => ((HL2.out.next (k + 1) (by simp)).alloc o).alloc o'
  have hg3 : ∀ o o', w.grownBy (((w2.setCell ⟨L, 1, none⟩ (.int .i64 ((k : Int) + 1))).alloc o).alloc o') (some L) := fun o o' => gb_alloc (gb_alloc (gb_own (gb_below e2) 1 _) o) o'
  have HL3 := Lib.hid hl3
  have HG3 := Lib.hid hg3
  clear hl3 hg3 HL2 e2
  go_wp2_with fail
  refine (HV.out _).mono ?_
  rintro e3 w3 ⟨rfl, rfl⟩
  go_wp2_with fail
  refine (HP2.out _ (HG3.out _ _) (HL3.out _ _)).mono ?_
  rintro e4 w4 ⟨rfl, hb4⟩
  have hz4 : w2.heap.size + 2 ≤ w4.heap.size := by have := hb4.size; simpa using this
  have HG4 := Lib.hid (gb_then (HG3.out _ _) hb4)
  have hL4 := (HL3.out _ _).below hb4
  have HL4 := Lib.hid hL4
  obtain ⟨l40, l41, l42, lf40, lf41, lf42⟩ := hL4.cells
  have kA4 : Blk w4 w.heap.size 71 #[.int .i64 0, .int .i64 0, .int .u8 0, .string ⟨#[]⟩, .slice none 0 0] := (((KA2.out.other (by omega) _ _).alloc _).alloc _).below hb4
  have kB4 : Blk w4 (w.heap.size + 1) 44 #[.int .i64 0, .int .i64 0] := (((KB2.out.other (by omega) _ _).alloc _).alloc _).below hb4
  have kC4 : Blk w4 w1.heap.size 60 #[.int .i64 kd, .int .i64 pl, .string (mkS wd), .int .i64 nn] := (((KC2.out.other (by omega) _ _).alloc _).alloc _).below hb4
  have kD4 : Blk w4 w2.heap.size 44 #[.int .i64 pl, .int .i64 43] := ((Blk.new _ _ _ (by simp)).alloc _).below hb4
  have kE4 : Blk w4 (w2.heap.size + 1) 71 #[.int .i64 4, .int .i64 pl, .int .u8 F, .string ⟨#[]⟩, .slice none 0 0] := (Blk.new _ _ _ (by simp)).below hb4
  have a0 : w4.cell? ⟨w.heap.size, 0, none⟩ = some (.int .i64 0) := kA4.cell 0
  have a1 : w4.cell? ⟨w.heap.size, 1, none⟩ = some (.int .i64 0) := kA4.cell 1
  have a2 : w4.cell? ⟨w.heap.size, 2, none⟩ = some (.int .u8 0) := kA4.cell 2
  have a3 : w4.cell? ⟨w.heap.size, 3, none⟩ = some (.string ⟨#[]⟩) := kA4.cell 3
  have a4 : w4.cell? ⟨w.heap.size, 4, none⟩ = some (.slice none 0 0) := kA4.cell 4
  have b0 : w4.cell? ⟨(w.heap.size + 1), 0, none⟩ = some (.int .i64 0) := kB4.cell 0
  have b1 : w4.cell? ⟨(w.heap.size + 1), 1, none⟩ = some (.int .i64 0) := kB4.cell 1
  have d0 : w4.cell? ⟨w2.heap.size, 0, none⟩ = some (.int .i64 pl) := kD4.cell 0
  have d1 : w4.cell? ⟨w2.heap.size, 1, none⟩ = some (.int .i64 43) := kD4.cell 1
  have i0 : w4.cell? ⟨(w2.heap.size + 1), 0, none⟩ = some (.int .i64 4) := kE4.cell 0
  have i1 : w4.cell? ⟨(w2.heap.size + 1), 1, none⟩ = some (.int .i64 pl) := kE4.cell 1
  have i2 : w4.cell? ⟨(w2.heap.size + 1), 2, none⟩ = some (.int .u8 F) := kE4.cell 2
  have i3 : w4.cell? ⟨(w2.heap.size + 1), 3, none⟩ = some (.string ⟨#[]⟩) := kE4.cell 3
  have i4 : w4.cell? ⟨(w2.heap.size + 1), 4, none⟩ = some (.slice none 0 0) := kE4.cell 4
  have t42 : w4.cell? ⟨w1.heap.size, 2, none⟩ = some (.string (mkS wd)) := kC4.cell 2
  have fa := kA4.froz
  have fb := kB4.froz
  have fe := kE4.froz
  have hza : w.heap.size < w4.heap.size := by omega
  have hzb : w.heap.size + 1 < w4.heap.size := by omega
  have hzc : w1.heap.size < w4.heap.size := by omega
  have hzd : w2.heap.size < w4.heap.size := by omega
  have hze : w2.heap.size + 1 < w4.heap.size := by omega
  have hzl : L < w4.heap.size := by omega
  clear kA4 kB4 kC4 kD4 kE4 hb4 t0 t1 t2 l0 l1 l2 lf0 lf1 lf2 e1 hL4
  go_wp2
 ·go_region
  go_wp2
  refine bodyPost_ret (v := .tuple #[.agg #[.int .i64 4, .int .i64 pl, .int .u8 F, .string ⟨#[]⟩, .slice none 0 0], .agg #[.int .i64 pl, .int .i64 43]]) (by simp [results, Tryz.results53, go_sem, World.cell?_alloc_lt, hza, hzb, a0, a1, a2, a3, a4, b0, b1]) rfl ?_
  rw [HPH.out]
  refine ⟨⟨4, pl, F, [], []⟩, rfl, ?_, k + 1, ?_⟩
  ·exact (by repeat (first | with_reducible exact HG4.out | with_reducible refine gb_alloc ?_ _ | with_reducible refine gb_draws ?_ _ | with_reducible refine gb_drew ?_ | with_reducible refine gb_own ?_ _ _ | with_reducible refine gb_new ?_ (by omega) _ _))
  ·exact (by repeat (first | with_reducible exact HL4.out | with_reducible refine LineIs.alloc ?_ _ | with_reducible refine LineIs.draws ?_ _ | with_reducible refine LineIs.drew ?_ | with_reducible refine LineIs.other ?_ (by omega) _ _))
 ·go_region
  go_wp2
  refine bodyPost_ret (v := .tuple #[.agg #[.int .i64 4, .int .i64 pl, .int .u8 F, .string ⟨#[]⟩, .slice none 0 0], .agg #[.int .i64 pl, .int .i64 43]]) (by simp [results, Tryz.results53, go_sem, World.cell?_alloc_lt, hza, hzb, a0, a1, a2, a3, a4, b0, b1]) rfl ?_
  rw [HPH.out]
  refine ⟨⟨4, pl, F, [], []⟩, rfl, ?_, k + 1, ?_⟩
  ·exact (by repeat (first | with_reducible exact HG4.out | with_reducible refine gb_alloc ?_ _ | with_reducible refine gb_draws ?_ _ | with_reducible refine gb_drew ?_ | with_reducible refine gb_own ?_ _ _ | with_reducible refine gb_new ?_ (by omega) _ _))
  ·exact (by repeat (first | with_reducible exact HL4.out | with_reducible refine LineIs.alloc ?_ _ | with_reducible refine LineIs.draws ?_ _ | with_reducible refine LineIs.drew ?_ | with_reducible refine LineIs.other ?_ (by omega) _ _))
 ·refine bodyPost_ret (v := .tuple #[.agg #[.int .i64 4, .int .i64 pl, .int .u8 F, .string ⟨#[]⟩, .slice none 0 0], .agg #[.int .i64 0, .int .i64 0]]) (by simp [results, Tryz.results53, go_sem, World.cell?_alloc_lt, hza, hzb, a0, a1, a2, a3, a4, b0, b1]) rfl ?_
  rw [HPH.out]
  refine ⟨rfl, ?_, k + 1, ?_, rfl⟩
  ·exact (by repeat (first | with_reducible exact HG4.out | with_reducible refine gb_alloc ?_ _ | with_reducible refine gb_draws ?_ _ | with_reducible refine gb_drew ?_ | with_reducible refine gb_own ?_ _ _ | with_reducible refine gb_new ?_ (by omega) _ _))
  ·refine HA.out.gb ?_ ?_
   ·exact (by repeat (first | with_reducible exact HG4.out | with_reducible refine gb_alloc ?_ _ | with_reducible refine gb_draws ?_ _ | with_reducible refine gb_drew ?_ | with_reducible refine gb_own ?_ _ _ | with_reducible refine gb_new ?_ (by omega) _ _))
   ·exact (by repeat (first | with_reducible exact HL4.out | with_reducible refine LineIs.alloc ?_ _ | with_reducible refine LineIs.draws ?_ _ | with_reducible refine LineIs.drew ?_ | with_reducible refine LineIs.other ?_ (by omega) _ _))
 ·refine bodyPost_ret (v := .tuple #[.agg #[.int .i64 4, .int .i64 pl, .int .u8 F, .string ⟨#[]⟩, .slice none 0 0], .agg #[.int .i64 0, .int .i64 0]]) (by simp [results, Tryz.results53, go_sem, World.cell?_alloc_lt, hza, hzb, a0, a1, a2, a3, a4, b0, b1]) rfl ?_
  rw [HPH.out]
  refine ⟨rfl, ?_, k + 1, ?_, rfl⟩
  ·exact (by repeat (first | with_reducible exact HG4.out | with_reducible refine gb_alloc ?_ _ | with_reducible refine gb_draws ?_ _ | with_reducible refine gb_drew ?_ | with_reducible refine gb_own ?_ _ _ | with_reducible refine gb_new ?_ (by omega) _ _))
  ·refine HA.out.gb ?_ ?_
   ·exact (by repeat (first | with_reducible exact HG4.out | with_reducible refine gb_alloc ?_ _ | with_reducible refine gb_draws ?_ _ | with_reducible refine gb_drew ?_ | with_reducible refine gb_own ?_ _ _ | with_reducible refine gb_new ?_ (by omega) _ _))
   ·exact (by repeat (first | with_reducible exact HL4.out | with_reducible refine LineIs.alloc ?_ _ | with_reducible refine LineIs.draws ?_ _ | with_reducible refine LineIs.drew ?_ | with_reducible refine LineIs.other ?_ (by omega) _ _))
end Go.Proofs.YtknnleiinhdklaaGreatDoor
