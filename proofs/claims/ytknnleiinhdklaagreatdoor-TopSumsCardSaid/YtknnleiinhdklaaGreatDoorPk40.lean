/-
  Walk of prim.part: one of its four ways. Condition: the values read as a number and an array that has a side; the number is no more than that side.   Walk of prim.part: one of its four ways. Condition: the values read as a number and an array that has a side; the number is no more than that side.   Walk of prim.part, of prim.Dyad at take, drop. Condition: the values read as a number and an array that has a side; the number is no more than that side.
-/
import Derived.Test.YtknnleiinhdklaaGreatDoorPk38
import Derived.Test.YtknnleiinhdklaaGreatDoorPk39
namespace Go.Proofs.YtknnleiinhdklaaGreatDoor
section
open Go.RowKit Go.Shelf Go.Sort
set_option maxHeartbeats 8000000 in
set_option maxRecDepth 100000 in
theorem part_back (va vb : Value) (all : Nat) (r : List Nat) (d : List Int) (k lo : Nat) (h : k + lo = all) (h0 : 0 < k) (w : World) (hva : ArrV w va ⟨[], [-(k : Int)]⟩) (hvb : ArrV w vb ⟨all :: r, d⟩) (hy : ArrOk ⟨all :: r, d⟩) :
  Calls Tryz.prog 72 #[va, vb, .bool true] w (PrimPost (partA ⟨all :: r, d⟩ lo all) w) := by
 obtain ⟨vs, vd, rfl, has, had⟩ := hva
 obtain ⟨us, ud, rfl, hbs, hbd⟩ := hvb
 obtain ⟨a1, c1, rfl⟩ := has.form
 obtain ⟨ga, oa, c2, rfl, ha1, ha2, ha3, ha4⟩ := had.at_ (by simp)
 obtain ⟨gs, os, c3, rfl, hs1, hs2, hs3, hs4⟩ := hbs.at_ (by simp [ofN])
 obtain ⟨a4, c4, rfl⟩ := hbd.form
 have HC := Lib.hid (fun W (hb : Below w.heap.size w W) => clone_any _ _ W (hbs.below hb) (by rw [ofN_len]; have := hy.sides.len; dsimp only at this ⊢; omega))
 have HBd := Lib.hid hbd
 have HG := Lib.hid (fun W v1 l1 vd l h1 hl ha => good_any v1 vd l1 l W h1 hl ha)
 have hall6 := hy.sides.each all (by simp)
 have hm6 := hy.le
 have HAll : Hid (all * prodN r = d.length) := Lib.hid (by have := hy.all; rwa [prodN_cons] at this)
 have q5 := ha4 0 _ rfl
 have q6 := hs4 0 all (by unfold ofN; rfl)
 have HL4 := Lib.hid hy.sides.len
 simp only [ofN_len, List.length_cons, List.length_nil, Nat.add_zero, Nat.zero_add] at *
 have HQ := Lib.hid (And.intro ha3 (And.intro q5 (And.intro hs3 q6)))
 obtain ⟨m, hm⟩ : ∃ m, m = d.length := ⟨_, rfl⟩
 have HM : Hid (m = d.length) := Lib.hid hm
 rw [← hm] at hm6 HAll HBd ⊢
 have HL5 : Hid ((ofN (all :: r)).length = r.length + 1) := Lib.hid (by rw [ofN_len]; rfl)
 generalize r.length = rl at *
 clear has had hbs hbd hm ha3 ha4 hs3 hs4 q5 q6 hy
 have HF := Lib.hid (F3.new w (.slice a1 0 c1) (.slice (some ⟨ga, oa, none⟩) 1 c2) (.slice (some ⟨gs, os, none⟩) (rl + 1) c3) (.slice a4 m c4))
 have q0 := HF.out.a0
 have q1 := HF.out.a1
 have q2 := HF.out.b0
 have q3 := HF.out.b1
 have q5 := (HF.out.bel.cell (p := ⟨ga, _, none⟩) HQ.out.1).trans HQ.out.2.1
 have q6 := (HF.out.bel.cell (p := ⟨gs, _, none⟩) HQ.out.2.2.1).trans HQ.out.2.2.2
 have r0 : ((rl + 1 : Nat) : Int) ≠ 0 := by omega
 have n1 : wrap64 (-(all : Int)) = -(all : Int) := by unfold wrap64; omega
 have n2 : IntKind.i64.wrap (-(all : Int)) = -(all : Int) := by rw [IntKind.wrap_i64]; omega
 have HLg : Hid (∀ k, (ofN (k :: r)).length ≤ 1000000) := Lib.hid (fun k => by rw [ofN_len]; have h1 := HL5.out; rw [ofN_len] at h1; have h2 := HL4.out; simp only [List.length_cons] at h1 ⊢; omega)
 have HLe : Hid (lo ≤ all ∧ all ≤ all) := Lib.hid ⟨by omega, by omega⟩
 have s1 : IntKind.i64.wrap (((all : Nat) : Int) - ((lo : Nat) : Int)) = (((all) - (lo) : Nat) : Int) := by rw [IntKind.wrap_i64]; omega
 have s2 : wrap64 (((all : Nat) : Int) - ((lo : Nat) : Int)) = (((all) - (lo) : Nat) : Int) := by unfold wrap64; omega
 go_enter Tryz.func72, Tryz.ntmps72
 go_wp2_with fail
 go_quiet (fail)
 go_upto_region 15 with (go_at_call 23; refine (HC.out _ (below_drewI HF.out.bel _)).mono ?_; rintro _ w1 ⟨u1, rfl, hu, hb⟩; have hu' := hu.base (b' := w.heap.size) (below_drewI HF.out.bel _).size; have HF1 := Lib.hid ((HF.out.next (below_drewI (Below.refl _ _) _)).next hb); obtain ⟨g, cg, hfu, hg1, hg2, hg3, hg4, hg5, hg6⟩ := own_cells hu' (by rw [HL5.out]; omega); have cc := hg5 0 (by rw [HL5.out]; omega); have hcc : ((ofN (all :: r)).map (Value.int .i64))[0]? = some (.int .i64 (all : Int)) := rfl; rw [hcc] at cc; rw [HL5.out] at hfu; subst hfu; have HU := Lib.hid hu'; clear hu hu' hb hg1 hg2 hg3 hg4 hg5 hcc q0 q1 q2 q3 q5 q6)
 obtain ⟨W, hW⟩ : ∃ W, W = w1.setCell ⟨g, 0, none⟩ (.int .i64 ((all : Int) - ((all : Int) + -(k : Int)))) := ⟨_, rfl⟩
 rw [← hW]
 have hput := HU.out.put 0 ((all : Int) - ((all : Int) + -(k : Int)))
 rw [← hW] at hput
 have HS : Hid (IntsO W w.heap.size (.slice (some ⟨g, 0, none⟩) (rl + 1) cg) (ofN (k :: r))) := Lib.hid (by
  have h1 := hput.1
  have h2 : (ofN (all :: r)).set 0 ((all : Int) - ((all : Int) + -(k : Int))) = ofN (k :: r) := congrArg (· :: ofN r) (show ((all : Int) - ((all : Int) + -(k : Int))) = ((k : Nat) : Int) by omega)
  rwa [h2] at h1)
 have HFW := Lib.hid (HF1.out.grown HU.out (Nat.le_refl _) hput.2)
 have e1 := HFW.out.b1
 have HBW := Lib.hid (HBd.out.below HFW.out.bel)
 clear hput hW HU HF1 HF cc
 by_cases hz : all = 0
 ·exfalso; omega
 ·have z0 : ((all : Int) == 0) = false := by rw [beq_eq_false_iff_ne]; omega
  have HAns : Hid (partA ⟨all :: r, d⟩ lo all = ⟨k :: r, (d.take (all * (m / all))).drop (lo * (m / all))⟩) := Lib.hid (by rw [HM.out]; exact partA_pos hz (by omega))
  obtain ⟨ce, hce⟩ : ∃ ce, ce = m / all := ⟨_, rfl⟩
  have hcm : all * ce = m := by rw [hce, ← HAll.out]; rw [Nat.mul_div_cancel_left _ (by omega)]
  obtain ⟨pl, hpl⟩ : ∃ pl, pl = lo * ce := ⟨_, rfl⟩
  obtain ⟨ph, hph⟩ : ∃ ph, ph = all * ce := ⟨_, rfl⟩
  have p1 : pl ≤ ph := by rw [hpl, hph]; exact Nat.mul_le_mul_right _ HLe.out.1
  have p2 : ph ≤ m := by rw [hph, ← hcm]; exact Nat.mul_le_mul_right _ HLe.out.2
  obtain ⟨t1, t2⟩ := mul_in hpl (by omega)
  obtain ⟨t3, t4⟩ := mul_in hph (by omega)
  rw [← hce, ← hpl, ← hph] at HAns
  have hc6 : ce ≤ 65536 := by rw [hce]; exact Nat.le_trans (Nat.div_le_self _ _) hm6
  obtain ⟨cI, hcI⟩ : ∃ cI : Int, cI = (ce : Int) := ⟨_, rfl⟩
  have tq : (m : Int).tdiv (all : Int) = cI := by rw [hcI, hce, Int.tdiv_eq_ediv_of_nonneg (Int.natCast_nonneg m)]; exact (Int.natCast_ediv m all).symm
  have tq2 : (m : Int) / (all : Int) = cI := by rw [hcI, hce]; exact (Int.natCast_ediv m all).symm
  have tq3 : wrap64 cI = cI := by unfold wrap64; omega
  have tq4 : IntKind.i64.wrap cI = cI := by rw [IntKind.wrap_i64]; omega
  rw [← hcI] at t1 t2 t3 t4
  clear hcI
  rw [show ((lo : Nat) : Int) = (all : Int) + -(k : Int) by omega] at t1 t2
  obtain ⟨a', c', he', b1, b2, b3⟩ := HBd.out
  injection he' with he1 he2 he3
  subst he1 he3
  unfold maxLen at b2
  rw [← HM.out] at b1 b3
  have HB3 := Lib.hid b3
  clear b3 hcm hce he2 hph
  obtain ⟨X, hX⟩ : ∃ X, X = (d.take ph).drop pl := ⟨_, rfl⟩
  have HXl : Hid (X.length ≤ 1000000) := Lib.hid (by rw [hX, List.length_drop, List.length_take]; omega)
  rw [← hX] at HAns
  have HXle : Hid (X.length = ph - pl) := Lib.hid (by rw [hX, List.length_drop, List.length_take]; have := HM.out; omega)
  by_cases hm0 : m = 0
  ·have hX0 : X = [] := List.eq_nil_of_length_eq_zero (by rw [hX, List.length_drop, List.length_take]; omega)
   obtain rfl : ph = 0 := by omega
   obtain rfl : pl = 0 := by omega
   subst hX0
   clear hX hm0
   have t5 : wrap64 ((all : Int) * cI) = 0 := t3
   have t6 : IntKind.i64.wrap ((all : Int) * cI) = 0 := t4
   have t7 : wrap64 (((all : Int) + -(k : Int)) * cI) = 0 := t1
   have t8 : IntKind.i64.wrap (((all : Int) + -(k : Int)) * cI) = 0 := t2
   clear t1 t2 t3 t4 p1 p2 hpl HB3 HAll
   cases a4 with
   | none =>
    go_wp2_with (first | (go_at_call 23; refine (clone_any _ [] _ (ints_zero _ _ _ (by unfold maxLen; omega)) (by decide)).mono ?_; rintro _ w5 ⟨u5, rfl, hu, hb⟩; have HU5 := Lib.hid (hu.base (b' := w.heap.size) HFW.out.bel.size); have HF5 := Lib.hid (HFW.out.next hb); have HS5 := Lib.hid (HS.out.below hb); obtain ⟨a5, c5, hf5⟩ := hu.form; subst hf5; clear hb hu) | (go_at_call 60; refine (HG.out _ _ _ _ [] HS5.out.s (HLg.out _) ⟨a5, c5, rfl⟩).mono ?_; rintro _ w6 ⟨u6, rfl, hu, hb⟩; have HU6 := Lib.hid hu; have HF6 := Lib.hid (HF5.out.next hb); have HU7 := Lib.hid (HU5.out.below hb); obtain ⟨a6, c6, hf6⟩ := hu.form; subst hf6; have HB6 := Lib.hid HF5.out.bel.size; have g0 := HF6.out.r0'; have g1 := HF6.out.r1'; have gf := HF6.out.rf'; clear hb hu))
    obtain ⟨z0, z1, z2, z3⟩ := HF6.out.done (.slice a6 (ofN (k :: r)).length c6) (.slice a5 0 c5)
    refine bodyPost_ret (v := .tuple #[.agg #[.slice a6 (ofN (k :: r)).length c6, .slice a5 0 c5], .int .i64 0]) (by simp [results, Tryz.results72, go_sem, z0, z1]) rfl ⟨_, rfl, ?_, z2⟩
    rw [HAns.out]
    exact ⟨_, _, rfl, (HU6.out.base HB6.out).tag z3, HU7.out.tag z3⟩
   | some ad =>
    go_wp2_with (first | (go_at_call 23; refine (clone_any _ [] _ (ints_zero _ _ _ (by unfold maxLen; omega)) (by decide)).mono ?_; rintro _ w5 ⟨u5, rfl, hu, hb⟩; have HU5 := Lib.hid (hu.base (b' := w.heap.size) HFW.out.bel.size); have HF5 := Lib.hid (HFW.out.next hb); have HS5 := Lib.hid (HS.out.below hb); obtain ⟨a5, c5, hf5⟩ := hu.form; subst hf5; clear hb hu) | (go_at_call 60; refine (HG.out _ _ _ _ [] HS5.out.s (HLg.out _) ⟨a5, c5, rfl⟩).mono ?_; rintro _ w6 ⟨u6, rfl, hu, hb⟩; have HU6 := Lib.hid hu; have HF6 := Lib.hid (HF5.out.next hb); have HU7 := Lib.hid (HU5.out.below hb); obtain ⟨a6, c6, hf6⟩ := hu.form; subst hf6; have HB6 := Lib.hid HF5.out.bel.size; have g0 := HF6.out.r0'; have g1 := HF6.out.r1'; have gf := HF6.out.rf'; clear hb hu))
    obtain ⟨z0, z1, z2, z3⟩ := HF6.out.done (.slice a6 (ofN (k :: r)).length c6) (.slice a5 0 c5)
    refine bodyPost_ret (v := .tuple #[.agg #[.slice a6 (ofN (k :: r)).length c6, .slice a5 0 c5], .int .i64 0]) (by simp [results, Tryz.results72, go_sem, z0, z1]) rfl ⟨_, rfl, ?_, z2⟩
    rw [HAns.out]
    exact ⟨_, _, rfl, (HU6.out.base HB6.out).tag z3, HU7.out.tag z3⟩
  ·obtain ⟨gq, oq, hA, hq1, hq2⟩ := HB3.out (by omega)
   subst hA
   have HL1 := Lib.hid (ints_slice HBW.out p1 (by rw [← HM.out]; exact p2))
   rw [← hX] at HL1
   clear hX hq1 hq2
   clear hpl
   by_cases hc0 : c4 = pl
   ·have hX0 : X = [] := List.eq_nil_of_length_eq_zero (by have h1 := HXle.out; omega)
    subst hX0
    obtain rfl : ph = pl := by omega
    go_wp2_with (first | (go_at_call 23; refine (clone_any _ [] _ (ints_zero _ _ _ (by unfold maxLen; omega)) (by decide)).mono ?_; rintro _ w5 ⟨u5, rfl, hu, hb⟩; have HU5 := Lib.hid (hu.base (b' := w.heap.size) HFW.out.bel.size); have HF5 := Lib.hid (HFW.out.next hb); have HS5 := Lib.hid (HS.out.below hb); obtain ⟨a5, c5, hf5⟩ := hu.form; subst hf5; clear hb hu) | (go_at_call 60; refine (HG.out _ _ _ _ [] HS5.out.s (HLg.out _) ⟨a5, c5, rfl⟩).mono ?_; rintro _ w6 ⟨u6, rfl, hu, hb⟩; have HU6 := Lib.hid hu; have HF6 := Lib.hid (HF5.out.next hb); have HU7 := Lib.hid (HU5.out.below hb); obtain ⟨a6, c6, hf6⟩ := hu.form; subst hf6; have HB6 := Lib.hid HF5.out.bel.size; have g0 := HF6.out.r0'; have g1 := HF6.out.r1'; have gf := HF6.out.rf'; clear hb hu))
    obtain ⟨z0, z1, z2, z3⟩ := HF6.out.done (.slice a6 (ofN (k :: r)).length c6) (.slice a5 0 c5)
    refine bodyPost_ret (v := .tuple #[.agg #[.slice a6 (ofN (k :: r)).length c6, .slice a5 0 c5], .int .i64 0]) (by simp [results, Tryz.results72, go_sem, z0, z1]) rfl ⟨_, rfl, ?_, z2⟩
    rw [HAns.out]
    exact ⟨_, _, rfl, (HU6.out.base HB6.out).tag z3, HU7.out.tag z3⟩
   ·go_wp2_with (first | (go_at_call 23; refine (clone_any _ X _ HL1.out HXl.out).mono ?_; rintro _ w5 ⟨u5, rfl, hu, hb⟩; have HU5 := Lib.hid (hu.base (b' := w.heap.size) HFW.out.bel.size); have HF5 := Lib.hid (HFW.out.next hb); have HS5 := Lib.hid (HS.out.below hb); obtain ⟨a5, c5, hf5⟩ := hu.form; subst hf5; clear hb hu) | (go_at_call 60; refine (HG.out _ _ _ _ X HS5.out.s (HLg.out _) ⟨a5, c5, rfl⟩).mono ?_; rintro _ w6 ⟨u6, rfl, hu, hb⟩; have HU6 := Lib.hid hu; have HF6 := Lib.hid (HF5.out.next hb); have HU7 := Lib.hid (HU5.out.below hb); obtain ⟨a6, c6, hf6⟩ := hu.form; subst hf6; have HB6 := Lib.hid HF5.out.bel.size; have g0 := HF6.out.r0'; have g1 := HF6.out.r1'; have gf := HF6.out.rf'; clear hb hu))
    obtain ⟨z0, z1, z2, z3⟩ := HF6.out.done (.slice a6 (ofN (k :: r)).length c6) (.slice a5 X.length c5)
    refine bodyPost_ret (v := .tuple #[.agg #[.slice a6 (ofN (k :: r)).length c6, .slice a5 X.length c5], .int .i64 0]) (by simp [results, Tryz.results72, go_sem, z0, z1]) rfl ⟨_, rfl, ?_, z2⟩
    rw [HAns.out]
    exact ⟨_, _, rfl, (HU6.out.base HB6.out).tag z3, HU7.out.tag z3⟩
end
section
open Go.RowKit Go.Shelf Go.Sort
set_option maxHeartbeats 8000000 in
set_option maxRecDepth 100000 in
theorem part_ahead (va vb : Value) (all : Nat) (r : List Nat) (d : List Int) (k hi : Nat) (h : k + hi = all) (h0 : 0 < k) (w : World) (hva : ArrV w va ⟨[], [-(k : Int)]⟩) (hvb : ArrV w vb ⟨all :: r, d⟩) (hy : ArrOk ⟨all :: r, d⟩) :
  Calls Tryz.prog 72 #[va, vb, .bool false] w (PrimPost (partA ⟨all :: r, d⟩ 0 hi) w) := by
 obtain ⟨vs, vd, rfl, has, had⟩ := hva
 obtain ⟨us, ud, rfl, hbs, hbd⟩ := hvb
 obtain ⟨a1, c1, rfl⟩ := has.form
 obtain ⟨ga, oa, c2, rfl, ha1, ha2, ha3, ha4⟩ := had.at_ (by simp)
 obtain ⟨gs, os, c3, rfl, hs1, hs2, hs3, hs4⟩ := hbs.at_ (by simp [ofN])
 obtain ⟨a4, c4, rfl⟩ := hbd.form
 have HC := Lib.hid (fun W (hb : Below w.heap.size w W) => clone_any _ _ W (hbs.below hb) (by rw [ofN_len]; have := hy.sides.len; dsimp only at this ⊢; omega))
 have HBd := Lib.hid hbd
 have HG := Lib.hid (fun W v1 l1 vd l h1 hl ha => good_any v1 vd l1 l W h1 hl ha)
 have hall6 := hy.sides.each all (by simp)
 have hm6 := hy.le
 have HAll : Hid (all * prodN r = d.length) := Lib.hid (by have := hy.all; rwa [prodN_cons] at this)
 have q5 := ha4 0 _ rfl
 have q6 := hs4 0 all (by unfold ofN; rfl)
 have HL4 := Lib.hid hy.sides.len
 simp only [ofN_len, List.length_cons, List.length_nil, Nat.add_zero, Nat.zero_add] at *
 have HQ := Lib.hid (And.intro ha3 (And.intro q5 (And.intro hs3 q6)))
 obtain ⟨m, hm⟩ : ∃ m, m = d.length := ⟨_, rfl⟩
 have HM : Hid (m = d.length) := Lib.hid hm
 rw [← hm] at hm6 HAll HBd ⊢
 have HL5 : Hid ((ofN (all :: r)).length = r.length + 1) := Lib.hid (by rw [ofN_len]; rfl)
 generalize r.length = rl at *
 clear has had hbs hbd hm ha3 ha4 hs3 hs4 q5 q6 hy
 have HF := Lib.hid (F3.new w (.slice a1 0 c1) (.slice (some ⟨ga, oa, none⟩) 1 c2) (.slice (some ⟨gs, os, none⟩) (rl + 1) c3) (.slice a4 m c4))
 have q0 := HF.out.a0
 have q1 := HF.out.a1
 have q2 := HF.out.b0
 have q3 := HF.out.b1
 have q5 := (HF.out.bel.cell (p := ⟨ga, _, none⟩) HQ.out.1).trans HQ.out.2.1
 have q6 := (HF.out.bel.cell (p := ⟨gs, _, none⟩) HQ.out.2.2.1).trans HQ.out.2.2.2
 have r0 : ((rl + 1 : Nat) : Int) ≠ 0 := by omega
 have n1 : wrap64 (-(all : Int)) = -(all : Int) := by unfold wrap64; omega
 have n2 : IntKind.i64.wrap (-(all : Int)) = -(all : Int) := by rw [IntKind.wrap_i64]; omega
 have HLg : Hid (∀ k, (ofN (k :: r)).length ≤ 1000000) := Lib.hid (fun k => by rw [ofN_len]; have h1 := HL5.out; rw [ofN_len] at h1; have h2 := HL4.out; simp only [List.length_cons] at h1 ⊢; omega)
 have HLe : Hid (0 ≤ hi ∧ hi ≤ all) := Lib.hid ⟨by omega, by omega⟩
 have s1 : IntKind.i64.wrap (((hi : Nat) : Int) - ((0 : Nat) : Int)) = (((hi) - (0) : Nat) : Int) := by rw [IntKind.wrap_i64]; omega
 have s2 : wrap64 (((hi : Nat) : Int) - ((0 : Nat) : Int)) = (((hi) - (0) : Nat) : Int) := by unfold wrap64; omega
 go_enter Tryz.func72, Tryz.ntmps72
 go_wp2_with fail
 go_quiet (fail)
 go_upto_region 15 with (go_at_call 23; refine (HC.out _ (below_drewI HF.out.bel _)).mono ?_; rintro _ w1 ⟨u1, rfl, hu, hb⟩; have hu' := hu.base (b' := w.heap.size) (below_drewI HF.out.bel _).size; have HF1 := Lib.hid ((HF.out.next (below_drewI (Below.refl _ _) _)).next hb); obtain ⟨g, cg, hfu, hg1, hg2, hg3, hg4, hg5, hg6⟩ := own_cells hu' (by rw [HL5.out]; omega); have cc := hg5 0 (by rw [HL5.out]; omega); have hcc : ((ofN (all :: r)).map (Value.int .i64))[0]? = some (.int .i64 (all : Int)) := rfl; rw [hcc] at cc; rw [HL5.out] at hfu; subst hfu; have HU := Lib.hid hu'; clear hu hu' hb hg1 hg2 hg3 hg4 hg5 hcc q0 q1 q2 q3 q5 q6)
 obtain ⟨W, hW⟩ : ∃ W, W = w1.setCell ⟨g, 0, none⟩ (.int .i64 ((all : Int) + -(k : Int))) := ⟨_, rfl⟩
 rw [← hW]
 have hput := HU.out.put 0 ((all : Int) + -(k : Int))
 rw [← hW] at hput
 have HS : Hid (IntsO W w.heap.size (.slice (some ⟨g, 0, none⟩) (rl + 1) cg) (ofN (hi :: r))) := Lib.hid (by
  have h1 := hput.1
  have h2 : (ofN (all :: r)).set 0 ((all : Int) + -(k : Int)) = ofN (hi :: r) := congrArg (· :: ofN r) (show ((all : Int) + -(k : Int)) = ((hi : Nat) : Int) by omega)
  rwa [h2] at h1)
 have HFW := Lib.hid (HF1.out.grown HU.out (Nat.le_refl _) hput.2)
 have e1 := HFW.out.b1
 have HBW := Lib.hid (HBd.out.below HFW.out.bel)
 clear hput hW HU HF1 HF cc
 by_cases hz : all = 0
 ·exfalso; omega
 ·have z0 : ((all : Int) == 0) = false := by rw [beq_eq_false_iff_ne]; omega
  have HAns : Hid (partA ⟨all :: r, d⟩ 0 hi = ⟨hi :: r, (d.take (hi * (m / all))).drop (0 * (m / all))⟩) := Lib.hid (by rw [HM.out]; exact partA_pos hz (Nat.sub_zero _))
  obtain ⟨ce, hce⟩ : ∃ ce, ce = m / all := ⟨_, rfl⟩
  have hcm : all * ce = m := by rw [hce, ← HAll.out]; rw [Nat.mul_div_cancel_left _ (by omega)]
  obtain ⟨pl, hpl⟩ : ∃ pl, pl = 0 * ce := ⟨_, rfl⟩
  obtain ⟨ph, hph⟩ : ∃ ph, ph = hi * ce := ⟨_, rfl⟩
  have p1 : pl ≤ ph := by rw [hpl, hph]; exact Nat.mul_le_mul_right _ HLe.out.1
  have p2 : ph ≤ m := by rw [hph, ← hcm]; exact Nat.mul_le_mul_right _ HLe.out.2
  obtain ⟨t1, t2⟩ := mul_in hpl (by omega)
  obtain ⟨t3, t4⟩ := mul_in hph (by omega)
  rw [← hce, ← hpl, ← hph] at HAns
  have hc6 : ce ≤ 65536 := by rw [hce]; exact Nat.le_trans (Nat.div_le_self _ _) hm6
  obtain ⟨cI, hcI⟩ : ∃ cI : Int, cI = (ce : Int) := ⟨_, rfl⟩
  have tq : (m : Int).tdiv (all : Int) = cI := by rw [hcI, hce, Int.tdiv_eq_ediv_of_nonneg (Int.natCast_nonneg m)]; exact (Int.natCast_ediv m all).symm
  have tq2 : (m : Int) / (all : Int) = cI := by rw [hcI, hce]; exact (Int.natCast_ediv m all).symm
  have tq3 : wrap64 cI = cI := by unfold wrap64; omega
  have tq4 : IntKind.i64.wrap cI = cI := by rw [IntKind.wrap_i64]; omega
  rw [← hcI] at t1 t2 t3 t4
  clear hcI
  rw [show ((hi : Nat) : Int) = (all : Int) + -(k : Int) by omega] at t3 t4
  obtain ⟨a', c', he', b1, b2, b3⟩ := HBd.out
  injection he' with he1 he2 he3
  subst he1 he3
  unfold maxLen at b2
  rw [← HM.out] at b1 b3
  have HB3 := Lib.hid b3
  clear b3 hcm hce he2 hph
  obtain ⟨X, hX⟩ : ∃ X, X = (d.take ph).drop pl := ⟨_, rfl⟩
  have HXl : Hid (X.length ≤ 1000000) := Lib.hid (by rw [hX, List.length_drop, List.length_take]; omega)
  rw [← hX] at HAns
  have HXle : Hid (X.length = ph - pl) := Lib.hid (by rw [hX, List.length_drop, List.length_take]; have := HM.out; omega)
  by_cases hm0 : m = 0
  ·have hX0 : X = [] := List.eq_nil_of_length_eq_zero (by rw [hX, List.length_drop, List.length_take]; omega)
   obtain rfl : ph = 0 := by omega
   obtain rfl : pl = 0 := by omega
   subst hX0
   clear hX hm0
   have t5 : wrap64 (((all : Int) + -(k : Int)) * cI) = 0 := t3
   have t6 : IntKind.i64.wrap (((all : Int) + -(k : Int)) * cI) = 0 := t4
   clear t1 t2 t3 t4 p1 p2 hpl HB3 HAll
   cases a4 with
   | none =>
    go_wp2_with (first | (go_at_call 23; refine (clone_any _ [] _ (ints_zero _ _ _ (by unfold maxLen; omega)) (by decide)).mono ?_; rintro _ w5 ⟨u5, rfl, hu, hb⟩; have HU5 := Lib.hid (hu.base (b' := w.heap.size) HFW.out.bel.size); have HF5 := Lib.hid (HFW.out.next hb); have HS5 := Lib.hid (HS.out.below hb); obtain ⟨a5, c5, hf5⟩ := hu.form; subst hf5; clear hb hu) | (go_at_call 60; refine (HG.out _ _ _ _ [] HS5.out.s (HLg.out _) ⟨a5, c5, rfl⟩).mono ?_; rintro _ w6 ⟨u6, rfl, hu, hb⟩; have HU6 := Lib.hid hu; have HF6 := Lib.hid (HF5.out.next hb); have HU7 := Lib.hid (HU5.out.below hb); obtain ⟨a6, c6, hf6⟩ := hu.form; subst hf6; have HB6 := Lib.hid HF5.out.bel.size; have g0 := HF6.out.r0'; have g1 := HF6.out.r1'; have gf := HF6.out.rf'; clear hb hu))
    obtain ⟨z0, z1, z2, z3⟩ := HF6.out.done (.slice a6 (ofN (hi :: r)).length c6) (.slice a5 0 c5)
    refine bodyPost_ret (v := .tuple #[.agg #[.slice a6 (ofN (hi :: r)).length c6, .slice a5 0 c5], .int .i64 0]) (by simp [results, Tryz.results72, go_sem, z0, z1]) rfl ⟨_, rfl, ?_, z2⟩
    rw [HAns.out]
    exact ⟨_, _, rfl, (HU6.out.base HB6.out).tag z3, HU7.out.tag z3⟩
   | some ad =>
    go_wp2_with (first | (go_at_call 23; refine (clone_any _ [] _ (ints_zero _ _ _ (by unfold maxLen; omega)) (by decide)).mono ?_; rintro _ w5 ⟨u5, rfl, hu, hb⟩; have HU5 := Lib.hid (hu.base (b' := w.heap.size) HFW.out.bel.size); have HF5 := Lib.hid (HFW.out.next hb); have HS5 := Lib.hid (HS.out.below hb); obtain ⟨a5, c5, hf5⟩ := hu.form; subst hf5; clear hb hu) | (go_at_call 60; refine (HG.out _ _ _ _ [] HS5.out.s (HLg.out _) ⟨a5, c5, rfl⟩).mono ?_; rintro _ w6 ⟨u6, rfl, hu, hb⟩; have HU6 := Lib.hid hu; have HF6 := Lib.hid (HF5.out.next hb); have HU7 := Lib.hid (HU5.out.below hb); obtain ⟨a6, c6, hf6⟩ := hu.form; subst hf6; have HB6 := Lib.hid HF5.out.bel.size; have g0 := HF6.out.r0'; have g1 := HF6.out.r1'; have gf := HF6.out.rf'; clear hb hu))
    obtain ⟨z0, z1, z2, z3⟩ := HF6.out.done (.slice a6 (ofN (hi :: r)).length c6) (.slice a5 0 c5)
    refine bodyPost_ret (v := .tuple #[.agg #[.slice a6 (ofN (hi :: r)).length c6, .slice a5 0 c5], .int .i64 0]) (by simp [results, Tryz.results72, go_sem, z0, z1]) rfl ⟨_, rfl, ?_, z2⟩
    rw [HAns.out]
    exact ⟨_, _, rfl, (HU6.out.base HB6.out).tag z3, HU7.out.tag z3⟩
  ·obtain ⟨gq, oq, hA, hq1, hq2⟩ := HB3.out (by omega)
   subst hA
   have HL1 := Lib.hid (ints_slice HBW.out p1 (by rw [← HM.out]; exact p2))
   rw [← hX] at HL1
   clear hX hq1 hq2
   obtain rfl : pl = 0 := by rw [hpl]; exact Nat.zero_mul _
   clear hpl t1 t2 p1
   go_wp2_with (first | (go_at_call 23; refine (clone_any _ X _ HL1.out HXl.out).mono ?_; rintro _ w5 ⟨u5, rfl, hu, hb⟩; have HU5 := Lib.hid (hu.base (b' := w.heap.size) HFW.out.bel.size); have HF5 := Lib.hid (HFW.out.next hb); have HS5 := Lib.hid (HS.out.below hb); obtain ⟨a5, c5, hf5⟩ := hu.form; subst hf5; clear hb hu) | (go_at_call 60; refine (HG.out _ _ _ _ X HS5.out.s (HLg.out _) ⟨a5, c5, rfl⟩).mono ?_; rintro _ w6 ⟨u6, rfl, hu, hb⟩; have HU6 := Lib.hid hu; have HF6 := Lib.hid (HF5.out.next hb); have HU7 := Lib.hid (HU5.out.below hb); obtain ⟨a6, c6, hf6⟩ := hu.form; subst hf6; have HB6 := Lib.hid HF5.out.bel.size; have g0 := HF6.out.r0'; have g1 := HF6.out.r1'; have gf := HF6.out.rf'; clear hb hu))
   obtain ⟨z0, z1, z2, z3⟩ := HF6.out.done (.slice a6 (ofN (hi :: r)).length c6) (.slice a5 X.length c5)
   refine bodyPost_ret (v := .tuple #[.agg #[.slice a6 (ofN (hi :: r)).length c6, .slice a5 X.length c5], .int .i64 0]) (by simp [results, Tryz.results72, go_sem, z0, z1]) rfl ⟨_, rfl, ?_, z2⟩
   rw [HAns.out]
   exact ⟨_, _, rfl, (HU6.out.base HB6.out).tag z3, HU7.out.tag z3⟩
end
section
open Go.RowKit Go.Shelf Go.Sort
theorem part_any (va vb : Value) (n : Int) (all : Nat) (r : List Nat) (d : List Int) (tk : Bool) (lo hi : Nat) (w : World) (hva : ArrV w va ⟨[], [n]⟩) (hvb : ArrV w vb ⟨all :: r, d⟩) (hy : ArrOk ⟨all :: r, d⟩) (hp : PartR all n tk lo hi) :
  Calls Tryz.prog 72 #[va, vb, .bool tk] w (PrimPost (partA ⟨all :: r, d⟩ lo hi) w) := by
 cases hp with
 | front _ h => exact part_front va vb all r d hi h w hva hvb hy
 | left _ q h => exact part_left va vb all r d lo (by omega) w hva hvb hy
 | back k _ h h0 => exact part_back va vb all r d k lo h h0 w hva hvb hy
 | ahead k _ h h0 => exact part_ahead va vb all r d k hi h h0 w hva hvb hy
def tkF (tk : Bool) : Int := if tk = true then 38 else 39
set_option maxHeartbeats 2000000 in
set_option maxRecDepth 100000 in
theorem dyad_part (va vb : Value) (n : Int) (all : Nat) (r : List Nat) (d : List Int) (tk : Bool) (lo hi : Nat) (w : World) (hva : ArrV w va ⟨[], [n]⟩) (hvb : ArrV w vb ⟨all :: r, d⟩) (hx : ArrOk ⟨[], [n]⟩) (hy : ArrOk ⟨all :: r, d⟩) (hp : PartR all n tk lo hi) :
  Calls Tryz.prog 42 #[.int .u8 (tkF tk), va, vb] w (PrimPost (partA ⟨all :: r, d⟩ lo hi) w) := by
 have HR1 := Lib.hid (fun W (hb : Below w.heap.size w W) => right_ok va ⟨[], [n]⟩ W (hva.below hb) hx)
 have HR2 := Lib.hid (fun W (hb : Below w.heap.size w W) => right_ok vb ⟨all :: r, d⟩ W (hvb.below hb) hy)
 have HT := Lib.hid (fun W (hb : Below w.heap.size w W) => part_any va vb n all r d tk lo hi W (hva.below hb) (hvb.below hb) hy hp)
 obtain ⟨vs, vd, rfl, has, had⟩ := hva
 obtain ⟨us, ud, rfl, hbs, hbd⟩ := hvb
 obtain ⟨a1, c1, rfl⟩ := has.form
 obtain ⟨a2, c2, rfl⟩ := had.form
 obtain ⟨a3, c3, rfl⟩ := hbs.form
 obtain ⟨a4, c4, rfl⟩ := hbd.form
 clear has had hbs hbd hp hx hy
 generalize partA ⟨all :: r, d⟩ lo hi = y at *
 generalize (ofN (Arr.sides ⟨[], [n]⟩)).length = n1 at *
 generalize (Arr.data ⟨[], [n]⟩).length = n2 at *
 generalize (ofN (Arr.sides ⟨all :: r, d⟩)).length = n3 at *
 generalize (Arr.data ⟨all :: r, d⟩).length = n4 at *
 have HF := Lib.hid (F3.new w (.slice a1 n1 c1) (.slice a2 n2 c2) (.slice a3 n3 c3) (.slice a4 n4 c4))
 have q0 := HF.out.a0
 have q1 := HF.out.a1
 have q2 := HF.out.b0
 have q3 := HF.out.b1
 cases tk with
 | true =>
  show Calls _ _ #[.int .u8 38, _, _] _ _
  go_enter Tryz.func42, Tryz.ntmps42
  go_wp2_with (first | (go_at_call 38; refine (HR1.out _ HF.out.bel).mono ?_; rintro _ w1 ⟨rfl, hb⟩; have HF1 := Lib.hid (HF.out.next hb); have e0 := HF1.out.a0; have e1 := HF1.out.a1; have e2 := HF1.out.b0; have e3 := HF1.out.b1; clear hb q0 q1 q2 q3 HR1) | (go_at_call 38; refine (HR2.out _ HF1.out.bel).mono ?_; rintro _ w2 ⟨rfl, hb⟩; have HF2 := Lib.hid (HF1.out.next hb); have e0' := HF2.out.a0; have e1' := HF2.out.a1; have e2' := HF2.out.b0; have e3' := HF2.out.b1; clear hb e0 e1 e2 e3) | (go_at_call 72; refine (HT.out _ HF2.out.bel).mono ?_; rintro _ w3 ⟨u2, rfl, ⟨us, ud, rfl, hu1, hu2⟩, hb⟩; have HF3 := Lib.hid (HF2.out.next hb); have HU := Lib.hid (And.intro (hu1.base HF2.out.bel.size) (hu2.base HF2.out.bel.size)); obtain ⟨b3, d3, hf3⟩ := hu1.form; obtain ⟨b4, d4, hf4⟩ := hu2.form; subst hf3 hf4; have g0 := HF3.out.r0'; have g1 := HF3.out.r1'; have gf := HF3.out.rf'; clear hb hu1 hu2 e0' e1' e2' e3'))
  obtain ⟨z0, z1, z2, z3⟩ := HF3.out.done (.slice b3 (ofN y.sides).length d3) (.slice b4 y.data.length d4)
  exact bodyPost_ret (v := .tuple #[.agg #[.slice b3 (ofN y.sides).length d3, .slice b4 y.data.length d4], .int .i64 0]) (by simp [results, Tryz.results42, go_sem, z0, z1]) rfl ⟨_, rfl, ⟨_, _, rfl, HU.out.1.tag z3, HU.out.2.tag z3⟩, z2⟩
 | false =>
  show Calls _ _ #[.int .u8 39, _, _] _ _
  go_enter Tryz.func42, Tryz.ntmps42
  go_wp2_with (first | (go_at_call 38; refine (HR1.out _ HF.out.bel).mono ?_; rintro _ w1 ⟨rfl, hb⟩; have HF1 := Lib.hid (HF.out.next hb); have e0 := HF1.out.a0; have e1 := HF1.out.a1; have e2 := HF1.out.b0; have e3 := HF1.out.b1; clear hb q0 q1 q2 q3 HR1) | (go_at_call 38; refine (HR2.out _ HF1.out.bel).mono ?_; rintro _ w2 ⟨rfl, hb⟩; have HF2 := Lib.hid (HF1.out.next hb); have e0' := HF2.out.a0; have e1' := HF2.out.a1; have e2' := HF2.out.b0; have e3' := HF2.out.b1; clear hb e0 e1 e2 e3) | (go_at_call 72; refine (HT.out _ HF2.out.bel).mono ?_; rintro _ w3 ⟨u2, rfl, ⟨us, ud, rfl, hu1, hu2⟩, hb⟩; have HF3 := Lib.hid (HF2.out.next hb); have HU := Lib.hid (And.intro (hu1.base HF2.out.bel.size) (hu2.base HF2.out.bel.size)); obtain ⟨b3, d3, hf3⟩ := hu1.form; obtain ⟨b4, d4, hf4⟩ := hu2.form; subst hf3 hf4; have g0 := HF3.out.r0'; have g1 := HF3.out.r1'; have gf := HF3.out.rf'; clear hb hu1 hu2 e0' e1' e2' e3'))
  obtain ⟨z0, z1, z2, z3⟩ := HF3.out.done (.slice b3 (ofN y.sides).length d3) (.slice b4 y.data.length d4)
  exact bodyPost_ret (v := .tuple #[.agg #[.slice b3 (ofN y.sides).length d3, .slice b4 y.data.length d4], .int .i64 0]) (by simp [results, Tryz.results42, go_sem, z0, z1]) rfl ⟨_, rfl, ⟨_, _, rfl, HU.out.1.tag z3, HU.out.2.tag z3⟩, z2⟩
end
end Go.Proofs.YtknnleiinhdklaaGreatDoor
