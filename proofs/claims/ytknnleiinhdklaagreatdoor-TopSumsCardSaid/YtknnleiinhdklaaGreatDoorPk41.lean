/-
  Walk of prim.cat, of prim.Dyad at cat. Condition: the values read as arrays that have a side, and the same other sides; what comes of it is an array.   What the programs of the theorems of stage 8 mean, plainly, step by step. Condition: the array is one.
-/
import Derived.Test.YtknnleiinhdklaaGreatDoorPk07
import Derived.Test.YtknnleiinhdklaaGreatDoorPk21
import Derived.Test.YtknnleiinhdklaaGreatDoorPk40
namespace Go.Proofs.YtknnleiinhdklaaGreatDoor
section
open Go.RowKit Go.Shelf Go.Sort
theorem ofN_cons (x : Nat) (r : List Nat) : ofN (x :: r) = (x : Int) :: ofN r := rfl
theorem ints_rest {w : World} {g o n c x : Nat} {r : List Nat} (h : IntsS w (.slice (some ⟨g, o, none⟩) (n + 1) c) (ofN (x :: r))) : IntsS w (.slice (some ⟨g, o + 1, none⟩) n (c - 1)) (ofN r) := by
 have hl : (ofN (x :: r)).length = n + 1 := by
  obtain ⟨a'', c'', he2⟩ := h.form
  injection he2 with _ h2 _
  exact h2.symm
 have h1 := ints_slice h (lo := 1) (hi := n + 1) (by omega) (by omega)
 rw [List.take_of_length_le (by omega), Nat.add_sub_cancel] at h1
 exact h1
theorem RowV.two (W : World) (v1 v2 : Value) (l1 l2 : List Int) (t : TypeId) (h1 : IntsS W v1 l1) (h2 : IntsS W v2 l2) : RowV (W.alloc (.cells #[v1, v2] t)) (.slice (some ⟨W.heap.size, 0, none⟩) 2 2) [l1, l2] := by
 have hb : (W.alloc (.cells #[v1, v2] t)).heap[W.heap.size]? = some (.cells #[v1, v2] t) := heap_alloc_new W _
 have hbe := (Below.refl W.heap.size W).alloc (Nat.le_refl _) (.cells #[v1, v2] t)
 refine ⟨_, 2, [v1, v2], rfl, Nat.le_refl _, by unfold maxLen; decide, fun _ => ⟨W.heap.size, 0, rfl, by simp, fun i u hi => ?_⟩, fun i l hi => ?_⟩
 ·rw [Nat.zero_add, cell_of_row _ _ _ _ _ _ hb, List.getElem?_toArray]
  exact hi
 ·match i, hi with
  | 0, hi =>
   injection hi with hi
   subst hi
   exact ⟨v1, rfl, h1.below hbe⟩
  | 1, hi =>
   injection hi with hi
   subst hi
   exact ⟨v2, rfl, h2.below hbe⟩
  | i + 2, hi => simp at hi
theorem ints_rest' {w : World} {g o n c x : Nat} {r : List Nat} (h : IntsS w (.slice (some ⟨g, o, none⟩) (n + 1) c) (ofN (x :: r))) : IntsS w (.slice (if c = 1 then some ⟨g, o, none⟩ else some ⟨g, o + 1, none⟩) n (c - 1)) (ofN r) := by
 split
 ·obtain ⟨a', c', he, h1, h2, _⟩ := h
  injection he with e1 e2 e3
  subst e3
  rw [ofN_cons, List.length_cons] at e2 h1
  have h0 : ofN r = [] := List.eq_nil_of_length_eq_zero (by omega)
  rw [h0] at e2 ⊢
  have : n = 0 := by simpa using e2
  subst this
  exact ints_zero _ _ _ (by omega)
 ·exact ints_rest h
set_option maxHeartbeats 8000000 in
set_option maxRecDepth 100000 in
theorem cat_any (va vb : Value) (p q : Nat) (r : List Nat) (d1 d2 : List Int) (w : World) (hva : ArrV w va ⟨p :: r, d1⟩) (hvb : ArrV w vb ⟨q :: r, d2⟩) (hx : ArrOk ⟨p :: r, d1⟩) (hy : ArrOk ⟨q :: r, d2⟩) (hz : ArrOk ⟨(p + q) :: r, d1 ++ d2⟩) :
  Calls Tryz.prog 73 #[va, vb] w (PrimPost ⟨(p + q) :: r, d1 ++ d2⟩ w) := by
 obtain ⟨vs, vd, rfl, has, had⟩ := hva
 obtain ⟨us, ud, rfl, hbs, hbd⟩ := hvb
 obtain ⟨g1, o1, c1, rfl, hs1, hs2, hs3, hs4⟩ := has.at_ (by simp [ofN])
 obtain ⟨g3, o3, c3, rfl, ht1, ht2, ht3, ht4⟩ := hbs.at_ (by simp [ofN])
 obtain ⟨a2, c2, rfl⟩ := had.form
 obtain ⟨a4, c4, rfl⟩ := hbd.form
 have q6 := ht4 0 q (by unfold ofN; rfl)
 rw [Nat.add_zero] at q6
 have HQ := Lib.hid (And.intro ht3 q6)
 have hl4 := hx.sides.len
 have h1m := hx.le
 have h2m := hy.le
 have hp6 := hx.sides.each p (by simp)
 have hq6 := hy.sides.each q (by simp)
 dsimp only at *
 have HC := Lib.hid (fun W (hb : Below w.heap.size w W) => clone_any _ _ W (has.below hb) (by rw [ofN_len]; omega))
 have HL5 : Hid ((ofN (p :: r)).length = r.length + 1) := Lib.hid (by rw [ofN_len]; rfl)
 have HL6 : Hid ((ofN (q :: r)).length = r.length + 1) := Lib.hid (by rw [ofN_len]; rfl)
 have HL7 : Hid ((ofN ((p + q) :: r)).length ≤ 1000000) := Lib.hid (by rw [ofN_len]; have := hz.sides.len; dsimp only at this; omega)
 have HZ := Lib.hid hz
 have HG := Lib.hid (fun W v1 l1 vd l h1 hl ha => good_any v1 vd l1 l W h1 hl ha)
 rw [HL5.out] at has hs1 HC ⊢
 rw [HL6.out] at hbs ht1 ⊢
 obtain ⟨rl, hrl⟩ : ∃ rl, rl = r.length := ⟨_, rfl⟩
 rw [← hrl] at has hbs hs1 ht1 HC HL5 HL6 ⊢
 have HEq := Lib.hid (fun W (hb : Below w.heap.size w W) => equal_any _ _ (ofN r) W ((ints_rest' has).below hb) ((ints_rest' hbs).below hb))
 have HCat := Lib.hid (fun W (hb : Below w.heap.size w W) v (h : RowV W v [d1, d2]) => concat_any v [d1, d2] W h (by simp; omega) (by simp))
 rw [show [d1, d2].flatten = d1 ++ d2 by simp] at HCat
 obtain ⟨D, hD⟩ : ∃ D, D = d1 ++ d2 := ⟨_, rfl⟩
 rw [← hD] at HCat HZ ⊢
 clear hD
 have HDa := Lib.hid had
 have HDb := Lib.hid hbd
 obtain ⟨m1, hm1⟩ : ∃ m, m = d1.length := ⟨_, rfl⟩
 obtain ⟨m2, hm2⟩ : ∃ m, m = d2.length := ⟨_, rfl⟩
 rw [← hm1] at h1m HDa ⊢
 rw [← hm2] at h2m HDb ⊢
 have HRl : Hid (rl + 1 ≤ 4) := Lib.hid (by rw [hrl]; exact hl4)
 clear has had hbs hbd hx hy hz hs2 hs3 hs4 ht2 ht3 ht4 q6 hl4 hm1 hm2 hrl
 have HK : Hid (∀ W, Below (w.heap.size + 3) (((w.alloc (.cells #[.slice (some ⟨g1, o1, none⟩) (rl + 1) c1, .slice a2 m1 c2] 24)).alloc (.cells #[.slice (some ⟨g3, o3, none⟩) (rl + 1) c3, .slice a4 m2 c4] 24)).alloc (.cells #[.slice none 0 0, .slice none 0 0] 24)) W → F3 w W (.slice (some ⟨g1, o1, none⟩) (rl + 1) c1) (.slice a2 m1 c2) (.slice (some ⟨g3, o3, none⟩) (rl + 1) c3) (.slice a4 m2 c4)) := Lib.hid fun W hb => by
  have e : (((w.alloc (.cells #[.slice (some ⟨g1, o1, none⟩) (rl + 1) c1, .slice a2 m1 c2] 24)).alloc (.cells #[.slice (some ⟨g3, o3, none⟩) (rl + 1) c3, .slice a4 m2 c4] 24)).alloc (.cells #[.slice none 0 0, .slice none 0 0] 24)).heap.size = w.heap.size + 3 := by simp
  rw [← e] at hb
  exact (F3.new w _ _ _ _).next hb
 have r0 : ((rl + 1 : Nat) : Int) ≠ 0 := by omega
 have s1 : 1 ≤ rl + 1 := by omega
 have s2 : (1 : Int) ≤ (rl : Int) + 1 := by omega
 have s3 : (rl : Int) + 1 ≤ (c1 : Int) := by omega
 have s4 : (rl : Int) + 1 ≤ (c3 : Int) := by omega
 have s5 : (0 : Int) ≤ (rl : Int) + 1 := by omega
 have i0 : (((rl + 1 : Nat) : Int) != ((rl + 1 : Nat) : Int)) = false := by rw [bne_eq_false_iff_eq]
 go_enter Tryz.func73, Tryz.ntmps73
 go_wp2_with fail
 refine wp_loop_rounds 3 ?_
 rw [rounds_succ]
 go_wp2_with fail
 rw [rounds_succ]
 go_wp2_with fail
 rw [rounds_succ]
 go_upto_region 7 with fail
 go_cut [44] from 28 (fun c wx => c = .bool false ∧ Hid (F3 w wx (.slice (some ⟨g1, o1, none⟩) (rl + 1) c1) (.slice a2 m1 c2) (.slice (some ⟨g3, o3, none⟩) (rl + 1) c3) (.slice a4 m2 c4)))
 case first =>
  by_cases hc1 : c1 = 1
  ·subst hc1
   obtain rfl : rl = 0 := by omega
   by_cases hc3 : c3 = 1
   ·subst hc3
    simp only [if_true] at HEq
    go_region_held3 (fun wy => wy.cell? ⟨w.heap.size, 0, none⟩ = some (.slice (some ⟨g1, o1, none⟩) 1 1) ∧ wy.cell? ⟨w.heap.size + 1, 0, none⟩ = some (.slice (some ⟨g3, o3, none⟩) 1 1))
     (first | go_keep)
     (first | (go_at_call 74; refine (HEq.out _ (HK.out _ (by repeat (first | with_reducible exact Below.refl _ _ | refine Below.drew ?_ | refine Below.alloc ?_ (by simp <;> omega) _))).bel).mono ?_; rintro _ w1 ⟨rfl, hb1⟩; have hk1 := HK.out w1 (Below.trans (by repeat (first | with_reducible exact Below.refl _ _ | refine Below.drew ?_ | refine Below.alloc ?_ (by simp <;> omega) _)) (hb1.mono (by simp <;> omega))); have e0 := hk1.a0; have e1 := hk1.b0; have e2 := hk1.a1; have e3 := hk1.b1; have HF1 := Lib.hid hk1; clear hb1 hk1))
    all_goals
     go_wp2_with fail
     go_meet
     exact ⟨rfl, HF1⟩
   ·simp only [if_true, if_neg hc3] at HEq
    go_region_held3 (fun wy => wy.cell? ⟨w.heap.size, 0, none⟩ = some (.slice (some ⟨g1, o1, none⟩) 1 1) ∧ wy.cell? ⟨w.heap.size + 1, 0, none⟩ = some (.slice (some ⟨g3, o3, none⟩) 1 c3))
     (first | go_keep)
     (first | (go_at_call 74; refine (HEq.out _ (HK.out _ (by repeat (first | with_reducible exact Below.refl _ _ | refine Below.drew ?_ | refine Below.alloc ?_ (by simp <;> omega) _))).bel).mono ?_; rintro _ w1 ⟨rfl, hb1⟩; have hk1 := HK.out w1 (Below.trans (by repeat (first | with_reducible exact Below.refl _ _ | refine Below.drew ?_ | refine Below.alloc ?_ (by simp <;> omega) _)) (hb1.mono (by simp <;> omega))); have e0 := hk1.a0; have e1 := hk1.b0; have e2 := hk1.a1; have e3 := hk1.b1; have HF1 := Lib.hid hk1; clear hb1 hk1))
    all_goals
     go_wp2_with fail
     go_meet
     exact ⟨rfl, HF1⟩
  ·by_cases hc3 : c3 = 1
   ·subst hc3
    obtain rfl : rl = 0 := by omega
    simp only [if_true, if_neg hc1] at HEq
    go_region_held3 (fun wy => wy.cell? ⟨w.heap.size, 0, none⟩ = some (.slice (some ⟨g1, o1, none⟩) 1 c1) ∧ wy.cell? ⟨w.heap.size + 1, 0, none⟩ = some (.slice (some ⟨g3, o3, none⟩) 1 1))
     (first | go_keep)
     (first | (go_at_call 74; refine (HEq.out _ (HK.out _ (by repeat (first | with_reducible exact Below.refl _ _ | refine Below.drew ?_ | refine Below.alloc ?_ (by simp <;> omega) _))).bel).mono ?_; rintro _ w1 ⟨rfl, hb1⟩; have hk1 := HK.out w1 (Below.trans (by repeat (first | with_reducible exact Below.refl _ _ | refine Below.drew ?_ | refine Below.alloc ?_ (by simp <;> omega) _)) (hb1.mono (by simp <;> omega))); have e0 := hk1.a0; have e1 := hk1.b0; have e2 := hk1.a1; have e3 := hk1.b1; have HF1 := Lib.hid hk1; clear hb1 hk1))
    all_goals
     go_wp2_with fail
     go_meet
     exact ⟨rfl, HF1⟩
   ·simp only [if_neg hc1, if_neg hc3] at HEq
    go_region_held3 (fun wy => wy.cell? ⟨w.heap.size, 0, none⟩ = some (.slice (some ⟨g1, o1, none⟩) (rl + 1) c1) ∧ wy.cell? ⟨w.heap.size + 1, 0, none⟩ = some (.slice (some ⟨g3, o3, none⟩) (rl + 1) c3))
     (first | go_keep)
     (first | (go_at_call 74; refine (HEq.out _ (HK.out _ (by repeat (first | with_reducible exact Below.refl _ _ | refine Below.drew ?_ | refine Below.alloc ?_ (by simp <;> omega) _))).bel).mono ?_; rintro _ w1 ⟨rfl, hb1⟩; have hk1 := HK.out w1 (Below.trans (by repeat (first | with_reducible exact Below.refl _ _ | refine Below.drew ?_ | refine Below.alloc ?_ (by simp <;> omega) _)) (hb1.mono (by simp <;> omega))); have e0 := hk1.a0; have e1 := hk1.b0; have e2 := hk1.a1; have e3 := hk1.b1; have HF1 := Lib.hid hk1; clear hb1 hk1))
    all_goals
     go_wp2_with fail
     go_meet
     exact ⟨rfl, HF1⟩
 case rest =>
  obtain ⟨rfl, HF1⟩ := hcut
  have e0 := HF1.out.a0
  have e1 := HF1.out.b0
  have e2 := HF1.out.a1
  have e3 := HF1.out.b1
  go_upto_region 10 with (go_at_call 23; refine (HC.out _ HF1.out.bel).mono ?_; rintro _ w1 ⟨u1, rfl, hu, hb⟩; have hu' := hu.base (b' := w.heap.size) HF1.out.bel.size; have HF2 := Lib.hid (HF1.out.next hb); obtain ⟨g, cg, hfu, hg1, hg2, hg3, hg4, hg5, hg6⟩ := own_cells hu' (by rw [HL5.out]; omega); have cc := hg5 0 (by rw [HL5.out]; omega); have hcc : ((ofN (p :: r)).map (Value.int .i64))[0]? = some (.int .i64 (p : Int)) := rfl; rw [hcc] at cc; rw [HL5.out] at hfu; subst hfu; have HU := Lib.hid hu'; have f1 := HF2.out.b0; have q6 := (HF2.out.bel.cell (p := ⟨g3, _, none⟩) HQ.out.1).trans HQ.out.2; clear hu hu' hb hg1 hg2 hg3 hg4 hg5 hcc e0 e1 e2 e3)
  go_region
  obtain ⟨W, hW⟩ : ∃ W, W = (w1.setCell ⟨g, 0, none⟩ (.int .i64 ((p : Int) + (q : Int)))).drew := ⟨_, rfl⟩
  rw [← hW]
  have hput := HU.out.put 0 ((p : Int) + (q : Int))
  have hB0 : Below w1.heap.size (w1.setCell ⟨g, 0, none⟩ (.int .i64 ((p : Int) + (q : Int)))) W := by rw [hW]; exact Below.drew (Below.refl _ _)
  have HS : Hid (IntsO W w.heap.size (.slice (some ⟨g, 0, none⟩) (rl + 1) cg) (ofN ((p + q) :: r))) := Lib.hid (by
   have h1 := hput.1
   have h2 : (ofN (p :: r)).set 0 ((p : Int) + (q : Int)) = ofN ((p + q) :: r) := congrArg (· :: ofN r) (show (p : Int) + (q : Int) = ((p + q : Nat) : Int) by omega)
   rw [h2] at h1
   rw [hW]
   exact h1)
  have HFW : Hid (F3 w W (.slice (some ⟨g1, o1, none⟩) (rl + 1) c1) (.slice a2 m1 c2) (.slice (some ⟨g3, o3, none⟩) (rl + 1) c3) (.slice a4 m2 c4)) := Lib.hid (by
   rw [hW]
   exact (HF2.out.grown HU.out (Nat.le_refl _) hput.2).next (Below.drew (Below.refl _ _)))
  have HSz := Lib.hid (size_any _ _ W HS.out.s HZ.out.sides)
  have e2 := HFW.out.a1
  have e3 := HFW.out.b1
  have HRV : Hid (RowV (W.alloc (.cells #[.slice a2 m1 c2, .slice a4 m2 c4] 22)) (.slice (some ⟨W.heap.size, 0, none⟩) 2 2) [d1, d2]) := Lib.hid (RowV.two W _ _ d1 d2 _ (HDa.out.below HFW.out.bel) (HDb.out.below HFW.out.bel))
  have HBa : Hid (Below w.heap.size w (W.alloc (.cells #[.slice a2 m1 c2, .slice a4 m2 c4] 22))) := Lib.hid (HFW.out.bel.alloc HFW.out.bel.size _)
  have HBs := Lib.hid (HBa.out.size)
  clear hput hB0 hW HU HF2 HF1 cc q6 f1 HDa HDb
  go_wp2_with (first | (go_at_call 57; refine HSz.out.mono ?_; rintro _ _ ⟨rfl, rfl⟩) | (go_at_call 63; refine (HCat.out _ HBa.out _ HRV.out).mono ?_; rintro _ w5 ⟨u5, rfl, hu, hb⟩; have HU5 := Lib.hid (hu.base (b' := w.heap.size) HBs.out); have HF5 := Lib.hid ((HFW.out.next ((Below.refl _ _).alloc (Nat.le_refl _) _)).next hb); have HS5 := Lib.hid ((HS.out.below ((Below.refl _ _).alloc (Nat.le_refl _) _)).below hb); obtain ⟨a5, c5, hf5⟩ := hu.form; subst hf5; clear hb hu) | (go_at_call 60; refine (HG.out _ _ _ _ D HS5.out.s HL7.out ⟨a5, c5, rfl⟩).mono ?_; rintro _ w6 ⟨u6, rfl, hu, hb⟩; have HU6 := Lib.hid hu; have HF6 := Lib.hid (HF5.out.next hb); have HU7 := Lib.hid (HU5.out.below hb); obtain ⟨a6, c6, hf6⟩ := hu.form; subst hf6; have HB6 := Lib.hid HF5.out.bel.size; have g0 := HF6.out.r0'; have g1 := HF6.out.r1'; have gf := HF6.out.rf'; clear hb hu))
  obtain ⟨z0, z1, z2, z3⟩ := HF6.out.done (.slice a6 (ofN ((p + q) :: r)).length c6) (.slice a5 D.length c5)
  exact bodyPost_ret (v := .tuple #[.agg #[.slice a6 (ofN ((p + q) :: r)).length c6, .slice a5 D.length c5], .int .i64 0]) (by simp [results, Tryz.results73, go_sem, z0, z1]) rfl ⟨_, rfl, ⟨_, _, rfl, (HU6.out.base HB6.out).tag z3, HU7.out.tag z3⟩, z2⟩
set_option maxHeartbeats 2000000 in
set_option maxRecDepth 100000 in
theorem dyad_cat (va vb : Value) (p q : Nat) (r : List Nat) (d1 d2 : List Int) (w : World) (hva : ArrV w va ⟨p :: r, d1⟩) (hvb : ArrV w vb ⟨q :: r, d2⟩) (hx : ArrOk ⟨p :: r, d1⟩) (hy : ArrOk ⟨q :: r, d2⟩) (hz : ArrOk ⟨(p + q) :: r, d1 ++ d2⟩) :
  Calls Tryz.prog 42 #[.int .u8 40, va, vb] w (PrimPost ⟨(p + q) :: r, d1 ++ d2⟩ w) := by
 have HR1 := Lib.hid (fun W (hb : Below w.heap.size w W) => right_ok va _ W (hva.below hb) hx)
 have HR2 := Lib.hid (fun W (hb : Below w.heap.size w W) => right_ok vb _ W (hvb.below hb) hy)
 have HT := Lib.hid (fun W (hb : Below w.heap.size w W) => cat_any va vb p q r d1 d2 W (hva.below hb) (hvb.below hb) hx hy hz)
 obtain ⟨vs, vd, rfl, has, had⟩ := hva
 obtain ⟨us, ud, rfl, hbs, hbd⟩ := hvb
 obtain ⟨a1, c1, rfl⟩ := has.form
 obtain ⟨a2, c2, rfl⟩ := had.form
 obtain ⟨a3, c3, rfl⟩ := hbs.form
 obtain ⟨a4, c4, rfl⟩ := hbd.form
 clear has had hbs hbd hx hy hz
 generalize (⟨(p + q) :: r, d1 ++ d2⟩ : Arr) = y at *
 generalize (ofN (Arr.sides ⟨p :: r, d1⟩)).length = n1 at *
 generalize (Arr.data ⟨p :: r, d1⟩).length = n2 at *
 generalize (ofN (Arr.sides ⟨q :: r, d2⟩)).length = n3 at *
 generalize (Arr.data ⟨q :: r, d2⟩).length = n4 at *
 have HF := Lib.hid (F3.new w (.slice a1 n1 c1) (.slice a2 n2 c2) (.slice a3 n3 c3) (.slice a4 n4 c4))
 have q0 := HF.out.a0
 have q1 := HF.out.a1
 have q2 := HF.out.b0
 have q3 := HF.out.b1
 show Calls _ _ #[.int .u8 40, _, _] _ _
 go_enter Tryz.func42, Tryz.ntmps42
 go_wp2_with (first | (go_at_call 38; refine (HR1.out _ HF.out.bel).mono ?_; rintro _ w1 ⟨rfl, hb⟩; have HF1 := Lib.hid (HF.out.next hb); have e0 := HF1.out.a0; have e1 := HF1.out.a1; have e2 := HF1.out.b0; have e3 := HF1.out.b1; clear hb q0 q1 q2 q3 HR1) | (go_at_call 38; refine (HR2.out _ HF1.out.bel).mono ?_; rintro _ w2 ⟨rfl, hb⟩; have HF2 := Lib.hid (HF1.out.next hb); have e0' := HF2.out.a0; have e1' := HF2.out.a1; have e2' := HF2.out.b0; have e3' := HF2.out.b1; clear hb e0 e1 e2 e3) | (go_at_call 73; refine (HT.out _ HF2.out.bel).mono ?_; rintro _ w3 ⟨u2, rfl, ⟨us, ud, rfl, hu1, hu2⟩, hb⟩; have HF3 := Lib.hid (HF2.out.next hb); have HU := Lib.hid (And.intro (hu1.base HF2.out.bel.size) (hu2.base HF2.out.bel.size)); obtain ⟨b3, d3, hf3⟩ := hu1.form; obtain ⟨b4, d4, hf4⟩ := hu2.form; subst hf3 hf4; have g0 := HF3.out.r0'; have g1 := HF3.out.r1'; have gf := HF3.out.rf'; clear hb hu1 hu2 e0' e1' e2' e3'))
 obtain ⟨z0, z1, z2, z3⟩ := HF3.out.done (.slice b3 (ofN y.sides).length d3) (.slice b4 y.data.length d4)
 exact bodyPost_ret (v := .tuple #[.agg #[.slice b3 (ofN y.sides).length d3, .slice b4 y.data.length d4], .int .i64 0]) (by simp [results, Tryz.results42, go_sem, z0, z1]) rfl ⟨_, rfl, ⟨_, _, rfl, HU.out.1.tag z3, HU.out.2.tag z3⟩, z2⟩
end
section
open Go Go.RowKit Go.Shelf Go.Sort
def revA (x : Arr) : Arr := ⟨x.sides, ((lanesL x).map List.reverse).flatten⟩
def shapeA (x : Arr) : Arr := ⟨[x.sides.length], ofN x.sides⟩
def ravelA (x : Arr) : Arr := ⟨[x.data.length], x.data⟩
inductive MonR : Nat → Arr → Arr → Prop
 | shape (x : Arr) : MonR 33 x (shapeA x)
 | ravel (x : Arr) : MonR 34 x (ravelA x)
 | rev (x : Arr) : MonR 35 x (revA x)
 | turn (x : Arr) : MonR 36 x (turnA x)
def FoldR (f : Nat) (x y : Arr) : Prop := ∃ op u, OpF f op u ∧ y = foldA op u x ∧ (x.sides ≠ [] → SidesOk (x.sides.take (x.sides.length - 1)))
inductive DyR : Nat → Arr → Arr → Arr → Prop
 | rho (x y : Arr) (s : List Nat) (h1 : x.sides.length ≤ 1) (h2 : x.data = ofN s) (h3 : SidesOk s) (h4 : prodN s = y.data.length) (h5 : 0 < y.data.length) : DyR 37 x y ⟨s, y.data⟩
 | take (n : Int) (all : Nat) (r : List Nat) (d : List Int) (lo hi : Nat) (h : PartR all n true lo hi) : DyR 38 ⟨[], [n]⟩ ⟨all :: r, d⟩ (partA ⟨all :: r, d⟩ lo hi)
 | drop (n : Int) (all : Nat) (r : List Nat) (d : List Int) (lo hi : Nat) (h : PartR all n false lo hi) : DyR 39 ⟨[], [n]⟩ ⟨all :: r, d⟩ (partA ⟨all :: r, d⟩ lo hi)
 | cat (p q : Nat) (r : List Nat) (d1 d2 : List Int) : DyR 40 ⟨p :: r, d1⟩ ⟨q :: r, d2⟩ ⟨(p + q) :: r, d1 ++ d2⟩
/-- What an item does to the stack, the last one on the right. -/
def StepR (E : List UInt8 → Option Arr) (it : Itm) (st st' : List Arr) : Prop :=
 (it.how = 1 ∧ ∃ k, it.nums = [k] ∧ st' = st ++ [⟨[], [k]⟩]) ∨
 (it.how = 2 ∧ it.name.length ≤ 100 ∧ ∃ x, E it.name = some x ∧ ArrOk x ∧ st' = st ++ [x]) ∨
 (it.how = 3 ∧ ∃ r x y, MonR it.fn x y ∧ ArrOk x ∧ ArrOk y ∧ st = r ++ [x] ∧ st' = r ++ [y]) ∨
 (it.how = 5 ∧ ∃ r x y, FoldR it.fn x y ∧ ArrOk x ∧ ArrOk y ∧ st = r ++ [x] ∧ st' = r ++ [y]) ∨
 (it.how = 4 ∧ ∃ r x y z, DyR it.fn x y z ∧ ArrOk x ∧ ArrOk y ∧ ArrOk z ∧ st = (r ++ [x]) ++ [y] ∧ st' = r ++ [z])
def RunR (E : List UInt8 → Option Arr) : List Itm → List Arr → List Arr → Prop
 | [], st, st' => st' = st
 | it :: r, st, st' => ∃ s1, StepR E it st s1 ∧ RunR E r s1 st'
def addE (E : List UInt8 → Option Arr) (nm : List UInt8) (x : Arr) : List UInt8 → Option Arr := fun k => if k = nm then some x else E k
/-- Lines, one by one. -/
def MeanR : (List UInt8 → Option Arr) → List Lin → List Arr → Prop
 | _, [], outs => outs = []
 | E, l :: r, outs => ∃ y rest, l.name.length ≤ 100 ∧ RunR E l.items [] [y] ∧ ArrOk y ∧ outs = y :: rest ∧ MeanR (addE E l.name y) r rest
def cntI (l : List Lin) : Nat := (l.map fun x => x.items.length).sum
theorem RunR_bare {E : List UInt8 → Option Arr} : ∀ {l : List Itm} {st st' : List Arr}, RunR E (l.map Itm.bare) st st' → RunR E l st st'
 | [], _, _, h => h
 | _ :: _, _, _, ⟨s1, h1, h2⟩ => ⟨s1, h1, RunR_bare h2⟩
theorem MeanR_bare : ∀ {l : List Lin} {E : List UInt8 → Option Arr} {outs : List Arr}, MeanR E (l.map Lin.bare) outs → MeanR E l outs
 | [], _, _, h => h
 | _ :: _, _, _, ⟨y, rest, h0, h1, h2, h3, h4⟩ => ⟨y, rest, h0, RunR_bare h1, h2, h3, MeanR_bare h4⟩
theorem cntI_bare (l : List Lin) : cntI (l.map Lin.bare) = cntI l := by
 unfold cntI
 rw [List.map_map]
 congr 2
 funext x
 show (x.items.map Itm.bare).length = _
 rw [List.length_map]
theorem turn_ok {x : Arr} (h : ArrOk x) : ArrOk (turnA x) ∧ turnA (turnA x) = x := by
 have hp : prodR x.sides = x.data.length := by rw [← prodN_R]; exact h.all
 have e : prodN x.sides.reverse = prodN x.sides := by rw [prodN_R, prodR_reverse, ← prodN_R]
 refine ⟨⟨⟨?_, fun n hn => h.sides.each n (List.mem_reverse.1 hn), ?_⟩, ?_⟩, turn_turn hp⟩
 ·show x.sides.reverse.length ≤ 4
  rw [List.length_reverse]
  exact h.sides.len
 ·show prodN x.sides.reverse ≤ 65536
  rw [e]
  exact h.sides.all
 ·show prodN x.sides.reverse = ((List.range x.data.length).map _).length
  rw [e, List.length_map, List.length_range]
  exact h.all
theorem revA_nil {x : Arr} (h : x.data = []) : revA x = x := by
 unfold revA lanesL
 rw [if_pos h]
 obtain ⟨s, d⟩ := x
 dsimp only at *
 rw [h]
 rfl
theorem rev_ok {x : Arr} (h : ArrOk x) : ArrOk (revA x) ∧ revA (revA x) = x := by
 by_cases h0 : x.data = []
 ·rw [revA_nil h0, revA_nil h0]
  exact ⟨h, rfl⟩
 ·obtain ⟨hn, _, _⟩ := last_div h h0
  have e : revA x = ⟨x.sides, revL (lastN x.sides) x.data⟩ := by unfold revA; rw [lanes_rev h hn]
  have hl : (revL (lastN x.sides) x.data).length = x.data.length := revG_len hn _ _ (Nat.le_refl _)
  have ho : ArrOk (revA x) := by
   rw [e]
   exact ⟨h.sides, by show prodN x.sides = _; rw [hl]; exact h.all⟩
  refine ⟨ho, ?_⟩
  have e2 : revA (revA x) = ⟨(revA x).sides, revL (lastN (revA x).sides) (revA x).data⟩ := by
   unfold revA
   rw [lanes_rev (x := ⟨x.sides, ((lanesL x).map List.reverse).flatten⟩) ho hn]
  rw [e2, e]
  dsimp only
  rw [rev_rev hn]
theorem prodN_one (n : Nat) : prodN [n] = n := by show 1 * n = n; rw [Nat.one_mul]
theorem ravel_ok {x : Arr} (h : ArrOk x) : ArrOk (ravelA x) := by
 have := h.le
 exact ⟨⟨by show (1 : Nat) ≤ 4; decide, fun n hn => by rw [List.mem_singleton.1 hn]; exact this, by show prodN [x.data.length] ≤ _; rw [prodN_one]; exact this⟩, prodN_one _⟩
theorem shape_ok {x : Arr} (h : ArrOk x) : ArrOk (shapeA x) := by
 have := h.sides.len
 exact ⟨⟨by show (1 : Nat) ≤ 4; decide, fun n hn => by rw [List.mem_singleton.1 hn]; omega, by show prodN [x.sides.length] ≤ _; rw [prodN_one]; omega⟩, by show prodN [x.sides.length] = (ofN x.sides).length; rw [prodN_one, ofN_len]⟩
theorem num_ok (k : Int) : ArrOk ⟨[], [k]⟩ := ⟨⟨by show (0 : Nat) ≤ 4; decide, fun n hn => (nomatch hn), by show (1 : Nat) ≤ 65536; decide⟩, rfl⟩
def envX (x : Arr) : List UInt8 → Option Arr := addE (fun _ => none) [120] x
section
variable {E : List UInt8 → Option Arr}
theorem RunR.cons {it : Itm} {r : List Itm} {st s1 st' : List Arr} (h1 : StepR E it st s1) (h2 : RunR E r s1 st') : RunR E (it :: r) st st' := ⟨s1, h1, h2⟩
theorem RunR.nil {st : List Arr} : RunR E [] st st := rfl
theorem sp_nm {s : List UInt8} {x : Arr} (h : E s = some x) (hx : ArrOk x) (hs : s.length ≤ 100) {st : List Arr} : StepR E (nmI s) st (st ++ [x]) := .inr (.inl ⟨rfl, hs, x, h, hx, rfl⟩)
theorem sp_x {x : Arr} (h : E [120] = some x) (hx : ArrOk x) {st : List Arr} : StepR E xI st (st ++ [x]) := sp_nm h hx (by decide)
theorem sp_nu (k : Int) {st : List Arr} : StepR E (nuI k) st (st ++ [⟨[], [k]⟩]) := .inl ⟨rfl, k, rfl, rfl⟩
theorem sp_mo {f : Nat} {x y : Arr} (h : MonR f x y) (hx : ArrOk x) (hy : ArrOk y) {r : List Arr} : StepR E (moI f) (r ++ [x]) (r ++ [y]) := .inr (.inr (.inl ⟨rfl, r, x, y, h, hx, hy, rfl, rfl⟩))
theorem sp_fo {f : Nat} {x y : Arr} (h : FoldR f x y) (hx : ArrOk x) (hy : ArrOk y) {r : List Arr} : StepR E (foI f) (r ++ [x]) (r ++ [y]) := .inr (.inr (.inr (.inl ⟨rfl, r, x, y, h, hx, hy, rfl, rfl⟩)))
theorem sp_dy {f : Nat} {x y z : Arr} (h : DyR f x y z) (hx : ArrOk x) (hy : ArrOk y) (hz : ArrOk z) {r : List Arr} : StepR E (dyI f) ((r ++ [x]) ++ [y]) (r ++ [z]) := .inr (.inr (.inr (.inr ⟨rfl, r, x, y, z, h, hx, hy, hz, rfl, rfl⟩)))
end
theorem ord_op (k : Nat) : ∃ u, OpF ((ordF k : Nat) : Int) (orderF k) u ∧ orderF k u u = u := by
 unfold ordF orderF
 by_cases h0 : k = 0
 ·rw [if_pos h0, if_pos h0]
  exact ⟨0, .plus, by kernel_rfl⟩
 rw [if_neg h0, if_neg h0]
 by_cases h1 : k = 1
 ·rw [if_pos h1, if_pos h1]
  exact ⟨1, .times, by kernel_rfl⟩
 rw [if_neg h1, if_neg h1]
 by_cases h2 : k = 2
 ·rw [if_pos h2, if_pos h2]
  exact ⟨9223372036854775807, .least, by kernel_rfl⟩
 rw [if_neg h2, if_neg h2]
 exact ⟨-9223372036854775808, .most, by kernel_rfl⟩
theorem foldA_cons {op : Int → Int → Int} {u : Int} (n : Nat) (r : List Nat) (d : List Int) : foldA op u ⟨(n :: r).reverse, d⟩ = ⟨r.reverse, if n = 0 then List.replicate (prodR r) u else foldG op n d.length d⟩ := by
 unfold foldA
 dsimp only
 rw [List.reverse_reverse]
theorem fold_step_ok {op : Int → Int → Int} {u : Int} {n : Nat} {r : List Nat} {d : List Int} (h : ArrOk ⟨(n :: r).reverse, d⟩) (hd : d = [] → (n :: r).length ≤ 2) :
  ArrOk (foldA op u ⟨(n :: r).reverse, d⟩) ∧ SidesOk r.reverse ∧ ((foldA op u ⟨(n :: r).reverse, d⟩).data = [] → r.length ≤ 2) := by
 have hall : prodR r * n = d.length := by
  have := h.all
  rw [prodN_R, prodR_reverse] at this
  exact this
 have hle : d.length ≤ 65536 := h.le
 have hlen : r.length + 1 ≤ 4 := by
  have := h.sides.len
  simpa using this
 have heach : ∀ x ∈ r, x ≤ 65536 := fun x hx => h.sides.each x (by simp [hx])
 have hp : prodR r ≤ 65536 := by
  by_cases h0 : d = []
  ·have := hd h0
   match r, this, heach with
   | [], _, _ => show (1 : Nat) ≤ 65536; decide
   | [m], _, he =>
    have := he m (by simp)
    show 1 * m ≤ 65536
    omega
  ·have hpos : 0 < d.length := List.length_pos_iff.2 h0
   have hn : 0 < n := by
    rcases Nat.eq_zero_or_pos n with e | e
    ·rw [e, Nat.mul_zero] at hall; omega
    ·exact e
   have := Nat.le_mul_of_pos_right (prodR r) hn
   omega
 have hs : SidesOk r.reverse := ⟨by rw [List.length_reverse]; omega, fun x hx => heach x (List.mem_reverse.1 hx), by rw [prodN_R, prodR_reverse]; exact hp⟩
 have hdl : (if n = 0 then List.replicate (prodR r) u else foldG op n d.length d).length = prodR r := by
  by_cases h0 : n = 0
  ·rw [if_pos h0, List.length_replicate]
  ·rw [if_neg h0]
   exact foldG_len (by omega) (prodR r) d.length d hall.symm (Nat.le_refl _)
 rw [foldA_cons]
 refine ⟨⟨hs, by show prodN r.reverse = _; rw [prodN_R, prodR_reverse]; exact hdl.symm⟩, hs, fun he => ?_⟩
 by_cases h0 : d = []
 ·have := hd h0
  rw [List.length_cons] at this
  omega
 ·exfalso
  have hpos : 0 < d.length := List.length_pos_iff.2 h0
  have he2 := congrArg List.length he
  have he3 : prodR r = 0 := by rw [← hdl]; exact he2
  rw [he3, Nat.zero_mul] at hall
  omega
theorem run_fold {E : List UInt8 → Option Arr} {f : Nat} {op : Int → Int → Int} {u : Int} (hf : OpF (f : Int) op u) : ∀ (r : List Nat) (d : List Int), ArrOk ⟨r.reverse, d⟩ → (d = [] → r.length ≤ 2) →
  RunR E (List.replicate r.length (foI f)) ([] ++ [⟨r.reverse, d⟩]) [(List.range r.length).foldl (fun x _ => foldA op u x) ⟨r.reverse, d⟩]
 | [], d, _, _ => RunR.nil
 | n :: r, d, h, hd => by
  obtain ⟨h1, h2, h3⟩ := fold_step_ok (op := op) (u := u) h hd
  have hfr : FoldR f ⟨(n :: r).reverse, d⟩ (foldA op u ⟨(n :: r).reverse, d⟩) := by
   refine ⟨op, u, hf, rfl, fun _ => ?_⟩
   show SidesOk ((n :: r).reverse.take ((n :: r).reverse.length - 1))
   have : (n :: r).reverse.take ((n :: r).reverse.length - 1) = r.reverse := by
    rw [List.reverse_cons, List.length_append, List.length_singleton, Nat.add_sub_cancel, List.take_left]
   rw [this]
   exact h2
  rw [List.length_cons, List.range_succ_eq_map, List.foldl_cons, List.foldl_map, List.replicate_succ]
  refine RunR.cons (sp_fo (r := []) hfr h h1) ?_
  rw [foldA_cons] at h1 h3 ⊢
  exact run_fold hf r _ h1 h3
theorem mean_twice {x : Arr} (h : ArrOk x) : MeanR (envX x) (twiceP x.sides).lines [x, x, ravelA x] := by
 obtain ⟨r1, r2⟩ := rev_ok h
 obtain ⟨t1, t2⟩ := turn_ok h
 have m1 := MonR.rev (revA x)
 rw [r2] at m1
 have m2 := MonR.turn (turnA x)
 rw [t2] at m2
 refine ⟨x, _, by show (1 : Nat) ≤ 100; decide, RunR.cons (sp_x rfl h) (RunR.cons (sp_mo (r := []) (.rev x) h r1) (RunR.cons (sp_mo (r := []) m1 r1 h) RunR.nil)), h, rfl, ?_⟩
 refine ⟨x, _, by show (1 : Nat) ≤ 100; decide, RunR.cons (sp_x rfl h) (RunR.cons (sp_mo (r := []) (.turn x) h t1) (RunR.cons (sp_mo (r := []) m2 t1 h) RunR.nil)), h, rfl, ?_⟩
 exact ⟨ravelA x, _, by show (0 : Nat) ≤ 100; decide, RunR.cons (sp_x rfl h) (RunR.cons (sp_mo (r := []) (.ravel x) h (ravel_ok h)) RunR.nil), ravel_ok h, rfl, rfl⟩
theorem mean_shapes {x : Arr} (h : ArrOk x) (hd : 0 < x.data.length) : MeanR (envX x) (shapesP x.sides).lines [shapeA x, x] := by
 refine ⟨shapeA x, _, by show (1 : Nat) ≤ 100; decide, RunR.cons (sp_x rfl h) (RunR.cons (sp_mo (r := []) (.shape x) h (shape_ok h)) RunR.nil), shape_ok h, rfl, ?_⟩
 have hr : DyR 37 (shapeA x) (ravelA x) x := .rho (shapeA x) (ravelA x) x.sides (by show (1 : Nat) ≤ 1; decide) rfl h.sides h.all hd
 exact ⟨x, _, by show (0 : Nat) ≤ 100; decide, RunR.cons (sp_nm rfl (shape_ok h) (by decide)) (RunR.cons (sp_x rfl h) (RunR.cons (sp_mo (.ravel x) h (ravel_ok h)) (RunR.cons (sp_dy (r := []) hr (shape_ok h) (ravel_ok h) h) RunR.nil))), h, rfl, rfl⟩
theorem turn_data_nil {x : Arr} : (turnA x).data = [] ↔ x.data = [] := by
 have : (turnA x).data.length = x.data.length := by unfold turnA; simp
 rw [← List.length_eq_zero_iff, this, List.length_eq_zero_iff]
theorem mean_sums {x : Arr} (h : ArrOk x) (hd : x.data = [] → x.sides.length ≤ 2) (k : Nat) : ∃ t, MeanR (envX x) (sumsP x.sides k).lines [⟨[], [t]⟩, ⟨[], [t]⟩, ⟨[], [t]⟩] := by
 obtain ⟨t1, t2⟩ := turn_ok h
 have hp : prodR x.sides = x.data.length := by rw [← prodN_R]; exact h.all
 have ht : (turnA x).sides.length = x.sides.length := by show x.sides.reverse.length = _; rw [List.length_reverse]
 obtain ⟨u, hu⟩ : ∃ u, ∀ E : List UInt8 → Option Arr, ∀ x : Arr, ArrOk x → (x.data = [] → x.sides.length ≤ 2) → RunR E (List.replicate x.sides.length (foI (ordF k))) ([] ++ [x]) [⟨[], [if x.data = [] then u else tot (orderF k) x.data]⟩] := by
  obtain ⟨u, hu, huu⟩ := ord_op k
  refine ⟨u, fun E y hy hd => ?_⟩
  obtain ⟨s, d⟩ := y
  obtain ⟨r, rfl⟩ : ∃ r : List Nat, s = r.reverse := ⟨s.reverse, by rw [List.reverse_reverse]⟩
  have hl : (r.reverse).length = r.length := List.length_reverse
  have hp : prodR r = d.length := by
   have := hy.all
   rw [prodN_R, prodR_reverse] at this
   exact this
  have h := run_fold (E := E) hu r d hy (by dsimp only at hd; rw [hl] at hd; exact hd)
  dsimp only at hd ⊢
  rw [hl] at hd ⊢
  by_cases h0 : d = []
  ·subst h0
   rw [fold_none huu r hp (hd rfl)] at h
   rw [if_pos rfl]
   exact h
  ·rw [fold_all (order_assoc k) u r d h0 hp.symm] at h
   rw [if_neg h0]
   exact h
 have e : (if (turnA x).data = [] then u else tot (orderF k) (turnA x).data) = if x.data = [] then u else tot (orderF k) x.data := by
  by_cases h0 : x.data = []
  ·rw [if_pos h0, if_pos (turn_data_nil.2 h0)]
  ·rw [if_neg h0, if_neg (fun e => h0 (turn_data_nil.1 e)), tot_perm (order_assoc k) (order_comm k) (turn_perm hp)]
 obtain ⟨t, htt⟩ : ∃ t, t = if x.data = [] then u else tot (orderF k) x.data := ⟨_, rfl⟩
 refine ⟨t, ⟨[], [t]⟩, _, by show (1 : Nat) ≤ 100; decide, RunR.cons (sp_x rfl h) (by rw [htt]; exact hu _ x h hd), num_ok t, rfl, ?_⟩
 refine ⟨⟨[], [t]⟩, _, by show (1 : Nat) ≤ 100; decide, RunR.cons (sp_x rfl h) (RunR.cons (sp_mo (r := []) (.turn x) h t1) ?_), num_ok t, rfl, ?_⟩
 ·have := hu (addE (envX x) [121] ⟨[], [t]⟩) (turnA x) t1 (fun h0 => by rw [ht]; exact hd (turn_data_nil.1 h0))
  rw [e, ← htt, ht] at this
  exact this
 ·refine ⟨⟨[], [t]⟩, _, by show (0 : Nat) ≤ 100; decide, RunR.cons (sp_x rfl h) (RunR.cons (sp_mo (r := []) (.ravel x) h (ravel_ok h)) ?_), num_ok t, rfl, rfl⟩
  rw [htt]
  exact hu _ (ravelA x) (ravel_ok h) (fun _ => by show (1 : Nat) ≤ 2; decide)
theorem part_ok {all : Nat} {r : List Nat} {d : List Int} (h : ArrOk ⟨all :: r, d⟩) {lo hi : Nat} (h1 : lo ≤ hi) (h2 : hi ≤ all) : ArrOk (partA ⟨all :: r, d⟩ lo hi) ∧ (partA ⟨all :: r, d⟩ lo hi).sides = (hi - lo) :: r := by
 have hall : all * prodN r = d.length := by
  have := h.all
  rwa [prodN_cons] at this
 have hle : d.length ≤ 65536 := h.le
 have hm : (hi - lo) * prodN r ≤ d.length := by rw [← hall]; exact Nat.mul_le_mul_right _ (by omega)
 refine ⟨⟨⟨?_, ?_, ?_⟩, ?_⟩, rfl⟩
 ·exact h.sides.len
 ·intro n hn
  have hn : n ∈ (hi - lo) :: r := hn
  rcases List.mem_cons.1 hn with rfl | hn
  ·have := h.sides.each all (by simp)
   omega
  ·exact h.sides.each n (by simp [hn])
 ·show prodN ((hi - lo) :: r) ≤ 65536
  rw [prodN_cons]
  omega
 ·show prodN ((hi - lo) :: r) = List.length (if all = 0 then [] else (d.take (hi * (d.length / all))).drop (lo * (d.length / all)))
  rw [prodN_cons]
  by_cases h0 : all = 0
  ·rw [if_pos h0, show hi - lo = 0 by omega, Nat.zero_mul]
   rfl
  ·have hq : d.length / all = prodN r := by rw [← hall, Nat.mul_div_cancel_left _ (by omega)]
   rw [if_neg h0, hq, List.length_drop, List.length_take, Nat.min_eq_left (by rw [← hall]; exact Nat.mul_le_mul_right _ h2), Nat.sub_mul]
theorem part_join {all : Nat} {r : List Nat} {d : List Int} (h : ArrOk ⟨all :: r, d⟩) {k : Nat} (hk : k ≤ all) : ∃ d1 d2, partA ⟨all :: r, d⟩ 0 k = ⟨k :: r, d1⟩ ∧ partA ⟨all :: r, d⟩ k all = ⟨(all - k) :: r, d2⟩ ∧ d1 ++ d2 = d := by
 have hall : all * prodN r = d.length := by
  have := h.all
  rwa [prodN_cons] at this
 have := part_cat hall hk
 refine ⟨_, _, rfl, rfl, ?_⟩
 have h3 := congrArg Arr.data this
 exact h3
theorem mean_parts {all : Nat} {r : List Nat} {d : List Int} (h : ArrOk ⟨all :: r, d⟩) {k : Nat} (hk : k ≤ all) : MeanR (envX ⟨all :: r, d⟩) (partsP (all :: r) k).lines [⟨all :: r, d⟩, ⟨all :: r, d⟩] := by
 obtain ⟨a1, a2⟩ := part_ok h (Nat.zero_le k) hk
 obtain ⟨b1, b2⟩ := part_ok h hk (Nat.le_refl all)
 obtain ⟨d1, d2, e1, e2, e3⟩ := part_join h hk
 have hc : DyR 40 (partA ⟨all :: r, d⟩ 0 k) (partA ⟨all :: r, d⟩ k all) ⟨all :: r, d⟩ := by
  have := DyR.cat k (all - k) r d1 d2
  rw [e3, show k + (all - k) = all by omega] at this
  rw [e1, e2]
  exact this
 refine ⟨⟨all :: r, d⟩, _, by show (1 : Nat) ≤ 100; decide, RunR.cons (sp_nu k) (RunR.cons (sp_x rfl h) (RunR.cons (sp_dy (r := []) (.take k all r d 0 k (.front k hk)) (num_ok _) h a1)
  (RunR.cons (sp_nu k) (RunR.cons (sp_x rfl h) (RunR.cons (sp_dy (.drop k all r d k all (.left k (all - k) (by omega))) (num_ok _) h b1) (RunR.cons (sp_dy (r := []) hc a1 b1 h) RunR.nil)))))), h, rfl, ?_⟩
 by_cases h0 : k = 0
 ·subst h0
  obtain ⟨c1, _⟩ := part_ok h (Nat.le_refl 0) (Nat.zero_le all)
  obtain ⟨d1, d2, g1, g2, g3⟩ := part_join h (Nat.le_refl all)
  have hz : partA ⟨all :: r, d⟩ 0 0 = ⟨0 :: r, []⟩ := by
   unfold partA
   dsimp only
   by_cases ha : all = 0
   ·rw [if_pos ha]
   ·rw [if_neg ha, Nat.zero_mul, List.take_zero, List.drop_nil]
  have hf : partA ⟨all :: r, d⟩ 0 all = ⟨all :: r, d⟩ := by
   have hcat := part_cat (by have := h.all; rwa [prodN_cons] at this) (Nat.le_refl all)
   unfold partA at hcat ⊢
   dsimp only at hcat ⊢
   by_cases ha : all = 0
   ·have hd0 : d = [] := List.eq_nil_of_length_eq_zero (by have := h.all; rw [prodN_cons, ha, Nat.zero_mul] at this; exact this.symm)
    rw [if_pos ha, hd0, Nat.sub_zero]
   ·have hq : all * (d.length / all) = d.length := by
     have hall : all * prodN r = d.length := by have := h.all; rwa [prodN_cons] at this
     rw [← hall, Nat.mul_div_cancel_left _ (by omega)]
    rw [if_neg ha, Nat.zero_mul, List.drop_zero, hq, List.take_length, Nat.sub_zero]
  have hc2 : DyR 40 (partA ⟨all :: r, d⟩ 0 all) (partA ⟨all :: r, d⟩ 0 0) ⟨all :: r, d⟩ := by
   have := DyR.cat all 0 r d []
   rw [List.append_nil, Nat.add_zero] at this
   rw [hz, hf]
   exact this
  have hl : DyR 39 ⟨[], [-((0 : Nat) : Int)]⟩ ⟨all :: r, d⟩ (partA ⟨all :: r, d⟩ 0 all) := .drop ((0 : Nat) : Int) all r d 0 all (.left 0 all (by omega))
  have ht : DyR 38 ⟨[], [-((0 : Nat) : Int)]⟩ ⟨all :: r, d⟩ (partA ⟨all :: r, d⟩ 0 0) := .take ((0 : Nat) : Int) all r d 0 0 (.front 0 (Nat.zero_le _))
  exact ⟨⟨all :: r, d⟩, _, by show (0 : Nat) ≤ 100; decide, RunR.cons (sp_nu _) (RunR.cons (sp_x rfl h) (RunR.cons (sp_dy (r := []) hl (num_ok _) h b1)
   (RunR.cons (sp_nu _) (RunR.cons (sp_x rfl h) (RunR.cons (sp_dy ht (num_ok _) h c1) (RunR.cons (sp_dy (r := []) hc2 b1 c1 h) RunR.nil)))))), h, rfl, rfl⟩
 ·obtain ⟨q, hq⟩ : ∃ q, k + q = all := ⟨all - k, by omega⟩
  have hqa : q ≤ all := by omega
  obtain ⟨a1, _⟩ := part_ok h (Nat.zero_le q) hqa
  obtain ⟨b1, _⟩ := part_ok h hqa (Nat.le_refl all)
  obtain ⟨d1, d2, g1, g2, g3⟩ := part_join h hqa
  have hc2 : DyR 40 (partA ⟨all :: r, d⟩ 0 q) (partA ⟨all :: r, d⟩ q all) ⟨all :: r, d⟩ := by
   have := DyR.cat q (all - q) r d1 d2
   rw [g3, show q + (all - q) = all by omega] at this
   rw [g1, g2]
   exact this
  have hl : DyR 39 ⟨[], [-(k : Int)]⟩ ⟨all :: r, d⟩ (partA ⟨all :: r, d⟩ 0 q) := .drop (-(k : Int)) all r d 0 q (.ahead k q hq (by omega))
  have ht : DyR 38 ⟨[], [-(k : Int)]⟩ ⟨all :: r, d⟩ (partA ⟨all :: r, d⟩ q all) := .take (-(k : Int)) all r d q all (.back k q hq (by omega))
  exact ⟨⟨all :: r, d⟩, _, by show (0 : Nat) ≤ 100; decide, RunR.cons (sp_nu _) (RunR.cons (sp_x rfl h) (RunR.cons (sp_dy (r := []) hl (num_ok _) h a1)
   (RunR.cons (sp_nu _) (RunR.cons (sp_x rfl h) (RunR.cons (sp_dy ht (num_ok _) h b1) (RunR.cons (sp_dy (r := []) hc2 a1 b1 h) RunR.nil)))))), h, rfl, rfl⟩
theorem begun_arr : ArrOk ⟨[3], [1, 2, 3]⟩ := ⟨⟨by decide, by decide, by decide⟩, by decide⟩
theorem mean_begun : MeanR (envX ⟨[3], [1, 2, 3]⟩) begunP.lines [⟨[], [6]⟩] := by
 have hf : FoldR 1 ⟨[3], [1, 2, 3]⟩ ⟨[], [6]⟩ := ⟨plusF, 0, .plus, by kernel_rfl, fun _ => ⟨by decide, by decide, by decide⟩⟩
 exact ⟨⟨[], [6]⟩, _, by show (0 : Nat) ≤ 100; decide, RunR.cons (sp_x rfl begun_arr) (RunR.cons (sp_fo (r := []) hf begun_arr (num_ok 6)) RunR.nil), num_ok 6, rfl, rfl⟩
theorem cnt_twice (s : List Nat) : cntI (twiceP s).lines ≤ 16 := by show (3 + (3 + (2 + 0)) : Nat) ≤ 16; decide
theorem cnt_shapes (s : List Nat) : cntI (shapesP s).lines ≤ 16 := by show (2 + (4 + 0) : Nat) ≤ 16; decide
theorem cnt_parts (s : List Nat) (k : Nat) : cntI (partsP s k).lines ≤ 16 := by show (7 + (7 + 0) : Nat) ≤ 16; decide
theorem cnt_begun : cntI begunP.lines ≤ 16 := by show (2 + 0 : Nat) ≤ 16; decide
theorem cnt_sums (s : List Nat) (k : Nat) (h : s.length ≤ 4) : cntI (sumsP s k).lines ≤ 16 := by
 show (xI :: List.replicate s.length (foI (ordF k))).length + ((xI :: moI 36 :: List.replicate s.length (foI (ordF k))).length + (3 + 0)) ≤ 16
 simp only [List.length_cons, List.length_replicate]
 omega
end
end Go.Proofs.YtknnleiinhdklaaGreatDoor
