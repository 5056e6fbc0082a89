/-
  Walk of windrowtop.TopParts. Condition: the array's two slices read as lists; Go's library's variables hold what they are laid with.
-/
import Derived.Test.YtknnleiinhdklaaGreatDoorKTzD
import Derived.Test.YtknnleiinhdklaaGreatDoorPk46
import Derived.Test.YtknnleiinhdklaaGreatDoorPk28
import Derived.Test.YtknnleiinhdklaaGreatDoorPk26
namespace Go.Proofs.YtknnleiinhdklaaGreatDoor
open Go.RowKit Go.Shelf Go.Sort Go.Maps

theorem rem_facts (f all k : Nat) (hf : f < 65536) (hall : all ≤ 65536) (hk : k = f % (all + 1)) : k ≤ all ∧ IntKind.i64.wrap (f : Int) = f ∧ wrap64 (f : Int) = f ∧ IntKind.i64.wrap ((all : Int) + 1) = all + 1 ∧ wrap64 ((all : Int) + 1) = all + 1 ∧ (f : Int).tmod ((all : Int) + 1) = k ∧ (f : Int) % ((all : Int) + 1) = k ∧ ((all : Int) + 1 == 0) = false ∧ ¬ (all : Int) + 1 = 0 ∧ IntKind.i64.wrap (-(k : Int)) = -k ∧ wrap64 (-(k : Int)) = -k ∧ IntKind.i64.wrap (k : Int) = k := by
  have h5 : (f : Int) % ((all : Int) + 1) = k := by rw [hk]; exact (Int.natCast_emod f (all + 1)).symm
  have h4 : (f : Int).tmod ((all : Int) + 1) = k := by rw [Int.tmod_eq_emod_of_nonneg (Int.natCast_nonneg f)]; exact h5
  have hka : k ≤ all := by rw [hk]; exact Nat.lt_succ_iff.1 (Nat.mod_lt f (Nat.succ_pos all))
  clear hk h5
  refine ⟨hka, ?_, ?_, ?_, ?_, h4, ?_, ?_, ?_, ?_, ?_, ?_⟩
  · rw [IntKind.wrap_i64]; omega
  · unfold wrap64; omega
  · rw [IntKind.wrap_i64]; omega
  · unfold wrap64; omega
  · rw [← h4, Int.tmod_eq_emod_of_nonneg (Int.natCast_nonneg f)]
  · rw [beq_eq_false_iff_ne]; omega
  · omega
  · rw [IntKind.wrap_i64]; omega
  · unfold wrap64; omega
  · rw [IntKind.wrap_i64]; omega
theorem k_in {k all : Nat} (h : k ≤ all) (hall : all ≤ 65536) : -1000000 ≤ (k : Int) ∧ (k : Int) ≤ 1000000 ∧ -1000000 ≤ -(k : Int) ∧ -(k : Int) ≤ 1000000 := by omega
theorem numT_22 {n : Int} (h0 : -1000000 ≤ n) (h1 : n ≤ 1000000) : (numT n).length ≤ 22 := by
  have := numT_len n (by omega) (by omega)
  omega
set_option maxHeartbeats 8000000 in
set_option maxRecDepth 100000 in
theorem TParts_any (vs vd : Value) (ls ld : List Int) (f : Nat) (w : World) (hs : IntsS w vs ls) (hd : IntsS w vd ld) (hf : f < 65536) (hE : Env w) :
    Calls Tryz.prog 6 #[.agg #[vs, vd], .int .u16 f] w fun e w' => e = .returned (.bool true) ∧ Below w.heap.size w w' := by
  obtain ⟨a1, c1, rfl⟩ := hs.form
  obtain ⟨a2, c2, rfl⟩ := hd.form
  have HBg := Lib.hid (fun W (hb : Below w.heap.size w W) => begun_any W (hE.kept hb))
  have HF := Lib.hid (fun W (hb : Below w.heap.size w W) => fair_any (.slice a1 ls.length c1) (.slice a2 ld.length c2) ls ld W (hs.below hb) (hd.below hb))
  have HEn := Lib.hid hE
  have HS := Lib.hid hs
  have HD := Lib.hid hd
  have HB0 := Lib.hid ((Below.refl _ w).alloc (Nat.le_refl _) (.cells #[.slice a1 ls.length c1, .slice a2 ld.length c2] 24))
  have HK0 := Lib.hid (Blk.new w 24 #[.slice a1 ls.length c1, .slice a2 ld.length c2] rfl)
  obtain ⟨m1, hm1⟩ : ∃ m, m = ls.length := ⟨_, rfl⟩
  obtain ⟨m2, hm2⟩ : ∃ m, m = ld.length := ⟨_, rfl⟩
  have HM := Lib.hid (And.intro hm1 hm2)
  rw [← hm1, ← hm2] at HB0 HK0 HF
  rw [← hm1] at HS
  rw [← hm2] at HD
  rw [← hm1, ← hm2]
  clear hs hd hE hm1 hm2
  go_enter Tryz.func6, Tryz.ntmps6
  go_wp2_with (go_at_call 7; refine (HBg.out _ HB0.out).mono ?_; rintro _ w1 ⟨rfl, hb⟩; have HB1 := Lib.hid (HB0.out.trans (hb.mono HB0.out.size)); have HK1 := Lib.hid (HK0.out.below hb); have c0 := (HK0.out.below hb).cell 0 |>.trans (show _ = some (Value.slice a1 m1 c1) from rfl); have d0 := (HK0.out.below hb).cell 1 |>.trans (show _ = some (Value.slice a2 m2 c2) from rfl); clear hb)
  by_cases h0 : m1 = 0
  · have h0I : ((m1 : Int) == 0) = true := by rw [beq_iff_eq]; omega
    have h0B : (m1 == 0) = true := by rw [beq_iff_eq]; omega
    go_wp2_with (go_at_call 8; refine (HF.out _ HB1.out).mono ?_; rintro _ w2 ⟨b, rfl, hb, hx⟩; have HB2 := Lib.hid (HB1.out.trans (hb.mono HB1.out.size)); have HK2 := Lib.hid (HK1.out.below hb); have HX := Lib.hid hx; have p0 := (HK1.out.below hb).cell 0 |>.trans (show _ = some (Value.slice a1 m1 c1) from rfl); have p1 := (HK1.out.below hb).cell 1 |>.trans (show _ = some (Value.slice a2 m2 c2) from rfl); clear hb hx c0 d0; cases b)
    all_goals
      go_ret
      exact ⟨rfl, HB2.out⟩
  · have h0I : ((m1 : Int) == 0) = false := by rw [beq_eq_false_iff_ne]; omega
    have h0B : (m1 == 0) = false := by rw [beq_eq_false_iff_ne]; omega
    go_upto_region 5 with (go_at_call 8; refine (HF.out _ HB1.out).mono ?_; rintro _ w2 ⟨b, rfl, hb, hx⟩; have HB2 := Lib.hid (HB1.out.trans (hb.mono HB1.out.size)); have HK2 := Lib.hid (HK1.out.below hb); have HX := Lib.hid hx; have p0 := (HK1.out.below hb).cell 0 |>.trans (show _ = some (Value.slice a1 m1 c1) from rfl); have p1 := (HK1.out.below hb).cell 1 |>.trans (show _ = some (Value.slice a2 m2 c2) from rfl); clear hb hx c0 d0; cases b)
    · go_wp2_with fail
      go_ret
      exact ⟨rfl, HB2.out⟩
    · obtain ⟨s, hls, hok⟩ := HX.out (by simp)
      have hm1 := HM.out.1
      rw [hls, ofN_len] at hm1
      obtain ⟨all, r, hsr⟩ : ∃ all r, s = all :: r := by
        cases s with
        | nil => exact absurd hm1 h0
        | cons a b => exact ⟨a, b, rfl⟩
      subst hsr
      · subst hls
        have hm4 : m1 ≤ 4 := Nat.le_trans (Nat.le_of_eq hm1) hok.sides.len
        have hall : all ≤ 65536 := hok.sides.each all (by simp)
        obtain ⟨a, cap, e, hs1, hs2, hs3⟩ := HS.out
        rw [ofN_len, ← hm1] at e hs1
        injection e with ea eb ec
        subst ea ec
        obtain ⟨g1, o1, rfl, hg1, hat⟩ := hs3 (by rw [ofN_len]; simp)
        have d0 := (HB2.out.cell (p := ⟨g1, _, none⟩) hg1).trans (hat 0 all rfl)
        rw [Nat.add_zero] at d0
        obtain ⟨k, hk⟩ : ∃ k, k = f % (all + 1) := ⟨_, rfl⟩
        obtain ⟨hka, i0, i1, i2, i3, i4, i5, i6, i7, i8, i9, j0⟩ := rem_facts f all k hf hall hk
        have mI : (0 : Int) < m1 := Int.ofNat_lt.2 (Nat.pos_of_ne_zero h0)
        have HD1 := Lib.hid (fun W => decimal_any (k : Int) (k_in hka hall).1 (k_in hka hall).2.1 W)
        have HD2 := Lib.hid (fun W => decimal_any (-(k : Int)) (k_in hka hall).2.2.1 (k_in hka hall).2.2.2 W)
        obtain ⟨A, hA⟩ : ∃ A, A = numT (k : Int) := ⟨_, rfl⟩
        obtain ⟨B, hB⟩ : ∃ B, B = numT (-(k : Int)) := ⟨_, rfl⟩
        rw [← hA] at HD1
        rw [← hB] at HD2
        have hAl : A.length ≤ 22 := by rw [hA]; exact numT_22 (k_in hka hall).1 (k_in hka hall).2.1
        have hBl : B.length ≤ 22 := by rw [hB]; exact numT_22 (k_in hka hall).2.2.1 (k_in hka hall).2.2.2
        have HAB := Lib.hid (And.intro hA (And.intro hB (And.intro hAl hBl)))
        have HOk := Lib.hid (And.intro hok (And.intro hka hall))
        have HM1 := Lib.hid (And.intro hm1 hm4)
        clear hA hB hAl hBl hok hk hka hall hm1 hm4 hat hs1 hs2 hs3 hg1 eb HX h0
        go_wp2_with fail
        clear i0 i1 i2 i3 i4 i5 i6 i7 d0
        go_upto_region 7 with (first | (go_at_call 14; (with_reducible show Calls _ _ #[.int .i64 (k : Int)] _ _); refine (HD1.out _).mono ?_; rintro _ w3 ⟨rfl, hb⟩; have HB3 := Lib.hid (HB2.out.trans (hb.mono HB2.out.size)); have HK3 := Lib.hid (HK2.out.below hb); clear hb) | (go_at_call 14; refine (HD2.out _).mono ?_; rintro _ w4 ⟨rfl, hb⟩; have HB4 := Lib.hid (HB3.out.trans (hb.mono HB3.out.size)); have HK4 := Lib.hid (HK3.out.below hb); clear hb))
        clear i8 i9 j0 mI p0 p1
        obtain ⟨hok, hka, hall⟩ := HOk.out
        obtain ⟨hA, hB, hAl, hBl⟩ := HAB.out
        obtain ⟨T0, hT0⟩ : ∃ T, T = inL (all :: r) ++ [10] := ⟨_, rfl⟩
        obtain ⟨T1, hT1⟩ : ∃ T, T = T0 ++ [121, 58, 32, 40] := ⟨_, rfl⟩
        obtain ⟨T2, hT2⟩ : ∃ T, T = T1 ++ A := ⟨_, rfl⟩
        obtain ⟨T3, hT3⟩ : ∃ T, T = T2 ++ [32, 116, 97, 107, 101, 32, 120, 41, 32, 99, 97, 116, 32] := ⟨_, rfl⟩
        obtain ⟨T4, hT4⟩ : ∃ T, T = T3 ++ A := ⟨_, rfl⟩
        obtain ⟨T5, hT5⟩ : ∃ T, T = T4 ++ [32, 100, 114, 111, 112, 32, 120, 10, 111, 117, 116, 32, 40] := ⟨_, rfl⟩
        obtain ⟨T6, hT6⟩ : ∃ T, T = T5 ++ B := ⟨_, rfl⟩
        obtain ⟨T7, hT7⟩ : ∃ T, T = T6 ++ [32, 100, 114, 111, 112, 32, 120, 41, 32, 99, 97, 116, 32] := ⟨_, rfl⟩
        obtain ⟨T8, hT8⟩ : ∃ T, T = T7 ++ B := ⟨_, rfl⟩
        obtain ⟨T9, hT9⟩ : ∃ T, T = T8 ++ [32, 116, 97, 107, 101, 32, 120] := ⟨_, rfl⟩
        have hTT : T9 = inL (all :: r) ++ 10 :: partsL k := by
          rw [hT9, hT8, hT7, hT6, hT5, hT4, hT3, hT2, hT1, hT0, hA, hB]
          unfold partsL partA1 partB1
          simp only [List.append_assoc, List.cons_append, List.nil_append]
        have k0 : T0.length ≤ 1000 := by
          have h1 := nums_len (all :: r) hok.sides.each
          have h2 : (all :: r).length ≤ 4 := hok.sides.len
          rw [hT0]
          unfold inL
          simp only [List.length_append, List.length_cons, List.length_nil] at h2 ⊢
          simp only [List.length_cons] at h1
          omega
        have k1 : T1.length ≤ 1100 := by rw [hT1, List.length_append]; show _ + 4 ≤ 1100; omega
        have k2 : T2.length ≤ 1200 := by rw [hT2, List.length_append]; omega
        have k3 : T3.length ≤ 1300 := by rw [hT3, List.length_append]; show _ + 13 ≤ 1300; omega
        have k4 : T4.length ≤ 1400 := by rw [hT4, List.length_append]; omega
        have k5 : T5.length ≤ 1500 := by rw [hT5, List.length_append]; show _ + 13 ≤ 1500; omega
        have k6 : T6.length ≤ 1600 := by rw [hT6, List.length_append]; omega
        have k7 : T7.length ≤ 1700 := by rw [hT7, List.length_append]; show _ + 13 ≤ 1700; omega
        have k8 : T8.length ≤ 1800 := by rw [hT8, List.length_append]; omega
        have k9 : T9.length ≤ 1900 := by rw [hT9, List.length_append]; show _ + 7 ≤ 1900; omega
        have HI := Lib.hid (fun W (hb : Below w.heap.size w W) => input_line (.slice (some ⟨g1, o1, none⟩) m1 c1) (all :: r) W (HS.out.below hb) hok.sides)
        have HMn := Lib.hid (fun W va (hb : Below w.heap.size w W) (hA : ArrsV W va [⟨all :: r, ld⟩] [(.slice (some ⟨g1, o1, none⟩) m1 c1, .slice a2 m2 c2)]) => means_any T9 va (partsP (all :: r) k) ⟨all :: r, ld⟩ _ _ W (HEn.out.kept hb) (by unfold maxLen; omega) (by rw [hTT]; exact parse_parts (all :: r) hok.sides.each hok.sides.len k (by omega)) (parts_ok hok.sides (by omega)) (xInp_no hok.sides) rfl hA hok (mean_parts hok hka) (cnt_parts (all :: r) k))
        rw [← hT0] at HI
        have add0 : ∀ W, (Op.stringOp .add (mkS T0) ⟨#[121, 58, 32, 40]⟩).run Tryz.prog W = .ok (.string (mkS T1)) W := fun W => add_run (b := [121, 58, 32, 40]) hT1 (by omega) W
        have add1 : ∀ W, (Op.stringOp .add (mkS T1) (mkS A)).run Tryz.prog W = .ok (.string (mkS T2)) W := fun W => add_run (b := A) hT2 (by omega) W
        have add2 : ∀ W, (Op.stringOp .add (mkS T2) ⟨#[32, 116, 97, 107, 101, 32, 120, 41, 32, 99, 97, 116, 32]⟩).run Tryz.prog W = .ok (.string (mkS T3)) W := fun W => add_run (b := [32, 116, 97, 107, 101, 32, 120, 41, 32, 99, 97, 116, 32]) hT3 (by omega) W
        have add3 : ∀ W, (Op.stringOp .add (mkS T3) (mkS A)).run Tryz.prog W = .ok (.string (mkS T4)) W := fun W => add_run (b := A) hT4 (by omega) W
        have add4 : ∀ W, (Op.stringOp .add (mkS T4) ⟨#[32, 100, 114, 111, 112, 32, 120, 10, 111, 117, 116, 32, 40]⟩).run Tryz.prog W = .ok (.string (mkS T5)) W := fun W => add_run (b := [32, 100, 114, 111, 112, 32, 120, 10, 111, 117, 116, 32, 40]) hT5 (by omega) W
        have add5 : ∀ W, (Op.stringOp .add (mkS T5) (mkS B)).run Tryz.prog W = .ok (.string (mkS T6)) W := fun W => add_run (b := B) hT6 (by omega) W
        have add6 : ∀ W, (Op.stringOp .add (mkS T6) ⟨#[32, 100, 114, 111, 112, 32, 120, 41, 32, 99, 97, 116, 32]⟩).run Tryz.prog W = .ok (.string (mkS T7)) W := fun W => add_run (b := [32, 100, 114, 111, 112, 32, 120, 41, 32, 99, 97, 116, 32]) hT7 (by omega) W
        have add7 : ∀ W, (Op.stringOp .add (mkS T7) (mkS B)).run Tryz.prog W = .ok (.string (mkS T8)) W := fun W => add_run (b := B) hT8 (by omega) W
        have add8 : ∀ W, (Op.stringOp .add (mkS T8) ⟨#[32, 116, 97, 107, 101, 32, 120]⟩).run Tryz.prog W = .ok (.string (mkS T9)) W := fun W => add_run (b := [32, 116, 97, 107, 101, 32, 120]) hT9 (by omega) W
        have HSD := Lib.hid (fun W (hb : Below w4.heap.size w4 W) => And.intro (HS.out.below (HB4.out.trans (hb.mono HB4.out.size))) (HD.out.below (HB4.out.trans (hb.mono HB4.out.size))))
        have HBx := Lib.hid (fun W (hb : Below w4.heap.size w4 W) => And.intro (HB4.out.trans (hb.mono HB4.out.size)) (HK4.out.below hb))
        have HZ2 := Lib.hid (show w.heap.size < w4.heap.size from HK4.out.lt)
        have p0 := HK4.out.cell 0 |>.trans (show _ = some (Value.slice (some ⟨g1, o1, none⟩) m1 c1) from rfl)
        have p1 := HK4.out.cell 1 |>.trans (show _ = some (Value.slice a2 m2 c2) from rfl)
        clear hT0 hT1 hT2 hT3 hT4 hT5 hT6 hT7 hT8 hT9 hTT k0 k1 k2 k3 k4 k5 k6 k7 k8 k9 hok hka hall hA hB hAl hBl
        go_cut [8, 9] from 34 to 56 (fun v3 v4 wx => v4 = .bool true ∧ ∃ us, Hid (LawAt w wx (.slice (some ⟨g1, o1, none⟩) m1 c1) (.slice a2 m2 c2) v3 [⟨all :: r, ld⟩, ⟨all :: r, ld⟩] us))
        case first =>
          go_region_held3 (fun wy => wy.cell? ⟨w.heap.size, 0, none⟩ = some (.slice (some ⟨g1, o1, none⟩) m1 c1) ∧ wy.cell? ⟨w.heap.size, 1, none⟩ = some (.slice a2 m2 c2))
            (first | go_keep)
            (first
              | (go_at_call 10; refine (HI.out _ (HBx.out _ (by repeat (first | exact Below.refl _ _ | refine Below.drew ?_ | refine Below.alloc ?_ (by simp) _))).1).mono ?_; rintro _ w5 ⟨rfl, hb5⟩; have H5 := Lib.hid ((show Below w4.heap.size w4 _ by repeat (first | exact Below.refl _ _ | refine Below.drew ?_ | refine Below.alloc ?_ (by simp) _)).trans (hb5.mono (by simp))); have p0' := (H5.out.cell (p := ⟨w.heap.size, 0, none⟩) HZ2.out).trans p0; have p1' := (H5.out.cell (p := ⟨w.heap.size, 1, none⟩) HZ2.out).trans p1)
              | (go_at_call 9; (with_reducible show Calls _ _ _ (World.alloc w5 _) _); have hA : ArrsV (w5.alloc (.cells #[.slice (some ⟨g1, o1, none⟩) m1 c1, .slice a2 m2 c2] 24)) (.slice (some ⟨w5.heap.size, 0, none⟩) 1 1) [⟨all :: r, ld⟩] [(.slice (some ⟨g1, o1, none⟩) m1 c1, .slice a2 m2 c2)] := ArrsV.one w5 _ _ ⟨all :: r, ld⟩ (HSD.out _ H5.out).1 (HSD.out _ H5.out).2; have hB := H5.out.alloc H5.out.size (.cells #[.slice (some ⟨g1, o1, none⟩) m1 c1, .slice a2 m2 c2] 24); refine (HMn.out _ _ (HBx.out _ hB).1 hA).mono ?_; rintro _ w6 ⟨v, us, rfl, ha, hb⟩; have h6 := hB.trans (hb.mono hB.size); have HL := Lib.hid (LawAt.mk ha (HBx.out _ h6).1 (HBx.out _ h6).2); have p0'' := (h6.cell (p := ⟨w.heap.size, 0, none⟩) HZ2.out).trans p0; have p1'' := (h6.cell (p := ⟨w.heap.size, 1, none⟩) HZ2.out).trans p1; clear ha hb h6; clear hA hB)
              | (go_at_call 9; refine (HMn.out _ _ (HBx.out _ H5.out).1 ((ArrsV.one _ _ _ ⟨all :: r, ld⟩ (HSD.out _ (Below.refl _ _).drew).1 (HSD.out _ (Below.refl _ _).drew).2).below hb5)).mono ?_; rintro _ w6 ⟨v, us, rfl, ha, hb⟩; have h6 := H5.out.trans (hb.mono H5.out.size); have HL := Lib.hid (LawAt.mk ha (HBx.out _ h6).1 (HBx.out _ h6).2); have p0'' := (h6.cell (p := ⟨w.heap.size, 0, none⟩) HZ2.out).trans p0; have p1'' := (h6.cell (p := ⟨w.heap.size, 1, none⟩) HZ2.out).trans p1; clear ha hb h6))
          all_goals
            go_wp2_with fail
            go_meet
            exact ⟨rfl, us, HL⟩
        case rest =>
          obtain ⟨rfl, us, HL⟩ := hcut
          obtain ⟨g, c, rfl, hc1, hc2, hg, hat⟩ := HL.out.arrs.open (by simp)
          obtain ⟨u0, u1, q0, q1, i0, i1⟩ := hat 0 ⟨all :: r, ld⟩ rfl
          obtain ⟨u2, u3, q2, q3, i2, i3⟩ := hat 1 ⟨all :: r, ld⟩ rfl
          have q0 : wc.cell? ⟨g, 0, none⟩ = some u0 := q0
          have q1 : wc.cell? ⟨g, 1, none⟩ = some u1 := q1
          have q2 : wc.cell? ⟨g, 2, none⟩ = some u2 := q2
          have q3 : wc.cell? ⟨g, 3, none⟩ = some u3 := q3
          have e0 := HL.out.box.cell 0 |>.trans (show _ = some (Value.slice (some ⟨g1, o1, none⟩) m1 c1) from rfl)
          have e1 := HL.out.box.cell 1 |>.trans (show _ = some (Value.slice a2 m2 c2) from rfl)
          have hlw := HL.out.box.lt
          have HC := Lib.hid (fun W (hb : Below wc.heap.size wc W) => show W.cell? ⟨g, 0, none⟩ = some u0 ∧ W.cell? ⟨g, 1, none⟩ = some u1 ∧ W.cell? ⟨g, 2, none⟩ = some u2 ∧ W.cell? ⟨g, 3, none⟩ = some u3 ∧ W.cell? ⟨w.heap.size, 0, none⟩ = some (.slice (some ⟨g1, o1, none⟩) m1 c1) ∧ W.cell? ⟨w.heap.size, 1, none⟩ = some (.slice a2 m2 c2) from
            ⟨(hb.cell (p := ⟨g, 0, none⟩) hg).trans q0, (hb.cell (p := ⟨g, 1, none⟩) hg).trans q1, (hb.cell (p := ⟨g, 2, none⟩) hg).trans q2, (hb.cell (p := ⟨g, 3, none⟩) hg).trans q3, (hb.cell (p := ⟨w.heap.size, 0, none⟩) hlw).trans e0, (hb.cell (p := ⟨w.heap.size, 1, none⟩) hlw).trans e1⟩)
          have HIn := Lib.hid (fun W (hb : Below wc.heap.size wc W) => And.intro (HS.out.below (HL.out.bel.trans (hb.mono HL.out.bel.size))) (HD.out.below (HL.out.bel.trans (hb.mono HL.out.bel.size))))
          have HC1 := Lib.hid (fun W (hb : Below wc.heap.size wc W) => same_true u0 u1 _ _ _ _ W (i0.below hb) (i1.below hb) (HIn.out W hb).1 (HIn.out W hb).2)
          have HC2 := Lib.hid (fun W (hb : Below wc.heap.size wc W) => same_true u2 u3 _ _ _ _ W (i2.below hb) (i3.below hb) (HIn.out W hb).1 (HIn.out W hb).2)
          have hl3 : ([⟨all :: r, ld⟩, ⟨all :: r, ld⟩] : List Arr).length = 2 := rfl
          rw [hl3] at *
          clear hl3 hat i0 i1 i2 i3  hlw hc2 hg
          go_upto_region 8 with fail
          go_region_held3 (fun wy => wy.cell? ⟨g, 0, none⟩ = some u0 ∧ wy.cell? ⟨g, 1, none⟩ = some u1 ∧ wy.cell? ⟨g, 2, none⟩ = some u2 ∧ wy.cell? ⟨g, 3, none⟩ = some u3 ∧ wy.cell? ⟨w.heap.size, 0, none⟩ = some (.slice (some ⟨g1, o1, none⟩) m1 c1) ∧ wy.cell? ⟨w.heap.size, 1, none⟩ = some (.slice a2 m2 c2))
            (first | go_keep)
            (first
              | (go_at_call 11; (with_reducible show Calls _ _ #[.agg #[u0, u1], _] _ _); refine (HC1.out _ (by repeat (first | exact Below.refl _ _ | refine Below.drew ?_ | refine below_drewN' ?_ _))).mono ?_; rintro _ w7 ⟨rfl, hb⟩; have H7 := Lib.hid (Below.trans (show Below wc.heap.size wc _ by repeat (first | exact Below.refl _ _ | refine Below.drew ?_ | refine below_drewN' ?_ _)) (hb.mono (Nat.le_refl _))); have hz7 := HC.out _ H7.out; clear hb; obtain ⟨r0, r1, r2, r3, s0, s1⟩ := hz7)
              | (go_at_call 11; (with_reducible show Calls _ _ #[.agg #[u2, u3], _] _ _); refine (HC2.out _ (by repeat (first | exact H7.out | refine Below.drew ?_ | refine below_drewN' ?_ _))).mono ?_; rintro _ w8 ⟨rfl, hb⟩; have H8 := Lib.hid (Below.trans (show Below wc.heap.size wc _ by repeat (first | exact H7.out | refine Below.drew ?_ | refine below_drewN' ?_ _)) (hb.mono H7.out.size)); have hz8 := HC.out _ H8.out; clear hb; obtain ⟨r0, r1, r2, r3, s0, s1⟩ := hz8))
          go_wp2_with fail
          refine bodyPost_ret (v := .bool true) (by simp [results, Tryz.results6, go_sem]) rfl ⟨rfl, HL.out.bel.trans (H8.out.mono HL.out.bel.size)⟩
end Go.Proofs.YtknnleiinhdklaaGreatDoor
