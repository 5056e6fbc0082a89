/-
  Walk of windrowtop.TopSums. Condition: the array's two slices read as lists; Go's library's variables hold what they are laid with.
-/
import Derived.Test.YtknnleiinhdklaaGreatDoorKTzD
import Derived.Test.YtknnleiinhdklaaGreatDoorPk46
import Derived.Test.YtknnleiinhdklaaGreatDoorPk28
import Derived.Test.YtknnleiinhdklaaGreatDoorPk26
namespace Go.Proofs.YtknnleiinhdklaaGreatDoor
open Go.RowKit Go.Shelf Go.Sort Go.Maps

set_option maxHeartbeats 8000000 in
set_option maxRecDepth 100000 in
theorem TSums_any (vs vd : Value) (ls ld : List Int) (f : Nat) (w : World) (hs : IntsS w vs ls) (hd : IntsS w vd ld) (_ : f < 256) (hE : Env w) :
    Calls Tryz.prog 4 #[.agg #[vs, vd], .int .u8 f] w fun e w' => e = .returned (.bool true) ∧ Below w.heap.size w w' := by
  obtain ⟨a1, c1, rfl⟩ := hs.form
  obtain ⟨a2, c2, rfl⟩ := hd.form
  have HBg := Lib.hid (fun W (hb : Below w.heap.size w W) => begun_any W (hE.kept hb))
  have HF := Lib.hid (fun W (hb : Below w.heap.size w W) => fair_any (.slice a1 ls.length c1) (.slice a2 ld.length c2) ls ld W (hs.below hb) (hd.below hb))
  have HEn := Lib.hid hE
  have HS := Lib.hid hs
  have HD := Lib.hid hd
  have HB0 := Lib.hid ((Below.refl _ w).alloc (Nat.le_refl _) (.cells #[.slice a1 ls.length c1, .slice a2 ld.length c2] 24))
  have HK0 := Lib.hid (Blk.new w 24 #[.slice a1 ls.length c1, .slice a2 ld.length c2] rfl)
  obtain ⟨m1, hm1⟩ : ∃ m, m = ls.length := ⟨_, rfl⟩
  obtain ⟨m2, hm2⟩ : ∃ m, m = ld.length := ⟨_, rfl⟩
  have HM := Lib.hid (And.intro hm1 hm2)
  rw [← hm1, ← hm2] at HB0 HK0 HF
  rw [← hm1] at HS
  rw [← hm2] at HD
  rw [← hm1, ← hm2]
  clear hs hd hE hm1 hm2
  go_enter Tryz.func4, Tryz.ntmps4
  go_upto_region 3 with (go_at_call 7; refine (HBg.out _ HB0.out).mono ?_; rintro _ w1 ⟨rfl, hb⟩; have HB1 := Lib.hid (HB0.out.trans (hb.mono HB0.out.size)); have HK1 := Lib.hid (HK0.out.below hb); have c0 := (HK0.out.below hb).cell 0 |>.trans (show _ = some (Value.slice a1 m1 c1) from rfl); have d0 := (HK0.out.below hb).cell 1 |>.trans (show _ = some (Value.slice a2 m2 c2) from rfl); clear hb)
  go_cut [24] from 10 to 25 (fun v24 wx => ∃ b, v24 = .bool b ∧ Hid ((b = false → ∃ s, ls = ofN s ∧ ArrOk ⟨s, ld⟩ ∧ (ld = [] → s.length ≤ 2)) ∧ Below w.heap.size w wx ∧ Blk wx w.heap.size 24 #[.slice a1 m1 c1, .slice a2 m2 c2]))
  case first =>
    by_cases h0 : m2 = 0
    · have h0I : ((m2 : Int) == 0) = true := by rw [beq_iff_eq]; omega
      by_cases h2 : 2 < m1
      · have h2I : decide ((2 : Int) < m1) = true := by rw [decide_eq_true_iff]; omega
        have h2J : (2 : Int) < m1 := by omega
        clear h0 h2
        go_wp2_with (go_at_call 8; refine (HF.out _ HB1.out).mono ?_; rintro _ w2 ⟨b, rfl, hb, hx⟩; have HB2 := Lib.hid (HB1.out.trans (hb.mono HB1.out.size)); have HK2 := Lib.hid (HK1.out.below hb); have HX := Lib.hid hx; have p0 := (HK1.out.below hb).cell 0 |>.trans (show _ = some (Value.slice a1 m1 c1) from rfl); have p1 := (HK1.out.below hb).cell 1 |>.trans (show _ = some (Value.slice a2 m2 c2) from rfl); clear hb hx c0 d0; cases b)
        all_goals
          try go_wp2_with fail
          go_meet
          exact ⟨true, rfl, Lib.hid ⟨(fun h => by cases h), HB2.out, HK2.out⟩⟩
      · have h2I : decide ((2 : Int) < m1) = false := by rw [decide_eq_false_iff_not]; omega
        have h2J : ¬ (2 : Int) < m1 := by omega
        have HLe := Lib.hid (fun (s : List Nat) (h : ls = ofN s) => show s.length ≤ 2 by have h1 := HM.out.1; rw [h, ofN_len] at h1; omega)
        clear h0 h2
        go_wp2_with (go_at_call 8; refine (HF.out _ HB1.out).mono ?_; rintro _ w2 ⟨b, rfl, hb, hx⟩; have HB2 := Lib.hid (HB1.out.trans (hb.mono HB1.out.size)); have HK2 := Lib.hid (HK1.out.below hb); have HX := Lib.hid hx; have p0 := (HK1.out.below hb).cell 0 |>.trans (show _ = some (Value.slice a1 m1 c1) from rfl); have p1 := (HK1.out.below hb).cell 1 |>.trans (show _ = some (Value.slice a2 m2 c2) from rfl); clear hb hx c0 d0; cases b)
        · try go_wp2_with fail
          go_meet
          exact ⟨true, rfl, Lib.hid ⟨(fun h => by cases h), HB2.out, HK2.out⟩⟩
        · try go_wp2_with fail
          go_meet
          exact ⟨false, rfl, Lib.hid ⟨fun _ => (let ⟨s, h1, h3⟩ := HX.out (by simp); ⟨s, h1, h3, fun _ => HLe.out s h1⟩), HB2.out, HK2.out⟩⟩
    · have h0I : ((m2 : Int) == 0) = false := by rw [beq_eq_false_iff_ne]; omega
      have HNe := Lib.hid h0
      clear h0
      go_wp2_with (go_at_call 8; refine (HF.out _ HB1.out).mono ?_; rintro _ w2 ⟨b, rfl, hb, hx⟩; have HB2 := Lib.hid (HB1.out.trans (hb.mono HB1.out.size)); have HK2 := Lib.hid (HK1.out.below hb); have HX := Lib.hid hx; have p0 := (HK1.out.below hb).cell 0 |>.trans (show _ = some (Value.slice a1 m1 c1) from rfl); have p1 := (HK1.out.below hb).cell 1 |>.trans (show _ = some (Value.slice a2 m2 c2) from rfl); clear hb hx c0 d0; cases b)
      · try go_wp2_with fail
        go_meet
        exact ⟨true, rfl, Lib.hid ⟨(fun h => by cases h), HB2.out, HK2.out⟩⟩
      · try go_wp2_with fail
        go_meet
        exact ⟨false, rfl, Lib.hid ⟨fun _ => (let ⟨s, h1, h3⟩ := HX.out (by simp); ⟨s, h1, h3, fun he => by exfalso; have := HM.out.2; rw [he] at this; exact HNe.out this⟩), HB2.out, HK2.out⟩⟩
  case rest =>
    obtain ⟨b, rfl, HW⟩ := hcut
    cases b
    case true =>
      go_wp2_with fail
      go_ret
      exact ⟨rfl, HW.out.2.1⟩
    obtain ⟨s, hls, hok, hsm⟩ := HW.out.1 rfl
    have HB3 := Lib.hid HW.out.2.1
    have HK3 := Lib.hid HW.out.2.2
    clear HW c0 d0
    subst hls
    obtain ⟨w3, rfl⟩ : ∃ W : World, W = wc := ⟨_, rfl⟩
    have p0 := HK3.out.cell 0 |>.trans (show _ = some (Value.slice a1 m1 c1) from rfl)
    have p1 := HK3.out.cell 1 |>.trans (show _ = some (Value.slice a2 m2 c2) from rfl)
    have hm1 : m1 = s.length := by rw [HM.out.1, ofN_len]
    have hm4 : m1 ≤ 4 := Nat.le_trans (Nat.le_of_eq hm1) hok.sides.len
    obtain ⟨kk, hkk⟩ : ∃ k, k = f % 4 := ⟨_, rfl⟩
    have hk4 : kk < 4 := by omega
    obtain ⟨V, hV⟩ : ∃ V, V = ordT kk := ⟨_, rfl⟩
    have hVl : V.length ≤ 3 := by rw [hV]; unfold ordT; split; decide; split; decide; split <;> decide
    have HV := Lib.hid (fun W => tverb_any f W)
    rw [← hkk, ← hV] at HV
    have HVd := Lib.hid hV
    have HM1 := Lib.hid hm1
    have HOk := Lib.hid (And.intro hok hsm)
    have HK4 := Lib.hid hk4
    clear hkk hk4 hV hm1 hok hsm
    go_wp2_with fail
    go_loopw [5, 28] (fun v5 v28 wr => ∃ (i : Nat) (A : List UInt8), i ≤ m1 ∧ v28 = .int .i64 i ∧ v5 = .string (mkS A) ∧ Hid (A = allT kk i) ∧ A.length ≤ 5 * i ∧ Hid (Below w.heap.size w wr ∧ Blk wr w.heap.size 24 #[.slice a1 m1 c1, .slice a2 m2 c2])) (fun _ v28 _ => m1 - (intOf v28).toNat)
    case atStart => exact ⟨0, [], Nat.zero_le _, rfl, rfl, Lib.hid rfl, Nat.le_refl _, Lib.hid ⟨HB3.out, HK3.out⟩⟩
    case round =>
      obtain ⟨i, A, hi, rfl, rfl, hA, hAl, hB⟩ := hrel
      obtain ⟨w4, rfl⟩ : ∃ W : World, W = wr := ⟨_, rfl⟩
      by_cases hlt : i < m1
      · obtain ⟨V1, hV1⟩ : ∃ T, T = V ++ [47, 32] := ⟨_, rfl⟩
        obtain ⟨A1, hA1⟩ : ∃ T, T = A ++ V1 := ⟨_, rfl⟩
        have hl1 : V1.length ≤ 5 := by rw [hV1, List.length_append]; show _ + 2 ≤ 5; omega
        have hl2 : A1.length ≤ 5 * (i + 1) := by rw [hA1, List.length_append]; omega
        have HA1 : Hid (A1 = allT kk (i + 1)) := Lib.hid (by
          rw [hA1, hV1, hA.out, HVd.out, ← List.append_assoc]
          rfl)
        have add1 : ∀ W, (Op.stringOp .add (mkS V) ⟨#[47, 32]⟩).run Tryz.prog W = .ok (.string (mkS V1)) W := fun W => add_run (b := [47, 32]) hV1 (by omega) W
        have add2 : ∀ W, (Op.stringOp .add (mkS A) (mkS V1)).run Tryz.prog W = .ok (.string (mkS A1)) W := fun W => add_run hA1 (by omega) W
        have HL2 := Lib.hid hl2
        have iI : (i : Int) < m1 := by omega
        have iI0 : (0 : Int) ≤ i := by omega
        have HLt := Lib.hid hlt
        clear hV1 hA1 hl1 hl2 hlt hAl p0 p1
        go_wp2_with (go_at_call 13; refine (HV.out _).mono ?_; rintro _ w5 ⟨rfl, hb⟩; have HB5 := Lib.hid (And.intro (hB.out.1.trans (hb.mono hB.out.1.size)) (hB.out.2.below hb)); clear hb)
        go_roundw
        case rel => exact ⟨i + 1, A1, HLt.out, by go_num, rfl, HA1, HL2.out, HB5⟩
        case measure => have := HLt.out; simp [intOf]; omega
      · obtain rfl : i = m1 := by omega
        have iI : ¬ (i : Int) < i := by omega
        obtain ⟨hok, hsm⟩ := HOk.out
        have hm1 := HM1.out
        obtain ⟨T0, hT0⟩ : ∃ T, T = inL s ++ [10] := ⟨_, rfl⟩
        obtain ⟨T1, hT1⟩ : ∃ T, T = T0 ++ [121, 58, 32] := ⟨_, rfl⟩
        obtain ⟨T2, hT2⟩ : ∃ T, T = T1 ++ A := ⟨_, rfl⟩
        obtain ⟨T3, hT3⟩ : ∃ T, T = T2 ++ [120, 10, 122, 58, 32] := ⟨_, rfl⟩
        obtain ⟨T4, hT4⟩ : ∃ T, T = T3 ++ A := ⟨_, rfl⟩
        obtain ⟨T5, hT5⟩ : ∃ T, T = T4 ++ [116, 117, 114, 110, 32, 120, 10, 111, 117, 116, 32] := ⟨_, rfl⟩
        obtain ⟨T6, hT6⟩ : ∃ T, T = T5 ++ V := ⟨_, rfl⟩
        obtain ⟨T7, hT7⟩ : ∃ T, T = T6 ++ [47, 32, 114, 97, 118, 101, 108, 32, 120] := ⟨_, rfl⟩
        have hTT : T7 = inL s ++ 10 :: sumsL kk s.length := by
          rw [hT7, hT6, hT5, hT4, hT3, hT2, hT1, hT0, hA.out, HVd.out, hm1]
          unfold sumsL
          simp only [List.append_assoc, List.cons_append, List.nil_append]
        have k0 : T0.length ≤ 1000 := by
          have h1 := nums_len s hok.sides.each
          have h2 : s.length ≤ 4 := hok.sides.len
          rw [hT0]
          unfold inL
          simp only [List.length_append, List.length_cons, List.length_nil]
          omega
        have k1 : T1.length ≤ 1100 := by rw [hT1, List.length_append]; show _ + 3 ≤ 1100; omega
        have k2 : T2.length ≤ 1200 := by rw [hT2, List.length_append]; omega
        have k3 : T3.length ≤ 1300 := by rw [hT3, List.length_append]; show _ + 5 ≤ 1300; omega
        have k4 : T4.length ≤ 1400 := by rw [hT4, List.length_append]; omega
        have k5 : T5.length ≤ 1500 := by rw [hT5, List.length_append]; show _ + 11 ≤ 1500; omega
        have k6 : T6.length ≤ 1600 := by rw [hT6, List.length_append]; omega
        have k7 : T7.length ≤ 1700 := by rw [hT7, List.length_append]; show _ + 9 ≤ 1700; omega
        obtain ⟨t, hmean⟩ := mean_sums hok hsm kk
        have HI := Lib.hid (fun W (hb : Below w.heap.size w W) => input_line (.slice a1 i c1) s W (HS.out.below hb) hok.sides)
        have HMn := Lib.hid (fun W va (hb : Below w.heap.size w W) (hA : ArrsV W va [⟨s, ld⟩] [(.slice a1 i c1, .slice a2 m2 c2)]) => means_any T7 va (sumsP s kk) ⟨s, ld⟩ _ _ W (HEn.out.kept hb) (by unfold maxLen; omega) (by rw [hTT]; exact parse_sums s hok.sides.each hok.sides.len kk HK4.out) (sums_ok hok.sides kk) (xInp_no hok.sides) rfl hA hok hmean (cnt_sums s kk hok.sides.len))
        rw [← hT0] at HI
        have adda : ∀ W, (Op.stringOp .add (mkS T0) ⟨#[121, 58, 32]⟩).run Tryz.prog W = .ok (.string (mkS T1)) W := fun W => add_run (b := [121, 58, 32]) hT1 (by omega) W
        have add2 : ∀ W, (Op.stringOp .add (mkS T1) (mkS A)).run Tryz.prog W = .ok (.string (mkS T2)) W := fun W => add_run (b := A) hT2 (by omega) W
        have add3 : ∀ W, (Op.stringOp .add (mkS T2) ⟨#[120, 10, 122, 58, 32]⟩).run Tryz.prog W = .ok (.string (mkS T3)) W := fun W => add_run (b := [120, 10, 122, 58, 32]) hT3 (by omega) W
        have add4 : ∀ W, (Op.stringOp .add (mkS T3) (mkS A)).run Tryz.prog W = .ok (.string (mkS T4)) W := fun W => add_run (b := A) hT4 (by omega) W
        have add5 : ∀ W, (Op.stringOp .add (mkS T4) ⟨#[116, 117, 114, 110, 32, 120, 10, 111, 117, 116, 32]⟩).run Tryz.prog W = .ok (.string (mkS T5)) W := fun W => add_run (b := [116, 117, 114, 110, 32, 120, 10, 111, 117, 116, 32]) hT5 (by omega) W
        have add6 : ∀ W, (Op.stringOp .add (mkS T5) (mkS V)).run Tryz.prog W = .ok (.string (mkS T6)) W := fun W => add_run (b := V) hT6 (by omega) W
        have add7 : ∀ W, (Op.stringOp .add (mkS T6) ⟨#[47, 32, 114, 97, 118, 101, 108, 32, 120]⟩).run Tryz.prog W = .ok (.string (mkS T7)) W := fun W => add_run (b := [47, 32, 114, 97, 118, 101, 108, 32, 120]) hT7 (by omega) W
        have HB2 := Lib.hid hB.out.1
        have HK2 := Lib.hid hB.out.2
        have p0 := HK2.out.cell 0 |>.trans (show _ = some (Value.slice a1 i c1) from rfl)
        have p1 := HK2.out.cell 1 |>.trans (show _ = some (Value.slice a2 m2 c2) from rfl)
        have HSD := Lib.hid (fun W (hb : Below w4.heap.size w4 W) => And.intro (HS.out.below (HB2.out.trans (hb.mono HB2.out.size))) (HD.out.below (HB2.out.trans (hb.mono HB2.out.size))))
        have HBx := Lib.hid (fun W (hb : Below w4.heap.size w4 W) => And.intro (HB2.out.trans (hb.mono HB2.out.size)) (HK2.out.below hb))
        have HZ2 := Lib.hid (show w.heap.size < w4.heap.size from HK2.out.lt)
        clear hT0 hT1 hT2 hT3 hT4 hT5 hT6 hT7 hTT k0 k1 k2 k3 k4 k5 k6 k7 hok hsm hmean hAl hlt hi hm1
        go_upto_region 10 with fail
        go_cut [6, 7] from 36 to 56 (fun v3 v4 wx => v4 = .bool true ∧ ∃ us, Hid (LawAt w wx (.slice a1 i c1) (.slice a2 m2 c2) v3 [⟨[], [t]⟩, ⟨[], [t]⟩, ⟨[], [t]⟩] us))
        case first =>
          go_region_held3 (fun wy => wy.cell? ⟨w.heap.size, 0, none⟩ = some (.slice a1 i c1) ∧ wy.cell? ⟨w.heap.size, 1, none⟩ = some (.slice a2 m2 c2))
            (first | go_keep)
            (first
              | (go_at_call 10; refine (HI.out _ (HBx.out _ (by repeat (first | exact Below.refl _ _ | refine Below.drew ?_ | refine Below.alloc ?_ (by simp) _))).1).mono ?_; rintro _ w5 ⟨rfl, hb5⟩; have H5 := Lib.hid ((show Below w4.heap.size w4 _ by repeat (first | exact Below.refl _ _ | refine Below.drew ?_ | refine Below.alloc ?_ (by simp) _)).trans (hb5.mono (by simp))); have p0' := (H5.out.cell (p := ⟨w.heap.size, 0, none⟩) HZ2.out).trans p0; have p1' := (H5.out.cell (p := ⟨w.heap.size, 1, none⟩) HZ2.out).trans p1)
              | (go_at_call 13; refine (HV.out _).mono ?_; rintro _ w7 ⟨rfl, hb7⟩; have H7 := Lib.hid ((show Below w4.heap.size w4 _ by repeat (first | exact H5.out | refine Below.drew ?_ | refine Below.alloc ?_ H5.out.size _)).trans (hb7.mono (by first | exact H5.out.size | exact Nat.le_trans H5.out.size (by simp)))); have p0v := (H7.out.cell (p := ⟨w.heap.size, 0, none⟩) HZ2.out).trans p0; have p1v := (H7.out.cell (p := ⟨w.heap.size, 1, none⟩) HZ2.out).trans p1)
              | (go_at_call 9; (with_reducible show Calls _ _ _ (World.alloc w7 _) _); have hA : ArrsV (w7.alloc (.cells #[.slice a1 i c1, .slice a2 m2 c2] 24)) (.slice (some ⟨w7.heap.size, 0, none⟩) 1 1) [⟨s, ld⟩] [(.slice a1 i c1, .slice a2 m2 c2)] := ArrsV.one w7 _ _ ⟨s, ld⟩ (HSD.out _ H7.out).1 (HSD.out _ H7.out).2; have hB := H7.out.alloc H7.out.size (.cells #[.slice a1 i c1, .slice a2 m2 c2] 24); refine (HMn.out _ _ (HBx.out _ hB).1 hA).mono ?_; rintro _ w6 ⟨v, us, rfl, ha, hb⟩; have h6 := hB.trans (hb.mono hB.size); have HL := Lib.hid (LawAt.mk ha (HBx.out _ h6).1 (HBx.out _ h6).2); have p0'' := (h6.cell (p := ⟨w.heap.size, 0, none⟩) HZ2.out).trans p0; have p1'' := (h6.cell (p := ⟨w.heap.size, 1, none⟩) HZ2.out).trans p1; clear ha hb h6; clear hA hB)
              | (go_at_call 9; (with_reducible show Calls _ _ #[_, .slice (some ⟨w5.heap.size, 0, none⟩) 1 1] _ _); refine (HMn.out _ _ (HBx.out _ H7.out).1 ((ArrsV.one _ _ _ ⟨s, ld⟩ (HSD.out _ H5.out).1 (HSD.out _ H5.out).2).below hb7)).mono ?_; rintro _ w6 ⟨v, us, rfl, ha, hb⟩; have h6 := H7.out.trans (hb.mono H7.out.size); have HL := Lib.hid (LawAt.mk ha (HBx.out _ h6).1 (HBx.out _ h6).2); have p0'' := (h6.cell (p := ⟨w.heap.size, 0, none⟩) HZ2.out).trans p0; have p1'' := (h6.cell (p := ⟨w.heap.size, 1, none⟩) HZ2.out).trans p1; clear ha hb h6)
              | (go_at_call 9; refine (HMn.out _ _ (HBx.out _ H7.out).1 (((ArrsV.one _ _ _ ⟨s, ld⟩ (HSD.out _ (Below.refl _ _).drew).1 (HSD.out _ (Below.refl _ _).drew).2).below hb5).below hb7)).mono ?_; rintro _ w6 ⟨v, us, rfl, ha, hb⟩; have h6 := H7.out.trans (hb.mono H7.out.size); have HL := Lib.hid (LawAt.mk ha (HBx.out _ h6).1 (HBx.out _ h6).2); have p0'' := (h6.cell (p := ⟨w.heap.size, 0, none⟩) HZ2.out).trans p0; have p1'' := (h6.cell (p := ⟨w.heap.size, 1, none⟩) HZ2.out).trans p1; clear ha hb h6))
          all_goals
            go_wp2_with fail
            go_meet
            exact ⟨rfl, us, HL⟩
        case rest =>
          obtain ⟨rfl, us, HL⟩ := hcut
          obtain ⟨g, c, rfl, hc1, hc2, hg, hat⟩ := HL.out.arrs.open (by simp)
          obtain ⟨u0, u1, q0, q1, i0, i1⟩ := hat 0 ⟨[], [t]⟩ rfl
          obtain ⟨u2, u3, q2, q3, i2, i3⟩ := hat 1 ⟨[], [t]⟩ rfl
          obtain ⟨u4, u5, q4, q5, i4, i5⟩ := hat 2 ⟨[], [t]⟩ rfl
          have q0 : wc.cell? ⟨g, 0, none⟩ = some u0 := q0
          have q1 : wc.cell? ⟨g, 1, none⟩ = some u1 := q1
          have q2 : wc.cell? ⟨g, 2, none⟩ = some u2 := q2
          have q3 : wc.cell? ⟨g, 3, none⟩ = some u3 := q3
          have q4 : wc.cell? ⟨g, 4, none⟩ = some u4 := q4
          have q5 : wc.cell? ⟨g, 5, none⟩ = some u5 := q5
          have e0 := HL.out.box.cell 0 |>.trans (show _ = some (Value.slice a1 i c1) from rfl)
          have e1 := HL.out.box.cell 1 |>.trans (show _ = some (Value.slice a2 m2 c2) from rfl)
          have hlw := HL.out.box.lt
          have HC := Lib.hid (fun W (hb : Below wc.heap.size wc W) => show W.cell? ⟨g, 0, none⟩ = some u0 ∧ W.cell? ⟨g, 1, none⟩ = some u1 ∧ W.cell? ⟨g, 2, none⟩ = some u2 ∧ W.cell? ⟨g, 3, none⟩ = some u3 ∧ W.cell? ⟨g, 4, none⟩ = some u4 ∧ W.cell? ⟨g, 5, none⟩ = some u5 ∧ W.cell? ⟨w.heap.size, 0, none⟩ = some (.slice a1 i c1) ∧ W.cell? ⟨w.heap.size, 1, none⟩ = some (.slice a2 m2 c2) from
            ⟨(hb.cell (p := ⟨g, 0, none⟩) hg).trans q0, (hb.cell (p := ⟨g, 1, none⟩) hg).trans q1, (hb.cell (p := ⟨g, 2, none⟩) hg).trans q2, (hb.cell (p := ⟨g, 3, none⟩) hg).trans q3, (hb.cell (p := ⟨g, 4, none⟩) hg).trans q4, (hb.cell (p := ⟨g, 5, none⟩) hg).trans q5, (hb.cell (p := ⟨w.heap.size, 0, none⟩) hlw).trans e0, (hb.cell (p := ⟨w.heap.size, 1, none⟩) hlw).trans e1⟩)
          have HIn := Lib.hid (fun W (hb : Below wc.heap.size wc W) => And.intro (HS.out.below (HL.out.bel.trans (hb.mono HL.out.bel.size))) (HD.out.below (HL.out.bel.trans (hb.mono HL.out.bel.size))))
          have HC1 := Lib.hid (fun W (hb : Below wc.heap.size wc W) => same_true u0 u1 u4 u5 _ _ W (i0.below hb) (i1.below hb) (i4.below hb) (i5.below hb))
          have HC2 := Lib.hid (fun W (hb : Below wc.heap.size wc W) => same_true u2 u3 u4 u5 _ _ W (i2.below hb) (i3.below hb) (i4.below hb) (i5.below hb))
          have hl3 : ([⟨[], [t]⟩, ⟨[], [t]⟩, ⟨[], [t]⟩] : List Arr).length = 3 := rfl
          rw [hl3] at *
          clear hl3 hat i0 i1 i2 i3 i4 i5  hlw hc2 hg
          go_upto_region 11 with fail
          go_region_held3 (fun wy => wy.cell? ⟨g, 0, none⟩ = some u0 ∧ wy.cell? ⟨g, 1, none⟩ = some u1 ∧ wy.cell? ⟨g, 2, none⟩ = some u2 ∧ wy.cell? ⟨g, 3, none⟩ = some u3 ∧ wy.cell? ⟨g, 4, none⟩ = some u4 ∧ wy.cell? ⟨g, 5, none⟩ = some u5 ∧ wy.cell? ⟨w.heap.size, 0, none⟩ = some (.slice a1 i c1) ∧ wy.cell? ⟨w.heap.size, 1, none⟩ = some (.slice a2 m2 c2))
            (first | go_keep)
            (first
              | (go_at_call 11; (with_reducible show Calls _ _ #[.agg #[u0, u1], _] _ _); refine (HC1.out _ (by repeat (first | exact Below.refl _ _ | refine Below.drew ?_ | refine below_drewN' ?_ _))).mono ?_; rintro _ w7 ⟨rfl, hb⟩; have H7 := Lib.hid (Below.trans (show Below wc.heap.size wc _ by repeat (first | exact Below.refl _ _ | refine Below.drew ?_ | refine below_drewN' ?_ _)) (hb.mono (Nat.le_refl _))); have hz7 := HC.out _ H7.out; clear hb; obtain ⟨r0, r1, r2, r3, r4, r5, s0, s1⟩ := hz7)
              | (go_at_call 11; (with_reducible show Calls _ _ #[.agg #[u2, u3], _] _ _); refine (HC2.out _ (by repeat (first | exact H7.out | refine Below.drew ?_ | refine below_drewN' ?_ _))).mono ?_; rintro _ w8 ⟨rfl, hb⟩; have H8 := Lib.hid (Below.trans (show Below wc.heap.size wc _ by repeat (first | exact H7.out | refine Below.drew ?_ | refine below_drewN' ?_ _)) (hb.mono H7.out.size)); have hz8 := HC.out _ H8.out; clear hb; obtain ⟨r0, r1, r2, r3, r4, r5, s0, s1⟩ := hz8))
          go_wp2_with fail
          refine bodyPost_ret (v := .bool true) (by simp [results, Tryz.results4, go_sem]) rfl ⟨rfl, HL.out.bel.trans (H8.out.mono HL.out.bel.size)⟩
end Go.Proofs.YtknnleiinhdklaaGreatDoor
