/-
  Walk of windrowtop.TopShapes. Condition: the array's two slices read as lists; Go's library's variables hold what they are laid with.
-/
import Derived.Test.YtknnleiinhdklaaGreatDoorKTzD
import Derived.Test.YtknnleiinhdklaaGreatDoorPk46
import Derived.Test.YtknnleiinhdklaaGreatDoorPk28
import Derived.Test.YtknnleiinhdklaaGreatDoorPk26
namespace Go.Proofs.YtknnleiinhdklaaGreatDoor
open Go.RowKit Go.Shelf Go.Sort Go.Maps

set_option maxHeartbeats 8000000 in
set_option maxRecDepth 100000 in
theorem TShapes_any (vs vd : Value) (ls ld : List Int) (w : World) (hs : IntsS w vs ls) (hd : IntsS w vd ld) (hE : Env w) :
    Calls Tryz.prog 5 #[.agg #[vs, vd]] w fun e w' => e = .returned (.bool true) ∧ Below w.heap.size w w' := by
  obtain ⟨a1, c1, rfl⟩ := hs.form
  obtain ⟨a2, c2, rfl⟩ := hd.form
  have HBg := Lib.hid (fun W (hb : Below w.heap.size w W) => begun_any W (hE.kept hb))
  have HF := Lib.hid (fun W (hb : Below w.heap.size w W) => fair_any (.slice a1 ls.length c1) (.slice a2 ld.length c2) ls ld W (hs.below hb) (hd.below hb))
  have HEn := Lib.hid hE
  have HS := Lib.hid hs
  have HD := Lib.hid hd
  have HB0 := Lib.hid ((Below.refl _ w).alloc (Nat.le_refl _) (.cells #[.slice a1 ls.length c1, .slice a2 ld.length c2] 24))
  have HK0 := Lib.hid (Blk.new w 24 #[.slice a1 ls.length c1, .slice a2 ld.length c2] rfl)
  obtain ⟨m1, hm1⟩ : ∃ m, m = ls.length := ⟨_, rfl⟩
  obtain ⟨m2, hm2⟩ : ∃ m, m = ld.length := ⟨_, rfl⟩
  have HM := Lib.hid (And.intro hm1 hm2)
  rw [← hm1, ← hm2] at HB0 HK0 HF
  rw [← hm1] at HS
  rw [← hm2] at HD
  rw [← hm1, ← hm2]
  clear hs hd hE hm1 hm2
  go_enter Tryz.func5, Tryz.ntmps5
  go_wp2_with (go_at_call 7; refine (HBg.out _ HB0.out).mono ?_; rintro _ w1 ⟨rfl, hb⟩; have HB1 := Lib.hid (HB0.out.trans (hb.mono HB0.out.size)); have HK1 := Lib.hid (HK0.out.below hb); have c0 := (HK0.out.below hb).cell 0 |>.trans (show _ = some (Value.slice a1 m1 c1) from rfl); have d0 := (HK0.out.below hb).cell 1 |>.trans (show _ = some (Value.slice a2 m2 c2) from rfl); clear hb)
  by_cases h0 : m2 = 0
  · have h0I : ((m2 : Int) == 0) = true := by rw [beq_iff_eq]; omega
    have h0B : (m2 == 0) = true := by rw [beq_iff_eq]; omega
    go_wp2_with (go_at_call 8; refine (HF.out _ HB1.out).mono ?_; rintro _ w2 ⟨b, rfl, hb, hx⟩; have HB2 := Lib.hid (HB1.out.trans (hb.mono HB1.out.size)); have HK2 := Lib.hid (HK1.out.below hb); have HX := Lib.hid hx; have p0 := (HK1.out.below hb).cell 0 |>.trans (show _ = some (Value.slice a1 m1 c1) from rfl); have p1 := (HK1.out.below hb).cell 1 |>.trans (show _ = some (Value.slice a2 m2 c2) from rfl); clear hb hx c0 d0; cases b)
    all_goals
      go_ret
      exact ⟨rfl, HB2.out⟩
  · have h0I : ((m2 : Int) == 0) = false := by rw [beq_eq_false_iff_ne]; omega
    have h0B : (m2 == 0) = false := by rw [beq_eq_false_iff_ne]; omega
    go_wp2_with (go_at_call 8; refine (HF.out _ HB1.out).mono ?_; rintro _ w2 ⟨b, rfl, hb, hx⟩; have HB2 := Lib.hid (HB1.out.trans (hb.mono HB1.out.size)); have HK2 := Lib.hid (HK1.out.below hb); have HX := Lib.hid hx; have p0 := (HK1.out.below hb).cell 0 |>.trans (show _ = some (Value.slice a1 m1 c1) from rfl); have p1 := (HK1.out.below hb).cell 1 |>.trans (show _ = some (Value.slice a2 m2 c2) from rfl); clear hb hx c0 d0; cases b)
    · go_ret
      exact ⟨rfl, HB2.out⟩
    · obtain ⟨s, hls, hok⟩ := HX.out (by simp)
      have hpos : 0 < (⟨s, ld⟩ : Arr).data.length := by
        have := HM.out.2
        show 0 < ld.length
        omega
      subst hls
      obtain ⟨T0, hT0⟩ : ∃ T, T = inL s ++ [10] := ⟨_, rfl⟩
      obtain ⟨T, hT⟩ : ∃ T, T = T0 ++ shapesL := ⟨_, rfl⟩
      have hTT : T = inL s ++ 10 :: shapesL := by rw [hT, hT0, List.append_assoc]; rfl
      have hlen : T.length ≤ 1000 := by
        have h1 := nums_len s hok.sides.each
        have h2 : s.length ≤ 4 := hok.sides.len
        rw [hTT]
        unfold inL
        simp only [List.length_append, List.length_cons, List.length_nil, shapesL]
        omega
      have HI := Lib.hid (fun W (hb : Below w.heap.size w W) => input_line (.slice a1 m1 c1) s W (HS.out.below hb) hok.sides)
      have HMn := Lib.hid (fun W va (hb : Below w.heap.size w W) (hA : ArrsV W va [⟨s, ld⟩] [(.slice a1 m1 c1, .slice a2 m2 c2)]) => means_any T va (shapesP s) ⟨s, ld⟩ _ _ W (HEn.out.kept hb) (by unfold maxLen; omega) (by rw [hTT]; exact parse_shapes s hok.sides.each hok.sides.len) (shapes_ok hok.sides) (xInp_no hok.sides) rfl hA hok (mean_shapes hok hpos) (cnt_shapes s))
      rw [← hT0] at HI
      have add1 : ∀ W, (Op.stringOp .add (mkS T0) ⟨#[121, 58, 32, 115, 104, 97, 112, 101, 32, 120, 10, 111, 117, 116, 32, 121, 32, 114, 104, 111, 32, 114, 97, 118, 101, 108, 32, 120]⟩).run Tryz.prog W = .ok (.string (mkS T)) W := fun W => add_run (b := shapesL) hT (by omega) W
      have HOk := Lib.hid hok
      have HSD := Lib.hid (fun W (hb : Below w2.heap.size w2 W) => And.intro (HS.out.below (HB2.out.trans (hb.mono HB2.out.size))) (HD.out.below (HB2.out.trans (hb.mono HB2.out.size))))
      have HBx := Lib.hid (fun W (hb : Below w2.heap.size w2 W) => And.intro (HB2.out.trans (hb.mono HB2.out.size)) (HK2.out.below hb))
      have HZ2 := Lib.hid (show w.heap.size < w2.heap.size from HK2.out.lt)
      clear hT0 hT hTT hlen hok HX hpos
      go_upto_region 5 with fail
      go_cut [3, 4] from 16 to 26 (fun v3 v4 wx => v4 = .bool true ∧ ∃ us, Hid (LawAt w wx (.slice a1 m1 c1) (.slice a2 m2 c2) v3 [shapeA ⟨s, ld⟩, ⟨s, ld⟩] us))
      case first =>
        go_region_held3 (fun wy => wy.cell? ⟨w.heap.size, 0, none⟩ = some (.slice a1 m1 c1) ∧ wy.cell? ⟨w.heap.size, 1, none⟩ = some (.slice a2 m2 c2))
          (first | go_keep)
          (first
            | (go_at_call 10; refine (HI.out _ (HBx.out _ (by repeat (first | exact Below.refl _ _ | refine Below.drew ?_ | refine Below.alloc ?_ (by simp) _))).1).mono ?_; rintro _ w5 ⟨rfl, hb5⟩; have H5 := Lib.hid ((show Below w2.heap.size w2 _ by repeat (first | exact Below.refl _ _ | refine Below.drew ?_ | refine Below.alloc ?_ (by simp) _)).trans (hb5.mono (by simp))); have p0' := (H5.out.cell (p := ⟨w.heap.size, 0, none⟩) HZ2.out).trans p0; have p1' := (H5.out.cell (p := ⟨w.heap.size, 1, none⟩) HZ2.out).trans p1)
            | (go_at_call 9; (with_reducible show Calls _ _ _ (World.alloc w5 _) _); have hA : ArrsV (w5.alloc (.cells #[.slice a1 m1 c1, .slice a2 m2 c2] 24)) (.slice (some ⟨w5.heap.size, 0, none⟩) 1 1) [⟨s, ld⟩] [(.slice a1 m1 c1, .slice a2 m2 c2)] := ArrsV.one w5 _ _ ⟨s, ld⟩ (HSD.out _ H5.out).1 (HSD.out _ H5.out).2; have hB := H5.out.alloc H5.out.size (.cells #[.slice a1 m1 c1, .slice a2 m2 c2] 24); refine (HMn.out _ _ (HBx.out _ hB).1 hA).mono ?_; rintro _ w6 ⟨v, us, rfl, ha, hb⟩; have h6 := hB.trans (hb.mono hB.size); have HL := Lib.hid (LawAt.mk ha (HBx.out _ h6).1 (HBx.out _ h6).2); have p0'' := (h6.cell (p := ⟨w.heap.size, 0, none⟩) HZ2.out).trans p0; have p1'' := (h6.cell (p := ⟨w.heap.size, 1, none⟩) HZ2.out).trans p1; clear ha hb h6; clear hA hB)
            | (go_at_call 9; refine (HMn.out _ _ (HBx.out _ H5.out).1 ((ArrsV.one _ _ _ ⟨s, ld⟩ (HSD.out _ (Below.refl _ _).drew).1 (HSD.out _ (Below.refl _ _).drew).2).below hb5)).mono ?_; rintro _ w6 ⟨v, us, rfl, ha, hb⟩; have h6 := H5.out.trans (hb.mono H5.out.size); have HL := Lib.hid (LawAt.mk ha (HBx.out _ h6).1 (HBx.out _ h6).2); have p0'' := (h6.cell (p := ⟨w.heap.size, 0, none⟩) HZ2.out).trans p0; have p1'' := (h6.cell (p := ⟨w.heap.size, 1, none⟩) HZ2.out).trans p1; clear ha hb h6))
        all_goals
          go_wp2_with fail
          go_meet
          exact ⟨rfl, us, HL⟩
      case rest =>
        obtain ⟨rfl, us, HL⟩ := hcut
        obtain ⟨g, c, rfl, hc1, hc2, hg, hat⟩ := HL.out.arrs.open (by simp)
        obtain ⟨u0, u1, q0, q1, i0, i1⟩ := hat 0 (shapeA ⟨s, ld⟩) rfl
        obtain ⟨u2, u3, q2, q3, i2, i3⟩ := hat 1 ⟨s, ld⟩ rfl
        have q1 : wc.cell? ⟨g, 1, none⟩ = some u1 := q1
        have q2 : wc.cell? ⟨g, 2, none⟩ = some u2 := q2
        have q3 : wc.cell? ⟨g, 3, none⟩ = some u3 := q3
        have e0 := HL.out.box.cell 0 |>.trans (show _ = some (Value.slice a1 m1 c1) from rfl)
        have e1 := HL.out.box.cell 1 |>.trans (show _ = some (Value.slice a2 m2 c2) from rfl)
        have hlw := HL.out.box.lt
        have HC := Lib.hid (fun W (hb : Below wc.heap.size wc W) => show W.cell? ⟨g, 1, none⟩ = some u1 ∧ W.cell? ⟨g, 2, none⟩ = some u2 ∧ W.cell? ⟨g, 3, none⟩ = some u3 ∧ W.cell? ⟨w.heap.size, 0, none⟩ = some (.slice a1 m1 c1) ∧ W.cell? ⟨w.heap.size, 1, none⟩ = some (.slice a2 m2 c2) from
          ⟨(hb.cell (p := ⟨g, 1, none⟩) hg).trans q1, (hb.cell (p := ⟨g, 2, none⟩) hg).trans q2, (hb.cell (p := ⟨g, 3, none⟩) hg).trans q3, (hb.cell (p := ⟨w.heap.size, 0, none⟩) hlw).trans e0, (hb.cell (p := ⟨w.heap.size, 1, none⟩) hlw).trans e1⟩)
        have HIn := Lib.hid (fun W (hb : Below wc.heap.size wc W) => And.intro (HS.out.below (HL.out.bel.trans (hb.mono HL.out.bel.size))) (HD.out.below (HL.out.bel.trans (hb.mono HL.out.bel.size))))
        have HC1 := Lib.hid (fun W (hb : Below wc.heap.size wc W) => ints_true u1 _ _ W (i1.below hb) (HIn.out W hb).1)
        have HC2 := Lib.hid (fun W (hb : Below wc.heap.size wc W) => same_true u2 u3 _ _ _ _ W (i2.below hb) (i3.below hb) (HIn.out W hb).1 (HIn.out W hb).2)
        have hl3 : ([(shapeA ⟨s, ld⟩), ⟨s, ld⟩] : List Arr).length = 2 := rfl
        rw [hl3] at *
        clear hl3 hat i0 i1 i2 i3 q0 hlw hc2 hg
        go_upto_region 6 with fail
        go_region_held3 (fun wy => wy.cell? ⟨g, 1, none⟩ = some u1 ∧ wy.cell? ⟨g, 2, none⟩ = some u2 ∧ wy.cell? ⟨g, 3, none⟩ = some u3 ∧ wy.cell? ⟨w.heap.size, 0, none⟩ = some (.slice a1 m1 c1) ∧ wy.cell? ⟨w.heap.size, 1, none⟩ = some (.slice a2 m2 c2))
          (first | go_keep)
          (first
            | (go_at_call 12; (with_reducible show Calls _ _ #[u1, _] _ _); refine (HC1.out _ (by repeat (first | exact Below.refl _ _ | refine Below.drew ?_ | refine below_drewN' ?_ _))).mono ?_; rintro _ w7 ⟨rfl, hb⟩; have H7 := Lib.hid (Below.trans (show Below wc.heap.size wc _ by repeat (first | exact Below.refl _ _ | refine Below.drew ?_ | refine below_drewN' ?_ _)) (hb.mono (Nat.le_refl _))); have hz7 := HC.out _ H7.out; clear hb; obtain ⟨r1, r2, r3, s0, s1⟩ := hz7)
            | (go_at_call 11; (with_reducible show Calls _ _ #[.agg #[u2, u3], _] _ _); refine (HC2.out _ (by repeat (first | exact H7.out | refine Below.drew ?_ | refine below_drewN' ?_ _))).mono ?_; rintro _ w8 ⟨rfl, hb⟩; have H8 := Lib.hid (Below.trans (show Below wc.heap.size wc _ by repeat (first | exact H7.out | refine Below.drew ?_ | refine below_drewN' ?_ _)) (hb.mono H7.out.size)); have hz8 := HC.out _ H8.out; clear hb; obtain ⟨r1, r2, r3, s0, s1⟩ := hz8))
        go_wp2_with fail
        refine bodyPost_ret (v := .bool true) (by simp [results, Tryz.results5, go_sem]) rfl ⟨rfl, HL.out.bel.trans (H8.out.mono HL.out.bel.size)⟩
end Go.Proofs.YtknnleiinhdklaaGreatDoor
