/-
  Walk of windrowlaw04.ParseFlat: it answers true. Condition: the text is no longer than a string may be; strconv.ErrRange holds an error.
-/
import Derived.Test.YtfpneopobbfabaaDoorPwA
import Derived.Test.YtfpneopobbfabaaDoorPwT
import Derived.Test.YtfpneopobbfabaaDoorPwP
import Derived.Deep.RegionHeld3
namespace Go.Proofs.YtfpneopobbfabaaDoor
open Go.RowKit Go.Shelf Go.Sort

set_option maxHeartbeats 8000000 in
set_option maxRecDepth 100000 in
theorem PFlat_any (s : ByteArray) (w : World) (hs : s.size ≤ maxLen) (hE : ErrIs w) : Calls Tryd.prog 10 #[.string s] w fun e w' => e = .returned (.bool true) ∧ Below w.heap.size w w' := by
  have HSh := Lib.hid (fun w h => shown_any w h)
  have HPa := Lib.hid (fun w h => Parse_any s w hs h)
  have HLaw := Lib.hid (fun p h => @flat_law s.data.toList p h)
  have HFa := Lib.hid (fun a c h => @faults_law s.data.toList a c h)
  have HSn := Lib.hid (fun p h => @names_short s.data.toList p h)
  generalize parseL s.data.toList = px at HPa HLaw HFa HSn
  have hs1 : (s.size : Int) ≤ 9223372036854775807 := by unfold maxLen at hs; omega
  clear hs
  go_enter Tryd.func10, Tryd.ntmps10
  go_wp2_with fail
  refine (HSh.out w hE).mono ?_
  rintro _ w1 ⟨rfl, hb1⟩
  have HB1 := Lib.hid hb1
  have HE1 := Lib.hid (hE.kept hb1)
  clear hb1
  go_wp2_with fail
  refine (HPa.out w1 HE1.out).mono ?_
  rintro en w2 ⟨hb2, hm⟩
  have HB2 := Lib.hid (HB1.out.trans (hb2.mono HB1.out.size))
  have HE2 := Lib.hid (HE1.out.kept hb2)
  clear hb2
  cases px with
  | error y =>
    obtain rfl := hm
    obtain ⟨a, c⟩ := y
    have hc : 30 ≤ c := by
      obtain ⟨m, _, _, h | ⟨h, _⟩⟩ := HFa.out a c rfl <;> omega
    have hc0 : ¬ (c : Int) = 0 := by omega
    have hc0b : ((c : Int) == 0) = false := by rw [beq_eq_false_iff_ne]; exact hc0
    clear hc
    dsimp only
    go_wp2_with fail
    go_ret
    exact ⟨rfl, (HB2.out.alloc HB2.out.size _).alloc (Nat.le_trans HB2.out.size (by simp)) _⟩
  | ok p =>
    obtain ⟨vi, vl, rfl, hprg⟩ := hm
    obtain ⟨h1, h2, h3, h4, h5⟩ := HLaw.out p rfl
    have HSn2 := Lib.hid (HSn.out p rfl)
    have H2 := Lib.hid h2
    have H3 := Lib.hid h3
    have H4 := Lib.hid h4
    have HP := Lib.hid hprg
    obtain ⟨⟨ai, ci, rfl⟩, ⟨al, cl, rfl⟩⟩ := hprg.forms
    obtain ⟨gl, capl, el, hcl, hml, _, hgl, hlat⟩ := hprg.line_at (List.length_pos_iff.2 h1)
    injection el with el1 el2 el3
    clear el2
    subst el1 el3
    have HLat := Lib.hid hlat
    obtain ⟨n, hn⟩ : ∃ n, n = p.lines.length := ⟨_, rfl⟩
    obtain ⟨m, hm⟩ : ∃ m, m = p.inputs.length := ⟨_, rfl⟩
    have hn0 : 0 < n := by rw [hn]; exact List.length_pos_iff.2 h1
    rw [← hn, ← hm] at h5
    rw [← hn] at H4 hcl
    rw [← hn, ← hm]
    have HN := Lib.hid hn
    have HM := Lib.hid hm
    unfold maxLen at hml
    have hwr : IntKind.i64.wrap ((n : Int) - 1) = (n : Int) - 1 := by
      have e1 : (n : Int) ≤ 64 := by omega
      have e2 : (1 : Int) ≤ n := by omega
      generalize (n : Int) = z at *
      have e3 : (z - 1) % (18446744073709551616 : Int) = z - 1 := Int.emod_eq_of_lt (by omega) (by omega)
      have e4 : ¬ (9223372036854775808 : Int) ≤ z - 1 := by omega
      simp [IntKind.wrap, IntKind.bits, IntKind.signed, e3, e4]
    clear h1 h2 h3 h4 hprg hlat hn hm HLaw HFa HSn
    go_wp2_with fail
    go_loopg [33] n (fun gg s33 wx => ∃ k : Nat, gg = n - k ∧ s33 = .int .i64 k ∧ k ≤ n ∧ Below w2.heap.size w2 wx ∧ w2.heap.size + 1 < wx.heap.size ∧ wx.cell? ⟨w2.heap.size, 0, none⟩ = some (.slice ai m ci) ∧ wx.cell? ⟨w2.heap.size, 1, none⟩ = some (.slice (some ⟨gl, 0, none⟩) n cl))
    case atStart => exact ⟨0, rfl, rfl, Nat.zero_le _, ((Below.refl _ _).alloc (Nat.le_refl _) _).alloc (by simp) _, by simp, by simp, by simp⟩
    case round =>
      obtain ⟨k, rfl, rfl, hk, hb, hsz, q0, q1⟩ := hrel
      by_cases hlt : k < n
      · have hlt' : (k : Int) < (n : Int) := by omega
        obtain ⟨x, hx⟩ : ∃ x, p.lines[k]? = some x := ⟨p.lines[k]'(by have := HN.out; omega), List.getElem?_eq_getElem _⟩
        obtain ⟨v, hv, r0, _, r2⟩ := HLat.out k x hx
        have hnm := H4.out k x hx
        have hfl := H2.out x (List.mem_of_getElem? hx)
        have d0 := (hb.cell (p := ⟨gl, _, none⟩) hgl).trans r0
        have d2 := (hb.cell (p := ⟨gl, _, none⟩) hgl).trans r2
        obtain ⟨av, cv, hform⟩ := hv.form
        have HFc := Lib.hid (fun wy (h : Below w2.heap.size w2 wy) => flat_any v x.items wy (hv.keep (fun t => KeepTag.below h)) hfl)
        subst hform
        have HB := Lib.hid hb
        have HEx := Lib.hid (HE2.out.kept hb)
        have hlx := HSn2.out x (List.mem_of_getElem? hx)
        have HNm := Lib.hid (fun wy h => Name_any (mkS x.name) wy (by rw [mkS_size]; unfold maxLen; omega) h)
        rw [mkS_toList, hnm] at HNm
        obtain ⟨xn, xa, xi⟩ := x
        dsimp only at d0 d2 HFc HNm
        obtain ⟨t, ht⟩ : ∃ t, t = xi.length := ⟨_, rfl⟩
        rw [← ht] at d2 HFc
        clear hv hfl hnm hlx hb r0 r2 hx ht
        by_cases hkn : k + 1 < n
        · have hk2 : (k : Int) < (n : Int) - 1 := by omega
          have hk3 : decide ((k : Int) < (n : Int) - 1) = true := by rw [decide_eq_true_iff]; exact hk2
          rw [show decide (k + 1 < n) = true from decide_eq_true hkn] at HNm
          clear hkn
          go_upto_region 8 with fail
          go_region_held3 (fun wy => wy.cell? ⟨w2.heap.size, 1, none⟩ = some (.slice (some ⟨gl, 0, none⟩) n cl) ∧ wy.cell? ⟨gl, k * 3, none⟩ = some (.string (mkS xn)) ∧ wy.cell? ⟨gl, k * 3 + 2, none⟩ = some (.slice av t cv))
            (first | go_keep)
            (first
              | (go_at_call 23; refine (HFc.out _ (by repeat (first | exact HB.out | refine Below.drew ?_ | refine below_drewN' ?_ _))).mono ?_; rintro _ w9 ⟨rfl, hb9⟩; have q1' : w9.cell? ⟨w2.heap.size, 1, none⟩ = some (.slice (some ⟨gl, 0, none⟩) n cl) := (hb9.cell (p := ⟨w2.heap.size, 1, none⟩) (by show w2.heap.size < wr.heap.size; omega)).trans q1; have q0' : w9.cell? ⟨w2.heap.size, 0, none⟩ = some (.slice ai m ci) := (hb9.cell (p := ⟨w2.heap.size, 0, none⟩) (by show w2.heap.size < wr.heap.size; omega)).trans q0; have d0' : w9.cell? ⟨gl, k * 3, none⟩ = some (.string (mkS xn)) := (hb9.cell (p := ⟨gl, k * 3, none⟩) (by show gl < wr.heap.size; omega)).trans d0; have d2' : w9.cell? ⟨gl, k * 3 + 2, none⟩ = some (.slice av t cv) := (hb9.cell (p := ⟨gl, k * 3 + 2, none⟩) (by show gl < wr.heap.size; omega)).trans d2; have HB9 : Hid (Below w2.heap.size w2 w9) := Lib.hid (Below.trans (by repeat (first | exact HB.out | refine Below.drew ?_ | refine below_drewN' ?_ _)) (hb9.mono HB.out.size)); have hsz9 : w2.heap.size + 1 < w9.heap.size := Nat.lt_of_lt_of_le hsz hb9.size; clear hb9)
              | (go_at_call 17; refine (HNm.out _ (HE2.out.kept (by repeat (first | exact HB9.out | refine Below.drew ?_ | refine below_drewN' ?_ _)))).mono ?_; rintro _ w10 ⟨rfl, hb10⟩; have q1'' : w10.cell? ⟨w2.heap.size, 1, none⟩ = some (.slice (some ⟨gl, 0, none⟩) n cl) := (hb10.cell (p := ⟨w2.heap.size, 1, none⟩) (by show w2.heap.size < w9.heap.size; omega)).trans q1'; have q0'' : w10.cell? ⟨w2.heap.size, 0, none⟩ = some (.slice ai m ci) := (hb10.cell (p := ⟨w2.heap.size, 0, none⟩) (by show w2.heap.size < w9.heap.size; omega)).trans q0'; have d0'' : w10.cell? ⟨gl, k * 3, none⟩ = some (.string (mkS xn)) := (hb10.cell (p := ⟨gl, k * 3, none⟩) (by show gl < w9.heap.size; omega)).trans d0'; have d2'' : w10.cell? ⟨gl, k * 3 + 2, none⟩ = some (.slice av t cv) := (hb10.cell (p := ⟨gl, k * 3 + 2, none⟩) (by show gl < w9.heap.size; omega)).trans d2'; have HB10 : Hid (Below w2.heap.size w2 w10) := Lib.hid (Below.trans (by repeat (first | exact HB9.out | refine Below.drew ?_ | refine below_drewN' ?_ _)) (hb10.mono HB9.out.size)); have hsz10 : w2.heap.size + 1 < w10.heap.size := Nat.lt_of_lt_of_le hsz9 hb10.size; clear hb10))
          go_wp2_with fail
          go_roundg (n - (k + 1))
          case measure => omega
          case rel => exact ⟨k + 1, rfl, by rw [Int.natCast_add]; rfl, by omega, HB10.out, hsz10, q0'', q1''⟩
        · have hk2 : ¬ (k : Int) < (n : Int) - 1 := by omega
          have hk3 : decide ((k : Int) < (n : Int) - 1) = false := by rw [decide_eq_false_iff_not]; exact hk2
          rw [show decide (k + 1 < n) = false from decide_eq_false hkn] at HNm
          clear hkn
          go_upto_region 8 with fail
          go_region_held3 (fun wy => wy.cell? ⟨w2.heap.size, 1, none⟩ = some (.slice (some ⟨gl, 0, none⟩) n cl) ∧ wy.cell? ⟨gl, k * 3, none⟩ = some (.string (mkS xn)) ∧ wy.cell? ⟨gl, k * 3 + 2, none⟩ = some (.slice av t cv))
            (first | go_keep)
            (first
              | (go_at_call 23; refine (HFc.out _ (by repeat (first | exact HB.out | refine Below.drew ?_ | refine below_drewN' ?_ _))).mono ?_; rintro _ w9 ⟨rfl, hb9⟩; have q1' : w9.cell? ⟨w2.heap.size, 1, none⟩ = some (.slice (some ⟨gl, 0, none⟩) n cl) := (hb9.cell (p := ⟨w2.heap.size, 1, none⟩) (by show w2.heap.size < wr.heap.size; omega)).trans q1; have q0' : w9.cell? ⟨w2.heap.size, 0, none⟩ = some (.slice ai m ci) := (hb9.cell (p := ⟨w2.heap.size, 0, none⟩) (by show w2.heap.size < wr.heap.size; omega)).trans q0; have d0' : w9.cell? ⟨gl, k * 3, none⟩ = some (.string (mkS xn)) := (hb9.cell (p := ⟨gl, k * 3, none⟩) (by show gl < wr.heap.size; omega)).trans d0; have d2' : w9.cell? ⟨gl, k * 3 + 2, none⟩ = some (.slice av t cv) := (hb9.cell (p := ⟨gl, k * 3 + 2, none⟩) (by show gl < wr.heap.size; omega)).trans d2; have HB9 : Hid (Below w2.heap.size w2 w9) := Lib.hid (Below.trans (by repeat (first | exact HB.out | refine Below.drew ?_ | refine below_drewN' ?_ _)) (hb9.mono HB.out.size)); have hsz9 : w2.heap.size + 1 < w9.heap.size := Nat.lt_of_lt_of_le hsz hb9.size; clear hb9)
              | (go_at_call 17; refine (HNm.out _ (HE2.out.kept (by repeat (first | exact HB9.out | refine Below.drew ?_ | refine below_drewN' ?_ _)))).mono ?_; rintro _ w10 ⟨rfl, hb10⟩; have q1'' : w10.cell? ⟨w2.heap.size, 1, none⟩ = some (.slice (some ⟨gl, 0, none⟩) n cl) := (hb10.cell (p := ⟨w2.heap.size, 1, none⟩) (by show w2.heap.size < w9.heap.size; omega)).trans q1'; have q0'' : w10.cell? ⟨w2.heap.size, 0, none⟩ = some (.slice ai m ci) := (hb10.cell (p := ⟨w2.heap.size, 0, none⟩) (by show w2.heap.size < w9.heap.size; omega)).trans q0'; have d0'' : w10.cell? ⟨gl, k * 3, none⟩ = some (.string (mkS xn)) := (hb10.cell (p := ⟨gl, k * 3, none⟩) (by show gl < w9.heap.size; omega)).trans d0'; have d2'' : w10.cell? ⟨gl, k * 3 + 2, none⟩ = some (.slice av t cv) := (hb10.cell (p := ⟨gl, k * 3 + 2, none⟩) (by show gl < w9.heap.size; omega)).trans d2'; have HB10 : Hid (Below w2.heap.size w2 w10) := Lib.hid (Below.trans (by repeat (first | exact HB9.out | refine Below.drew ?_ | refine below_drewN' ?_ _)) (hb10.mono HB9.out.size)); have hsz10 : w2.heap.size + 1 < w10.heap.size := Nat.lt_of_lt_of_le hsz9 hb10.size; clear hb10))
          go_wp2_with fail
          go_roundg (n - (k + 1))
          case measure => omega
          case rel => exact ⟨k + 1, rfl, by rw [Int.natCast_add]; rfl, by omega, HB10.out, hsz10, q0'', q1''⟩
      · obtain rfl : k = n := by omega
        have hlt' : ¬ (k : Int) < (k : Int) := by omega
        obtain ⟨wb, hwb⟩ : ∃ W : World, W = wr := ⟨_, rfl⟩
        rw [← hwb] at hb hsz q0 q1 ⊢
        clear hwb
        have HBb := Lib.hid hb
        clear hb
        go_wp2_with fail
        go_loopg [64] m (fun gg s64 wx => ∃ j : Nat, gg = m - j ∧ s64 = .int .i64 j ∧ j ≤ m ∧ Below w2.heap.size w2 wx ∧ w2.heap.size + 1 < wx.heap.size ∧ wx.cell? ⟨w2.heap.size, 0, none⟩ = some (.slice ai m ci) ∧ wx.cell? ⟨w2.heap.size, 1, none⟩ = some (.slice (some ⟨gl, 0, none⟩) k cl))
        case atStart => exact ⟨0, rfl, rfl, Nat.zero_le _, HBb.out, hsz, q0, q1⟩
        case round =>
          obtain ⟨j, rfl, rfl, hj, hb, hsz, q0, q1⟩ := hrel
          by_cases hjm : j < m
          · have hjm' : (j : Int) < (m : Int) := by omega
            obtain ⟨g2, p2, e2, hc2, hm2, _, hg2, hat2⟩ := HP.out.input_at (by have := HM.out; omega)
            injection e2 with ea2 en2 ec2
            clear en2
            obtain ⟨y, hy⟩ : ∃ y, p.inputs[j]? = some y := ⟨p.inputs[j]'(by have := HM.out; omega), List.getElem?_eq_getElem _⟩
            obtain ⟨v, hv, r0, _, r2⟩ := hat2 j y hy
            obtain ⟨hnm, hsd⟩ := H3.out y (List.mem_of_getElem? hy)
            obtain ⟨av, cv, rfl⟩ := own_form hv
            subst ea2
            rw [← ec2] at hm2 hc2
            rw [← HM.out] at hc2
            clear ec2
            unfold maxLen at hm2
            have d0 := (hb.cell (p := ⟨g2, _, none⟩) hg2).trans r0
            have d2 := (hb.cell (p := ⟨g2, _, none⟩) hg2).trans r2
            have hlx := name_len hnm
            have HNm := Lib.hid (fun wy h => Name_any (mkS y.name) wy (by rw [mkS_size]; unfold maxLen; omega) h)
            rw [mkS_toList, hnm] at HNm
            obtain ⟨yn, ya, ys⟩ := y
            dsimp only at d0 d2 HNm hsd
            obtain ⟨t, ht⟩ : ∃ t, t = ys.length := ⟨_, rfl⟩
            rw [← ht] at d2 hsd
            have hsd2 : ¬ (4 : Int) < (t : Int) := by omega
            have hsd3 : decide ((4 : Int) < (t : Int)) = false := by rw [decide_eq_false_iff_not]; exact hsd2
            have HB := Lib.hid hb
            have hg2r : g2 < wr.heap.size := by have := hb.size; omega
            clear hv hnm hlx hb r0 r2 hy ht hat2
            go_wp2_with (go_at_call 17; refine (HNm.out _ (HE2.out.kept HB.out)).mono ?_; rintro _ w10 ⟨rfl, hb10⟩; have q1'' : w10.cell? ⟨w2.heap.size, 1, none⟩ = some (.slice (some ⟨gl, 0, none⟩) k cl) := (hb10.cell (p := ⟨w2.heap.size, 1, none⟩) (by show w2.heap.size < wr.heap.size; omega)).trans q1; have q0'' : w10.cell? ⟨w2.heap.size, 0, none⟩ = some (.slice (some ⟨g2, 0, none⟩) m ci) := (hb10.cell (p := ⟨w2.heap.size, 0, none⟩) (by show w2.heap.size < wr.heap.size; omega)).trans q0; have d0'' : w10.cell? ⟨g2, j * 3, none⟩ = some (.string (mkS yn)) := (hb10.cell (p := ⟨g2, j * 3, none⟩) hg2r).trans d0; have d2'' : w10.cell? ⟨g2, j * 3 + 2, none⟩ = some (.slice av t cv) := (hb10.cell (p := ⟨g2, j * 3 + 2, none⟩) hg2r).trans d2; have HB10 : Hid (Below w2.heap.size w2 w10) := Lib.hid (HB.out.trans (hb10.mono HB.out.size)); have hsz10 : w2.heap.size + 1 < w10.heap.size := Nat.lt_of_lt_of_le hsz hb10.size; clear hb10)
            go_wp2_with fail
            go_roundg (m - (j + 1))
            case measure => omega
            case rel => exact ⟨j + 1, rfl, by rw [Int.natCast_add]; rfl, by omega, HB10.out, hsz10, q0'', q1''⟩
          · obtain rfl : j = m := by omega
            have hjm' : ¬ (j : Int) < (j : Int) := by omega
            have hk0 : (k : Int) > 0 := by omega
            have hk0b : decide ((0 : Int) < (k : Int)) = true := by rw [decide_eq_true_iff]; omega
            have hs64 : (j : Int) + (k : Int) ≤ 64 := by omega
            have HB := Lib.hid hb
            clear hb
            go_wp2_with fail
            go_ret
            exact ⟨rfl, HB2.out.trans (HB.out.mono HB2.out.size)⟩
end Go.Proofs.YtfpneopobbfabaaDoor
