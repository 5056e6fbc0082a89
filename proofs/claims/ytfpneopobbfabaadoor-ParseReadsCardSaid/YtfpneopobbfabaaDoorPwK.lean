/-
  Walk of windrowref04.Alike where the programs are the same, their places apart: it says so. Condition: the programs lie in memory.
-/
import Derived.Test.YtfpneopobbfabaaDoorPwP
import Derived.Deep.RegionHeld3
namespace Go.Proofs.YtfpneopobbfabaaDoor
open Go.RowKit Go.Shelf Go.Sort

theorem sideCells_get (l : List (List UInt8 × Int)) : ∀ (i : Nat) (q : List UInt8 × Int), l[i]? = some q → (sideCells l)[i * 2]? = some (.string (mkS q.1)) ∧ (sideCells l)[i * 2 + 1]? = some (.int .i64 q.2) := by
  induction l with
  | nil => intro i q h; simp at h
  | cons a l ih =>
    intro i q h
    cases i with
    | zero =>
      simp at h
      subst h
      exact ⟨rfl, rfl⟩
    | succ i =>
      have h : l[i]? = some q := by simpa using h
      obtain ⟨h1, h2⟩ := ih i q h
      have e1 : (i + 1) * 2 = i * 2 + 1 + 1 := by omega
      have hs : sideCells (a :: l) = Value.string (mkS a.1) :: Value.int .i64 a.2 :: sideCells l := rfl
      rw [e1, hs]
      exact ⟨h1, h2⟩
theorem side_at {w : World} {v : Value} {l : List (List UInt8 × Int)} (h : w.ownsRow 0 77 2 v l.length (sideCells l)) (hl : 0 < l.length) : ∃ g cap, v = .slice (some ⟨g, 0, none⟩) l.length cap ∧ l.length ≤ cap ∧ cap ≤ maxLen ∧ g < w.heap.size ∧
    ∀ (i : Nat) (q : List UInt8 × Int), l[i]? = some q → w.cell? ⟨g, i * 2, none⟩ = some (.string (mkS q.1)) ∧ w.cell? ⟨g, i * 2 + 1, none⟩ = some (.int .i64 q.2) := by
  obtain ⟨g, cap, rfl, _, hg, hc, hm, hcell, _⟩ := own_cells h (by omega)
  refine ⟨g, cap, rfl, hc, hm, hg, fun i q hq => ?_⟩
  have hi := (List.getElem?_eq_some_iff.1 hq).1
  obtain ⟨h1, h2⟩ := sideCells_get l i q hq
  exact ⟨(hcell _ (by omega)).trans h1, (hcell _ (by omega)).trans h2⟩
/-- Two programs in two boxes. -/
structure Boxes (w wx : World) (vi vl ui ul : Value) : Prop where
  below : Below w.heap.size w wx
  size : w.heap.size + 1 < wx.heap.size
  a0 : wx.cell? ⟨w.heap.size, 0, none⟩ = some vi
  a1 : wx.cell? ⟨w.heap.size, 1, none⟩ = some vl
  b0 : wx.cell? ⟨w.heap.size + 1, 0, none⟩ = some ui
  b1 : wx.cell? ⟨w.heap.size + 1, 1, none⟩ = some ul
theorem Boxes.next {w wx wy : World} {vi vl ui ul : Value} (h : Boxes w wx vi vl ui ul) (hb : Below wx.heap.size wx wy) : Boxes w wy vi vl ui ul :=
  have hs := h.size
  have hs2 := hb.size
  ⟨h.below.trans (hb.mono h.below.size), by omega, (hb.cell (p := ⟨w.heap.size, 0, none⟩) (by show w.heap.size < _; omega)).trans h.a0, (hb.cell (p := ⟨w.heap.size, 1, none⟩) (by show w.heap.size < _; omega)).trans h.a1,
    (hb.cell (p := ⟨w.heap.size + 1, 0, none⟩) (by show w.heap.size + 1 < _; omega)).trans h.b0, (hb.cell (p := ⟨w.heap.size + 1, 1, none⟩) (by show w.heap.size + 1 < _; omega)).trans h.b1⟩
theorem Boxes.draws {w wx : World} {vi vl ui ul : Value} (h : Boxes w wx vi vl ui ul) (n : Nat) : Boxes w (wx.drewN n) vi vl ui ul := h.next (below_drewN' (Below.refl _ _) n)
theorem Boxes.drew {w wx : World} {vi vl ui ul : Value} (h : Boxes w wx vi vl ui ul) : Boxes w wx.drew vi vl ui ul := h.next ((Below.refl _ _).drew)
set_option maxHeartbeats 8000000 in
set_option maxRecDepth 100000 in
theorem Alike_true (vi vl ui ul : Value) (p q : Prg) (b b' : Nat) (w : World) (h1 : PrgV w b vi vl p) (h2 : PrgV w b' ui ul q) (he : p.bare = q.bare) :
    Calls Tryd.prog 19 #[.agg #[vi, vl], .agg #[ui, ul]] w fun e w' => e = .returned (.bool true) ∧ Below w.heap.size w w' := by
  have hbi : p.inputs.map Inp.bare = q.inputs.map Inp.bare := congrArg Prg.inputs he
  have hbl : p.lines.map Lin.bare = q.lines.map Lin.bare := congrArg Prg.lines he
  have hli : q.inputs.length = p.inputs.length := by
    have := congrArg List.length hbi
    rw [List.length_map, List.length_map] at this
    exact this.symm
  have hll : q.lines.length = p.lines.length := by
    have := congrArg List.length hbl
    rw [List.length_map, List.length_map] at this
    exact this.symm
  obtain ⟨⟨ai, ci, hvi⟩, ⟨al, cl, hvl⟩⟩ := h1.forms
  obtain ⟨⟨bi, di, hui⟩, ⟨bl, dl, hul⟩⟩ := h2.forms
  have H1 := Lib.hid h1
  have H2 := Lib.hid h2
  have HBi := Lib.hid hbi
  have HBl := Lib.hid hbl
  rw [hli] at hui
  rw [hll] at hul
  obtain ⟨n, hn⟩ : ∃ n, n = p.inputs.length := ⟨_, rfl⟩
  obtain ⟨m, hm⟩ : ∃ m, m = p.lines.length := ⟨_, rfl⟩
  rw [← hn] at hvi hui hli
  rw [← hm] at hvl hul hll
  have HN := Lib.hid hn
  have HM := Lib.hid hm
  have HLi := Lib.hid hli
  have HLl := Lib.hid hll
  clear h1 h2 he hbi hbl hn hm hli hll
  subst hvi hvl hui hul
  go_enter Tryd.func19, Tryd.ntmps19
  go_wp2_with fail
  go_loopg [5] n (fun gg s5 wx => ∃ k : Nat, gg = n - k ∧ s5 = .int .i64 k ∧ k ≤ n ∧ Boxes w wx (.slice ai n ci) (.slice al m cl) (.slice bi n di) (.slice bl m dl))
  case atStart => exact ⟨0, rfl, rfl, Nat.zero_le _, ⟨((Below.refl _ _).alloc (Nat.le_refl _) _).alloc (by simp) _, by simp, by simp, by simp, by simp, by simp⟩⟩
  case round =>
    obtain ⟨k, rfl, rfl, hk, hbx⟩ := hrel
    by_cases hlt : k < n
    · have hlt' : (k : Int) < (n : Int) := by omega
      obtain ⟨g1, p1, e1, hc1, hm1, _, hg1, hat1⟩ := H1.out.input_at (by have := HN.out; omega)
      obtain ⟨g2, p2, e2, hc2, hm2, _, hg2, hat2⟩ := H2.out.input_at (by have := HN.out; have := HLi.out; omega)
      injection e1 with ea1 en1 ec1
      injection e2 with ea2 en2 ec2
      clear en1 en2
      obtain ⟨x, hx⟩ : ∃ x, p.inputs[k]? = some x := ⟨p.inputs[k]'(by have := HN.out; omega), List.getElem?_eq_getElem _⟩
      obtain ⟨y, hy⟩ : ∃ y, q.inputs[k]? = some y := ⟨q.inputs[k]'(by have := HLi.out; omega), List.getElem?_eq_getElem _⟩
      have hxy : x.bare = y.bare := by
        have := congrArg (fun l => l[k]?) HBi.out
        simp only [List.getElem?_map, hx, hy, Option.map_some] at this
        injection this
      obtain ⟨vn1, hn1, q0, _, q2⟩ := hat1 k x hx
      obtain ⟨vn2, hn2, r0, _, r2⟩ := hat2 k y hy
      obtain ⟨xn, xa, xs⟩ := x
      obtain ⟨yn, ya, ys⟩ := y
      injection hxy with b1 b2 b3
      dsimp only at b1 b3
      subst b1 b3
      dsimp only at q0 q2 r0 r2 hn1 hn2
      obtain ⟨an1, cn1, rfl⟩ := own_form hn1
      obtain ⟨an2, cn2, rfl⟩ := own_form hn2
      have hcc1 : n ≤ ci := by have := HN.out; omega
      have hcc2 : n ≤ di := by have := HN.out; have := HLi.out; omega
      rw [← ec1] at hm1
      rw [← ec2] at hm2
      unfold maxLen at hm1 hm2
      have HN1 := Lib.hid hn1
      have HN2 := Lib.hid hn2
      obtain ⟨t, ht⟩ : ∃ t, t = xs.length := ⟨_, rfl⟩
      rw [← ht] at q2 r2 HN1 HN2
      have HQ := Lib.hid (And.intro q2 r2)
      have HT := Lib.hid ht
      have HBx := Lib.hid hbx
      have hEA := Lib.hid (And.intro ea1 ea2)
      subst ea1 ea2
      have d0 := (hbx.below.cell (p := ⟨g1, _, none⟩) hg1).trans q0
      have d2 := (hbx.below.cell (p := ⟨g1, _, none⟩) hg1).trans q2
      have t0 := (hbx.below.cell (p := ⟨g2, _, none⟩) hg2).trans r0
      have t2 := (hbx.below.cell (p := ⟨g2, _, none⟩) hg2).trans r2
      have a0 := hbx.a0
      have b0 := hbx.b0
      clear q0 q2 r0 r2 hn1 hn2 hx hy hat1 hat2 hc1 hc2 hbx ht ec1 ec2
      go_upto_region 6 with fail
      go_quiet (fail)
      go_wp2_with fail
      clear d0 d2 t0 t2 a0 b0
      go_loopg [6] t (fun gg s6 wx => ∃ j : Nat, gg = t - j ∧ s6 = .int .i64 j ∧ j ≤ t ∧ Boxes w wx (.slice (some ⟨g1, 0, none⟩) n ci) (.slice al m cl) (.slice (some ⟨g2, 0, none⟩) n di) (.slice bl m dl))
      case atStart => exact ⟨0, rfl, rfl, Nat.zero_le _, HBx.out.draws _⟩
      case round =>
        obtain ⟨j, rfl, rfl, hj, hbx⟩ := hrel
        have d2 := (hbx.below.cell (p := ⟨g1, _, none⟩) hg1).trans HQ.out.1
        have t2 := (hbx.below.cell (p := ⟨g2, _, none⟩) hg2).trans HQ.out.2
        have a0 := hbx.a0
        have b0 := hbx.b0
        have HBy := Lib.hid hbx
        by_cases hjm : j < t
        · have hjm' : (j : Int) < (t : Int) := by omega
          obtain ⟨z, hz⟩ : ∃ z, xs[j]? = some z := ⟨xs[j]'(by have := HT.out; omega), List.getElem?_eq_getElem _⟩
          have ho1 := HN1.out
          have ho2 := HN2.out
          rw [HT.out] at ho1 ho2
          obtain ⟨u1, cu1, e1, hcu1, hmu1, hgu1, hau1⟩ := side_at ho1 (by have := HT.out; omega)
          obtain ⟨u2, cu2, e2, hcu2, hmu2, hgu2, hau2⟩ := side_at ho2 (by have := HT.out; omega)
          injection e1 with ea1 en1 ec1
          injection e2 with ea2 en2 ec2
          clear en1 en2
          subst ea1 ec1 ea2 ec2
          obtain ⟨w1', w1''⟩ := hau1 j z hz
          obtain ⟨w2', w2''⟩ := hau2 j z hz
          have x1 := (hbx.below.cell (p := ⟨u1, _, none⟩) hgu1).trans w1'
          have x1' := (hbx.below.cell (p := ⟨u1, _, none⟩) hgu1).trans w1''
          have x2 := (hbx.below.cell (p := ⟨u2, _, none⟩) hgu2).trans w2'
          have x2' := (hbx.below.cell (p := ⟨u2, _, none⟩) hgu2).trans w2''
          have hmc1 : t ≤ cn1 := by have := HT.out; omega
          have hmc2 : t ≤ cn2 := by have := HT.out; omega
          unfold maxLen at hmu1 hmu2
          clear w1' w2' w1'' w2'' hau1 hau2 ho1 ho2 hz hbx hcu1 hcu2
          go_upto_region 11 with fail
          go_quiet (fail)
          go_wp2_with fail
          go_roundg (t - (j + 1))
          case measure => omega
          case rel => exact ⟨j + 1, rfl, by rw [Int.natCast_add]; rfl, by omega, HBy.out.draws _⟩
        · obtain rfl : j = t := by omega
          have hjm' : ¬ (j : Int) < (j : Int) := by omega
          clear hbx
          go_wp2_with fail
          go_roundg (n - (k + 1))
          case measure => omega
          case rel => exact ⟨k + 1, rfl, by rw [Int.natCast_add]; rfl, by omega, HBy.out⟩
    · obtain rfl : k = n := by omega
      have hlt' : ¬ (k : Int) < (k : Int) := by omega
      have a0 := hbx.a0
      have b0 := hbx.b0
      have HBx := Lib.hid hbx
      clear hbx
      go_wp2_with fail
      clear a0 b0
      go_loopg [7] m (fun gg s7 wx => ∃ j : Nat, gg = m - j ∧ s7 = .int .i64 j ∧ j ≤ m ∧ Boxes w wx (.slice ai k ci) (.slice al m cl) (.slice bi k di) (.slice bl m dl))
      case atStart => exact ⟨0, rfl, rfl, Nat.zero_le _, HBx.out⟩
      case round =>
        obtain ⟨j, rfl, rfl, hj, hbx⟩ := hrel
        have a1 := hbx.a1
        have b1 := hbx.b1
        by_cases hjm : j < m
        · have hjm' : (j : Int) < (m : Int) := by omega
          obtain ⟨g1, p1, e1, hc1, hm1, _, hg1, hat1⟩ := H1.out.line_at (by have := HM.out; omega)
          obtain ⟨g2, p2, e2, hc2, hm2, _, hg2, hat2⟩ := H2.out.line_at (by have := HM.out; have := HLl.out; omega)
          injection e1 with ea1 en1 ec1
          injection e2 with ea2 en2 ec2
          clear en1 en2
          obtain ⟨x, hx⟩ : ∃ x, p.lines[j]? = some x := ⟨p.lines[j]'(by have := HM.out; omega), List.getElem?_eq_getElem _⟩
          obtain ⟨y, hy⟩ : ∃ y, q.lines[j]? = some y := ⟨q.lines[j]'(by have := HLl.out; omega), List.getElem?_eq_getElem _⟩
          have hxy : x.bare = y.bare := by
            have := congrArg (fun l => l[j]?) HBl.out
            simp only [List.getElem?_map, hx, hy, Option.map_some] at this
            injection this
          obtain ⟨vn1, hn1, q0, _, q2⟩ := hat1 j x hx
          obtain ⟨vn2, hn2, r0, _, r2⟩ := hat2 j y hy
          obtain ⟨xn, xa, xs⟩ := x
          obtain ⟨yn, ya, ys⟩ := y
          injection hxy with b1' b2' b3'
          dsimp only at b1' b3'
          subst b1'
          dsimp only at q0 q2 r0 r2 hn1 hn2
          have HIt := Lib.hid b3'
          have HV1 := Lib.hid hn1
          have HV2 := Lib.hid hn2
          obtain ⟨an1, cn1, rfl⟩ := hn1.form
          obtain ⟨an2, cn2, rfl⟩ := hn2.form
          have hlen : ys.length = xs.length := by
            have := congrArg List.length b3'
            rw [List.length_map, List.length_map] at this
            exact this.symm
          rw [hlen] at r2 HV2
          obtain ⟨t, ht⟩ : ∃ t, t = xs.length := ⟨_, rfl⟩
          rw [← ht] at q2 r2 HV1 HV2
          have hcc1 : m ≤ cl := by have := HM.out; omega
          have hcc2 : m ≤ dl := by have := HM.out; have := HLl.out; omega
          rw [← ec1] at hm1
          rw [← ec2] at hm2
          unfold maxLen at hm1 hm2
          subst ea1 ea2
          have d0 := (hbx.below.cell (p := ⟨g1, _, none⟩) hg1).trans q0
          have d2 := (hbx.below.cell (p := ⟨g1, _, none⟩) hg1).trans q2
          have t0 := (hbx.below.cell (p := ⟨g2, _, none⟩) hg2).trans r0
          have t2 := (hbx.below.cell (p := ⟨g2, _, none⟩) hg2).trans r2
          have HBx2 := Lib.hid hbx
          have HIW := Lib.hid (fun wy (hb : Below w.heap.size w wy) => Items_true _ _ xs ys wy (HV1.out.keep (fun t => KeepTag.below hb)) (HV2.out.keep (fun t => KeepTag.below hb)) HIt.out)
          clear q0 q2 r0 r2 hn1 hn2 hx hy hat1 hat2 hc1 hc2 hbx ht ec1 ec2 b2' b3' hlen
          have hz := hg1
          have hsx := HBx2.out.size
          have hgx1 : g1 < wr.heap.size := by have := HBx2.out.below.size; omega
          have hgx2 : g2 < wr.heap.size := by have := HBx2.out.below.size; omega
          clear hz
          go_upto_region 16 with fail
          go_region_held3 (fun wy => wy.cell? ⟨w.heap.size, 1, none⟩ = some (.slice (some ⟨g1, 0, none⟩) m cl) ∧ wy.cell? ⟨w.heap.size + 1, 1, none⟩ = some (.slice (some ⟨g2, 0, none⟩) m dl) ∧ wy.cell? ⟨g1, j * 3, none⟩ = some (.string (mkS xn)) ∧ wy.cell? ⟨g1, j * 3 + 2, none⟩ = some (.slice an1 t cn1) ∧ wy.cell? ⟨g2, j * 3, none⟩ = some (.string (mkS xn)) ∧ wy.cell? ⟨g2, j * 3 + 2, none⟩ = some (.slice an2 t cn2))
            (first | go_keep)
            (first | (go_at_call 22; refine (HIW.out _ (by repeat (first | exact HBx2.out.below | refine Below.drew ?_ | refine below_drewN' ?_ _))).mono ?_; rintro _ w9 ⟨rfl, hb9⟩; have HBx9 : Hid (Boxes w w9 (.slice ai k ci) (.slice (some ⟨g1, 0, none⟩) m cl) (.slice bi k di) (.slice (some ⟨g2, 0, none⟩) m dl)) := Lib.hid (Boxes.next (by repeat (first | exact HBx2.out | refine Boxes.draws ?_ _ | refine Boxes.drew ?_)) hb9); have a1' := HBx9.out.a1; have b1' := HBx9.out.b1; have d0' : w9.cell? ⟨g1, j * 3, none⟩ = some (.string (mkS xn)) := (hb9.cell (p := ⟨g1, j * 3, none⟩) hgx1).trans d0; have d2' : w9.cell? ⟨g1, j * 3 + 2, none⟩ = some (.slice an1 t cn1) := (hb9.cell (p := ⟨g1, j * 3 + 2, none⟩) hgx1).trans d2; have t0' : w9.cell? ⟨g2, j * 3, none⟩ = some (.string (mkS xn)) := (hb9.cell (p := ⟨g2, j * 3, none⟩) hgx2).trans t0; have t2' : w9.cell? ⟨g2, j * 3 + 2, none⟩ = some (.slice an2 t cn2) := (hb9.cell (p := ⟨g2, j * 3 + 2, none⟩) hgx2).trans t2; clear hb9))
          go_wp2_with fail
          go_roundg (m - (j + 1))
          case measure => omega
          case rel => exact ⟨j + 1, rfl, by rw [Int.natCast_add]; rfl, by omega, HBx9.out⟩
        · obtain rfl : j = m := by omega
          have hjm' : ¬ (j : Int) < (j : Int) := by omega
          have HBy := Lib.hid hbx
          clear hbx
          go_wp2_with fail
          go_ret
          exact ⟨rfl, HBy.out.below⟩
end Go.Proofs.YtfpneopobbfabaaDoor
