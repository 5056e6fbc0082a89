/-
  Walk of windrowref04.Items where the items are the same, their places apart: it says so. Condition: the items lie in memory.
-/
import Derived.Test.YtfpneopobbfabaaDoorParM
import Derived.Test.YtfpneopobbfabaaDoorLwA
import Derived.Deep.QuietTactic
import Derived.BigQuiet
namespace Go.Proofs.YtfpneopobbfabaaDoor
open Go.RowKit Go.Shelf Go.Sort

/-- Items in memory. -/
def ItsV (w : World) (v : Value) (l : List Itm) : Prop := ∃ cs, w.ownsRow 0 48 5 v l.length cs ∧ ItsC w l cs
theorem ItsV.at {w : World} {v : Value} {l : List Itm} (h : ItsV w v l) (hl : 0 < l.length) : ∃ g cap, v = .slice (some ⟨g, 0, none⟩) l.length cap ∧ l.length ≤ cap ∧ cap ≤ maxLen ∧ g < w.heap.size ∧ ∀ (i : Nat) (x : Itm), l[i]? = some x → ∃ vn, NumS w vn x.nums ∧
    w.cell? ⟨g, i * 5, none⟩ = some (.int .i64 x.how) ∧ w.cell? ⟨g, i * 5 + 1, none⟩ = some (.int .i64 x.at_) ∧ w.cell? ⟨g, i * 5 + 2, none⟩ = some (.int .u8 x.fn) ∧ w.cell? ⟨g, i * 5 + 3, none⟩ = some (.string (mkS x.name)) ∧ w.cell? ⟨g, i * 5 + 4, none⟩ = some vn := by
  obtain ⟨cs, h1, h2⟩ := h
  obtain ⟨g, cap, rfl, _, hg, hc, hm, hcell, _⟩ := own_cells h1 (by omega)
  refine ⟨g, cap, rfl, hc, hm, hg, fun i x hx => ?_⟩
  obtain ⟨vn, hn, hj⟩ := h2.2 i x hx
  have hi := (List.getElem?_eq_some_iff.1 hx).1
  exact ⟨vn, hn, (hcell _ (by omega)).trans (hj 0 _ rfl), (hcell _ (by omega)).trans (hj 1 _ rfl), (hcell _ (by omega)).trans (hj 2 _ rfl), (hcell _ (by omega)).trans (hj 3 _ rfl), (hcell _ (by omega)).trans (hj 4 _ rfl)⟩
theorem ItsV.form {w : World} {v : Value} {l : List Itm} (h : ItsV w v l) : ∃ a cap, v = .slice a l.length cap := by
  obtain ⟨cs, h1, _⟩ := h
  exact own_form h1
theorem NumS.at {w : World} {v : Value} {l : List Int} (h : NumS w v l) (hl : 0 < l.length) : ∃ g cap, v = .slice (some ⟨g, 0, none⟩) l.length cap ∧ l.length ≤ cap ∧ cap ≤ maxLen ∧ ∀ (i : Nat) (x : Int), l[i]? = some x → w.cell? ⟨g, i, none⟩ = some (.int .i64 x) := by
  obtain ⟨g, cap, rfl, _, hg, hc, hm, hcell, _⟩ := own_cells h (by omega)
  refine ⟨g, cap, rfl, hc, hm, fun i x hx => ?_⟩
  have hi := (List.getElem?_eq_some_iff.1 hx).1
  rw [hcell i (by omega), List.getElem?_map, hx]
  rfl
set_option maxHeartbeats 8000000 in
set_option maxRecDepth 100000 in
theorem Items_true (v1 v2 : Value) (l1 l2 : List Itm) (w : World) (h1 : ItsV w v1 l1) (h2 : ItsV w v2 l2) (he : l1.map Itm.bare = l2.map Itm.bare) :
    Calls Tryd.prog 22 #[v1, v2] w fun e w' => e = .returned (.bool true) ∧ Below w.heap.size w w' := by
  have hlen : l2.length = l1.length := by
    have := congrArg List.length he
    rw [List.length_map, List.length_map] at this
    exact this.symm
  have H1 := Lib.hid h1
  have H2 := Lib.hid h2
  have HE := Lib.hid he
  obtain ⟨a1, c1, rfl⟩ := h1.form
  obtain ⟨a2, c2, rfl⟩ := h2.form
  rw [hlen]
  rw [hlen] at H2
  obtain ⟨n, hn⟩ : ∃ n, n = l1.length := ⟨_, rfl⟩
  rw [← hn] at H1 H2 ⊢
  have HN := Lib.hid hn
  have HL := Lib.hid hlen
  clear h1 h2 he hlen hn
  go_enter Tryd.func22, Tryd.ntmps22
  go_wp2
  go_loopg [5] n (fun gg s5 wx => ∃ k : Nat, gg = n - k ∧ s5 = .int .i64 k ∧ k ≤ n ∧ Below w.heap.size w wx)
  case atStart => exact ⟨0, rfl, rfl, Nat.zero_le _, Below.refl _ _⟩
  case round =>
    obtain ⟨k, rfl, rfl, hk, hb⟩ := hrel
    by_cases hlt : k < n
    · have hlt' : (k : Int) < (n : Int) := by omega
      obtain ⟨g1, p1, e1, hc1, hm1, hg1, hat1⟩ := H1.out.at (by have := HN.out; omega)
      obtain ⟨g2, p2, e2, hc2, hm2, hg2, hat2⟩ := H2.out.at (by have := HN.out; have := HL.out; omega)
      injection e1 with ea1 en1 ec1
      injection e2 with ea2 en2 ec2
      clear en1 en2
      subst ea1 ec1 ea2 ec2
      obtain ⟨x, hx⟩ : ∃ x, l1[k]? = some x := ⟨l1[k]'(by have := HN.out; omega), List.getElem?_eq_getElem _⟩
      obtain ⟨y, hy⟩ : ∃ y, l2[k]? = some y := ⟨l2[k]'(by have := HN.out; have := HL.out; omega), List.getElem?_eq_getElem _⟩
      have hxy : x.bare = y.bare := by
        have := congrArg (fun l => l[k]?) HE.out
        simp only [List.getElem?_map, hx, hy, Option.map_some] at this
        injection this
      obtain ⟨vn1, hn1, q0, q1, q2, q3, q4⟩ := hat1 k x hx
      obtain ⟨vn2, hn2, r0, r1, r2, r3, r4⟩ := hat2 k y hy
      obtain ⟨xh, xa, xf, xn, xs⟩ := x
      obtain ⟨yh, ya, yf, yn, ys⟩ := y
      injection hxy with b1 b2 b3 b4 b5
      dsimp only at b1 b3 b4 b5
      subst b1 b3 b4 b5
      dsimp only at q0 q1 q2 q3 q4 r0 r1 r2 r3 r4 hn1 hn2
      obtain ⟨an1, cn1, rfl⟩ := own_form hn1
      obtain ⟨an2, cn2, rfl⟩ := own_form hn2
      have d0 := (hb.cell (p := ⟨g1, _, none⟩) hg1).trans q0
      have d2 := (hb.cell (p := ⟨g1, _, none⟩) hg1).trans q2
      have d3 := (hb.cell (p := ⟨g1, _, none⟩) hg1).trans q3
      have d4 := (hb.cell (p := ⟨g1, _, none⟩) hg1).trans q4
      have t0 := (hb.cell (p := ⟨g2, _, none⟩) hg2).trans r0
      have t2 := (hb.cell (p := ⟨g2, _, none⟩) hg2).trans r2
      have t3 := (hb.cell (p := ⟨g2, _, none⟩) hg2).trans r3
      have t4 := (hb.cell (p := ⟨g2, _, none⟩) hg2).trans r4
      have hcc1 : n ≤ c1 := by have := HN.out; omega
      have hcc2 : n ≤ c2 := by have := HN.out; have := HL.out; omega
      unfold maxLen at hm1 hm2
      have HN1 := Lib.hid hn1
      have HN2 := Lib.hid hn2
      have HB := Lib.hid hb
      obtain ⟨m, hm⟩ : ∃ m, m = xs.length := ⟨_, rfl⟩
      rw [← hm] at d4 t4 HN1 HN2 q4 r4
      have HQ := Lib.hid (And.intro q4 r4)
      have HM := Lib.hid hm
      clear q0 q1 q2 q3 q4 r0 r1 r2 r3 r4 hn1 hn2 hx hy hat1 hat2 hc1 hc2 hb hm
      go_upto_region 6 with fail
      go_quiet (fail)
      go_wp2_with fail
      clear d0 d2 d3 d4 t0 t2 t3 t4
      go_loopg [6] m (fun gg s6 wx => ∃ j : Nat, gg = m - j ∧ s6 = .int .i64 j ∧ j ≤ m ∧ Below w.heap.size w wx)
      case atStart => exact ⟨0, rfl, rfl, Nat.zero_le _, below_drewN' HB.out _⟩
      case round =>
        obtain ⟨j, rfl, rfl, hj, hb⟩ := hrel
        have d4 := (hb.cell (p := ⟨g1, _, none⟩) hg1).trans HQ.out.1
        have t4 := (hb.cell (p := ⟨g2, _, none⟩) hg2).trans HQ.out.2
        by_cases hjm : j < m
        · have hjm' : (j : Int) < (m : Int) := by omega
          obtain ⟨z, hz⟩ : ∃ z, xs[j]? = some z := ⟨xs[j]'(by have := HM.out; omega), List.getElem?_eq_getElem _⟩
          have ho1 := HN1.out
          have ho2 := HN2.out
          rw [HM.out] at ho1 ho2
          obtain ⟨u1, cu1, e1, hcu1, hmu1, hau1⟩ := NumS.at ho1 (by have := HM.out; omega)
          obtain ⟨u2, cu2, e2, hcu2, hmu2, hau2⟩ := NumS.at ho2 (by have := HM.out; omega)
          injection e1 with ea1 en1 ec1
          injection e2 with ea2 en2 ec2
          clear en1 en2
          subst ea1 ec1 ea2 ec2
          have w1' := hau1 j z hz
          have w2' := hau2 j z hz
          have x1 := (hb.cell (p := ⟨u1, _, none⟩) (World.block_lt_of_cell? _ _ w1')).trans w1'
          have x2 := (hb.cell (p := ⟨u2, _, none⟩) (World.block_lt_of_cell? _ _ w2')).trans w2'
          have hmc1 : m ≤ cn1 := by have := HM.out; omega
          have hmc2 : m ≤ cn2 := by have := HM.out; omega
          unfold maxLen at hmu1 hmu2
          have HB2 := Lib.hid hb
          clear w1' w2' hau1 hau2 ho1 ho2 hz hb hcu1 hcu2
          go_upto_region 11 with fail
          go_quiet (fail)
          go_wp2_with fail
          go_roundg (m - (j + 1))
          case measure => omega
          case rel => exact ⟨j + 1, rfl, by rw [Int.natCast_add]; rfl, by omega, below_drewN' HB2.out _⟩
        · obtain rfl : j = m := by omega
          have hjm' : ¬ (j : Int) < (j : Int) := by omega
          have HB2 := Lib.hid hb
          clear hb
          go_wp2_with fail
          go_roundg (n - (k + 1))
          case measure => omega
          case rel => exact ⟨k + 1, rfl, by rw [Int.natCast_add]; rfl, by omega, HB2.out⟩
    · obtain rfl : k = n := by omega
      have hlt' : ¬ (k : Int) < (k : Int) := by omega
      have HB := Lib.hid hb
      clear hb
      go_wp2
      go_ret
      exact ⟨rfl, HB.out⟩
end Go.Proofs.YtfpneopobbfabaaDoor
