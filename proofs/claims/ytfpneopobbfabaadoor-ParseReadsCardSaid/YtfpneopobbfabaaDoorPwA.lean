/-
  Walk of windrowlaw04.shown: the document's examples. Condition: strconv.ErrRange holds an error.
-/
import Derived.Test.YtfpneopobbfabaaDoorParM
namespace Go.Proofs.YtfpneopobbfabaaDoor
open Go.RowKit Go.Shelf Go.Sort

theorem Parse_ok (s : ByteArray) (p : Prg) (w : World) (hs : s.size ≤ maxLen) (hE : ErrIs w) (hp : parseL s.data.toList = .ok p) :
    Calls Tryd.prog 12 #[.string s] w fun e w' => ∃ vi vl, e = .returned (.tuple #[.agg #[vi, vl], .agg #[.int .i64 0, .int .i64 0]]) ∧ Below w.heap.size w w' ∧ PrgV w' w.heap.size vi vl p := by
  refine (Parse_any s w hs hE).mono ?_
  rintro e w' ⟨hb, hm⟩
  rw [hp] at hm
  obtain ⟨vi, vl, h1, h2⟩ := hm
  exact ⟨vi, vl, h1, hb, h2⟩
theorem Parse_no (s : ByteArray) (a : Int) (c : Nat) (w : World) (hs : s.size ≤ maxLen) (hE : ErrIs w) (hp : parseL s.data.toList = .error (a, c)) :
    Calls Tryd.prog 12 #[.string s] w fun e w' => e = .returned (.tuple #[.agg #[.slice none 0 0, .slice none 0 0], .agg #[.int .i64 a, .int .i64 c]]) ∧ Below w.heap.size w w' := by
  refine (Parse_any s w hs hE).mono ?_
  rintro e w' ⟨hb, hm⟩
  rw [hp] at hm
  exact ⟨hm, hb⟩
def shownP : Prg := ⟨[⟨[120], 3, [([110], 0)]⟩], [⟨[121], 8, [⟨1, 11, 0, [], [1, 2]⟩, ⟨2, 17, 0, [120], []⟩, ⟨4, 15, 1, [], []⟩]⟩, ⟨[], 19, [⟨2, 26, 0, [121], []⟩, ⟨2, 30, 0, [120], []⟩, ⟨4, 28, 3, [], []⟩, ⟨5, 23, 1, [], []⟩]⟩]⟩
theorem shown1 : parseL [105, 110, 32, 120, 32, 110, 10, 10, 121, 58, 32, 49, 32, 50, 32, 43, 32, 120, 10, 111, 117, 116, 32, 43, 47, 32, 121, 32, 42, 32, 120, 10] = .ok shownP := by rfl
theorem shown2 : parseL [111, 117, 116, 32, 105, 111, 116, 97, 47, 32, 49] = .error (4, 43) := by rfl
theorem shown3 : parseL [111, 117, 116, 32, 40, 49] = .error (6, 42) := by rfl
theorem shown4 : parseL [111, 117, 116, 32, 97, 32, 98] = .error (6, 46) := by rfl
/-- What shown reads of its program. -/
theorem shown_cells {w : World} {b : Nat} {vi vl : Value} (h : PrgV w b vi vl shownP) : ∃ ai ci gl cl gi cg, vi = .slice ai 1 ci ∧ vl = .slice (some ⟨gl, 0, none⟩) 2 cl ∧ gl < w.heap.size ∧ gi < w.heap.size ∧ w.cell? ⟨gl, 5, none⟩ = some (.slice (some ⟨gi, 0, none⟩) 4 cg) ∧
    w.cell? ⟨gi, 3, none⟩ = some (.string (mkS [121])) ∧ w.cell? ⟨gi, 10, none⟩ = some (.int .i64 4) ∧ w.cell? ⟨gi, 12, none⟩ = some (.int .u8 3) ∧ w.cell? ⟨gi, 15, none⟩ = some (.int .i64 5) ∧ w.cell? ⟨gi, 16, none⟩ = some (.int .i64 23) ∧ w.cell? ⟨gi, 17, none⟩ = some (.int .u8 1) := by
  obtain ⟨ci, cl, o1, o2, o3, o4⟩ := h
  obtain ⟨ai, capi, rfl⟩ := own_form o1
  obtain ⟨gl, capl, rfl, _, hg, _, _, hc, _⟩ := own_cells o3 (by decide)
  obtain ⟨c, hcl, ⟨v, cs, rfl, hv, hi⟩, hcj⟩ := o4.2 1 _ (show shownP.lines[1]? = some _ from rfl)
  obtain ⟨gi, capg, rfl, _, hgi, _, _, hci, _⟩ := own_cells hv (by decide)
  have it : ∀ (i : Nat) (x : Itm), [(⟨2, 26, 0, [121], []⟩ : Itm), ⟨2, 30, 0, [120], []⟩, ⟨4, 28, 3, [], []⟩, ⟨5, 23, 1, [], []⟩][i]? = some x → ∀ (j : Nat) (u : Value), j < 4 → (x.cells (.slice none 0 0))[j]? = some u → i * 5 + j < 20 → w.cell? ⟨gi, i * 5 + j, none⟩ = some u := by
    intro i x hx j u hj hu hlt
    obtain ⟨vn, _, h2⟩ := hi.2 i x hx
    rw [hci _ hlt]
    refine h2 j u ?_
    rw [← hu]
    unfold Itm.cells
    rcases j with _ | _ | _ | _ | j
    · rfl
    · rfl
    · rfl
    · rfl
    · omega
  refine ⟨ai, capi, gl, capl, gi, capg, rfl, rfl, hg, hgi, ?_, it 0 _ rfl 3 _ (by omega) rfl (by omega), it 2 _ rfl 0 _ (by omega) rfl (by omega), it 2 _ rfl 2 _ (by omega) rfl (by omega), it 3 _ rfl 0 _ (by omega) rfl (by omega), it 3 _ rfl 1 _ (by omega) rfl (by omega), it 3 _ rfl 2 _ (by omega) rfl (by omega)⟩
  rw [hc 5 (by decide)]
  exact hcj 2 _ rfl
theorem two_newB (w : World) (a b : Obj) : Below w.heap.size w ((w.alloc a).alloc b) := ((Below.refl _ _).alloc (Nat.le_refl _) _).alloc (by simp) _
set_option maxHeartbeats 8000000 in
set_option maxRecDepth 100000 in
theorem shown_any (w : World) (hE : ErrIs w) : Calls Tryd.prog 11 #[] w fun e w' => e = .returned (.bool true) ∧ Below w.heap.size w w' := by
  have P1 := Lib.hid (fun w hE => Parse_ok (mkS [105, 110, 32, 120, 32, 110, 10, 10, 121, 58, 32, 49, 32, 50, 32, 43, 32, 120, 10, 111, 117, 116, 32, 43, 47, 32, 121, 32, 42, 32, 120, 10]) shownP w (by rw [mkS_size]; decide) hE (by rw [mkS_toList]; exact shown1))
  have P2 : Hid (∀ w, ErrIs w → Calls Tryd.prog 12 #[.string (mkS [111, 117, 116, 32, 105, 111, 116, 97, 47, 32, 49])] w fun e w' => e = .returned (.tuple #[.agg #[.slice none 0 0, .slice none 0 0], .agg #[.int .i64 4, .int .i64 43]]) ∧ Below w.heap.size w w') := Lib.hid (fun w hE => Parse_no (mkS [111, 117, 116, 32, 105, 111, 116, 97, 47, 32, 49]) 4 43 w (by rw [mkS_size]; decide) hE (by rw [mkS_toList]; exact shown2))
  have P3 : Hid (∀ w, ErrIs w → Calls Tryd.prog 12 #[.string (mkS [111, 117, 116, 32, 40, 49])] w fun e w' => e = .returned (.tuple #[.agg #[.slice none 0 0, .slice none 0 0], .agg #[.int .i64 6, .int .i64 42]]) ∧ Below w.heap.size w w') := Lib.hid (fun w hE => Parse_no (mkS [111, 117, 116, 32, 40, 49]) 6 42 w (by rw [mkS_size]; decide) hE (by rw [mkS_toList]; exact shown3))
  have P4 : Hid (∀ w, ErrIs w → Calls Tryd.prog 12 #[.string (mkS [111, 117, 116, 32, 97, 32, 98])] w fun e w' => e = .returned (.tuple #[.agg #[.slice none 0 0, .slice none 0 0], .agg #[.int .i64 6, .int .i64 46]]) ∧ Below w.heap.size w w') := Lib.hid (fun w hE => Parse_no (mkS [111, 117, 116, 32, 97, 32, 98]) 6 46 w (by rw [mkS_size]; decide) hE (by rw [mkS_toList]; exact shown4))
  go_enter Tryd.func11, Tryd.ntmps11
  go_wp2_with fail
  refine (P1.out _ hE).mono ?_
  rintro _ w1 ⟨vi, vl, rfl, hb1, hP⟩
  obtain ⟨ai, ci, gl, cl, gi, cg, rfl, rfl, hgl, hgi, x1, x2, x3, x4, x5, x6, x7⟩ := shown_cells hP
  have HX := Lib.hid (And.intro x1 (And.intro x2 (And.intro x3 (And.intro x4 (And.intro x5 (And.intro x6 x7))))))
  have HE1 := Lib.hid (hE.kept hb1)
  have HB1 := Lib.hid hb1
  obtain ⟨q1, q2⟩ := two_here w1 (.cells #[.slice ai 1 ci, .slice (some ⟨gl, 0, none⟩) 2 cl] 26) (.cells #[.int .i64 0, .int .i64 0] 29)
  have HN1 := Lib.hid (And.intro q1 q2)
  have HC1 := Lib.hid (two_newB w1 (.cells #[.slice ai 1 ci, .slice (some ⟨gl, 0, none⟩) 2 cl] 26) (.cells #[.int .i64 0, .int .i64 0] 29))
  clear hP x1 x2 x3 x4 x5 x6 x7 hb1 q1 q2
  go_upto_region 2 with fail
  generalize ((w1.alloc (.cells #[.slice ai 1 ci, .slice (some ⟨gl, 0, none⟩) 2 cl] 26)).alloc (.cells #[.int .i64 0, .int .i64 0] 29)) = W1 at HN1 HC1 ⊢
  go_wp2_with fail
  have HEa := Lib.hid (HE1.out.kept HC1.out)
  refine (P2.out W1 HEa.out).mono ?_
  rintro _ w2 ⟨rfl, hb2⟩
  have HB2 := Lib.hid (hb2.trans ((two_newB w2 (.cells #[.slice none 0 0, .slice none 0 0] 26) (.cells #[.int .i64 4, .int .i64 43] 29)).mono hb2.size))
  obtain ⟨q1, q2⟩ := two_here w2 (.cells #[.slice none 0 0, .slice none 0 0] 26) (.cells #[.int .i64 4, .int .i64 43] 29)
  have HF2 := Lib.hid q2
  have HE2x := Lib.hid (HEa.out.kept HB2.out)
  clear q1 q2 hb2
  go_upto_region 3 with fail
  obtain ⟨n2, hn2⟩ : ∃ x, x = w2.heap.size := ⟨_, rfl⟩
  rw [← hn2] at HF2 ⊢
  clear hn2
  generalize ((w2.alloc (.cells #[.slice none 0 0, .slice none 0 0] 26)).alloc (.cells #[.int .i64 4, .int .i64 43] 29)) = W2 at HB2 HF2 HE2x ⊢
  go_wp2_with fail
  refine (P3.out W2 HE2x.out).mono ?_
  rintro _ w3 ⟨rfl, hb3⟩
  have HB3 := Lib.hid (hb3.trans ((two_newB w3 (.cells #[.slice none 0 0, .slice none 0 0] 26) (.cells #[.int .i64 6, .int .i64 42] 29)).mono hb3.size))
  obtain ⟨q1, q2⟩ := two_here w3 (.cells #[.slice none 0 0, .slice none 0 0] 26) (.cells #[.int .i64 6, .int .i64 42] 29)
  have HF3 := Lib.hid q2
  have HE3x := Lib.hid (HE2x.out.kept HB3.out)
  clear q1 q2 hb3
  go_upto_region 4 with fail
  obtain ⟨n3, hn3⟩ : ∃ x, x = w3.heap.size := ⟨_, rfl⟩
  rw [← hn3] at HF3 ⊢
  clear hn3
  generalize ((w3.alloc (.cells #[.slice none 0 0, .slice none 0 0] 26)).alloc (.cells #[.int .i64 6, .int .i64 42] 29)) = W3 at HB3 HF3 HE3x ⊢
  go_wp2_with fail
  refine (P4.out W3 HE3x.out).mono ?_
  rintro _ w4 ⟨rfl, hb4⟩
  have HB4 := Lib.hid (hb4.trans ((two_newB w4 (.cells #[.slice none 0 0, .slice none 0 0] 26) (.cells #[.int .i64 6, .int .i64 46] 29)).mono hb4.size))
  obtain ⟨q1, q2⟩ := two_here w4 (.cells #[.slice none 0 0, .slice none 0 0] 26) (.cells #[.int .i64 6, .int .i64 46] 29)
  have HF4 := Lib.hid q2
  have HE4x := Lib.hid (HE3x.out.kept HB4.out)
  clear q1 q2 hb4
  go_upto_region 5 with fail
  obtain ⟨n4, hn4⟩ : ∃ x, x = w4.heap.size := ⟨_, rfl⟩
  rw [← hn4] at HF4 ⊢
  clear hn4
  generalize ((w4.alloc (.cells #[.slice none 0 0, .slice none 0 0] 26)).alloc (.cells #[.int .i64 6, .int .i64 46] 29)) = W4 at HB4 HF4 HE4x ⊢
  have hall : Below W1.heap.size W1 W4 := (HB2.out.trans (HB3.out.mono HB2.out.size)).trans (HB4.out.mono (Nat.le_trans HB2.out.size HB3.out.size))
  have hall1 : Below w1.heap.size w1 W4 := HC1.out.trans (hall.mono HC1.out.size)
  obtain ⟨x1, x2, x3, x4, x5, x6, x7⟩ := HX.out
  have b1 : Blk W4 w1.heap.size 26 #[.slice ai 1 ci, .slice (some ⟨gl, 0, none⟩) 2 cl] := Blk.keep HN1.out.1 (KeepTag.below hall)
  have b2 : Blk W4 (w1.heap.size + 1) 29 #[.int .i64 0, .int .i64 0] := Blk.keep HN1.out.2 (KeepTag.below hall)
  have b3 : Blk W4 (n2 + 1) 29 #[.int .i64 4, .int .i64 43] := Blk.keep HF2.out (KeepTag.below (HB3.out.trans (HB4.out.mono HB3.out.size)))
  have b4 : Blk W4 (n3 + 1) 29 #[.int .i64 6, .int .i64 42] := Blk.keep HF3.out (KeepTag.below HB4.out)
  have b5 : Blk W4 (n4 + 1) 29 #[.int .i64 6, .int .i64 46] := HF4.out
  have p0 : W4.cell? ⟨w1.heap.size, 0, none⟩ = some (.slice ai 1 ci) := b1.cell 0
  have p1 : W4.cell? ⟨w1.heap.size, 1, none⟩ = some (.slice (some ⟨gl, 0, none⟩) 2 cl) := b1.cell 1
  have f0 : W4.cell? ⟨w1.heap.size + 1, 0, none⟩ = some (.int .i64 0) := b2.cell 0
  have f1 : W4.cell? ⟨w1.heap.size + 1, 1, none⟩ = some (.int .i64 0) := b2.cell 1
  have f2 : W4.cell? ⟨n2 + 1, 0, none⟩ = some (.int .i64 4) := b3.cell 0
  have f3 : W4.cell? ⟨n2 + 1, 1, none⟩ = some (.int .i64 43) := b3.cell 1
  have f4 : W4.cell? ⟨n3 + 1, 0, none⟩ = some (.int .i64 6) := b4.cell 0
  have f5 : W4.cell? ⟨n3 + 1, 1, none⟩ = some (.int .i64 42) := b4.cell 1
  have f6 : W4.cell? ⟨n4 + 1, 0, none⟩ = some (.int .i64 6) := b5.cell 0
  have f7 : W4.cell? ⟨n4 + 1, 1, none⟩ = some (.int .i64 46) := b5.cell 1
  have y1 := (hall1.cell (p := ⟨gl, 5, none⟩) hgl).trans x1
  have y2 := (hall1.cell (p := ⟨gi, 3, none⟩) hgi).trans x2
  have y3 := (hall1.cell (p := ⟨gi, 10, none⟩) hgi).trans x3
  have y4 := (hall1.cell (p := ⟨gi, 12, none⟩) hgi).trans x4
  have y5 := (hall1.cell (p := ⟨gi, 15, none⟩) hgi).trans x5
  have y6 := (hall1.cell (p := ⟨gi, 16, none⟩) hgi).trans x6
  have y7 := (hall1.cell (p := ⟨gi, 17, none⟩) hgi).trans x7
  have hst : ((mkS [121]).toList == [121]) = true := by rw [ByteArray.toList_eq, mkS_toList]; rfl
  have Hall := Lib.hid (HB1.out.trans (hall1.mono HB1.out.size))
  clear b1 b2 b3 b4 b5 x1 x2 x3 x4 x5 x6 x7 hall hall1
  go_wp2_with fail
  go_ret
  exact ⟨rfl, Hall.out⟩
end Go.Proofs.YtfpneopobbfabaaDoor
