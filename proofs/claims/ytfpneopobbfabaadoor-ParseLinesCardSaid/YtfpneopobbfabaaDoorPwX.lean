/-
  Walk of windrowlaw04.ParseBlanks: it answers true. Condition: the text is no longer than a string may be; strconv.ErrRange holds an error.
-/
import Derived.Test.YtfpneopobbfabaaDoorPwA
import Derived.Test.YtfpneopobbfabaaDoorPwK
import Derived.Test.YtfpneopobbfabaaDoorLwB
import Derived.Test.YtfpneopobbfabaaDoorBytes
import Derived.Lib.SlBytesConst
namespace Go.Proofs.YtfpneopobbfabaaDoor
open Go.RowKit Go.Shelf Go.Sort

theorem Tryd.infoU8p : (Tryd.prog.info? 5).map (fun i => (i.zero, i.size, i.bytes)) = some (some (.int .u8 0), 1, 1) := by kernel_rfl
theorem RowS.lit (w : World) (e : TypeId) (xs : List Value) (hm : xs.length ≤ maxLen) {base : Nat} (hb : base ≤ w.heap.size) : RowS (w.alloc (.cells xs.toArray e (xs.toArray.size, xs.toArray.size + 1))) base (.slice (some ⟨w.heap.size, 0, none⟩) xs.length xs.length) xs := by
  have hh : (w.alloc (.cells xs.toArray e (xs.toArray.size, xs.toArray.size + 1))).heap[w.heap.size]? = some (.cells xs.toArray e (xs.toArray.size, xs.toArray.size + 1)) := heap_alloc_new w _
  refine .inr ⟨w.heap.size, xs.length, rfl, hb, by simp, Nat.le_refl _, hm, ?_, ?_⟩
  · intro j u hu
    rw [cell_of_row _ _ _ _ _ _ hh]
    simpa using hu
  · intro j hj
    rw [cell_of_row _ _ _ _ _ _ hh]
    refine ⟨by simp [hj], ?_⟩
    unfold World.frozen?
    rw [hh]
    simp
    omega
/-- What a text is read as: its program, and its fault's code. -/
def resP (x : Except Fault Prg) : Prg × Nat := match x with
  | .error y => (Prg.none, y.2)
  | .ok p => (p, 0)
theorem PrgV.nil (w : World) (b : Nat) : PrgV w b (.slice none 0 0) (.slice none 0 0) Prg.none := ⟨[], [], World.ownsRow_nil _ _ _ _, RowC.nil _ _, World.ownsRow_nil _ _ _ _, RowC.nil _ _⟩
theorem blanks_res (l : List UInt8) (h : l.length ≤ 10000) : (resP (parseL l)).1.bare = (resP (parseL (headB ++ insB l))).1.bare ∧ (resP (parseL l)).2 = (resP (parseL (headB ++ insB l))).2 := by
  have hl := blanks_law l h
  generalize parseL l = x at *
  generalize parseL (headB ++ insB l) = y at *
  cases x with
  | error a =>
    cases y with
    | error b =>
      injection hl with hl
      injection hl with _ hl
      exact ⟨rfl, hl.symm⟩
    | ok q => cases hl
  | ok p =>
    cases y with
    | error b => cases hl
    | ok q =>
      injection hl with hl
      exact ⟨hl.symm, rfl⟩
theorem Parse_res (s : ByteArray) (w : World) (hs : s.size ≤ maxLen) (hE : ErrIs w) : Calls Tryd.prog 12 #[.string s] w fun e w' => ∃ vi vl fa, e = .returned (.tuple #[.agg #[vi, vl], .agg #[.int .i64 fa, .int .i64 (resP (parseL s.data.toList)).2]]) ∧ PrgV w' w.heap.size vi vl (resP (parseL s.data.toList)).1 ∧ Below w.heap.size w w' := by
  refine (Parse_any s w hs hE).mono ?_
  rintro en w' ⟨hb, hm⟩
  generalize parseL s.data.toList = x at *
  cases x with
  | error y => exact ⟨_, _, y.1, hm, PrgV.nil _ _, hb⟩
  | ok p =>
    obtain ⟨vi, vl, he, hv⟩ := hm
    exact ⟨vi, vl, 0, he, hv, hb⟩
set_option maxHeartbeats 8000000 in
set_option maxRecDepth 100000 in
theorem PBlanks_any (s : ByteArray) (w : World) (hs : s.size ≤ maxLen) (hE : ErrIs w) : Calls Tryd.prog 5 #[.string s] w fun e w' => e = .returned (.bool true) ∧ Below w.heap.size w w' := by
  have HSh := Lib.hid (fun w h => shown_any w h)
  have HPa := Lib.hid (fun t w h g => Parse_res t w h g)
  by_cases hl : 10000 < s.size
  · have hl0 : decide ((10000 : Int) < s.size) = true := by rw [decide_eq_true_iff]; omega
    have hl1 : (10000 : Int) < s.size := by omega
    have hs1 : (s.size : Int) ≤ 9223372036854775807 := by unfold maxLen at hs; omega
    clear hs
    go_enter Tryd.func5, Tryd.ntmps5
    go_wp2_with fail
    refine (HSh.out w hE).mono ?_
    rintro _ w1 ⟨rfl, hb1⟩
    have HB1 := Lib.hid hb1
    clear hb1
    go_wp2_with fail
    go_ret
    exact ⟨rfl, HB1.out⟩
  · have hl0 : decide ((10000 : Int) < s.size) = false := by rw [decide_eq_false_iff_not]; omega
    have hl1 : ¬ (10000 : Int) < s.size := by omega
    have hl2 : s.size ≤ 10000 := by omega
    have hsz : s.data.toList.length = s.size := rfl
    obtain ⟨i0, hi, hz0, hz1, hz2⟩ := info_parts Tryd.infoU8p
    have HLaw := Lib.hid (blanks_res s.data.toList (by rw [hsz]; exact hl2))
    have hsz2 : (mkS (headB ++ insB s.data.toList)).size ≤ maxLen := by
      have h1 := insB_len s.data.toList
      rw [mkS_size, List.length_append, show headB.length = 10 from rfl]
      unfold maxLen
      omega
    have HPa1 := Lib.hid (fun w h => HPa.out s w hs h)
    have HPa2 := Lib.hid (fun w h => HPa.out (mkS (headB ++ insB s.data.toList)) w hsz2 h)
    rw [mkS_toList] at HPa2
    generalize resP (parseL s.data.toList) = R1 at HPa1 HLaw
    generalize resP (parseL (headB ++ insB s.data.toList)) = R2 at HPa2 HLaw
    obtain ⟨p1, c1⟩ := R1
    obtain ⟨p2, c2⟩ := R2
    obtain ⟨hbare, hcc⟩ := HLaw.out
    dsimp only at HPa1 HPa2 hbare hcc
    subst hcc
    have HBare := Lib.hid hbare
    clear hs hsz2 hbare HLaw HPa
    go_enter Tryd.func5, Tryd.ntmps5
    go_wp2_with fail
    refine (HSh.out w hE).mono ?_
    rintro _ w1 ⟨rfl, hb1⟩
    have HB1 := Lib.hid hb1
    have HE1 := Lib.hid (hE.kept hb1)
    have hrow := RowS.lit w1 5 (headB.map byteV) (by decide) (Nat.le_refl w1.heap.size)
    have HRow := Lib.hid hrow
    have kc := fun (w : World) (C : Array Value) (n c : Nat) => Lib.run_convert_bytes_const (P := Tryd.prog) w 38 5 C n c Tryd.underlying38 Tryd.underlying5
    clear hb1 hrow
    go_wp2_with fail
    go_loopw [4, 5] (fun v i wr => ∃ k : Nat, k ≤ s.size ∧ i = .int .i64 k ∧ RowS wr w1.heap.size v ((headB ++ insB (s.data.toList.take k)).map byteV) ∧ Below w1.heap.size w1 wr) (fun _ i _ => s.size - (intOf i).toNat)
    case atStart => exact ⟨0, Nat.zero_le _, rfl, by exact HRow.out, (Below.refl _ _).alloc (Nat.le_refl _) _⟩
    case round =>
      obtain ⟨k, hk, rfl, hrow, hbel⟩ := hrel
      by_cases hlt : k < s.size
      · have hlt2 : (k : Int) < s.size := by omega
        have hkl : k < s.data.toList.length := hlt
        have hst : insB (s.data.toList.take (k + 1)) = insB (s.data.toList.take k) ++ (if s.data.toList[k] = 10 then [9, 35, 10, 10, 10] else [s.data.toList[k]]) := by
          rw [List.take_succ_eq_append_getElem hkl, insB_snoc]
        have hlen : (headB ++ insB (s.data.toList.take k)).length ≤ 60010 := by
          have h1 := insB_len (s.data.toList.take k)
          have h2 := List.length_take_le k s.data.toList
          rw [List.length_append, show headB.length = 10 from rfl]
          omega
        by_cases h10 : s[k] = 10
        · have h10b : ((s[k].toNat : Int) == 10) = true := by rw [h10]; rfl
          rw [if_pos (show s.data.toList[k] = 10 from h10)] at hst
          have HSt := Lib.hid hst
          have h1 : ((headB ++ insB (s.data.toList.take k)).map byteV).length ≤ 60010 := by rw [List.length_map]; exact hlen
          have HL3 := Lib.hid h1
          have H10 := Lib.hid h10
          clear h1 hlen hst h10
          go_wp2_with (at_builtin; refine wpList_append_rowS _ rfl _ _ 38 rfl 5 i0 (.int .u8 0) 1 Tryd.underlying38 hi hz0 hz1 hz2 rfl rfl (hrow.alloc _) ⟨wr.heap.size, 0, none⟩ 4 4 [.int .u8 9, .int .u8 35, .int .u8 10, .int .u8 10] rfl rfl ?c1 ?c2 ?c3 ?c4 ?c5 ?_)
          case c1 => exact cells4 _ _ _ _ _ _ rfl
          case c2 => intro u hu; simp at hu; rcases hu with rfl | rfl | rfl | rfl <;> rfl
          case c3 => have := HL3.out; unfold maxLen; omega
          case c4 => have := HL3.out; omega
          case c5 => have := hbel.size; simp; omega
          intro v4 w4 hrow4 hb4
          have hb5 : Below w1.heap.size w1 w4 := (hbel.alloc hbel.size _).trans hb4
          obtain ⟨xs4, hxs4⟩ : ∃ xs4, xs4 = ((headB ++ insB (s.data.toList.take k)).map byteV ++ [Value.int .u8 9, Value.int .u8 35, Value.int .u8 10, Value.int .u8 10]) := ⟨_, rfl⟩
          replace hrow4 : RowS w4 w1.heap.size v4 xs4 := by rw [hxs4]; simpa using hrow4
          have HL4 : Hid (xs4.length ≤ 60014) := by
            apply Lib.hid
            have := HL3.out
            rw [hxs4, List.length_append]
            show _ + 4 ≤ 60014
            omega
          have HX4 := Lib.hid hxs4
          clear hxs4
          clear hrow hbel hb4
          go_wp2_with (at_builtin; refine wpList_append_rowS _ rfl _ _ 38 rfl 5 i0 (.int .u8 0) 1 Tryd.underlying38 hi hz0 hz1 hz2 rfl rfl (hrow4.alloc _) ⟨w4.heap.size, 0, none⟩ 1 1 [byteV s[k]] rfl rfl ?d1 ?d2 ?d3 ?d4 ?d5 ?_)
          case d1 => intro j u hj; match j, hj with | 0, hj => (simp at hj; subst hj; simp [Addr.add, byteV]) | j + 1, hj => simp at hj
          case d2 => intro u hu; simp at hu; subst hu; rfl
          case d3 => have := HL4.out; unfold maxLen; omega
          case d4 => have := HL4.out; omega
          case d5 => have := hb5.size; simp; omega
          intro v5 w5 hrow5 hb6
          go_wp2
          go_roundw
          case rel =>
            refine ⟨k + 1, by omega, by go_num, ?_, (hb5.alloc hb5.size _).trans hb6⟩
            rw [HSt.out]
            rw [show byteV s[k] = .int .u8 10 from by unfold byteV; rw [H10.out]; rfl] at hrow5
            have e : (headB ++ (insB (s.data.toList.take k) ++ [9, 35, 10, 10, 10])).map byteV = xs4 ++ [.int .u8 10] := by
              rw [HX4.out]
              simp [byteV]
            rw [e]
            exact hrow5
          case measure => simp [intOf]; omega
        · have h10b : ((s[k].toNat : Int) == 10) = false := by rw [beq_eq_false_iff_ne]; exact fun e => h10 (UInt8.toNat_inj.1 (by show s[k].toNat = 10; omega))
          rw [if_neg (show ¬ s.data.toList[k] = 10 from h10)] at hst
          have HSt := Lib.hid hst
          have h1 : ((headB ++ insB (s.data.toList.take k)).map byteV).length ≤ 60010 := by rw [List.length_map]; exact hlen
          have HL3 := Lib.hid h1
          clear h1 hlen hst h10
          go_wp2_with (at_builtin; refine wpList_append_rowS _ rfl _ _ 38 rfl 5 i0 (.int .u8 0) 1 Tryd.underlying38 hi hz0 hz1 hz2 rfl rfl (hrow.alloc _) ⟨wr.heap.size, 0, none⟩ 1 1 [byteV s[k]] rfl rfl ?c1 ?c2 ?c3 ?c4 ?c5 ?_)
          case c1 => intro j u hj; match j, hj with | 0, hj => (simp at hj; subst hj; simp [Addr.add, byteV]) | j + 1, hj => simp at hj
          case c2 => intro u hu; simp at hu; subst hu; rfl
          case c3 => have := HL3.out; unfold maxLen; omega
          case c4 => have := HL3.out; omega
          case c5 => have := hbel.size; simp; omega
          intro v4 w4 hrow4 hb4
          go_wp2
          go_roundw
          case rel => exact ⟨k + 1, by omega, by go_num, by rw [HSt.out]; rw [show byteV s[k] = byteV s.data.toList[k] from rfl] at hrow4; simpa using hrow4, (hbel.alloc hbel.size _).trans hb4⟩
          case measure => simp [intOf]; omega
      · obtain rfl : k = s.size := by omega
        have hlt2 : ¬ (s.size : Int) < s.size := by omega
        rw [List.take_of_length_le (by rw [hsz]; exact Nat.le_refl _)] at hrow
        have HRow2 := Lib.hid hrow
        have HE2 := Lib.hid (HE1.out.kept hbel)
        have HB2 := Lib.hid (HB1.out.trans (hbel.mono HB1.out.size))
        obtain ⟨av, cv, hform⟩ := hrow.form
        obtain ⟨nl, hnl⟩ : ∃ nl, nl = ((headB ++ insB s.data.toList).map byteV).length := ⟨_, rfl⟩
        rw [← hnl] at hform
        clear hrow hbel hnl
        subst hform
        go_wp2_with fail
        refine (HPa1.out wr HE2.out).mono ?_
        rintro _ w2 ⟨vi, vl, fa, rfl, hp2, hb2⟩
        have HRow3 := Lib.hid (HRow2.out.below hb2)
        have HE3 : Hid (∀ o1 o2, ErrIs ((w2.alloc o1).alloc o2)) := Lib.hid (fun o1 o2 => HE2.out.kept ((hb2.alloc hb2.size _).alloc (by have := hb2.size; simp; omega) _))
        have HB3 := Lib.hid (HB2.out.trans (hb2.mono HB2.out.size))
        have HP2 := Lib.hid hp2
        obtain ⟨⟨ai, ci, rfl⟩, ⟨al, cl, rfl⟩⟩ := hp2.forms
        clear hp2 hb2
        go_wp2_with (refine wpList_string_rowS _ rfl _ _ _ rfl 5 ((HRow3.out.alloc _).alloc _) Tryd.underlying38 Tryd.underlying5 Tryd.underlying9 rfl ?_)
        refine (HPa2.out _ ?he).mono ?_
        case he => exact HE3.out _ _
        rintro _ w3 ⟨ui, ul, fb, rfl, hp3, hb3⟩
        have x0 : w3.cell? ⟨w2.heap.size, 0, none⟩ = some (.slice ai p1.inputs.length ci) := (hb3.cell (p := ⟨w2.heap.size, 0, none⟩) (by simp; omega)).trans (by simp)
        have x1 : w3.cell? ⟨w2.heap.size, 1, none⟩ = some (.slice al p1.lines.length cl) := (hb3.cell (p := ⟨w2.heap.size, 1, none⟩) (by simp; omega)).trans (by simp)
        have y1 : w3.cell? ⟨w2.heap.size + 1, 1, none⟩ = some (.int .i64 c1) := (hb3.cell (p := ⟨w2.heap.size + 1, 1, none⟩) (by simp)).trans (by simp)
        have hz3 : w2.heap.size + 1 < w3.heap.size := by have := hb3.size; simp at this; omega
        have hne1 : ¬ w2.heap.size = w3.heap.size := by omega
        have hne2 : ¬ w2.heap.size + 1 = w3.heap.size := by omega
        have hne3 : ¬ w2.heap.size = w3.heap.size + 1 := by omega
        have HP2b := Lib.hid (HP2.out.all (fun t => (keep_two _ _ _ t).trans (KeepTag.below hb3)))
        have HP3 := Lib.hid hp3
        have hsz3 := HB3.out.size
        have HB4 := Lib.hid (((HB3.out.alloc HB3.out.size _).alloc (by simp; omega) _).trans (hb3.mono (by simp; omega)))
        obtain ⟨⟨bi, di, rfl⟩, ⟨bl, dl, rfl⟩⟩ := hp3.forms
        clear hp3 hb3
        go_upto_region 13 with fail
        obtain ⟨W, hW⟩ : ∃ W : World, W = (w3.alloc (.cells #[.slice bi p2.inputs.length di, .slice bl p2.lines.length dl] 26)).alloc (.cells #[.int .i64 fb, .int .i64 c1] 29) := ⟨_, rfl⟩
        have HP5 : Hid (PrgV W wr.heap.size (.slice ai p1.inputs.length ci) (.slice al p1.lines.length cl) p1) := Lib.hid (by rw [hW]; exact HP2b.out.all (keep_two _ _ _))
        have HP6 : Hid (PrgV W _ (.slice bi p2.inputs.length di) (.slice bl p2.lines.length dl) p2) := Lib.hid (by rw [hW]; exact HP3.out.all (keep_two _ _ _))
        have hbW : Below w3.heap.size w3 W := by rw [hW]; exact ((Below.refl _ _).alloc (Nat.le_refl _) _).alloc (by simp) _
        have HB4b := Lib.hid (HB4.out.trans (hbW.mono HB4.out.size))
        have z0 := (hbW.cell (p := ⟨w2.heap.size, 0, none⟩) (by show w2.heap.size < _; omega)).trans x0
        have z1 := (hbW.cell (p := ⟨w2.heap.size, 1, none⟩) (by show w2.heap.size < _; omega)).trans x1
        have z2 := (hbW.cell (p := ⟨w2.heap.size + 1, 1, none⟩) (by show w2.heap.size + 1 < _; omega)).trans y1
        have z3 : W.cell? ⟨w3.heap.size, 0, none⟩ = some (.slice bi p2.inputs.length di) := by rw [hW]; simp
        have z4 : W.cell? ⟨w3.heap.size, 1, none⟩ = some (.slice bl p2.lines.length dl) := by rw [hW]; simp
        have z5 : W.cell? ⟨w3.heap.size + 1, 1, none⟩ = some (.int .i64 c1) := by rw [hW]; simp
        rw [← hW]
        clear hW hbW x0 x1 y1 hne1 hne2 hne3
        go_wp2_with fail
        refine (Alike_true _ _ _ _ p1 p2 _ _ _ HP5.out HP6.out HBare.out).mono ?_
        rintro _ w4 ⟨rfl, hb4⟩
        have HB5 := Lib.hid (HB4b.out.trans (hb4.mono HB4b.out.size))
        clear hb4
        go_wp2_with fail
        go_ret
        exact ⟨rfl, HB5.out⟩
end Go.Proofs.YtfpneopobbfabaaDoor
