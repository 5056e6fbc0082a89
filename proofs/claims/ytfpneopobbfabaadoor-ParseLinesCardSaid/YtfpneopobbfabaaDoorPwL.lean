/-
  Walk of windrowlaw04.ParseLines: it answers true. Condition: the texts are no longer than a string may be; strconv.ErrRange holds an error.
-/
import Derived.Test.YtfpneopobbfabaaDoorPwB
import Derived.Test.YtfpneopobbfabaaDoorPwX
import Derived.Test.YtfpneopobbfabaaDoorPOpen
import Derived.Test.YtfpneopobbfabaaDoorLwG
import Derived.Test.YtfpneopobbfabaaDoorLwC
namespace Go.Proofs.YtfpneopobbfabaaDoor
open Go.RowKit Go.Shelf Go.Sort

theorem Tryd.infoRow : (Tryd.prog.info? 40).map (fun i => (i.zero, i.size, i.bytes)) = some (some (.slice none 0 0), 1, 24) := by kernel_rfl
abbrev Exps := List (List UInt8 × List Itm)
/-- A row of rows of items. -/
def WantS (w : World) (base : Nat) (v : Value) (es : Exps) : Prop := ∃ vs, w.ownsRow base 40 1 v es.length vs ∧ ∀ (i : Nat) (q : List UInt8 × List Itm), es[i]? = some q → ∃ u, vs[i]? = some u ∧ ItsV w u q.2
theorem WantS.keep {w w' : World} {base : Nat} {v : Value} {es : Exps} (h : WantS w base v es) (hk : ∀ t, t = 40 ∨ t = 48 ∨ t = 2 → KeepTag t w w') : WantS w' base v es := by
  obtain ⟨vs, h1, h2⟩ := h
  refine ⟨vs, own_tag h1 (hk _ (.inl rfl)), fun i q hq => ?_⟩
  obtain ⟨u, hu, cs, g1, g2⟩ := h2 i q hq
  exact ⟨u, hu, cs, own_tag g1 (hk _ (.inr (.inl rfl))), g2.keep (hk _ (.inr (.inr rfl)))⟩
theorem WantS.all {w w' : World} {base : Nat} {v : Value} {es : Exps} (h : WantS w base v es) (hb : Below w.heap.size w w') : WantS w' base v es := h.keep (fun _ _ => KeepTag.below hb)
theorem WantS.nil (w : World) (base : Nat) : WantS w base (.slice none 0 0) [] := ⟨[], World.ownsRow_nil _ _ _ _, fun i q h => by simp at h⟩
theorem WantS.snoc {w w' : World} {base : Nat} {v' u : Value} {es : Exps} {q : List UInt8 × List Itm} {vs : List Value} (h2 : ∀ (i : Nat) (q : List UInt8 × List Itm), es[i]? = some q → ∃ u, vs[i]? = some u ∧ ItsV w u q.2) (hl : vs.length = es.length)
    (hown : w'.ownsRow base 40 1 v' (es.length + 1) (vs ++ [u])) (hu : ItsV w' u q.2) (hk : ∀ t, t = 48 ∨ t = 2 → KeepTag t w w') : WantS w' base v' (es ++ [q]) := by
  refine ⟨vs ++ [u], by rw [List.length_append]; exact hown, fun i p hp => ?_⟩
  by_cases hi : i < es.length
  · rw [List.getElem?_append_left hi] at hp
    obtain ⟨z, hz, cs, g1, g2⟩ := h2 i p hp
    exact ⟨z, by rw [List.getElem?_append_left (by omega)]; exact hz, cs, own_tag g1 (hk _ (.inl rfl)), g2.keep (hk _ (.inr rfl))⟩
  · rw [List.getElem?_append_right (by omega)] at hp
    have hz : i - es.length = 0 := by
      have := (List.getElem?_eq_some_iff.1 hp).1
      simp at this
      omega
    rw [hz] at hp
    simp at hp
    subst hp
    exact ⟨u, by rw [List.getElem?_append_right (by omega), hl, hz]; rfl, hu⟩
def TextS (w : World) (base : Nat) (v : Value) (l : List UInt8) : Prop := w.ownsRow base 5 1 v l.length (l.map byteV)
/-- The lines so far. -/
def GoodE (es : Exps) : Prop := ∀ q ∈ es, plainB q.1 1000 = true ∧ outP q.1 = some q.2
theorem good_len {es : Exps} (h : GoodE es) : (linesT (es.map Prod.fst)).length ≤ 1005 * es.length := by
  have := linesT_len (es.map Prod.fst) (fun e he => by
    obtain ⟨q, hq, rfl⟩ := List.mem_map.1 he
    exact (plainB_iff.1 (h q hq).1).1)
  rwa [List.length_map] at this
theorem lines_snoc (es : Exps) (e : List UInt8) (it : List Itm) : linesT ((es ++ [(e, it)]).map Prod.fst) = linesT (es.map Prod.fst) ++ [97, 32, 58, 32] ++ e ++ [10] := by
  rw [List.map_append, show List.map Prod.fst [(e, it)] = [e] from rfl, linesT_snoc]
  simp
set_option maxHeartbeats 8000000 in
set_option maxRecDepth 100000 in
theorem PLines_any (v0 : Value) (l : List ByteArray) (w : World) (hv : StrS w v0 l) (hl : ∀ s ∈ l, s.size ≤ maxLen) (hE : ErrIs w) : Calls Tryd.prog 8 #[v0] w fun e w' => e = .returned (.bool true) ∧ Below w.heap.size w w' := by
  have HSh := Lib.hid (fun w h => shown_any w h)
  have HPl := Lib.hid (fun s w h => plain_any s 1000 w h (by omega))
  have HOu := Lib.hid (fun s w h g => out_any s w h g)
  have HPa := Lib.hid (fun t w h g => Parse_any t w h g)
  obtain ⟨i0, hi, hz0, hz1, hz2⟩ := info_parts Tryd.infoU8p
  obtain ⟨j0, gi, gz0, gz1, gz2⟩ := info_parts Tryd.infoRow
  obtain ⟨a0, cap0, rfl, hc0, hm0, hcell0⟩ := hv
  have HC0 := Lib.hid hcell0
  have HL0 := Lib.hid hl
  unfold maxLen at hm0
  obtain ⟨n, hn⟩ : ∃ n, n = l.length := ⟨_, rfl⟩
  rw [← hn] at hc0 HC0 ⊢
  have HN := Lib.hid hn
  clear hcell0 hl hn
  go_enter Tryd.func8, Tryd.ntmps8
  go_wp2_with fail
  refine (HSh.out w hE).mono ?_
  rintro _ w1 ⟨rfl, hb1⟩
  have HB1 := Lib.hid hb1
  have HE1 := Lib.hid (hE.kept hb1)
  clear hb1
  go_upto_block 0 with fail
  go_cut [4, 5, 6, 7, 8] from 13 (fun vs vw s6 s7 s8 wx => ∃ es : Exps, es.length ≤ 60 ∧ GoodE es ∧ TextS wx w1.heap.size vs (linesT (es.map Prod.fst)) ∧ WantS wx w1.heap.size vw es ∧ Below w1.heap.size w1 wx)
  case first =>
    go_wp2_with fail
    go_loopw [4, 5, 6] (fun vs vw i wr => ∃ (k : Nat) (es : Exps), k ≤ n ∧ es.length ≤ 60 ∧ i = .int .i64 k ∧ GoodE es ∧ TextS wr w1.heap.size vs (linesT (es.map Prod.fst)) ∧ WantS wr w1.heap.size vw es ∧ Below w1.heap.size w1 wr)
      (fun _ _ i _ => n - (intOf i).toNat)
    case atStart => exact ⟨0, [], Nat.zero_le _, Nat.zero_le _, rfl, fun q hq => by simp at hq, World.ownsRow_nil _ _ _ _, WantS.nil _ _, Below.refl _ _⟩
    case round =>
      obtain ⟨k, es, hk, hes, rfl, hgood, htext, hwant, hbel⟩ := hrel
      have HG := Lib.hid hgood
      have HT := Lib.hid htext
      have HW := Lib.hid hwant
      have HBl := Lib.hid hbel
      have hlen := good_len hgood
      obtain ⟨asl, cs, rfl⟩ := own_form htext
      obtain ⟨vs0, how, _⟩ := hwant
      obtain ⟨aw, cw, rfl⟩ := own_form how
      obtain ⟨m, hm⟩ : ∃ m, m = es.length := ⟨_, rfl⟩
      rw [← hm] at HW ⊢ hes hlen
      have HM := Lib.hid hm
      obtain ⟨tl, htl⟩ : ∃ tl, tl = (linesT (es.map Prod.fst)).length := ⟨_, rfl⟩
      rw [← htl] at HT ⊢ hlen
      have HTl := Lib.hid htl
      have hsz0 := hbel.size
      clear hgood htext how hbel hm htl
      by_cases hlt : k < n
      · have hlt2 : (k : Int) < n := by omega
        by_cases hm60 : m < 60
        · have hm2 : (m : Int) < 60 := by omega
          obtain ⟨g, o, rfl, hg, hcell⟩ := HC0.out (by omega)
          obtain ⟨t, ht⟩ : ∃ t, l[k]? = some t := ⟨l[k]'(by have := HN.out; omega), List.getElem?_eq_getElem _⟩
          have c0 := (HB1.out.cell (p := ⟨g, _, none⟩) hg).trans (hcell k t ht)
          have hg1 : g < w1.heap.size := by have := HB1.out.size; omega
          have d0 := (HBl.out.cell (p := ⟨g, _, none⟩) hg1).trans c0
          have hts := HL0.out t (List.mem_of_getElem? ht)
          have HTs := Lib.hid hts
          have HPl2 := Lib.hid (fun w => HPl.out t w hts)
          clear hcell ht hts c0
          cases hpl : plainB t.data.toList 1000 with
          | false =>
            rw [hpl] at HPl2
            clear hpl
            go_wp2_with fail
            refine (HPl2.out _).mono ?_
            rintro _ _ ⟨rfl, rfl⟩
            go_wp2_with fail
            go_roundw
            case rel => exact ⟨k + 1, es, by omega, by rw [← HM.out]; exact hes, by go_num, HG.out, HT.out, HW.out, HBl.out⟩
            case measure => simp [intOf]; omega
          | true =>
            rw [hpl] at HPl2
            have ht1 : t.size ≤ 1000 := (plainB_iff.1 hpl).1
            have HPb := Lib.hid hpl
            have HE2 := Lib.hid (HE1.out.kept HBl.out)
            have HOu2 := Lib.hid (fun w h => HOu.out t w (by omega) h)
            obtain ⟨ou, hou⟩ : ∃ ou, ou = outP t.data.toList := ⟨_, rfl⟩
            rw [← hou] at HOu2
            have HOE := Lib.hid hou
            clear hpl hou
            go_wp2_with fail
            refine (HPl2.out _).mono ?_
            rintro _ _ ⟨rfl, rfl⟩
            go_wp2_with fail
            refine (HOu2.out _ HE2.out).mono ?_
            rintro en w2 ⟨hb2, hout⟩
            have hT2 : TextS w2 w1.heap.size (.slice asl tl cs) (linesT (es.map Prod.fst)) := by have h := HT.out; unfold TextS at h ⊢; exact own_tag h (KeepTag.below hb2)
            have hW2 := HW.out.all hb2
            have hB2 : Below w1.heap.size w1 w2 := HBl.out.trans (hb2.mono HBl.out.size)
            have d2 := (hb2.cell (p := ⟨g, _, none⟩) (by have := HBl.out.size; show g < _; omega)).trans d0
            have HT2 := Lib.hid hT2
            have HW2 := Lib.hid hW2
            have HB2 := Lib.hid hB2
            clear hT2 hW2 hB2 hb2 d0
            cases ou with
            | none =>
              obtain rfl := hout
              go_wp2_with fail
              go_roundw
              case rel => exact ⟨k + 1, es, by omega, by rw [← HM.out]; exact hes, by go_num, HG.out, HT2.out, HW2.out, HB2.out⟩
              case measure => simp [intOf]; omega
            | some its =>
              obtain ⟨v, csv, rfl, ho, hit⟩ := hout
              have HIt : Hid (ItsV w2 v its) := Lib.hid ⟨csv, ho, hit⟩
              obtain ⟨ad, cap, rfl⟩ := own_form ho
              have hcnt := (outP_count HPb.out (by omega) HOE.out.symm).2
              clear ho hit
              obtain ⟨p, hp⟩ : ∃ p, p = its.length := ⟨_, rfl⟩
              rw [← hp] at HIt ⊢ hcnt
              have HP := Lib.hid hp
              clear hp
              by_cases hp120 : 120 < p
              · have hp2 : (120 : Int) < p := by omega
                have hp3 : decide ((120 : Int) < p) = true := by rw [decide_eq_true_iff]; exact hp2
                go_wp2_with fail
                go_roundw
                case rel => exact ⟨k + 1, es, by omega, by rw [← HM.out]; exact hes, by go_num, HG.out, HT2.out, HW2.out, HB2.out⟩
                case measure => simp [intOf]; omega
              · have hp2 : ¬ (120 : Int) < p := by omega
                have hp3 : decide ((120 : Int) < p) = false := by rw [decide_eq_false_iff_not]; exact hp2
                have HG2 : Hid (GoodE (es ++ [(t.data.toList, its)])) := by
                  apply Lib.hid
                  intro q hq
                  rcases List.mem_append.1 hq with hq | hq
                  · exact HG.out q hq
                  · rw [List.mem_singleton.1 hq]; exact ⟨HPb.out, HOE.out.symm⟩
                obtain ⟨vs2, how2, hat2⟩ := HW2.out
                have hvl : vs2.length = es.length := by have := how2.1; rwa [Nat.mul_one] at this
                have hat3 := Lib.hid (And.intro hat2 hvl)
                have how3 := how2
                rw [← HM.out] at how2
                have hsz2 := HB2.out.size
                clear hat2 hvl
                go_wp2_with (at_builtin; refine wpList_append_lies _ rfl (.tmp 45) (.tmp 47) 51 rfl w1.heap.size 40 j0 (.slice none 0 0) 1 24 Tryd.underlying51 gi gz0 gz1 gz2 rfl (by decide) _ _ _ rfl (how2.alloc _) ⟨w2.heap.size, 0, none⟩ 1 1 [.slice ad p cap] rfl rfl ?c1 ?c2 (by decide) ?c3 ?c4 ?c5 _ rfl ?_)
                case c1 => intro j u hj; match j, hj with | 0, hj => (simp at hj; subst hj; simp [Addr.add]) | j + 1, hj => simp at hj
                case c2 => intro u hu; simp at hu; subst hu; rfl
                case c3 => unfold maxLen; omega
                case c4 => omega
                case c5 => simp; omega
                intro g3 cap3 w3 hown3 hg3 hat4 hlt3
                have ka : ∀ o t, KeepTag t w2 (w2.alloc o) := fun o t => KeepTag.alloc o
                have kb : ∀ o t, (w2.alloc o).grownBy w3 (Value.slice aw m cw).ownBlock → t ≠ 40 → KeepTag t w2 w3 := fun o t hg ht => (ka o t).trans (KeepTag.own hg (how2.alloc o) ht)
                have HW3 : Hid (WantS w3 w1.heap.size (.slice (some ⟨g3, 0, none⟩) (m + 1) cap3) (es ++ [(t.data.toList, its)])) := by
                  apply Lib.hid
                  refine WantS.snoc hat3.out.1 hat3.out.2 (by rw [← HM.out]; exact hown3) ?_ (fun t ht => kb _ t hg3 (by rcases ht with rfl | rfl <;> decide))
                  obtain ⟨cs, g1, g2⟩ := HIt.out
                  exact ⟨cs, own_tag g1 (kb _ _ hg3 (by decide)), g2.keep (kb _ _ hg3 (by decide))⟩
                have hT3 : w3.ownsRow w1.heap.size 5 1 (.slice asl tl cs) tl ((linesT (es.map Prod.fst)).map byteV) := by have := HT2.out; unfold TextS at this; rw [← HTl.out] at this; exact own_tag this (kb _ _ hg3 (by decide))
                have hB3 : Below w1.heap.size w1 w3 := (HB2.out.alloc HB2.out.size _).grown hg3 (by have := HB2.out.size; simp; omega) (fun j hj => (how2.lt j hj).1)
                have d3 : w3.cell? ⟨g, o + k, none⟩ = some (.string t) := by
                  have e1 := (hB3.cell (p := ⟨g, o + k, none⟩) hg1)
                  have e2 := (HB2.out.cell (p := ⟨g, o + k, none⟩) hg1)
                  exact e1.trans (e2.symm.trans d2)
                clear hown3 hg3 ka kb how2 how3 hat4 d2
                go_wp2_with (at_builtin; refine Lib.wpList_append_own_string _ rfl (.tmp 49) _ 38 9 rfl w1.heap.size 5 i0 Tryd.underlying38 Tryd.underlying9 hi hz0 hz1 hz2 _ _ _ rfl hT3 ⟨#[97, 32, 58, 32]⟩ rfl ?c6 ?c7 ?c8 ?_)
                case c6 => rw [show (⟨#[97, 32, 58, 32]⟩ : ByteArray).size = 4 from rfl]; unfold maxLen; omega
                case c7 => rw [show (⟨#[97, 32, 58, 32]⟩ : ByteArray).size = 4 from rfl]; omega
                case c8 => exact hB3.size
                intro s4 w4 hT4 hg4 _
                have HW4 : Hid (WantS w4 w1.heap.size (.slice (some ⟨g3, 0, none⟩) (m + 1) cap3) (es ++ [(t.data.toList, its)])) := Lib.hid (HW3.out.keep (fun t ht => KeepTag.own hg4 hT3 (by rcases ht with rfl | rfl | rfl <;> decide)))
                have hB4 : Below w1.heap.size w1 w4 := hB3.grown hg4 hB3.size (fun j hj => (hT3.lt j hj).1)
                have d4 : w4.cell? ⟨g, o + k, none⟩ = some (.string t) := ((hB4.cell (p := ⟨g, o + k, none⟩) hg1).trans (hB3.cell (p := ⟨g, o + k, none⟩) hg1).symm).trans d3
                obtain ⟨as4, cs4, rfl⟩ := own_form hT4
                clear hg4 hT3 HW3 hB3 d3
                go_wp2_with (at_builtin; refine Lib.wpList_append_own_string _ rfl (.tmp 51) (.tmp 55) 38 9 rfl w1.heap.size 5 i0 Tryd.underlying38 Tryd.underlying9 hi hz0 hz1 hz2 _ _ _ rfl hT4 t rfl ?e6 ?e7 ?e8 ?_)
                case e6 => unfold maxLen; omega
                case e7 => omega
                case e8 => exact hB4.size
                intro s5 w5 hT5 hg5 _
                have HW5 : Hid (WantS w5 w1.heap.size (.slice (some ⟨g3, 0, none⟩) (m + 1) cap3) (es ++ [(t.data.toList, its)])) := Lib.hid (HW4.out.keep (fun t ht => KeepTag.own hg5 hT4 (by rcases ht with rfl | rfl | rfl <;> decide)))
                have hB5 : Below w1.heap.size w1 w5 := hB4.grown hg5 hB4.size (fun j hj => (hT4.lt j hj).1)
                obtain ⟨as5, cs5, rfl⟩ := own_form hT5
                clear hg5 hT4 HW4 hB4 d4
                go_wp2_with (at_builtin; refine wpList_append_own _ rfl (.tmp 57) (.tmp 58) 38 rfl w1.heap.size 5 i0 (.int .u8 0) 1 1 Tryd.underlying38 hi hz0 hz1 hz2 rfl (by decide) _ _ _ rfl (hT5.alloc _) ⟨w5.heap.size, 0, none⟩ 1 1 [.int .u8 10] rfl rfl ?d1 ?d2 ?d3 ?d4 ?d5 ?_)
                case d1 => intro j u hj; match j, hj with | 0, hj => (simp at hj; subst hj; simp [Addr.add]) | j + 1, hj => simp at hj
                case d2 => intro u hu; simp at hu; subst hu; rfl
                case d3 => unfold maxLen; omega
                case d4 => omega
                case d5 => have := hB5.size; simp; omega
                intro s6 w6 hT6 hg6 _
                have HW6 : Hid (WantS w6 w1.heap.size (.slice (some ⟨g3, 0, none⟩) (m + 1) cap3) (es ++ [(t.data.toList, its)])) := Lib.hid ((HW5.out.all ((Below.refl _ _).alloc (Nat.le_refl _) _)).keep (fun t ht => KeepTag.own hg6 (hT5.alloc _) (by rcases ht with rfl | rfl | rfl <;> decide)))
                have hB6 : Below w1.heap.size w1 w6 := (hB5.alloc hB5.size _).grown hg6 (by have := hB5.size; simp; omega) (fun j hj => (hT5.lt j hj).1)
                clear hg6 hT5 HW5 hB5
                go_wp2_with fail
                go_roundw
                case rel =>
                  refine ⟨k + 1, es ++ [(t.data.toList, its)], by omega, by rw [List.length_append, ← HM.out]; show m + 1 ≤ 60; omega, by go_num, HG2.out, ?_, HW6.out, hB6⟩
                  unfold TextS
                  rw [lines_snoc]
                  have h1 : (linesT (es.map Prod.fst) ++ [97, 32, 58, 32] ++ t.data.toList ++ [10]).length = tl + 4 + t.size + 1 := by
                    rw [List.length_append, List.length_append, List.length_append, ← HTl.out]
                    rfl
                  have h2 : (linesT (es.map Prod.fst) ++ [97, 32, 58, 32] ++ t.data.toList ++ [10]).map byteV = (linesT (es.map Prod.fst)).map byteV ++ (Lib.strCells ⟨#[97, 32, 58, 32]⟩ ++ (Lib.strCells t ++ [.int .u8 10])) := by
                    simp [Lib.strCells, byteV]
                  rw [h1, h2]
                  exact hT6
                case measure => simp [intOf]; omega
        · have hm2 : ¬ (m : Int) < 60 := by omega
          go_wp2_with fail
          go_meet
          case rel => exact ⟨es, by rw [← HM.out]; exact hes, HG.out, HT.out, HW.out, HBl.out⟩
      · have hlt2 : ¬ (k : Int) < n := by omega
        go_wp2_with fail
        go_meet
        case rel => exact ⟨es, by rw [← HM.out]; exact hes, HG.out, HT.out, HW.out, HBl.out⟩
  case rest =>
    obtain ⟨es, hes, hgood, htext, hwant, hbel⟩ := hcut
    obtain ⟨w2, rfl⟩ : ∃ W : World, W = wc := ⟨_, rfl⟩
    have hlen := good_len hgood
    have HRow := Lib.hid (RowS.of_own htext)
    have HW := Lib.hid hwant
    have HB2 := Lib.hid (HB1.out.trans (hbel.mono HB1.out.size))
    have HE2 := Lib.hid (HE1.out.kept hbel)
    obtain ⟨vs0, how, _⟩ := hwant
    obtain ⟨aw, cw, hformw⟩ := own_form how
    have htx : (mkS (linesT (es.map Prod.fst)) ++ (⟨#[111, 117, 116, 32, 97]⟩ : ByteArray)).data.toList = linesT (es.map Prod.fst) ++ outA := by
      rw [ByteArray.data_append, Array.toList_append, mkS_toList]
      rfl
    have hsz : (mkS (linesT (es.map Prod.fst)) ++ (⟨#[111, 117, 116, 32, 97]⟩ : ByteArray)).size ≤ maxLen := by
      rw [ByteArray.size_append, mkS_size, show (⟨#[111, 117, 116, 32, 97]⟩ : ByteArray).size = 5 from rfl]
      unfold maxLen
      omega
    have HPa2 := Lib.hid (fun w h => HPa.out _ w hsz h)
    rw [htx] at HPa2
    have HLaw := Lib.hid (lines_law es hes hgood)
    obtain ⟨m, hm⟩ : ∃ m, m = es.length := ⟨_, rfl⟩
    rw [← hm] at hformw hes HLaw
    have HM := Lib.hid hm
    have hmz1 : (linesT (es.map Prod.fst)).length ≤ 60300 := by omega
    have hmz2 : (mkS (linesT (es.map Prod.fst))).size ≤ 60300 := by rw [mkS_size]; exact hmz1
    generalize parseL (linesT (es.map Prod.fst) ++ outA) = px at HPa2 HLaw
    clear hgood htext hbel how htx hsz hlen hm HPa HOu HPl
    subst hformw
    go_wp2_with (refine wpList_string_rowS _ rfl _ _ _ rfl 5 HRow.out Tryd.underlying38 Tryd.underlying5 Tryd.underlying9 rfl ?_)
    refine (HPa2.out _ HE2.out).mono ?_
    rintro en w3 ⟨hb3, hmm⟩
    have HB3 := Lib.hid (HB2.out.trans (hb3.mono HB2.out.size))
    have HW3 := Lib.hid (HW.out.all hb3)
    clear hb3
    rcases HLaw.out with ⟨x, hx⟩ | ⟨p, hx, hpl, hpq⟩
    · rw [hx] at hmm
      obtain rfl := hmm
      clear hx
      dsimp only
      go_wp2_with fail
      go_ret
      exact ⟨rfl, (HB3.out.alloc HB3.out.size _).alloc (Nat.le_trans HB3.out.size (by simp)) _⟩
    · rw [hx] at hmm
      obtain ⟨vi, vl, rfl, hprg⟩ := hmm
      have HP := Lib.hid hprg
      obtain ⟨⟨ai, ci, rfl⟩, ⟨al, cl, rfl⟩⟩ := hprg.forms
      have HPq := Lib.hid hpq
      have HPL := Lib.hid hpl
      rw [hpl]
      have hadd : ((m + 1 : Nat) : Int) = (m : Int) + 1 := by omega
      clear hx hprg hpq hpl
      go_wp2_with fail
      go_loopg [85] m (fun gg s85 wx => ∃ j : Nat, gg = m - j ∧ s85 = .int .i64 j ∧ j ≤ m ∧ Below w3.heap.size w3 wx ∧ w3.heap.size + 1 < wx.heap.size ∧ wx.cell? ⟨w3.heap.size, 1, none⟩ = some (.slice al (m + 1) cl))
      case atStart => exact ⟨0, rfl, rfl, Nat.zero_le _, ((Below.refl _ _).alloc (Nat.le_refl _) _).alloc (by simp) _, by simp, by simp⟩
      case round =>
        obtain ⟨j, rfl, rfl, hj, hb, hsz, q1⟩ := hrel
        by_cases hjm : j < m
        · have hjm' : (j : Int) < (m : Int) := by omega
          obtain ⟨q, hq⟩ : ∃ q, es[j]? = some q := ⟨es[j]'(by have := HM.out; omega), List.getElem?_eq_getElem _⟩
          obtain ⟨la, l', hline, hbare⟩ := HPq.out j q hq
          obtain ⟨gl, pl, el, hcl, hml, _, hgl, hlat⟩ := HP.out.line_at (by have := HPL.out; omega)
          injection el with el1 el2 el3
          clear el2
          obtain ⟨v, hv, r0, _, r2⟩ := hlat j _ hline
          obtain ⟨vs, how, hwat⟩ := HW3.out
          have hvl := how.1
          obtain ⟨u, hu, hui⟩ := hwat j q hq
          obtain ⟨gw, pw, ew, _, hgw, hcw, hmw, hcellw, _⟩ := own_cells how (by have := HM.out; omega)
          injection ew with ew1 ew2 ew3
          clear ew2
          have y0 := (hcellw j (by have := HM.out; omega)).trans hu
          obtain ⟨av, cv, hvf⟩ := hv.form
          obtain ⟨au, cu, huf⟩ := hui.form
          subst hvf huf
          have hlen : q.2.length = l'.length := by
            have := congrArg List.length hbare
            rw [List.length_map, List.length_map] at this
            exact this.symm
          rw [hlen] at y0 hui
          have HV1 := Lib.hid hv
          have HV2 := Lib.hid hui
          obtain ⟨t, ht⟩ : ∃ t, t = l'.length := ⟨_, rfl⟩
          rw [← ht] at r2 y0 HV1 HV2
          rw [HPL.out] at hcl
          rw [← HM.out] at hcw
          rw [← el3] at hcl hml
          rw [← ew3] at hcw hmw
          have hcl2 : m + 1 ≤ cl := hcl
          have hcw2 : m ≤ cw := hcw
          unfold maxLen at hml hmw
          clear el3 ew3 hcl hcw
          subst el1 ew1
          have HIW := Lib.hid (fun wy (hb : Below w3.heap.size w3 wy) => Items_true _ _ l' q.2 wy (HV1.out.keep (fun t => KeepTag.below hb)) (HV2.out.keep (fun t => KeepTag.below hb)) hbare)
          rw [show mkS [97] = ⟨#[97]⟩ from rfl] at r0
          have d0 := (hb.cell (p := ⟨gl, _, none⟩) hgl).trans r0
          have d2 := (hb.cell (p := ⟨gl, _, none⟩) hgl).trans r2
          have d4 := (hb.cell (p := ⟨gw, _, none⟩) hgw).trans y0
          have hsb := hb.size
          have HB := Lib.hid hb
          have hglr : gl < wr.heap.size := by omega
          have hgwr : gw < wr.heap.size := by omega
          have hjm2 : (j : Int) < (m : Int) + 1 := by omega
          clear hq hline hbare hlat hv r0 r2 how hwat hvl hu hui hcellw y0 hlen ht hb
          go_upto_region 22 with fail
          go_region_held3 (fun wy => wy.cell? ⟨w3.heap.size, 1, none⟩ = some (.slice (some ⟨gl, 0, none⟩) (m + 1) cl) ∧ wy.cell? ⟨gl, j * 3, none⟩ = some (.string ⟨#[97]⟩) ∧ wy.cell? ⟨gl, j * 3 + 2, none⟩ = some (.slice av t cv) ∧ wy.cell? ⟨gw, j, none⟩ = some (.slice au t cu))
            (first | go_keep)
            (first
              | (go_at_call 22; refine (HIW.out _ (by repeat (first | exact HB.out | refine Below.drew ?_ | refine below_drewN' ?_ _))).mono ?_; rintro _ w9 ⟨rfl, hb9⟩; have q1' : w9.cell? ⟨w3.heap.size, 1, none⟩ = some (.slice (some ⟨gl, 0, none⟩) (m + 1) cl) := (hb9.cell (p := ⟨w3.heap.size, 1, none⟩) (by show w3.heap.size < wr.heap.size; omega)).trans q1; have d0' : w9.cell? ⟨gl, j * 3, none⟩ = some (.string ⟨#[97]⟩) := (hb9.cell (p := ⟨gl, j * 3, none⟩) hglr).trans d0; have d2' : w9.cell? ⟨gl, j * 3 + 2, none⟩ = some (.slice av t cv) := (hb9.cell (p := ⟨gl, j * 3 + 2, none⟩) hglr).trans d2; have d4' : w9.cell? ⟨gw, j, none⟩ = some (.slice au t cu) := (hb9.cell (p := ⟨gw, j, none⟩) hgwr).trans d4; have HB9 : Hid (Below w3.heap.size w3 w9) := Lib.hid (Below.trans (by repeat (first | exact HB.out | refine Below.drew ?_ | refine below_drewN' ?_ _)) (hb9.mono HB.out.size)); have hsz9 : w3.heap.size + 1 < w9.heap.size := Nat.lt_of_lt_of_le hsz hb9.size; clear hb9))
          go_wp2_with fail
          go_roundg (m - (j + 1))
          case measure => omega
          case rel => exact ⟨j + 1, rfl, by rw [Int.natCast_add]; rfl, by omega, HB9.out, hsz9, q1'⟩
        · obtain rfl : j = m := by omega
          have hjm' : ¬ (j : Int) < (j : Int) := by omega
          have HB := Lib.hid hb
          clear hb
          go_wp2_with fail
          go_ret
          exact ⟨rfl, HB3.out.trans (HB.out.mono HB3.out.size)⟩
end Go.Proofs.YtfpneopobbfabaaDoor
