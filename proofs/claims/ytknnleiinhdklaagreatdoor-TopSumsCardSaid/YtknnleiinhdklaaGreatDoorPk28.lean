/-
  Walks: the document's Size, Right (windrowref06), at whatever sides; fair. Condition: the slices read as lists.   Slices of numbers that the call made; walks of slices.Clone, Reverse, Equal. Condition: the slices read as lists.
-/
import Derived.Lib.SliceRun
import Derived.Test.YtknnleiinhdklaaGreatDoorPk15
import Derived.Test.YtknnleiinhdklaaGreatDoorPk27
namespace Go.Proofs.YtknnleiinhdklaaGreatDoor
section
open Go.RowKit
set_option maxHeartbeats 4000000 in
set_option maxRecDepth 100000 in
theorem rsize_any (v : Value) (l : List Int) (w : World) (hv : IntsS w v l) :
  Calls Tryz.prog 18 #[v] w (SizePost l w) := by
 obtain ⟨m, hm⟩ : ∃ m, m = l.length := ⟨_, rfl⟩
 have HM := Lib.hid hm
 obtain ⟨a, cap, rfl, hc1, hc2, hc3⟩ := hv
 have HC := Lib.hid hc3
 unfold maxLen at hc2
 rw [← hm] at hc1 ⊢
 have hmx : m ≤ 9223372036854775807 := by omega
 clear hm hc3
 by_cases hm4 : m ≤ 4
 ·have i4 : ¬ ((m : Int) > 4) := by omega
  go_enter Tryz.func18, Tryz.ntmps18
  go_wp2_with fail
  go_loop [4, 5] (fun n i => ∃ k : Nat, k ≤ m ∧ i = .int .i64 k ∧ Hid (∀ (j : Nat) (x : Int), j < k → l[j]? = some x → 0 ≤ x ∧ x ≤ 65536) ∧ ((n = .int .i64 1 ∧ Hid (∀ (j : Nat) (x : Int), j < k → l[j]? = some x → x ≠ 0)) ∨ (n = .int .i64 0 ∧ Hid ((0 : Int) ∈ l)))) (fun _ i => m - (intOf i).toNat)
  case atStart => exact ⟨0, Nat.zero_le _, rfl, Lib.hid fun j _ hj => absurd hj (Nat.not_lt_zero _), .inl ⟨rfl, Lib.hid fun j _ hj => absurd hj (Nat.not_lt_zero _)⟩⟩
  case round =>
   obtain ⟨k, hk, rfl, hno, hn⟩ := hrel
   by_cases hlt : k < m
   ·obtain ⟨x, hx⟩ : ∃ x, l[k]? = some x := ⟨l[k]'(by have := HM.out; omega), List.getElem?_eq_getElem _⟩
    obtain ⟨g, o, rfl, hg, hcell⟩ := HC.out (by have := HM.out; omega)
    have d1 := hcell k x hx
    have kI : (k : Int) < m := by omega
    have k0 : (0 : Int) ≤ k := by omega
    have HX := Lib.hid hx
    have HLt := Lib.hid hlt
    clear hcell hx
    by_cases hb : x < 0
    ·clear hno
     rcases hn with ⟨rfl, hn⟩ | ⟨rfl, hn⟩ <;> clear hn
     ·go_wp2_with fail
      refine bodyPost_ret (v := .tuple #[.int .i64 0, .int .i64 61]) (by simp [results, Tryz.results18, go_sem]) rfl ⟨rfl, .inr rfl⟩
     ·go_wp2_with fail
      refine bodyPost_ret (v := .tuple #[.int .i64 0, .int .i64 61]) (by simp [results, Tryz.results18, go_sem]) rfl ⟨rfl, .inr rfl⟩
    ·by_cases hb2 : x > 65536
     ·clear hno
      rcases hn with ⟨rfl, hn⟩ | ⟨rfl, hn⟩ <;> clear hn
      ·go_wp2_with fail
       refine bodyPost_ret (v := .tuple #[.int .i64 0, .int .i64 61]) (by simp [results, Tryz.results18, go_sem]) rfl ⟨rfl, .inr rfl⟩
      ·go_wp2_with fail
       refine bodyPost_ret (v := .tuple #[.int .i64 0, .int .i64 61]) (by simp [results, Tryz.results18, go_sem]) rfl ⟨rfl, .inr rfl⟩
     ·have HN2 : Hid (∀ (j : Nat) (x : Int), j < k + 1 → l[j]? = some x → 0 ≤ x ∧ x ≤ 65536) := Lib.hid fun j y hj hy => by
       by_cases h2 : j < k
       ·exact hno.out j y h2 hy
       ·obtain rfl : j = k := by omega
        rw [HX.out] at hy
        injection hy with hy
        omega
      clear hno
      by_cases h0 : x = 0
      ·subst h0
       have HZ : Hid ((0 : Int) ∈ l) := Lib.hid (List.mem_of_getElem? HX.out)
       rcases hn with ⟨rfl, hn⟩ | ⟨rfl, hn⟩ <;> clear hn
       ·go_wp2_with fail
        go_round
        case rel => exact ⟨k + 1, HLt.out, by go_num, HN2, .inr ⟨rfl, HZ⟩⟩
        case measure => have := HLt.out; simp [intOf]; omega
       ·go_wp2_with fail
        go_round
        case rel => exact ⟨k + 1, HLt.out, by go_num, HN2, .inr ⟨rfl, HZ⟩⟩
        case measure => have := HLt.out; simp [intOf]; omega
      ·rcases hn with ⟨rfl, hn⟩ | ⟨rfl, hn⟩
       ·have HN3 : Hid (∀ (j : Nat) (x : Int), j < k + 1 → l[j]? = some x → x ≠ 0) := Lib.hid fun j y hj hy => by
         by_cases h2 : j < k
         ·exact hn.out j y h2 hy
         ·obtain rfl : j = k := by omega
          rw [HX.out] at hy
          injection hy with hy
          rw [← hy]; exact h0
        clear hn
        go_wp2_with fail
        go_round
        case rel => exact ⟨k + 1, HLt.out, by go_num, HN2, .inl ⟨rfl, HN3⟩⟩
        case measure => have := HLt.out; simp [intOf]; omega
       ·go_wp2_with fail
        go_round
        case rel => exact ⟨k + 1, HLt.out, by go_num, HN2, .inr ⟨rfl, hn⟩⟩
        case measure => have := HLt.out; simp [intOf]; omega
   ·obtain rfl : k = m := by omega
    have kI : ¬ (k : Int) < k := by omega
    have hall : ∀ x ∈ l, 0 ≤ x ∧ x ≤ 65536 := fun x hx => by
     obtain ⟨j, hj, rfl⟩ := List.mem_iff_getElem.1 hx
     exact hno.out j _ (by rw [HM.out]; exact hj) (List.getElem?_eq_getElem hj)
    have hl : l = ofN (l.map Int.toNat) := ofN_of fun x hx => (hall x hx).1
    obtain ⟨s, hs⟩ : ∃ s, s = l.map Int.toNat := ⟨_, rfl⟩
    rw [← hs] at hl
    have hse : ∀ x ∈ s, x ≤ 65536 := fun x hx => by
     rw [hs] at hx
     obtain ⟨y, hy, rfl⟩ := List.mem_map.1 hx
     have := hall y hy
     omega
    have hsl : s.length = k := by rw [hs, List.length_map]; exact HM.out.symm
    have HL := Lib.hid hl
    have HSe := Lib.hid hse
    have HSl := Lib.hid hsl
    clear hno hall hl hs hse hsl
    rcases hn with ⟨rfl, hn⟩ | ⟨rfl, hn⟩
    ·have HPos : Hid (∀ x ∈ s, 0 < x) := Lib.hid fun x hx => by
      rcases Nat.eq_zero_or_pos x with h0 | h0
      ·exfalso
       subst h0
       have hm0 : (0 : Int) ∈ l := by
        rw [HL.out]
        exact List.mem_map.2 ⟨0, hx, rfl⟩
       obtain ⟨j, hj, he⟩ := List.mem_iff_getElem.1 hm0
       exact hn.out j 0 (by rw [HM.out]; exact hj) (by rw [List.getElem?_eq_getElem hj, he]) rfl
      ·exact h0
     clear hn
     go_wp2_with fail
     go_loop [4, 6] (fun n i => ∃ j : Nat, j ≤ k ∧ i = .int .i64 j ∧ n = .int .i64 (prodN (s.take j)) ∧ Hid (prodN (s.take j) ≤ 65536)) (fun _ i => k - (intOf i).toNat)
     case atStart => exact ⟨0, Nat.zero_le _, rfl, rfl, Lib.hid (show (1 : Nat) ≤ 65536 by omega)⟩
     case round =>
      obtain ⟨j, hj, rfl, rfl, hp⟩ := hrel
      have hpp : 0 < prodN (s.take j) := prodN_pos fun x hx => HPos.out x (List.mem_of_mem_take hx)
      by_cases hlt : j < k
      ·obtain ⟨x, hx⟩ : ∃ x, s[j]? = some x := ⟨s[j]'(by have := HSl.out; omega), List.getElem?_eq_getElem _⟩
       obtain ⟨g, o, rfl, hg, hcell⟩ := HC.out (by have := HM.out; omega)
       have d1 := hcell j x (by rw [HL.out, ofN_get, hx]; rfl)
       have hx6 := HSe.out x (List.mem_of_getElem? hx)
       have jI : (j : Int) < k := by omega
       have j0 : (0 : Int) ≤ j := by omega
       have p3 := prodN_take hx
       have hp6 := hp.out
       obtain ⟨p, hp⟩ : ∃ p, p = prodN (s.take j) := ⟨_, rfl⟩
       obtain ⟨q, hq⟩ : ∃ q, q = prodN (s.take (j + 1)) := ⟨_, rfl⟩
       rw [← hp] at p3 hp6 hpp ⊢
       rw [← hq] at p3
       have hqb : q ≤ 65536 * 65536 := by rw [p3]; exact Nat.mul_le_mul hp6 hx6
       obtain ⟨hmul, hmul2⟩ := mul_in4 p3 hqb
       have hppI : (p : Int) > 0 := by omega
       have hppD : decide ((0 : Int) < (p : Int)) = true := by rw [decide_eq_true_iff]; omega
       have HQ := Lib.hid hq
       have HLt := Lib.hid hlt
       have HMul := Lib.hid hmul
       have HMul2 := Lib.hid hmul2
       clear hcell hx hp p3 hmul hmul2 hq
       by_cases hbig : (q : Int) > 65536
       ·have hmul := HMul.out
        have hmul2 := HMul2.out
        clear hqb
        go_wp2_with fail
        refine bodyPost_ret (v := .tuple #[.int .i64 0, .int .i64 61]) (by simp [results, Tryz.results18, go_sem]) rfl ⟨rfl, .inr rfl⟩
       ·have HQ6 : Hid (q ≤ 65536) := Lib.hid (by omega)
        have hmul := HMul.out
        have hmul2 := HMul2.out
        clear hqb
        go_wp2_with fail
        go_round
        case rel => exact ⟨j + 1, HLt.out, by go_num, by rw [HQ.out], Lib.hid (by rw [← HQ.out]; exact HQ6.out)⟩
        case measure => have := HLt.out; simp [intOf]; omega
      ·obtain rfl : j = k := by omega
       have kI2 : ¬ (j : Int) < j := by omega
       have HT : Hid (prodN (s.take j) = prodN s) := Lib.hid (by rw [List.take_of_length_le (by rw [HSl.out]; exact Nat.le_refl _)])
       rw [HT.out] at hp hpp ⊢
       have HOk : Hid (SidesOk s) := Lib.hid ⟨by rw [HSl.out]; exact hm4, HSe.out, hp.out⟩
       clear hp
       go_wp2_with fail
       refine bodyPost_ret (v := .tuple #[.int .i64 (prodN s), .int .i64 0]) (by simp [results, Tryz.results18, go_sem]) rfl ⟨rfl, .inl ⟨s, HL.out, HOk.out, rfl⟩⟩
    ·have hz : s.any (fun n => n == 0) = true := by
      rw [← zero_any, ← HL.out]
      exact List.any_eq_true.2 ⟨0, hn.out, rfl⟩
     have HP0 := Lib.hid (prodN_zero hz)
     have HOk : Hid (SidesOk s) := Lib.hid ⟨by rw [HSl.out]; exact hm4, HSe.out, by rw [HP0.out]; exact Nat.zero_le _⟩
     clear hn hz
     by_cases hk0 : 0 < k
     ·have kI3 : (0 : Int) < k := by omega
      go_wp2_with fail
      go_loop [4, 6] (fun n i => n = .int .i64 0 ∧ i = .int .i64 0) (fun _ _ => 0)
      case atStart => exact ⟨rfl, rfl⟩
      case round =>
       obtain ⟨rfl, rfl⟩ := hrel
       go_wp2_with fail
       refine bodyPost_ret (v := .tuple #[.int .i64 0, .int .i64 0]) (by simp [results, Tryz.results18, go_sem]) rfl ⟨rfl, .inl ⟨s, HL.out, HOk.out, by rw [HP0.out]; rfl⟩⟩
     ·obtain rfl : k = 0 := by omega
      go_wp2_with fail
      go_loop [4, 6] (fun n i => n = .int .i64 0 ∧ i = .int .i64 0) (fun _ _ => 0)
      case atStart => exact ⟨rfl, rfl⟩
      case round =>
       obtain ⟨rfl, rfl⟩ := hrel
       go_wp2_with fail
       refine bodyPost_ret (v := .tuple #[.int .i64 0, .int .i64 0]) (by simp [results, Tryz.results18, go_sem]) rfl ⟨rfl, .inl ⟨s, HL.out, HOk.out, by rw [HP0.out]; rfl⟩⟩
 ·have i4 : (m : Int) > 4 := by omega
  go_enter Tryz.func18, Tryz.ntmps18
  go_wp2_with fail
  refine bodyPost_ret (v := .tuple #[.int .i64 0, .int .i64 61]) (by simp [results, Tryz.results18, go_sem]) rfl ⟨rfl, .inr rfl⟩
def FairPost (ls ld : List Int) (w : World) (e : Ending) (w' : World) : Prop := ∃ b, e = .returned (.bool b) ∧ Below w.heap.size w w' ∧ (b = true → ∃ s, ls = ofN s ∧ ArrOk ⟨s, ld⟩)
set_option maxHeartbeats 1000000 in
set_option maxRecDepth 100000 in
theorem rright_any (vs vd : Value) (ls ld : List Int) (w : World) (hs : IntsS w vs ls) (hd : IntsS w vd ld) :
  Calls Tryz.prog 15 #[.agg #[vs, vd]] w (FairPost ls ld w) := by
 obtain ⟨ad, cd, rfl⟩ := hd.form
 have HS := Lib.hid (fun W (hb : Below w.heap.size w W) => rsize_any vs ls W (hs.below hb))
 have HB := Lib.hid ((Below.refl _ w).alloc (Nat.le_refl _) (.cells #[vs, .slice ad ld.length cd] 24))
 obtain ⟨m, hm⟩ : ∃ m, m = ld.length := ⟨_, rfl⟩
 have HM := Lib.hid hm
 rw [← hm] at HB ⊢
 clear hs hd hm
 obtain ⟨c0, c1⟩ := Blk2.new w vs (.slice ad m cd) 24
 go_enter Tryz.func15, Tryz.ntmps15
 go_wp2_with (go_at_call 18; refine (HS.out _ HB.out).mono ?_; rintro _ _ ⟨rfl, hp⟩; have HP := Lib.hid hp; clear hp; rcases HP.out with ⟨s, h1, h2, rfl⟩ | rfl; have H1 := Lib.hid h1; have H2 := Lib.hid h2; clear h1 h2)
 ·by_cases he : prodN s = m
  ·have hE : ((prodN s : Int) == (m : Int)) = true := by rw [he]; exact beq_self_eq_true _
   have HE := Lib.hid he
   clear he
   go_wp2_with fail
   go_ret
   exact ⟨true, congrArg (fun b => Ending.returned (Value.bool b)) hE, HB.out, fun _ => ⟨s, H1.out, H2.out, HE.out.trans HM.out⟩⟩
  ·have hE : ((prodN s : Int) == (m : Int)) = false := by rw [beq_eq_false_iff_ne]; omega
   clear he
   go_wp2_with fail
   go_ret
   exact ⟨false, congrArg (fun b => Ending.returned (Value.bool b)) hE, HB.out, fun h => nomatch h⟩
 ·go_wp2_with fail
  go_ret
  exact ⟨false, rfl, HB.out, fun h => nomatch h⟩
set_option maxHeartbeats 1000000 in
set_option maxRecDepth 100000 in
theorem fair_any (vs vd : Value) (ls ld : List Int) (w : World) (hs : IntsS w vs ls) (hd : IntsS w vd ld) :
  Calls Tryz.prog 8 #[.agg #[vs, vd]] w (FairPost ls ld w) := by
 obtain ⟨a1, c1, rfl⟩ := hs.form
 have HR := Lib.hid (fun W (hb : Below w.heap.size w W) => rright_any (.slice a1 ls.length c1) vd ls ld W (hs.below hb) (hd.below hb))
 have HB := Lib.hid ((Below.refl _ w).alloc (Nat.le_refl _) (.cells #[.slice a1 ls.length c1, vd] 24))
 obtain ⟨m, hm⟩ : ∃ m, m = ls.length := ⟨_, rfl⟩
 have HM := Lib.hid hm
 rw [← hm] at HB HR ⊢
 clear hs hd hm
 obtain ⟨d0, d1⟩ := Blk2.new w (.slice a1 m c1) vd 24
 obtain ⟨W, hW⟩ : ∃ W, W = w.alloc (.cells #[.slice a1 m c1, vd] 24) := ⟨_, rfl⟩
 go_enter Tryz.func8, Tryz.ntmps8
 go_wp2_with (go_at_call 15; refine (HR.out _ HB.out).mono ?_; rintro _ w2 ⟨b, rfl, hb2, hx⟩; have HX := Lib.hid hx; have e0 := (hb2.cell (p := ⟨w.heap.size, 0, none⟩) (by simp)).trans d0; have HB2 := Lib.hid (HB.out.trans (hb2.mono (by simp))); clear hx hb2 d0 d1; cases b)
 ·go_wp2_with fail
  go_ret
  exact ⟨false, rfl, HB2.out, fun h => nomatch h⟩
 ·by_cases h4 : m ≤ 4
  ·have h4I : decide ((m : Int) ≤ 4) = true := by rw [decide_eq_true_iff]; omega
   clear h4
   go_wp2_with fail
   go_ret
   exact ⟨true, congrArg (fun b => Ending.returned (Value.bool b)) h4I, HB2.out, fun _ => HX.out trivial⟩
  ·have h4I : decide ((m : Int) ≤ 4) = false := by rw [decide_eq_false_iff_not]; omega
   clear h4
   go_wp2_with fail
   go_ret
   exact ⟨false, congrArg (fun b => Ending.returned (Value.bool b)) h4I, HB2.out, fun h => nomatch h⟩
end
section
open Go.RowKit Go.Shelf Go.Sort
/-- A row of numbers that the call made: it may be written. -/
def IntsO (w : World) (base : Nat) (v : Value) (l : List Int) : Prop := w.ownsRow base 2 1 v l.length (l.map (Value.int .i64))
theorem IntsO.nil (w : World) (base : Nat) : IntsO w base (.slice none 0 0) [] := World.ownsRow_nil _ _ _ _
theorem IntsO.form {w : World} {base : Nat} {v : Value} {l : List Int} (h : IntsO w base v l) : ∃ a cap, v = .slice a l.length cap := own_form h
theorem IntsO.base {w : World} {b b' : Nat} {v : Value} {l : List Int} (h : IntsO w b v l) (hb : b' ≤ b) : IntsO w b' v l := own_base h hb
theorem IntsO.below {w w' : World} {b : Nat} {v : Value} {l : List Int} (h : IntsO w b v l) (hb : Below w.heap.size w w') : IntsO w' b v l := own_below h hb
theorem IntsO.s {w : World} {base : Nat} {v : Value} {l : List Int} (h : IntsO w base v l) : IntsS w v l := by
 by_cases hn : l.length = 0
 ·have hl : l = [] := List.eq_nil_of_length_eq_zero hn
  subst hl
  rcases h.2 with ⟨rfl, _⟩ | ⟨g, cap, cur, rfl, _, _, h1, h2, _⟩
  ·exact ⟨none, 0, rfl, Nat.le_refl _, Nat.zero_le _, fun h => absurd h (Nat.lt_irrefl _)⟩
  ·exact ⟨_, cap, rfl, h1, h2, fun h => absurd h (Nat.lt_irrefl _)⟩
 ·obtain ⟨g, cap, rfl, _, h1, h2, h3, h4, _⟩ := own_cells h hn
  refine ⟨_, cap, rfl, h2, h3, fun _ => ⟨g, 0, rfl, h1, fun i x hi => ?_⟩⟩
  have hlt := (List.getElem?_eq_some_iff.1 hi).1
  rw [Nat.zero_add, h4 i (by omega), List.getElem?_map, hi]
  rfl
theorem Tryz.infoI64 : (Tryz.prog.info? 2).map (fun i => (i.zero, i.size, i.bytes)) = some (some (.int .i64 0), 1, 8) := by kernel_rfl
def ClonePost (l : List Int) (w : World) (e : Ending) (w' : World) : Prop := ∃ u, e = .returned u ∧ IntsO w' w.heap.size u l ∧ Below w.heap.size w w'
set_option maxHeartbeats 2000000 in
set_option maxRecDepth 100000 in
theorem clone_any (v : Value) (l : List Int) (w : World) (hv : IntsS w v l) (hl : l.length ≤ 1000000) :
  Calls Tryz.prog 23 #[v] w (ClonePost l w) := by
 obtain ⟨i0, hi, hz0, hz1, hz2⟩ := info_parts Tryz.infoI64
 obtain ⟨a, cap, rfl, hc1, hc2, hc3⟩ := hv
 have HC := Lib.hid hc3
 have HL := Lib.hid hl
 unfold maxLen at hc2
 cases a with
 | none =>
  have h0 : l.length = 0 := by
   rcases Nat.eq_zero_or_pos l.length with h | h
   ·exact h
   ·obtain ⟨g, o, he, _⟩ := hc3 h
    cases he
  have hl0 : l = [] := List.eq_nil_of_length_eq_zero h0
  subst hl0
  clear hc3
  have hnil : ∀ W, (binOp .eql 22 (.slice none 0 cap) (.slice none 0 0)).run Tryz.prog W = .ok (.bool true) W := fun W => Lib.run_eql_slice_nil W _ _ none 0 cap 0 0 Tryz.underlying22
  go_enter Tryz.func23, Tryz.ntmps23
  go_wp2_with fail
  go_ret
  exact ⟨_, rfl, IntsO.nil _ _, Below.refl _ _⟩
 | some ad =>
  clear hc3
  have HO : Hid ((w.alloc (.cells #[] 2)).ownsRow w.heap.size 2 1 (.slice (some ⟨w.heap.size, 0, none⟩) 0 0) 0 []) := Lib.hid (World.ownsRow_made w #[] 0 (Nat.le_refl _) (Nat.zero_le _) rfl)
  have HS : Hid (∀ (j : Nat) (u : Value), (l.map (Value.int .i64))[j]? = some u → (w.alloc (.cells #[] 2)).cell? (ad.add j) = some u) := Lib.hid fun j u hj => by
   have hlt := (List.getElem?_eq_some_iff.1 hj).1
   rw [List.length_map] at hlt
   obtain ⟨g, o, he, hg, hcell⟩ := HC.out (by omega)
   injection he with he
   subst he
   rw [Addr.add_lit]
   rw [List.getElem?_map] at hj
   obtain ⟨x, hx, rfl⟩ := Option.map_eq_some_iff.1 hj
   exact (((Below.refl _ w).alloc (Nat.le_refl _) (.cells #[] 2)).cell (p := ⟨g, _, none⟩) hg).trans (hcell j x hx)
  generalize hm : l.length = m at *
  have HM := Lib.hid hm
  clear hm hl
  have hnil : ∀ W, (binOp .eql 22 (.slice (some ad) m cap) (.slice none 0 0)).run Tryz.prog W = .ok (.bool false) W := fun W => Lib.run_eql_slice_nil W _ _ (some ad) m cap 0 0 Tryz.underlying22
  go_enter Tryz.func23, Tryz.ntmps23
  go_wp2_with (at_builtin; refine wpList_append_own _ rfl (.tmp 5) (.tmp 6) 22 rfl w.heap.size 2 i0 (.int .i64 0) 1 8 Tryz.underlying22 hi hz0 hz1 hz2 rfl (by decide) _ _ _ rfl HO.out ad m cap (l.map (Value.int .i64)) rfl (by rw [List.length_map, HM.out, Nat.mul_one]) HS.out (ints_oneCell _ _) (by have := HL.out; unfold maxLen; omega) (by have := HL.out; omega) (by simp) ?_)
  intro v' w2 hown hgrow _
  have hown : IntsO w2 w.heap.size v' l := by unfold IntsO; rw [HM.out]; simpa using hown
  have HOwn := Lib.hid hown
  have HB : Hid (Below w.heap.size w w2) := Lib.hid (((Below.refl _ w).alloc (Nat.le_refl _) _).grown hgrow (by simp) (by simp [Value.ownBlock]))
  clear hown hgrow
  go_wp2_with fail
  go_ret
  exact ⟨_, rfl, HOwn.out, HB.out⟩
/-- A list whose first and last i are exchanged. -/
def revP (l : List Int) (i : Nat) : List Int := (List.range l.length).map fun p => if p < i ∨ l.length - 1 - p < i then l.getD (l.length - 1 - p) 0 else l.getD p 0
theorem revP_len (l : List Int) (i : Nat) : (revP l i).length = l.length := by unfold revP; simp
theorem revP_get (l : List Int) (i p : Nat) (hp : p < l.length) : (revP l i)[p]? = some (if p < i ∨ l.length - 1 - p < i then l.getD (l.length - 1 - p) 0 else l.getD p 0) := by
 unfold revP
 rw [List.getElem?_map, List.getElem?_range hp]
 rfl
theorem revP_zero (l : List Int) : revP l 0 = l := by
 apply List.ext_getElem?
 intro p
 by_cases hp : p < l.length
 ·rw [revP_get l 0 p hp, if_neg (by omega), List.getD_eq_getElem?_getD, List.getElem?_eq_getElem hp]
  rfl
 ·rw [List.getElem?_eq_none (by rw [revP_len]; omega), List.getElem?_eq_none (by omega)]
theorem revP_end (l : List Int) (i : Nat) (h : l.length ≤ 2 * i + 1) : revP l i = l.reverse := by
 apply List.ext_getElem?
 intro p
 by_cases hp : p < l.length
 ·rw [revP_get l i p hp, List.getElem?_reverse hp]
  have e : ∀ q, q < l.length → some (l.getD q 0) = l[q]? := fun q hq => by rw [List.getD_eq_getElem?_getD, List.getElem?_eq_getElem hq]; rfl
  by_cases h2 : p < i ∨ l.length - 1 - p < i
  ·rw [if_pos h2, e _ (by omega)]
  ·rw [if_neg h2]
   have : l.length - 1 - p = p := by omega
   rw [this, e _ hp]
 ·rw [List.getElem?_eq_none (by rw [revP_len]; omega), List.getElem?_eq_none (by rw [List.length_reverse]; omega)]
theorem revP_step (l : List Int) (i j : Nat) (hj : j = l.length - 1 - i) (hi : i < l.length) : ((revP l i).set i (l.getD j 0)).set j (l.getD i 0) = revP l (i + 1) := by
 apply List.ext_getElem?
 intro p
 by_cases hp : p < l.length
 ·rw [List.getElem?_set, List.getElem?_set, List.length_set, revP_len, revP_get l (i + 1) p hp]
  by_cases h1 : j = p
  ·subst h1
   rw [if_pos rfl, if_pos hp, if_pos (.inr (by omega))]
   have : l.length - 1 - j = i := by omega
   rw [this]
  ·rw [if_neg h1]
   by_cases h2 : i = p
   ·subst h2
    rw [if_pos rfl, if_pos hp, if_pos (.inl (by omega)), hj]
   ·rw [if_neg h2, revP_get l i p hp]
    by_cases h3 : p < i ∨ l.length - 1 - p < i
    ·rw [if_pos h3, if_pos (by omega)]
    ·rw [if_neg h3, if_neg (by omega)]
 ·rw [List.getElem?_eq_none (by rw [List.length_set, List.length_set, revP_len]; omega), List.getElem?_eq_none (by rw [revP_len]; omega)]
def RevPost (base : Nat) (v : Value) (l : List Int) (w : World) (e : Ending) (w' : World) : Prop := e = .returned (.tuple #[]) ∧ IntsO w' base v l.reverse ∧ w.grownBy w' v.ownBlock
theorem map_set (l : List Int) (i : Nat) (x : Int) : (l.set i x).map (Value.int .i64) = (l.map (Value.int .i64)).set i (.int .i64 x) := List.map_set
set_option maxHeartbeats 4000000 in
set_option maxRecDepth 100000 in
theorem reverse_any (base : Nat) (v : Value) (l : List Int) (w : World) (hv : IntsO w base v l) (hl : l.length ≤ 1000000) :
  Calls Tryz.prog 62 #[v] w (RevPost base v l w) := by
 by_cases hn : l.length = 0
 ·have h0 : l = [] := List.eq_nil_of_length_eq_zero hn
  subst h0
  have HV := Lib.hid hv
  obtain ⟨a, cap, rfl⟩ := hv.form
  clear hv hn
  go_enter Tryz.func62, Tryz.ntmps62
  go_wp2_with fail
  go_loop [2, 3] (fun i j => i = .int .i64 0 ∧ j = .int .i64 (-1)) (fun _ _ => 0)
  case atStart => exact ⟨rfl, rfl⟩
  case round =>
   obtain ⟨rfl, rfl⟩ := hrel
   go_wp2_with fail
   go_end0
   exact ⟨rfl, HV.out, World.grownBy.refl _ _⟩
 ·obtain ⟨g, cap, rfl, hg1, hg2, hg3, hg4, _, _⟩ := own_cells hv hn
  have HV := Lib.hid hv
  obtain ⟨n, hnl⟩ : ∃ n, n = l.length := ⟨_, rfl⟩
  have HN := Lib.hid hnl
  rw [← hnl] at hl hn hg3 ⊢
  unfold maxLen at hg4
  have hn1 : 1 ≤ n := by omega
  clear hv hnl
  have j0 : wrap64 ((n : Int) - 1) = ((n - 1 : Nat) : Int) := by unfold wrap64; omega
  have j1 : IntKind.i64.wrap ((n : Int) - 1) = ((n - 1 : Nat) : Int) := by rw [IntKind.wrap_i64]; omega
  have j2 : (n : Int) - 1 = ((n - 1 : Nat) : Int) := by omega
  have HJ2 := Lib.hid j2
  clear j0 j1 j2
  go_enter Tryz.func62, Tryz.ntmps62
  go_wp2_with fail
  go_loopw [2, 3] (fun vi vj wr => ∃ (i : Nat) (j : Int), i ≤ n ∧ j = (n : Int) - 1 - i ∧ vi = .int .i64 i ∧ vj = .int .i64 j ∧ 2 * i ≤ n ∧ Hid (IntsO wr base (.slice (some ⟨g, 0, none⟩) n cap) (revP l i)) ∧ Hid (w.grownBy wr (some g))) (fun vi _ _ => n - (intOf vi).toNat)
  case atStart => exact ⟨0, (n : Int) - 1, Nat.zero_le _, by omega, rfl, by simp, by omega, Lib.hid (by rw [revP_zero, HN.out]; exact HV.out), Lib.hid (World.grownBy.refl _ _)⟩
  case round =>
   obtain ⟨i, j, hi, hj, rfl, rfl, h2, HO, HG⟩ := hrel
   by_cases hlt : (i : Int) < j
   ·obtain ⟨jn, rfl⟩ : ∃ jn : Nat, j = jn := ⟨j.toNat, by omega⟩
    have hij : i < jn := by omega
    have hjn : jn < n := by omega
    have o1 : wr.ownsRow base 2 1 (.slice (some ⟨g, 0, none⟩) n cap) n ((revP l i).map (Value.int .i64)) := by
     have := HO.out
     unfold IntsO at this
     rwa [revP_len, ← HN.out] at this
    have hcell := fun j hj => o1.cellAt j hj
    have c1 : wr.cell? ⟨g, i, none⟩ = some (.int .i64 (l.getD i 0)) := by
     rw [hcell i (by omega), List.getElem?_map, revP_get l i i (by have := HN.out; omega), if_neg (by have := HN.out; omega)]
     rfl
    have c2 : wr.cell? ⟨g, jn, none⟩ = some (.int .i64 (l.getD jn 0)) := by
     rw [hcell jn (by omega), List.getElem?_map, revP_get l i jn (by have := HN.out; omega), if_neg (by have := HN.out; omega)]
     rfl
    clear hcell
    generalize hx : l.getD i 0 = x at c1
    generalize hy : l.getD jn 0 = y at c2
    have HX := Lib.hid hx
    have HY := Lib.hid hy
    have HJ := Lib.hid hj
    have k0 : (0 : Int) ≤ i := by omega
    have k1 : (i : Int) < n := by omega
    have k2 : (0 : Int) ≤ jn := by omega
    have k3 : (jn : Int) < n := by omega
    have f1 : ∀ o, wr.frozen? ⟨g, o, none⟩ = false := fun o => o1.frozenAt o
    clear hx hy hj o1
    go_wp2_with fail
    go_region
    go_wp2_with fail
    have HNew : Hid (IntsO ((wr.drew.setCell ⟨g, i, none⟩ (.int .i64 y)).setCell ⟨g, jn, none⟩ (.int .i64 x)) base (.slice (some ⟨g, 0, none⟩) n cap) (revP l (i + 1)) ∧ wr.grownBy ((wr.drew.setCell ⟨g, i, none⟩ (.int .i64 y)).setCell ⟨g, jn, none⟩ (.int .i64 x)) (some g)) := by
     apply Lib.hid
     have o1 : wr.drew.ownsRow base 2 1 (.slice (some ⟨g, 0, none⟩) n cap) n ((revP l i).map (Value.int .i64)) := by
      have := HO.out
      unfold IntsO at this
      rw [revP_len, ← HN.out] at this
      exact this
     obtain ⟨o2, g2⟩ := o1.stored i (.int .i64 y)
     obtain ⟨o3, g3⟩ := o2.stored jn (.int .i64 x)
     refine ⟨?_, ?_⟩
     ·unfold IntsO
      rw [revP_len, ← HN.out, ← revP_step l i jn (by have := HN.out; have := HJ.out; omega) (by have := HN.out; omega), HX.out, HY.out, map_set, map_set]
      exact o3
     ·have g0 : wr.grownBy wr.drew (some g) := ⟨rfl, rfl, rfl, Nat.le_refl _, fun _ _ _ => rfl⟩
      exact (g0.trans g2).trans g3
    go_roundw
    case rel => exact ⟨i + 1, (jn : Int) - 1, by omega, by have := HJ.out; omega, by go_num, by first | rfl | go_num, by have := HJ.out; omega, Lib.hid HNew.out.1, Lib.hid (HG.out.trans HNew.out.2)⟩
    case measure => simp [intOf]; omega
   ·have HJ := Lib.hid hj
    clear hj
    go_wp2_with fail
    go_end0
    exact ⟨rfl, by have := HO.out; rw [revP_end l i (by have := HN.out; have := HJ.out; omega)] at this; exact this, HG.out⟩
end
end Go.Proofs.YtknnleiinhdklaaGreatDoor
