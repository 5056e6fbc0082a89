/-
  Walk of prim.Fold at + * min max, at an array that has a side. Condition: the value reads as an array; the sides that are left are an array's.
-/
import Derived.Test.YtknnleiinhdklaaGreatDoorPk34
namespace Go.Proofs.YtknnleiinhdklaaGreatDoor
open Go.RowKit Go.Shelf Go.Sort
theorem lanes_len {x : Arr} (hx : ArrOk x) (hs : x.sides ≠ []) (hn : 0 < lastN x.sides) : (lanesL x).length = prodN (x.sides.take (x.sides.length - 1)) ∧ ∀ (i : Nat) (l : List Int), (lanesL x)[i]? = some l → l.length = lastN x.sides := by
 have hr0 : 0 < x.sides.length := List.length_pos_iff.2 hs
 have hlast : x.sides[x.sides.length - 1]? = some (lastN x.sides) := by
  have e : x.sides[x.sides.length - 1]? = x.sides.reverse[0]? := by rw [List.getElem?_reverse hr0]; rfl
  rw [e]
  unfold lastN
  cases hr : x.sides.reverse with
  | nil =>
   have := congrArg List.length hr
   rw [List.length_reverse] at this
   simp only [List.length_nil] at this
   omega
  | cons a r => rfl
 have hp := prodN_take hlast
 rw [show x.sides.length - 1 + 1 = x.sides.length by omega, List.take_length, hx.all] at hp
 generalize prodN (x.sides.take (x.sides.length - 1)) = p at *
 unfold lanesL
 by_cases h0 : x.data = []
 ·rw [if_pos h0]
  rw [h0] at hp
  refine ⟨?_, fun i l hi => by simp at hi⟩
  rcases Nat.mul_eq_zero.1 hp.symm with h | h
  ·exact h.symm
  ·omega
 ·rw [if_neg h0]
  have hd : x.data.length / lastN x.sides = p := by rw [hp, Nat.mul_div_cancel _ hn]
  rw [hd]
  refine ⟨upF_len _ _, fun i l hi => ?_⟩
  have hlt := (List.getElem?_eq_some_iff.1 hi).1
  rw [upF_len] at hlt
  unfold upF at hi
  rw [List.getElem?_map, List.getElem?_range hlt] at hi
  injection hi with hi
  rw [← hi]
  unfold pieceL
  have : (i + 1) * lastN x.sides ≤ p * lastN x.sides := Nat.mul_le_mul_right _ hlt
  rw [Nat.succ_mul] at this
  rw [List.length_take, List.length_drop, hp]
  omega
theorem made_zero (n : Nat) : (madeCells #[Value.int .i64 0] n).toList = List.replicate n (Value.int .i64 0) := by
 apply List.ext_getElem
 ·simp [madeCells]
 ·intro i h1 h2
  simp only [madeCells, Array.toList_map, Array.toList_range, List.getElem_map, List.getElem_replicate, List.getElem_range]
  show (#[Value.int .i64 0] : Array Value)[i % 1]! = _
  rw [Nat.mod_one]
  rfl
set_option maxHeartbeats 8000000 in
set_option maxRecDepth 100000 in
theorem fold_any {f : Int} {op : Int → Int → Int} {u : Int} (hf : OpF f op u) (v : Value) (x : Arr) (w : World) (hv : ArrV w v x) (hx : ArrOk x) (h0 : x.sides ≠ []) (hk : SidesOk (x.sides.take (x.sides.length - 1))) :
  Calls Tryz.prog 40 #[.int .u8 f, v] w (PrimPost (foldA op u x) w) := by
 obtain ⟨i0, hi, hz0, hz1, hz2⟩ := info_parts Tryz.infoI64
 have HR := Lib.hid (fun W (hb : Below w.heap.size w W) => right_ok v x W (hv.below hb) hx)
 have HL := Lib.hid (fun W (hb : Below w.heap.size w W) => lanes_any v x W (hv.below hb) hx)
 have HT := Lib.hid (fun W => takes_op hf W)
 have HU := Lib.hid (fun W => unit_op hf W)
 have HF := Lib.hid hf
 have HY := Lib.hid (foldA_eq (op := op) u hx h0)
 obtain ⟨vs, vd, rfl, hs, hd⟩ := hv
 obtain ⟨a2, c2, rfl⟩ := hd.form
 have hr0 : 0 < x.sides.length := List.length_pos_iff.2 h0
 obtain ⟨gs, os, sc, rfl, hs1, hs2, hs3, hs4⟩ := hs.at_ (by rw [ofN_len]; exact hr0)
 have hst : IntsS w (.slice (some ⟨gs, os, none⟩) (x.sides.length - 1) sc) (ofN (x.sides.take (x.sides.length - 1))) := by
  have := hs.take (k := x.sides.length - 1) (by rw [ofN_len]; omega)
  unfold ofN at this ⊢
  rwa [← List.map_take] at this
 have HC := Lib.hid (fun W (hb : Below w.heap.size w W) => clone_any _ _ W (hst.below hb) (by rw [ofN_len, List.length_take]; have := hx.sides.len; omega))
 have HSz := Lib.hid (fun W vv (h : IntsS W vv (ofN (x.sides.take (x.sides.length - 1)))) => size_any vv _ W h hk)
 have hlast : (ofN x.sides)[x.sides.length - 1]? = some (lastN x.sides : Int) := by
  rw [ofN_get]
  unfold lastN
  have e : x.sides[x.sides.length - 1]? = x.sides.reverse[0]? := by rw [List.getElem?_reverse hr0]; rfl
  rw [e]
  cases hr : x.sides.reverse with
  | nil =>
   have := congrArg List.length hr
   rw [List.length_reverse] at this
   simp only [List.length_nil] at this
   omega
  | cons a r => rfl
 have HLast := Lib.hid (And.intro hs3 (hs4 _ _ hlast))
 have HX := Lib.hid hx
 have hr4 := hx.sides.len
 have HK := Lib.hid hk
 have hp6 := hk.all
 rw [ofN_len] at *
 obtain ⟨s, d⟩ := x
 dsimp only at *
 obtain ⟨r, hr⟩ : ∃ r, r = s.length := ⟨_, rfl⟩
 obtain ⟨n, hn⟩ : ∃ n, n = lastN s := ⟨_, rfl⟩
 obtain ⟨s7, hs7⟩ : ∃ s7, s7 = s.take (s.length - 1) := ⟨_, rfl⟩
 obtain ⟨p, hp⟩ : ∃ p, p = prodN s7 := ⟨_, rfl⟩
 obtain ⟨m, hm⟩ : ∃ m, m = d.length := ⟨_, rfl⟩
 have HV := Lib.hid (And.intro hr (And.intro hn (And.intro hs7 (And.intro hp hm))))
 rw [← hs7, ← hp] at HSz hp6
 rw [← hs7] at HC HK
 have hl7 : (ofN s7).length = r - 1 := by rw [ofN_len, hs7, List.length_take, hr]; omega
 have HL7 := Lib.hid hl7
 rw [← hr] at HC HR HL HLast hr0 hr4 hs1 ⊢
 rw [← hn] at HLast
 rw [← hm] at HR HL ⊢
 clear hr hn hs7 hp hm hl7 hst hs hd hs3 hs4 hk h0 hx hlast hf
 have HF0 := Lib.hid (F2.new w (.slice (some ⟨gs, os, none⟩) r sc) (.slice a2 m c2))
 have c0 := HF0.out.at0
 have c00 := HF0.out.at1
 have j0 : ((r : Int) == 0) = false := by rw [beq_eq_false_iff_ne]; omega
 have j1 : wrap64 ((r : Int) - 1) = ((r - 1 : Nat) : Int) := by unfold wrap64; omega
 have j2 : IntKind.i64.wrap ((r : Int) - 1) = ((r - 1 : Nat) : Int) := by rw [IntKind.wrap_i64]; omega
 have j3 : (r : Int) - 1 = ((r - 1 : Nat) : Int) := by omega
 have j4 : r - 1 ≤ sc := by omega
 go_enter Tryz.func40, Tryz.ntmps40
 go_wp2_with (first | (go_at_call 38; refine (HR.out _ HF0.out.bel).mono ?_; rintro _ w1 ⟨rfl, hb⟩; have HF1 := Lib.hid (HF0.out.next hb); have e0 := HF1.out.at0; have e1 := HF1.out.at1; clear hb c0 c00) | (go_at_call 65; refine (HT.out _).mono ?_; rintro _ _ ⟨rfl, rfl⟩) | (go_at_call 23; refine (HC.out _ HF1.out.bel).mono ?_; rintro _ w2 ⟨u2, rfl, hu, hb⟩; have HU2 := Lib.hid hu; have HF2 := Lib.hid (HF1.out.next hb); have hfm := hu.form; rw [HL7.out] at hfm; obtain ⟨a3, c3, rfl⟩ := hfm; clear hb hu e0 e1) | (go_at_call 57; refine (HSz.out _ _ HU2.out.s).mono ?_; rintro _ _ ⟨rfl, rfl⟩) | (go_at_call 67; refine (of_any f _).mono ?_; rintro _ w3 ⟨rfl, hp3, hb3⟩; have HP3 := Lib.hid hp3; have HB3 := Lib.hid hb3; clear hp3 hb3) | (at_make; refine wpList_make_full _ rfl _ _ 22 rfl w.heap.size 2 i0 (.int .i64 0) 1 Tryz.underlying22 hi hz0 hz1 _ _ _ _ p rfl rfl rfl rfl (by rw [hz2]; omega) (by unfold maxLen; omega) (HF2.out.next HB3.out).bel.size ?_))
 intro w4 hown hgrow
 have hb4 : Below w3.heap.size w3 w4 := (Below.refl _ _).grown hgrow (Nat.le_refl _) (by simp)
 have hF4 : FoldAt w w4 (.slice (some ⟨gs, os, none⟩) r sc) (.slice a2 m c2) f w2.heap.size w3.heap.size p (.slice a3 (r - 1) c3) (ofN s7) (List.replicate p 0) := by
  have h2 := HU2.out
  have h3 : IntsO w3 w.heap.size (.slice a3 (r - 1) c3) (ofN s7) := (h2.base HF1.out.bel.size).below HB3.out
  refine ⟨(HF2.out.next HB3.out).next hb4, HP3.out.kept (hb4.block _ (by have := HP3.out.lt; omega)) (hb4.block _ HP3.out.lt), h3.below hb4, fun e => ?_, ?_, List.length_replicate⟩
  ·have := (h3.lt _ e).2
   omega
  ·unfold IntsO
   rw [List.length_replicate, List.map_replicate]
   rw [made_zero] at hown
   exact hown
 have HF4 := Lib.hid hF4
 have e0 := hF4.f2.at0
 have e1 := hF4.f2.at1
 have HB4 := Lib.hid hb4
 have l1 := (hF4.f2.bel.cell (p := ⟨gs, _, none⟩) HLast.out.1).trans HLast.out.2
 have j5 : r - 1 < r := by omega
 have HS1 : Hid (w.heap.size ≤ w1.heap.size) := Lib.hid HF1.out.bel.size
 clear hown hgrow hb4 hF4 j0 HU2 HF2 HP3 HB3 HB4 HF1 HF0 HT HR HC HSz j1 j2 j4
 generalize w2.heap.size = pb at *
 generalize w3.heap.size = g at *
 have hg := HF4.out.glt
 have k1 : wrap64 ((r : Int) - 1) = ((r - 1 : Nat) : Int) := by unfold wrap64; omega
 have k2 : IntKind.i64.wrap ((r : Int) - 1) = ((r - 1 : Nat) : Int) := by rw [IntKind.wrap_i64]; omega
 by_cases hn0 : n = 0
 ·have q0 : ((n : Int) == 0) = true := by rw [beq_iff_eq]; omega
  go_wp2_with (go_at_call 68; refine (HU.out _).mono ?_; rintro _ _ ⟨rfl, rfl⟩)
  have HAns : Hid (foldA op u ⟨s, d⟩ = ⟨s7, List.replicate p u⟩) := Lib.hid (by
   obtain ⟨v1, v2, v3, v4, v5⟩ := HV.out
   rw [HY.out, ← v2, ← v3, ← v4, if_pos hn0])
  clear e0 e1 l1
  go_loopw [14, 78] (fun _ vi wr => ∃ k : Nat, k ≤ p ∧ vi = .int .i64 k ∧ Hid (FoldAt w wr (.slice (some ⟨gs, os, none⟩) r sc) (.slice a2 m c2) f pb g p (.slice a3 (r - 1) c3) (ofN s7) (List.replicate k u ++ List.replicate (p - k) 0))) (fun _ vi _ => p - (intOf vi).toNat)
  case atStart => exact ⟨0, Nat.zero_le _, rfl, HF4⟩
  case round =>
   obtain ⟨k, hkp, rfl, hF⟩ := hrel
   by_cases hlt : k < p
   ·have kI : (k : Int) < p := by omega
    have k0 : (0 : Int) ≤ k := by omega
    have cc := hF.out.get (i := k) (x := 0) (by rw [List.getElem?_append_right (by rw [List.length_replicate]; exact Nat.le_refl _), List.length_replicate, Nat.sub_self, List.getElem?_replicate, if_pos (by omega)])
    have ff := hF.out.froz
    have HLt := Lib.hid hlt
    have HN : Hid (FoldAt w (wr.setCell ⟨g, k, none⟩ (.int .i64 u)) (.slice (some ⟨gs, os, none⟩) r sc) (.slice a2 m c2) f pb g p (.slice a3 (r - 1) c3) (ofN s7) (List.replicate (k + 1) u ++ List.replicate (p - (k + 1)) 0)) := Lib.hid (by
     have := (hF.out.store k u).1
     rwa [set_mid List.length_replicate hlt, ← List.replicate_succ'] at this)
    go_wp2_with fail
    go_roundw
    case rel => exact ⟨k + 1, HLt.out, by go_num, HN⟩
    case measure => have := HLt.out; simp [intOf]; omega
   ·obtain rfl : k = p := by omega
    have kI : ¬ (k : Int) < k := by omega
    have hF2 := hF.out
    rw [Nat.sub_self, List.replicate_zero, List.append_nil] at hF2
    have HFw := Lib.hid hF2
    clear hF2 hF
    go_wp2_with (go_at_call 69; refine (done_op pb _ _ _ _ _ _ _ HFw.out.pa).mono ?_; rintro _ w6 ⟨rfl, hb⟩; have HF6 := Lib.hid (HFw.out.below hb); have g0 := HF6.out.f2.r0; have g1 := HF6.out.f2.r1; have gf := HF6.out.f2.rf; clear hb)
    obtain ⟨z0, z1, z2, z3⟩ := HF6.out.f2.done (.slice a3 (r - 1) c3) (.slice (some ⟨g, 0, none⟩) k k)
    refine bodyPost_ret (v := .tuple #[.agg #[.slice a3 (r - 1) c3, .slice (some ⟨g, 0, none⟩) k k], .int .i64 0]) (by simp [results, Tryz.results40, go_sem, z0, z1]) rfl ⟨_, rfl, ?_, z2⟩
    rw [HAns.out]
    exact ⟨_, _, rfl, HF6.out.sd.tag z3, HF6.out.out.tag z3⟩
 ·have q0 : ((n : Int) == 0) = false := by rw [beq_eq_false_iff_ne]; omega
  have HLn : Hid ((lanesL ⟨s, d⟩).length = p ∧ ∀ (i : Nat) (l : List Int), (lanesL ⟨s, d⟩)[i]? = some l → l.length = n) := Lib.hid (by
   obtain ⟨v1, v2, v3, v4, v5⟩ := HV.out
   have := lanes_len HX.out (by intro e; rw [v1] at hr0; simp only at e; rw [e] at hr0; exact absurd hr0 (by decide)) (by show 0 < lastN s; omega)
   rw [v4, v3, v2]
   exact this)
  have HAns : Hid (foldA op u ⟨s, d⟩ = ⟨s7, (lanesL ⟨s, d⟩).map (tot op)⟩) := Lib.hid (by
   obtain ⟨v1, v2, v3, v4, v5⟩ := HV.out
   rw [HY.out, ← v2, ← v3, ← v4, if_neg hn0])
  go_wp2_with (go_at_call 61; refine (HL.out _ HF4.out.f2.bel).mono ?_; rintro _ w5 ⟨u5, rfl, hu, hb⟩; have HU5 := Lib.hid hu; have HF5 := Lib.hid (HF4.out.below hb); have hfm := hu.form; rw [HLn.out.1] at hfm; obtain ⟨a5, c5, rfl⟩ := hfm; clear hb hu e0 e1 l1)
  obtain ⟨ls, hls⟩ : ∃ ls, ls = lanesL ⟨s, d⟩ := ⟨_, rfl⟩
  rw [← hls] at HU5 HLn HAns
  clear hls HY HL HU
  go_loopw [17, 18, 20, 99] (fun _ _ _ vi wr => ∃ k : Nat, k ≤ p ∧ vi = .int .i64 k ∧ Hid (FoldAt w wr (.slice (some ⟨gs, os, none⟩) r sc) (.slice a2 m c2) f pb g p (.slice a3 (r - 1) c3) (ofN s7) ((ls.take k).map (tot op) ++ List.replicate (p - k) 0)) ∧ Hid (LanesS wr w4.heap.size (.slice a5 p c5) ls)) (fun _ _ _ vi _ => p - (intOf vi).toNat)
  case atStart => exact ⟨0, Nat.zero_le _, rfl, HF5, HU5⟩
  case round =>
   obtain ⟨k, hkp, rfl, hF, hLn⟩ := hrel
   by_cases hlt : k < p
   ·obtain ⟨l, hl⟩ : ∃ l, ls[k]? = some l := ⟨ls[k]'(by have := HLn.out.1; omega), List.getElem?_eq_getElem _⟩
    have hll := HLn.out.2 k l hl
    obtain ⟨x0, t, rfl⟩ : ∃ x0 t, l = x0 :: t := by
     cases l with
     | nil => simp at hll; omega
     | cons a b => exact ⟨a, b, rfl⟩
    obtain ⟨vs5, hv1, hv2, _⟩ := hLn.out
    obtain ⟨u, hu, hu2⟩ := hv2 k _ hl
    obtain ⟨gk, ck, rfl, hgk1, hgk2, hgk3, hgk4, hgk5, _⟩ := own_cells hu2 (by simp)
    obtain ⟨g5, c5', he5, hg51, hg52, hg53, hg54, hg55, _⟩ := own_cells hv1 (by have := HLn.out.1; omega)
    injection he5 with he5 he6 he7
    subst he5
    subst he7
    have d1 : wr.cell? ⟨g5, k, none⟩ = _ := (hg55 k (by have := HLn.out.1; omega)).trans hu
    have d2 : wr.cell? ⟨gk, 0, none⟩ = some (.int .i64 x0) := hgk5 0 (by simp)
    rw [hll] at d1
    have hdl : ((ls.take k).map (tot op)).length = k := by rw [List.length_map, List.length_take]; have := HLn.out.1; omega
    have cc := hF.out.get (i := k) (x := 0) (by rw [List.getElem?_append_right (by omega), hdl, Nat.sub_self, List.getElem?_replicate, if_pos (by omega)])
    have ff := hF.out.froz
    have hn1 : 1 ≤ n := by omega
    have hnc : n ≤ ck := by omega
    unfold maxLen at hgk4
    have HT : Hid (t.length + 1 = n ∧ ls[k]? = some (x0 :: t)) := Lib.hid ⟨hll, hl⟩
    have HGk : Hid (w4.heap.size ≤ gk ∧ gk < wr.heap.size ∧ ∀ j, j < n → wr.cell? ⟨gk, j, none⟩ = ((x0 :: t).map (Value.int .i64))[j]?) := Lib.hid ⟨hgk1, hgk2, fun j hj => hgk5 j (by omega)⟩
    have HD := Lib.hid hdl
    clear hl hll hv1 hv2 hu hu2 hgk1 hgk2 hgk3 hgk5 hg51 hg52 hg53 hg54 hg55 he6 hdl
    have kI : (k : Int) < p := by omega
    have k0 : (0 : Int) ≤ k := by omega
    have n0 : (0 : Int) < n := by omega
    have n1 : (1 : Int) ≤ n := by omega
    obtain ⟨wo, rfl⟩ : ∃ W : World, W = wr := ⟨_, rfl⟩
    have hFo := hF
    have hLo := hLn
    have HLt := Lib.hid hlt
    have gw4 : g < w4.heap.size := hg.2
    clear hF hLn hlt
    go_wp2_with fail
    ·have HO1 := Lib.hid (hFo.out.store k x0)
     have hs1' := set_mid HD.out HLt.out x0
     rw [hs1'] at HO1
     clear hs1' cc ff d1 d2 kI k0 n0 n1
     go_loopw [20, 113] (fun _ vi wr => ∃ j : Nat, j ≤ n - 1 ∧ vi = .int .i64 j ∧ Hid (FoldAt w wr (.slice (some ⟨gs, os, none⟩) r sc) (.slice a2 m c2) f pb g p (.slice a3 (r - 1) c3) (ofN s7) ((((ls.take k).map (tot op)) ++ [(t.take j).foldl op x0]) ++ List.replicate (p - (k + 1)) 0)) ∧ Hid (wo.grownBy wr (some g))) (fun _ vi _ => n - 1 - (intOf vi).toNat)
     case atStart => exact ⟨0, Nat.zero_le _, rfl, Lib.hid HO1.out.1, Lib.hid HO1.out.2⟩
     case round =>
      obtain ⟨j, hj, rfl, hF2, hG2⟩ := hrel
      by_cases hlt2 : j < n - 1
      ·exfalso; omega
      ·obtain rfl : j = n - 1 := by omega
       have jI : ¬ ((n - 1 : Nat) : Int) < ((n - 1 : Nat) : Int) := by omega
       have jI2 : ¬ ((n - 1 : Nat) : Int) < (n : Int) - 1 := by omega
       have HE : Hid (FoldAt w wr (.slice (some ⟨gs, os, none⟩) r sc) (.slice a2 m c2) f pb g p (.slice a3 (r - 1) c3) (ofN s7) ((ls.take (k + 1)).map (tot op) ++ List.replicate (p - (k + 1)) 0)) := Lib.hid (by
        have h := hF2.out
        rw [show t.take (n - 1) = t from List.take_of_length_le (by have := HT.out.1; omega)] at h
        rw [List.take_add_one, HT.out.2, Option.toList_some, List.map_append]
        exact h)
       have HLn2 := Lib.hid (hLo.out.past hG2.out (by omega))
       clear hF2 hG2
       go_wp2_with fail
       go_roundw
       case rel => exact ⟨k + 1, HLt.out, by go_num, HE, HLn2⟩
       case measure => have := HLt.out; simp [intOf]; omega
    ·have HO1 := Lib.hid (hFo.out.store k x0)
     have hs1' := set_mid HD.out HLt.out x0
     rw [hs1'] at HO1
     clear hs1' cc ff d1 d2 kI k0 n0 n1
     go_loopw [20, 113] (fun _ vi wr => ∃ j : Nat, j ≤ n - 1 ∧ vi = .int .i64 j ∧ Hid (FoldAt w wr (.slice (some ⟨gs, os, none⟩) r sc) (.slice a2 m c2) f pb g p (.slice a3 (r - 1) c3) (ofN s7) ((((ls.take k).map (tot op)) ++ [(t.take j).foldl op x0]) ++ List.replicate (p - (k + 1)) 0)) ∧ Hid (wo.grownBy wr (some g))) (fun _ vi _ => n - 1 - (intOf vi).toNat)
     case atStart => exact ⟨0, Nat.zero_le _, rfl, Lib.hid HO1.out.1, Lib.hid HO1.out.2⟩
     case round =>
      obtain ⟨j, hj, rfl, hF2, hG2⟩ := hrel
      by_cases hlt2 : j < n - 1
      ·obtain ⟨y, hy⟩ : ∃ y, t[j]? = some y := ⟨t[j]'(by have := HT.out.1; omega), List.getElem?_eq_getElem _⟩
       have x1 := hF2.out.get (i := k) (x := (t.take j).foldl op x0) (by rw [List.getElem?_append_left (by rw [List.length_append, HD.out]; simp), List.getElem?_append_right (by rw [HD.out]; exact Nat.le_refl _), HD.out, Nat.sub_self]; rfl)
       have x2 : wr.cell? ⟨gk, j + 1, none⟩ = some (.int .i64 y) := by
        have h1 := HGk.out.2.2 (j + 1) (by omega)
        rw [List.map_cons, List.getElem?_cons_succ, List.getElem?_map, hy] at h1
        exact (World.cell?_of_block (a := ⟨gk, j + 1, none⟩) (hG2.out.block gk HGk.out.2.1 (by intro e; injection e with e; have := HGk.out.1; omega))).trans h1
       have x2' : wr.cell? ⟨gk, 1 + j, none⟩ = some (.int .i64 y) := by rw [Nat.add_comm]; exact x2
       have x3 := hF2.out.froz
       have HFS : Hid (t.foldl op x0 = t.foldl op x0 ∧ (t.take (j + 1)).foldl op x0 = op ((t.take j).foldl op x0) y) := Lib.hid ⟨rfl, by rw [List.take_add_one, hy, Option.toList_some, List.foldl_append]; rfl⟩
       have HSt := Lib.hid (hF2.out.store k (op ((t.take j).foldl op x0) y))
       rw [set_acc HD.out] at HSt
       have HC2 := Lib.hid (call_op HF.out ((t.take j).foldl op x0) y pb wr hF2.out.pa)
       generalize (t.take j).foldl op x0 = acc at *
       have jI : (j : Int) < ((n - 1 : Nat) : Int) := by omega
       have jI2 : (j : Int) < (n : Int) - 1 := by omega
       have kI : (k : Int) < p := by have := HLt.out; omega
       have k0 : (0 : Int) ≤ k := by omega
       have j0 : (0 : Int) ≤ j := by omega
       have HLt2 := Lib.hid hlt2
       clear hlt2 hy hF2
       go_wp2_with (go_at_call 70; refine HC2.out.mono ?_; rintro _ _ ⟨rfl, rfl⟩)
       go_roundw
       case rel => exact ⟨j + 1, by have := HLt2.out; omega, by go_num, Lib.hid (by rw [HFS.out.2]; exact HSt.out.1), Lib.hid (hG2.out.trans HSt.out.2)⟩
       case measure => have := HLt2.out; simp [intOf]; omega
      ·obtain rfl : j = n - 1 := by omega
       have jI : ¬ ((n - 1 : Nat) : Int) < ((n - 1 : Nat) : Int) := by omega
       have jI2 : ¬ ((n - 1 : Nat) : Int) < (n : Int) - 1 := by omega
       have HE : Hid (FoldAt w wr (.slice (some ⟨gs, os, none⟩) r sc) (.slice a2 m c2) f pb g p (.slice a3 (r - 1) c3) (ofN s7) ((ls.take (k + 1)).map (tot op) ++ List.replicate (p - (k + 1)) 0)) := Lib.hid (by
        have h := hF2.out
        rw [show t.take (n - 1) = t from List.take_of_length_le (by have := HT.out.1; omega)] at h
        rw [List.take_add_one, HT.out.2, Option.toList_some, List.map_append]
        exact h)
       have HLn2 := Lib.hid (hLo.out.past hG2.out (by omega))
       clear hF2 hG2
       go_wp2_with fail
       go_roundw
       case rel => exact ⟨k + 1, HLt.out, by go_num, HE, HLn2⟩
       case measure => have := HLt.out; simp [intOf]; omega
   ·obtain rfl : k = p := by omega
    have kI : ¬ (k : Int) < k := by omega
    have hF2 := hF.out
    rw [Nat.sub_self, List.replicate_zero, List.append_nil, List.take_of_length_le (by rw [HLn.out.1]; exact Nat.le_refl _)] at hF2
    have HFw := Lib.hid hF2
    clear hF2 hF hLn
    go_wp2_with (go_at_call 69; refine (done_op pb _ _ _ _ _ _ _ HFw.out.pa).mono ?_; rintro _ w6 ⟨rfl, hb⟩; have HF6 := Lib.hid (HFw.out.below hb); have g0 := HF6.out.f2.r0; have g1 := HF6.out.f2.r1; have gf := HF6.out.f2.rf; clear hb)
    obtain ⟨z0, z1, z2, z3⟩ := HF6.out.f2.done (.slice a3 (r - 1) c3) (.slice (some ⟨g, 0, none⟩) k k)
    refine bodyPost_ret (v := .tuple #[.agg #[.slice a3 (r - 1) c3, .slice (some ⟨g, 0, none⟩) k k], .int .i64 0]) (by simp [results, Tryz.results40, go_sem, z0, z1]) rfl ⟨_, rfl, ?_, z2⟩
    rw [HAns.out]
    exact ⟨_, _, rfl, HF6.out.sd.tag z3, HF6.out.out.tag z3⟩
end Go.Proofs.YtknnleiinhdklaaGreatDoor
