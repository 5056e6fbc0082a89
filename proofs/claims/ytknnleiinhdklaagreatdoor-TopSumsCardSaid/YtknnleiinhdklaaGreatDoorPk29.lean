/-
  Walk of array.Place; plain laws of places and indices, side by side. Condition: the slices read as lists, the index lies in the sides.   slices.Backward over numbers: its closure's contract; walk of array.Index. Condition: the slice reads as a list, the place lies in the sides.   slices.Chunk over numbers: its closure's contract. Condition: the slice's length is a multiple of the pieces'.   Of no program: a region that draws its order, in a round of a range over a function: by what holds when so many operations are done. No condition.
-/
import Derived.RangeFuncNested
import Derived.RangeFuncBound
import Derived.RangeFuncCalls
import Derived.RangeFuncLeaves
import Derived.RangeFuncBox
import Derived.Shelf.Abstract
import Derived.Shelf.RegionOpen
import Derived.WalkKit
import Derived.OwnWalkIn
import Derived.TacticsInMore
import Derived.LoopNIn
import Derived.LoopIn
import Derived.BigRegionIn
import Derived.OrdersIn
import Derived.RegionIn
import Derived.Test.YtknnleiinhdklaaGreatDoorPk28
namespace Go.Proofs.YtknnleiinhdklaaGreatDoor
section
open Go.RowKit Go.Shelf Go.Sort
theorem in_take : ∀ (r ks : List Nat) (i : Nat), inR r ks → inR (r.take i) (ks.take i)
 | [], [], i, _ => by simp [inR]
 | s :: r, k :: ks, 0, _ => trivial
 | s :: r, k :: ks, i + 1, h => ⟨h.1, in_take r ks i h.2⟩
 | [], _ :: _, _, h => h.elim
 | _ :: _, [], _, h => h.elim
theorem in_get : ∀ (r ks : List Nat) (i x k : Nat), inR r ks → r[i]? = some x → ks[i]? = some k → k < x
 | s :: r, k0 :: ks, 0, x, k, h, h1, h2 => by
  simp only [List.getElem?_cons_zero, Option.some.injEq] at h1 h2
  subst h1
  subst h2
  exact h.1
 | s :: r, k0 :: ks, i + 1, x, k, h, h1, h2 => in_get r ks i x k h.2 (by simpa using h1) (by simpa using h2)
 | [], _, _, _, _, _, h1, _ => by simp at h1
 | _ :: _, [], _, _, _, h, _, _ => h.elim
theorem in_pos {r ks : List Nat} (h : inR r ks) : ∀ x ∈ r, 0 < x := by
 intro x hx
 obtain ⟨i, hi, rfl⟩ := List.mem_iff_getElem.1 hx
 have hl := in_len r ks h
 have := in_get r ks i r[i] (ks[i]'(by omega)) h (List.getElem?_eq_getElem hi) (List.getElem?_eq_getElem _)
 omega
/-- The place when so many have been looked at. -/
def plcN (s ks : List Nat) (i : Nat) : Nat := plcR (s.take i).reverse (ks.take i).reverse
theorem plcN_step {s ks : List Nat} {i x k : Nat} (hx : s[i]? = some x) (hk : ks[i]? = some k) : plcN s ks (i + 1) = plcN s ks i * x + k := by
 unfold plcN
 rw [List.take_add_one, List.take_add_one, hx, hk, Option.toList_some, Option.toList_some, List.reverse_append, List.reverse_append]
 rfl
theorem plcN_lt {s ks : List Nat} (h : inR s ks) (i : Nat) : plcN s ks i < prodN s := by
 have h1 := plc_lt _ _ (in_reverse _ _ (in_take s ks i h))
 rw [prodR_reverse, ← prodN_R] at h1
 exact Nat.lt_of_lt_of_le h1 (prodN_le (in_pos h) i)
theorem plc_in {p x k q b : Nat} (h : q = p * x + k) (hq : q < b) (hb : b ≤ 65536) : wrap64 ((p : Int) * (x : Int) + (k : Int)) = (q : Int) ∧ IntKind.i64.wrap (IntKind.i64.wrap ((p : Int) * (x : Int)) + (k : Int)) = (q : Int) ∧ wrap64 ((p : Int) * (x : Int)) = (((p * x : Nat) : Nat) : Int) ∧ IntKind.i64.wrap ((p : Int) * (x : Int)) = (((p * x : Nat) : Nat) : Int) := by
 have e : (p : Int) * (x : Int) = ((p * x : Nat) : Int) := (Int.natCast_mul p x).symm
 have hle : p * x ≤ 65536 := by omega
 rw [e]
 generalize p * x = m at *
 refine ⟨by unfold wrap64; omega, by rw [IntKind.wrap_i64, IntKind.wrap_i64]; omega, by unfold wrap64; omega, by rw [IntKind.wrap_i64]; omega⟩
set_option maxHeartbeats 4000000 in
set_option maxRecDepth 100000 in
theorem place_any (vs vk : Value) (s ks : List Nat) (w : World) (hs : IntsS w vs (ofN s)) (hk : IntsS w vk (ofN ks)) (hok : SidesOk s) (hin : inR s ks) :
  Calls Tryz.prog 89 #[vs, vk] w fun e w' => e = .returned (.tuple #[.int .i64 (plcN s ks s.length), .int .i64 0]) ∧ w = w' := by
 have HS := Lib.hid (size_any vs s w hs hok)
 obtain ⟨m, hm⟩ : ∃ m, m = s.length := ⟨_, rfl⟩
 have HM := Lib.hid hm
 have hkl := in_len s ks hin
 have HKl := Lib.hid hkl
 obtain ⟨a1, c1, rfl, ha1, ha2, ha3⟩ := hs
 obtain ⟨a2, c2, rfl, hb1, hb2, hb3⟩ := hk
 have H1 := Lib.hid ha3
 have H2 := Lib.hid hb3
 have HIn := Lib.hid hin
 have hm4 : m ≤ 4 := by have := hok.len; omega
 have HAll := Lib.hid hok.all
 unfold maxLen at ha2 hb2
 rw [ofN_len, ← hm] at ha1 HS ⊢
 rw [ofN_len, hkl, ← hm] at hb1 ⊢
 clear hm hkl ha3 hb3 hin hok
 have i0 : ((m : Int) != m) = false := by rw [bne_eq_false_iff_eq]
 go_enter Tryz.func89, Tryz.ntmps89
 go_wp2_with (go_at_call 57; refine HS.out.mono ?_; rintro _ _ ⟨rfl, rfl⟩)
 clear i0
 go_loop [8, 9, 10, 26] (fun n _ _ i => ∃ k : Nat, k ≤ m ∧ i = .int .i64 k ∧ n = .int .i64 (plcN s ks k)) (fun _ _ _ i => m - (intOf i).toNat)
 case atStart => exact ⟨0, Nat.zero_le _, rfl, rfl⟩
 case round =>
  obtain ⟨i, hi, rfl, rfl⟩ := hrel
  by_cases hlt : i < m
  ·obtain ⟨x, hx⟩ : ∃ x, s[i]? = some x := ⟨s[i]'(by have := HM.out; omega), List.getElem?_eq_getElem _⟩
   obtain ⟨k, hk⟩ : ∃ k, ks[i]? = some k := ⟨ks[i]'(by have := HM.out; have := HKl.out; omega), List.getElem?_eq_getElem _⟩
   obtain ⟨g1, o1, rfl, hg1, hc1⟩ := H1.out (by rw [ofN_len]; have := HM.out; omega)
   obtain ⟨g2, o2, rfl, hg2, hc2⟩ := H2.out (by rw [ofN_len]; have := HM.out; have := HKl.out; omega)
   have d1 := hc1 i x (by rw [ofN_get, hx]; rfl)
   have d2 := hc2 i k (by rw [ofN_get, hk]; rfl)
   have kx := in_get s ks i x k HIn.out hx hk
   have hp := plcN_step hx hk
   have hq := plcN_lt HIn.out (i + 1)
   have kI : (i : Int) < m := by omega
   have k0 : (0 : Int) ≤ i := by omega
   have hneg : decide ((k : Int) < 0) = false := by rw [decide_eq_false_iff_not]; omega
   have hneg2 : ¬ (k : Int) < 0 := by omega
   have hge : decide ((x : Int) ≤ (k : Int)) = false := by rw [decide_eq_false_iff_not]; omega
   have hge2 : decide (x ≤ k) = false := by rw [decide_eq_false_iff_not]; omega
   have HLt := Lib.hid hlt
   obtain ⟨q, hqe⟩ : ∃ q, q = plcN s ks (i + 1) := ⟨_, rfl⟩
   obtain ⟨p, hpe⟩ : ∃ p, p = plcN s ks i := ⟨_, rfl⟩
   rw [← hqe] at hp hq
   rw [← hpe] at hp ⊢
   obtain ⟨t1, t2, t3, t4⟩ := plc_in hp hq HAll.out
   have HQ := Lib.hid hqe
   have HT := Lib.hid t1
   clear t1 hqe hpe hp hq hx hk hc1 hc2 kx
   go_wp2_with fail
   go_round
   case rel => exact ⟨i + 1, HLt.out, by go_num, by rw [← HQ.out, HT.out]⟩
   case measure => have := HLt.out; simp [intOf]; omega
  ·obtain rfl : i = m := by omega
   have kI : ¬ (i : Int) < i := by omega
   go_wp2_with fail
   refine bodyPost_ret (v := .tuple #[.int .i64 (plcN s ks i), .int .i64 0]) (by simp [results, Tryz.results89, go_sem]) rfl ⟨rfl, rfl⟩
end
section
open Go.RowKit Go.Shelf Go.Sort
attribute [local go_sem] Oper.semAt_some
/-- Some blocks lie as they lay. -/
def KpB (S : Nat → Prop) (W W' : World) : Prop := ∀ b, S b → W'.heap[b]? = W.heap[b]?
theorem KpB.refl (S : Nat → Prop) (W : World) : KpB S W W := fun _ _ => rfl
theorem KpB.trans {S : Nat → Prop} {A B C : World} (h : KpB S A B) (k : KpB S B C) : KpB S A C := fun b hb => (k b hb).trans (h b hb)
theorem KpB.cell {S : Nat → Prop} {A B : World} (h : KpB S A B) {b o : Nat} (hb : S b) : B.cell? ⟨b, o, none⟩ = A.cell? ⟨b, o, none⟩ := World.cell?_of_block (a := ⟨b, o, none⟩) (h b hb)
def upF {α : Type} (f : Nat → α) (k : Nat) : List α := (List.range k).map f
theorem upF_succ {α : Type} (f : Nat → α) (k : Nat) : upF f (k + 1) = upF f k ++ [f k] := by simp [upF, List.range_succ]
theorem upF_len {α : Type} (f : Nat → α) (k : Nat) : (upF f k).length = k := by simp [upF]
/-- What Backward hands out in a round: a place of the slice, and the number there. -/
def BackI (m : Nat) : Type := { p : Nat × Int // p.1 < m }
def backF (zs : List Int) (k : Nat) : Nat × Int := (zs.length - 1 - k, zs.getD (zs.length - 1 - k) 0)
def encB {m : Nat} (x : BackI m) : Array Value := #[.int .i64 (x.1.1 : Int), .int .i64 x.1.2]
def BackS (zs : List Int) {m : Nat} (k : Nat) (pre : List (BackI m)) : Prop := pre.map (·.1) = upF (backF zs) k
set_option maxRecDepth 100000 in
set_option maxHeartbeats 2000000 in
theorem back1_in (F : Fence) (n : Nat) (h7 : F.fn 120) (hro : F.round = none) (hn : 1 ≤ n) (l Bs : Nat) (S : Nat → Prop) (a : Option Addr) (cap m : Nat) (zs : List Int) (hm : zs.length = m) (hm1 : m ≤ 1000000) (hS : S Bs) (J Jx : List (BackI m) → World → Prop)
  (hY : ∀ pre x W, J pre W → pre.length < m → YieldAt F (n - 1) Tryz.prog l (encB x) W fun e W' =>
   (e = .returned (.bool true) ∧ J (pre ++ [x]) W' ∧ KpB S W W') ∨ (e = .returned (.bool false) ∧ Jx (pre ++ [x]) W'))
  (W : World) (hBs : W.cell? ⟨Bs, 0, none⟩ = some (.slice a m cap)) (hmc : m ≤ cap)
  (hc : 0 < m → ∃ g o, a = some ⟨g, o, none⟩ ∧ S g ∧ ∀ (i : Nat) (x : Int), zs[i]? = some x → W.cell? ⟨g, o + i, none⟩ = some (.int .i64 x)) (h0 : J [] W) :
  CallsIn F n Tryz.prog 120 #[.func (.yield l) #[] #[], .pointer (some ⟨Bs, 0, none⟩)] W fun e W' => (∃ v, e = .returned v) ∧
   ((∃ ys, BackS zs m ys ∧ J ys W') ∨ (∃ pre, (∃ k, k ≤ m ∧ BackS zs k pre) ∧ Jx pre W')) := by
 have HC := Lib.hid hc
 have HM := Lib.hid hm
 clear hc hm
 refine callsIn_of_wp Tryz.func120 rfl h7 ?_ hro
 simp only [Tryz.ntmps120, List.size_toArray, List.length_cons, List.length_nil, Nat.reduceAdd, Nat.reduceSub, Array.replicate_succ, Array.replicate_zero, List.push_toArray, List.append_toArray, List.nil_append, List.cons_append]
 gi_wp2
 gi_loopw [3] (fun i wr => ∃ (k : Nat) (j : Int) (pre : List (BackI m)), k ≤ m ∧ j = (m : Int) - 1 - k ∧ i = .int .i64 j ∧ Hid (BackS zs k pre) ∧ J pre wr ∧ Hid (KpB S W wr))
  (fun i _ => (intOf i + 1).toNat)
 case atStart => exact ⟨0, (m : Int) - 1, [], Nat.zero_le _, by omega, by simp, Lib.hid rfl, h0, Lib.hid (KpB.refl _ _)⟩
 case round =>
  obtain ⟨k, j, pre, hk, hj, rfl, hpre, hJs, hKp⟩ := hrel
  have hcB : wr.cell? ⟨Bs, 0, none⟩ = some (.slice a m cap) := (hKp.out.cell hS).trans hBs
  by_cases hlt : k < m
  ·obtain ⟨jn, rfl⟩ : ∃ jn : Nat, j = jn := ⟨j.toNat, by omega⟩
   have hjn : jn = m - 1 - k := by omega
   obtain ⟨x, hx⟩ : ∃ x, zs[jn]? = some x := ⟨zs[jn]'(by have := HM.out; omega), List.getElem?_eq_getElem _⟩
   obtain ⟨g, o, rfl, hg, hcell⟩ := HC.out (by omega)
   have d1 := (hKp.out.cell hg).trans (hcell jn x hx)
   have j0 : (0 : Int) ≤ jn := by omega
   have jm : (jn : Int) < m := by omega
   have hbf : backF zs k = (jn, x) := by
    unfold backF
    have e1 : zs.length - 1 - k = jn := by rw [HM.out]; exact hjn.symm
    rw [e1, List.getD_eq_getElem?_getD, hx]
    rfl
   have HJn := Lib.hid hjn
   have hjm : jn < m := by omega
   obtain ⟨X, hX⟩ : ∃ X : BackI m, X.1 = (jn, x) := ⟨⟨(jn, x), hjm⟩, rfl⟩
   have henc : encB X = #[.int .i64 (jn : Int), .int .i64 x] := by unfold encB; rw [hX]
   have hpl : pre.length < m := by
    have := congrArg List.length hpre.out
    rw [List.length_map, upF_len] at this
    omega
   have HPre : Hid (BackS zs (k + 1) (pre ++ [X])) := Lib.hid (by
    unfold BackS
    rw [List.map_append, upF_succ, hbf, hpre.out, List.map_singleton, hX])
   have hYX := hY pre X wr hJs hpl
   rw [henc] at hYX
   obtain ⟨fn, tmps, assign, body, hy, hR⟩ := hYX
   clear hcell hx hbf hj hjn hpl henc hX
   gi_wp2
   refine hR.mono ?_
   rintro e W3 (⟨rfl, hJ3, hk3⟩ | ⟨rfl, hJx3⟩)
   ·gi_wp2
    go_roundw
    case rel => exact ⟨k + 1, (jn : Int) - 1, _, by omega, by have := HJn.out; omega, by simp, HPre, hJ3, Lib.hid (hKp.out.trans hk3)⟩
    case measure => simp [intOf]
   ·gi_wp2
    refine bodyPost_ret (results_none rfl _ _ _) rfl ?_
    exact ⟨⟨_, rfl⟩, .inr ⟨_, ⟨k + 1, by omega, HPre.out⟩, hJx3⟩⟩
  ·obtain rfl : k = m := by omega
   have j0 : j < 0 := by omega
   gi_wp2
   go_end0
   exact ⟨⟨_, rfl⟩, .inl ⟨_, hpre.out, hJs⟩⟩
set_option maxHeartbeats 1000000 in
theorem back_in (F : Fence) (n : Nat) (h5 : F.fn 104) (hro : F.round = none) (a : Option Addr) (len cap : Nat) (w : World) :
  CallsIn F n Tryz.prog 104 #[.slice a len cap] w fun e w' => e = .returned (.func (.func 120) #[] #[.pointer (some ⟨w.heap.size, 0, none⟩)]) ∧ w' = w.alloc (.cells #[.slice a len cap] 22) := by
 refine callsIn_of_wp Tryz.func104 rfl h5 ?_ hro
 simp only [Tryz.ntmps104, List.size_toArray, List.length_cons, List.length_nil, Nat.reduceAdd, Nat.reduceSub, Array.replicate_succ, Array.replicate_zero, List.push_toArray, List.append_toArray, List.nil_append, List.cons_append]
 gi_wp2
 go_ret
 exact ⟨rfl, rfl⟩
end
section
open Go.RowKit Go.Shelf Go.Sort
attribute [local go_sem] Oper.semAt_some
/-- A piece: where it begins, how long it is. -/
def ChkI (m : Nat) : Type := { p : Nat × Nat // p.1 + p.2 ≤ m }
def encC (g o : Nat) {m : Nat} (x : ChkI m) : Array Value := #[.slice (some ⟨g, o + x.1.1, none⟩) x.1.2 x.1.2]
def ChkS (n : Nat) {m : Nat} (k : Nat) (pre : List (ChkI m)) : Prop := pre.map (·.1) = upF (fun j => (j * n, n)) k
set_option maxRecDepth 100000 in
set_option maxHeartbeats 4000000 in
theorem chunk1_in (d : Nat) (hd : 1 ≤ d) (l Bs Bn : Nat) (S : Nat → Prop) (g o cap m n c : Nat) (hm : m = c * n) (hn : 0 < n) (hmc : m ≤ cap) (hcap : cap ≤ 9223372036854775807) (hS : S Bs) (hSn : S Bn) (J Jx : List (ChkI m) → World → Prop)
  (hY : ∀ pre x W, J pre W → pre.length < c → YieldAt Fence.wide (d - 1) Tryz.prog l (encC g o x) W fun e W' =>
   (e = .returned (.bool true) ∧ J (pre ++ [x]) W' ∧ KpB S W W') ∨ (e = .returned (.bool false) ∧ Jx (pre ++ [x]) W'))
  (W : World) (hBs : W.cell? ⟨Bs, 0, none⟩ = some (.slice (some ⟨g, o, none⟩) m cap)) (hBn : W.cell? ⟨Bn, 0, none⟩ = some (.int .i64 n)) (hJd : ∀ pre W, J pre W → J pre W.drew) (h0 : J [] W) :
  CallsIn Fence.wide d Tryz.prog 103 #[.func (.yield l) #[] #[], .pointer (some ⟨Bs, 0, none⟩), .pointer (some ⟨Bn, 0, none⟩)] W fun e W' => (∃ v, e = .returned v) ∧
   ((∃ ys, ChkS n c ys ∧ J ys W') ∨ (∃ pre, (∃ k, k ≤ c ∧ ChkS n k pre) ∧ Jx pre W')) := by
 have HM := Lib.hid hm
 clear hm
 refine callsIn_of_wp Tryz.func103 rfl trivial ?_ rfl
 simp only [Tryz.ntmps103, List.size_toArray, List.length_cons, List.length_nil, Nat.reduceAdd, Nat.reduceSub, Array.replicate_succ, Array.replicate_zero, List.push_toArray, List.append_toArray, List.nil_append, List.cons_append]
 gi_wp2
 gi_loopw [4, 5] (fun i _ wr => ∃ (k j : Nat) (pre : List (ChkI m)), k ≤ c ∧ Hid (j = k * n) ∧ j ≤ m ∧ i = .int .i64 j ∧ Hid (ChkS n k pre) ∧ J pre wr ∧ Hid (KpB S W wr))
  (fun i _ _ => m - (intOf i).toNat)
 case atStart => exact ⟨0, 0, [], Nat.zero_le _, Lib.hid (Nat.zero_mul _).symm, Nat.zero_le _, rfl, Lib.hid rfl, h0, Lib.hid (KpB.refl _ _)⟩
 case round =>
  obtain ⟨k, j, pre, hk, hj, hjm, rfl, hpre, hJs, hKp⟩ := hrel
  have hcB : wr.cell? ⟨Bs, 0, none⟩ = some (.slice (some ⟨g, o, none⟩) m cap) := (hKp.out.cell hS).trans hBs
  have hcN : wr.cell? ⟨Bn, 0, none⟩ = some (.int .i64 n) := (hKp.out.cell hSn).trans hBn
  by_cases hlt : k < c
  ·have hjn : j + n ≤ m := by
    have h1 : (k + 1) * n ≤ c * n := Nat.mul_le_mul_right n hlt
    rw [Nat.succ_mul] at h1
    have := hj.out
    have := HM.out
    omega
   have j1 : (j : Int) < m := by omega
   have j0 : (0 : Int) ≤ j := by omega
   have hne : ¬ cap = j := by omega
   have hmin : min (n : Int) ((m - j : Nat) : Int) = (n : Int) := by omega
   have hmin2 : min (n : Int) ((m : Int) - (j : Int)) = (n : Int) := by omega
   have s1 : (j : Int) + (n : Int) = ((j + n : Nat) : Int) := by omega
   have hX : ∃ X : ChkI m, X.1 = (j, n) := ⟨⟨(j, n), hjn⟩, rfl⟩
   obtain ⟨X, hX⟩ := hX
   have henc : encC g o X = #[.slice (some ⟨g, o + j, none⟩) n n] := by unfold encC; rw [hX]
   have hpl : pre.length < c := by
    have := congrArg List.length hpre.out
    rw [List.length_map, upF_len] at this
    omega
   have HPre : Hid (ChkS n (k + 1) (pre ++ [X])) := Lib.hid (by
    unfold ChkS
    rw [List.map_append, upF_succ, hpre.out, List.map_singleton, hX, hj.out])
   have HJ1 : Hid (j + n = (k + 1) * n) := Lib.hid (by rw [Nat.succ_mul, hj.out])
   have hYX := hY pre X wr.drew (hJd pre wr hJs) hpl
   rw [henc] at hYX
   obtain ⟨fn, tmps, assign, body, hy, hR⟩ := hYX
   clear hX henc hpl s1
   gi_wp2
   gi_region
   gi_wp2
   refine hR.mono ?_
   rintro e W3 (⟨rfl, hJ3, hk3⟩ | ⟨rfl, hJx3⟩)
   ·have hcN3 : W3.cell? ⟨Bn, 0, none⟩ = some (.int .i64 n) := ((KpB.trans hKp.out (KpB.trans (B := wr.drew) (fun _ _ => rfl) hk3)).cell hSn).trans hBn
    gi_wp2
    go_roundw
    case rel => exact ⟨k + 1, j + n, _, by omega, HJ1, by omega, by go_num, HPre, hJ3, Lib.hid (hKp.out.trans (KpB.trans (B := wr.drew) (fun _ _ => rfl) hk3))⟩
    case measure => simp [intOf]; omega
   ·gi_wp2
    refine bodyPost_ret (results_none rfl _ _ _) rfl ?_
    exact ⟨⟨_, rfl⟩, .inr ⟨_, ⟨k + 1, by omega, HPre.out⟩, hJx3⟩⟩
  ·obtain rfl : k = c := by omega
   have j0 : ¬ (j : Int) < m := by have := hj.out; have := HM.out; omega
   gi_wp2
   go_end0
   exact ⟨⟨_, rfl⟩, .inl ⟨_, hpre.out, hJs⟩⟩
set_option maxHeartbeats 1000000 in
theorem chunk_in (d : Nat) (a : Option Addr) (len cap n : Nat) (hn : 0 < n) (w : World) :
  CallsIn Fence.wide d Tryz.prog 86 #[.slice a len cap, .int .i64 n] w fun e w' => e = .returned (.func (.func 103) #[] #[.pointer (some ⟨w.heap.size, 0, none⟩), .pointer (some ⟨w.heap.size + 1, 0, none⟩)]) ∧
   w' = (w.alloc (.cells #[.slice a len cap] 22)).alloc (.cells #[.int .i64 n] 3) := by
 have h1 : ¬ (n : Int) < 1 := by omega
 refine callsIn_of_wp Tryz.func86 rfl trivial ?_ rfl
 simp only [Tryz.ntmps86, List.size_toArray, List.length_cons, List.length_nil, Nat.reduceAdd, Nat.reduceSub, Array.replicate_succ, Array.replicate_zero, List.push_toArray, List.append_toArray, List.nil_append, List.cons_append]
 gi_wp2
 go_ret
 exact ⟨rfl, rfl⟩
end
section
open Go
theorem cnt_set {l : List Bool} {i : Nat} (h : l[i]? = some false) : (l.set i true).count false + 1 = l.count false := by
 induction l generalizing i with
 | nil => simp at h
 | cons x r ih =>
  cases i with
  | zero =>
   simp only [List.getElem?_cons_zero, Option.some.injEq] at h
   subst h
   simp
  | succ i =>
   have := ih (i := i) (by simpa using h)
   rw [List.set_cons_succ, List.count_cons, List.count_cons]
   omega
def doneA (listed : Array Bool) (k : Nat) : Bool := listed.getD k false
theorem any_inv {F : Fence} {n : Nat} {P : Program} {md : Region.Mode} {ops : Array Oper} {Q : Exit → Act → World → Prop} (St : (Nat → Bool) → Act → World → Prop)
  (hdeps : ∀ (i : Nat) (o : Oper), ops[i]? = some o → ∀ e ∈ o.after, Region.binds md e = true → e.on < i)
  (hstep : ∀ (b : Nat → Bool) (i : Nat) (o : Oper) (a : Act) (w : World), St b a w → ops[i]? = some o → b i = false → (∀ e ∈ o.after, Region.binds md e = true → b e.on = true) →
   ∀ K : Act → World → Prop, (∀ a' w', St (fun k => if k = i then true else b k) a' w' → K a' w') → wpOpIn F n P ops Q i K a w)
  (hQ : ∀ (b : Nat → Bool) (a : Act) (w : World), (∀ k, k < ops.size → b k = true) → St b a w → Q .normal a w) :
  ∀ (fuel : Nat) (listed : Array Bool) (a : Act) (w : World), listed.size = ops.size → listed.toList.count false ≤ fuel → St (doneA listed) a w → wpAnyIn F n P md ops Q fuel listed a w := by
 have hall : ∀ (listed : Array Bool), listed.size = ops.size → Region.ready md ops listed = [] → ∀ k, k < ops.size → doneA listed k = true := by
  intro listed hs hr k
  induction k using Nat.strongRecOn with
  | _ k ih =>
   intro hk
   cases hd : doneA listed k with
   | true => rfl
   | false =>
    exfalso
    have hm : k ∈ Region.ready md ops listed := by
     rw [mem_ready]
     refine ⟨?_, ops[k], Array.getElem?_eq_getElem hk, fun e he hb => ?_⟩
     ·unfold doneA at hd
      rw [Array.getD_eq_getD_getElem?, Array.getElem?_eq_getElem (by omega)] at hd ⊢
      exact hd
     ·have h1 := hdeps k _ (Array.getElem?_eq_getElem hk) e he hb
      exact ih e.on h1 (by omega)
    rw [hr] at hm
    cases hm
 intro fuel
 induction fuel with
 | zero =>
  intro listed a w hs hc hst
  have hno : ∀ k, k < ops.size → doneA listed k = true := by
   intro k hk
   cases hd : doneA listed k with
   | true => rfl
   | false =>
    exfalso
    have h1 : (false : Bool) ∈ listed.toList := by
     unfold doneA at hd
     rw [Array.getD_eq_getD_getElem?, Array.getElem?_eq_getElem (by omega)] at hd
     have : listed[k]'(by omega) = false := hd
     rw [← this]
     simp
    have := List.count_pos_iff.2 h1
    omega
  refine ⟨?_, hQ _ a w hno hst⟩
  rw [List.eq_nil_iff_forall_not_mem]
  intro k hm
  rw [mem_ready] at hm
  obtain ⟨h1, o, h2, _⟩ := hm
  have hk : k < ops.size := (Array.getElem?_eq_some_iff.1 h2).1
  have := hno k hk
  unfold doneA at this
  rw [Array.getD_eq_getD_getElem?, Array.getElem?_eq_getElem (by omega)] at this h1
  have e1 : listed[k]'(by omega) = true := this
  have e2 : listed[k]'(by omega) = false := h1
  rw [e1] at e2
  cases e2
 | succ fuel ih =>
  intro listed a w hs hc hst
  refine ⟨fun hr => hQ _ a w (hall listed hs hr) hst, fun i hi => ?_⟩
  rw [mem_ready] at hi
  obtain ⟨h1, o, h2, h3⟩ := hi
  have hk : i < ops.size := (Array.getElem?_eq_some_iff.1 h2).1
  have hl : listed.toList[i]? = some false := by
   rw [Array.getD_eq_getD_getElem?, Array.getElem?_eq_getElem (by omega)] at h1
   rw [Array.getElem?_toList, Array.getElem?_eq_getElem (by omega)]
   exact congrArg some h1
  have hb : doneA listed i = false := by
   unfold doneA
   rw [Array.getD_eq_getD_getElem?, ← Array.getElem?_toList, hl]
   rfl
  refine hstep (doneA listed) i o a w hst h2 hb h3 _ fun a' w' h' => ih _ a' w' (by rw [Array.size_setIfInBounds]; exact hs) ?_ ?_
  ·have := cnt_set hl
   rw [Array.toList_setIfInBounds]
   omega
  ·have e : doneA (listed.setIfInBounds i true) = fun k => if k = i then true else doneA listed k := by
    funext k
    unfold doneA
    rw [Array.getD_eq_getD_getElem?, Array.getElem?_setIfInBounds]
    by_cases hki : k = i
    ·subst hki
     simp [show k < listed.size by omega]
    ·rw [if_neg (fun e => hki e.symm), if_neg hki, Array.getD_eq_getD_getElem?]
   rw [e]
   exact h'
/-- The region, in a round. -/
theorem region_inv {F : Fence} {n : Nat} {P : Program} {id : Nat} {ops : Array Oper} {Q : Exit → Act → World → Prop} {a : Act} {w : World} (hm : P.follows .mixedOrders = true) (St : (Nat → Bool) → Act → World → Prop)
  (hdeps : ∀ (i : Nat) (o : Oper), ops[i]? = some o → ∀ e ∈ o.after, Region.binds .any e = true → e.on < i)
  (h0 : St (fun _ => false) a w.drew)
  (hstep : ∀ (b : Nat → Bool) (i : Nat) (o : Oper) (a : Act) (w : World), St b a w → ops[i]? = some o → b i = false → (∀ e ∈ o.after, Region.binds .any e = true → b e.on = true) →
   ∀ K : Act → World → Prop, (∀ a' w', St (fun k => if k = i then true else b k) a' w' → K a' w') → wpOpIn F n P ops Q i K a w)
  (hQ : ∀ (b : Nat → Bool) (a : Act) (w : World), (∀ k, k < ops.size → b k = true) → St b a w → Q .normal a w) :
  (Code.region id ops true).wpIn F n P Q a w := by
 refine wpIn_region_any hm (any_inv St hdeps hstep hQ _ _ a _ (by simp) ?_ ?_)
 ·simp
 ·have e : doneA (Array.replicate ops.size false) = fun _ => false := by
   funext k
   unfold doneA
   rw [Array.getD_eq_getD_getElem?, Array.getElem?_replicate]
   split <;> rfl
  rw [e]
  exact h0
end
end Go.Proofs.YtknnleiinhdklaaGreatDoor
