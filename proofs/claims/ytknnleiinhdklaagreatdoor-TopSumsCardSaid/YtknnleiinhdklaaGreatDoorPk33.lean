/-
  Rows of rows of numbers; walks of slices.Concat, slices.Equal. Condition: the slices read as lists.   Walks of word.Takes, Dyad, Unit at + * min max; prim's pair. Condition: the function is one of the four.
-/
import Derived.Test.YtknnleiinhdklaaGreatDoorPk32
namespace Go.Proofs.YtknnleiinhdklaaGreatDoor
section
open Go.RowKit Go.Shelf Go.Sort
/-- A slice of slices of numbers. -/
def RowV (w : World) (v : Value) (ls : List (List Int)) : Prop :=
 ∃ (a : Option Addr) (cap : Nat) (vs : List Value), v = .slice a ls.length cap ∧ ls.length ≤ cap ∧ cap ≤ maxLen ∧ (0 < ls.length → ∃ g o, a = some ⟨g, o, none⟩ ∧ g < w.heap.size ∧ ∀ (i : Nat) (u : Value), vs[i]? = some u → w.cell? ⟨g, o + i, none⟩ = some u) ∧
  ∀ (i : Nat) (l : List Int), ls[i]? = some l → ∃ u, vs[i]? = some u ∧ IntsS w u l
theorem LanesS.rowV {w : World} {base : Nat} {v : Value} {ls : List (List Int)} (h : LanesS w base v ls) : RowV w v ls := by
 obtain ⟨vs, h1, h2, _⟩ := h
 have hs : ∀ (i : Nat) (l : List Int), ls[i]? = some l → ∃ u, vs[i]? = some u ∧ IntsS w u l := fun i l hi => let ⟨u, a, b⟩ := h2 i l hi; ⟨u, a, b.s⟩
 by_cases hn : ls.length = 0
 ·rcases h1.2 with ⟨rfl, _⟩ | ⟨g, cap, cur, rfl, _, _, k1, k2, _⟩
  ·exact ⟨none, 0, vs, by rw [hn], by omega, Nat.zero_le _, fun h => absurd h (by omega), hs⟩
  ·exact ⟨_, cap, vs, rfl, k1, k2, fun h => absurd h (by omega), hs⟩
 ·obtain ⟨g, cap, rfl, _, k1, k2, k3, k4, _⟩ := own_cells h1 hn
  refine ⟨_, cap, vs, rfl, k2, k3, fun _ => ⟨g, 0, rfl, k1, fun i u hi => ?_⟩, hs⟩
  have hlt := (List.getElem?_eq_some_iff.1 hi).1
  have hl : vs.length = ls.length := by have := h1.1; rwa [Nat.mul_one] at this
  rw [Nat.zero_add, k4 i (by omega), hi]
theorem flat_take {ls : List (List Int)} {k : Nat} {l : List Int} (h : ls[k]? = some l) : (ls.take (k + 1)).flatten = (ls.take k).flatten ++ l := by
 rw [List.take_add_one, h, Option.toList_some, List.flatten_append, List.flatten_singleton]
theorem flat_le (ls : List (List Int)) (k : Nat) : (ls.take k).flatten.length ≤ ls.flatten.length := by
 have e : ls.flatten = (ls.take k).flatten ++ (ls.drop k).flatten := by rw [← List.flatten_append, List.take_append_drop]
 rw [e, List.length_append]
 omega
set_option maxHeartbeats 4000000 in
set_option maxRecDepth 100000 in
theorem concat_any (v : Value) (ls : List (List Int)) (w : World) (hv : RowV w v ls) (hl : ls.flatten.length ≤ 500000) (hn : ls.length ≤ 65536) :
  Calls Tryz.prog 63 #[v] w (ClonePost ls.flatten w) := by
 obtain ⟨a, cap, vs, rfl, hc1, hc2, hc3, hc4⟩ := hv
 have HC := Lib.hid hc3
 have HD := Lib.hid hc4
 have HT := Lib.hid hl
 obtain ⟨m, hm⟩ : ∃ m, m = ls.length := ⟨_, rfl⟩
 have HM := Lib.hid hm
 rw [← hm] at hc1 hn ⊢
 unfold maxLen at hc2
 clear hm hc3 hc4 hl
 go_enter Tryz.func63, Tryz.ntmps63
 go_wp2_with fail
 go_loop [3, 5, 11] (fun n _ i => ∃ k : Nat, k ≤ m ∧ i = .int .i64 k ∧ n = .int .i64 ((ls.take k).flatten.length : Nat)) (fun _ _ i => m - (intOf i).toNat)
 case atStart => exact ⟨0, Nat.zero_le _, rfl, rfl⟩
 case round =>
  obtain ⟨k, hk, rfl, rfl⟩ := hrel
  by_cases hlt : k < m
  ·obtain ⟨l, hx⟩ : ∃ l, ls[k]? = some l := ⟨ls[k]'(by have := HM.out; omega), List.getElem?_eq_getElem _⟩
   obtain ⟨u, hu, hu2⟩ := HD.out k l hx
   obtain ⟨g, o, rfl, hg, hcell⟩ := HC.out (by have := HM.out; omega)
   have d1 := hcell k u hu
   obtain ⟨a1, c1, rfl⟩ := hu2.form
   have p2 : (ls.take (k + 1)).flatten.length ≤ 500000 := Nat.le_trans (flat_le ls (k + 1)) HT.out
   have p3 : (ls.take (k + 1)).flatten.length = (ls.take k).flatten.length + l.length := by rw [flat_take hx, List.length_append]
   obtain ⟨p, hp⟩ : ∃ p, p = (ls.take k).flatten.length := ⟨_, rfl⟩
   obtain ⟨q, hq⟩ : ∃ q, q = (ls.take (k + 1)).flatten.length := ⟨_, rfl⟩
   obtain ⟨j, hj⟩ : ∃ j, j = l.length := ⟨_, rfl⟩
   rw [← hp, ← hq, ← hj] at p3
   rw [← hq] at p2
   rw [← hp]
   rw [← hj] at d1
   have HQ : Hid (q = p + j ∧ q = (ls.take (k + 1)).flatten.length) := Lib.hid ⟨p3, hq⟩
   have kI : (k : Int) < m := by omega
   have k0 : (0 : Int) ≤ k := by omega
   have hpj : p + j ≤ 500000 := by omega
   have HLt := Lib.hid hlt
   clear hcell hx hp hq hj p3 p2 hu hu2
   go_wp2_with fail
   go_round
   case rel => exact ⟨k + 1, HLt.out, by go_num, by rw [← HQ.out.2, HQ.out.1]; go_num⟩
   case measure => have := HLt.out; simp [intOf]; omega
  ·obtain rfl : k = m := by omega
   have kI : ¬ (k : Int) < k := by omega
   have e0 : ls.take k = ls := List.take_of_length_le (by have := HM.out; omega)
   rw [e0]
   obtain ⟨t, ht⟩ : ∃ t, t = ls.flatten.length := ⟨_, rfl⟩
   have HG := Lib.hid (grow_nil t w (by have := HT.out; omega))
   rw [← ht]
   have HTt := Lib.hid ht
   clear ht e0
   go_wp2_with (go_at_call 87; refine HG.out.mono ?_; rintro _ w1 ⟨u1, rfl, ho1, hb1⟩)
   have HO1 := Lib.hid ho1
   have HB1 := Lib.hid hb1
   clear ho1 hb1
   go_loopw [6, 8, 27] (fun out _ i wr => ∃ j : Nat, j ≤ k ∧ i = .int .i64 j ∧ Hid (IntsO wr w.heap.size out (ls.take j).flatten) ∧ Hid (Below w.heap.size w wr)) (fun _ _ i _ => k - (intOf i).toNat)
   case atStart => exact ⟨0, Nat.zero_le _, rfl, HO1, HB1⟩
   case round =>
    obtain ⟨j, hj, rfl, hO, hB⟩ := hrel
    by_cases hlt2 : j < k
    ·obtain ⟨l, hx⟩ : ∃ l, ls[j]? = some l := ⟨ls[j]'(by have := HM.out; omega), List.getElem?_eq_getElem _⟩
     obtain ⟨u, hu, hu2⟩ := HD.out j l hx
     obtain ⟨g, o, rfl, hg, hcell⟩ := HC.out (by have := HM.out; omega)
     have d1 := (hB.out.cell (p := ⟨g, _, none⟩) hg).trans (hcell j u hu)
     have hu3 : IntsS wr u l := hu2.below hB.out
     have HU := Lib.hid hu3
     obtain ⟨a1, c1, rfl⟩ := hu2.form
     have kI2 : (j : Int) < k := by omega
     have k0 : (0 : Int) ≤ j := by omega
     have HLt := Lib.hid hlt2
     have HX : Hid ((ls.take (j + 1)).flatten = (ls.take j).flatten ++ l) := Lib.hid (flat_take hx)
     have HP2 : Hid ((ls.take j).flatten.length + l.length ≤ 500000) := Lib.hid (by have h1 := flat_le ls (j + 1); rw [flat_take hx, List.length_append] at h1; have := HT.out; omega)
     obtain ⟨q, hq⟩ : ∃ q, q = l.length := ⟨_, rfl⟩
     rw [← hq] at d1
     have HQ := Lib.hid hq
     clear hcell hx hu hu2 hu3 hq
     go_wp2_with (at_builtin; refine wpList_append_ints rfl (.tmp 31) (.tmp 32) rfl w.heap.size _ _ _ l rfl hO.out rfl (by rw [HQ.out]; exact HU.out) (by have := HP2.out; omega) hB.out.size ?_; intro v2 w2 ho2 hg2; have HO2 := Lib.hid ho2; have HG2 : Hid (Below w.heap.size w w2) := Lib.hid (hB.out.grown hg2 hB.out.size (fun k hk => (hO.out.lt k hk).1)); clear ho2 hg2)
     go_roundw
     case rel => exact ⟨j + 1, HLt.out, by go_num, Lib.hid (by rw [HX.out]; exact HO2.out), HG2⟩
     case measure => have := HLt.out; simp [intOf]; omega
    ·obtain rfl : j = k := by omega
     have kI2 : ¬ (j : Int) < j := by omega
     have hO2 := hO.out
     rw [List.take_of_length_le (by have := HM.out; omega)] at hO2
     have HO3 := Lib.hid hO2
     clear hO2 hO
     go_wp2_with fail
     go_ret
     exact ⟨_, rfl, HO3.out, hB.out⟩
set_option maxHeartbeats 4000000 in
set_option maxRecDepth 100000 in
/-- slices.Equal, of two that are equal. -/
theorem equal_any (v u : Value) (l : List Int) (w : World) (hv : IntsS w v l) (hu : IntsS w u l) :
  Calls Tryz.prog 74 #[v, u] w fun e w' => e = .returned (.bool true) ∧ Below w.heap.size w w' := by
 obtain ⟨a, ca, rfl, ha1, ha2, ha3⟩ := hv
 obtain ⟨b, cb, rfl, hb1, hb2, hb3⟩ := hu
 unfold maxLen at ha2 hb2
 have HA := Lib.hid ha3
 have HB := Lib.hid hb3
 obtain ⟨m, hm⟩ : ∃ m, m = l.length := ⟨_, rfl⟩
 have HM := Lib.hid hm
 rw [← hm]
 rw [← hm] at ha1
 rw [← hm] at hb1
 clear ha3 hb3 hm
 have i0 : ((m : Int) != m) = false := by rw [bne_eq_false_iff_eq]
 go_enter Tryz.func74, Tryz.ntmps74
 go_wp2_with fail
 clear i0
 go_loopw [5, 13] (fun _ vi wr => ∃ k : Nat, k ≤ m ∧ vi = .int .i64 k ∧ Below w.heap.size w wr) (fun _ vi _ => m - (intOf vi).toNat)
 case atStart => exact ⟨0, Nat.zero_le _, rfl, Below.refl _ _⟩
 case round =>
  obtain ⟨k, hk, rfl, hbel⟩ := hrel
  by_cases hlt : k < m
  ·obtain ⟨x, hx⟩ : ∃ x, l[k]? = some x := ⟨l[k]'(by have := HM.out; omega), List.getElem?_eq_getElem _⟩
   obtain ⟨g1, o1, rfl, hg1, hc1⟩ := HA.out (by have := HM.out; omega)
   obtain ⟨g2, o2, rfl, hg2, hc2⟩ := HB.out (by have := HM.out; omega)
   have d1 := (hbel.cell (p := ⟨g1, _, none⟩) hg1).trans (hc1 k x hx)
   have d2 := (hbel.cell (p := ⟨g2, _, none⟩) hg2).trans (hc2 k x hx)
   have kI : (k : Int) < m := by omega
   have k0 : (0 : Int) ≤ k := by omega
   have HZ := Lib.hid hbel
   have HLt := Lib.hid hlt
   clear hc1 hc2 hbel hx
   go_wp2_with fail
   go_quiet (fail)
   go_wp2_with fail
   go_roundw
   case rel => exact ⟨k + 1, HLt.out, by go_num, below_drewI HZ.out _⟩
   case measure => have := HLt.out; simp [intOf]; omega
  ·obtain rfl : k = m := by omega
   have kI : ¬ (k : Int) < k := by omega
   have HZ := Lib.hid hbel
   clear hbel
   go_wp2_with fail
   go_ret
   exact ⟨rfl, HZ.out⟩
end
section
open Go.RowKit Go.Shelf Go.Sort
/-- One of the four functions whose order does not matter, and what it does; its unit. -/
inductive OpF : Int → (Int → Int → Int) → Int → Prop
 | plus : OpF 1 plusF 0
 | times : OpF 3 timesF 1
 | least : OpF 6 min 9223372036854775807
 | most : OpF 7 max (-9223372036854775808)
theorem takes_op {f : Int} {op : Int → Int → Int} {u : Int} (h : OpF f op u) (w : World) :
  Calls Tryz.prog 65 #[.int .u8 f, .bool true] w fun e w' => e = .returned (.bool true) ∧ w = w' := by
 cases h <;>
 ·go_enter Tryz.func65, Tryz.ntmps65
  go_wp2_with fail
  go_ret
  exact ⟨rfl, rfl⟩
theorem refuses_op {f : Int} {op : Int → Int → Int} {u : Int} (h : OpF f op u) (a b : Int) (w : World) :
  Calls Tryz.prog 105 #[.int .u8 f, .int .i64 a, .int .i64 b] w fun e w' => e = .returned (.bool false) ∧ w = w' := by
 cases h <;>
 ·go_enter Tryz.func105, Tryz.ntmps105
  go_wp2_with fail
  go_ret
  exact ⟨rfl, rfl⟩
set_option maxHeartbeats 1000000 in
theorem dyad_op {f : Int} {op : Int → Int → Int} {u : Int} (h : OpF f op u) (a b : Int) (w : World) :
  Calls Tryz.prog 106 #[.int .u8 f, .int .i64 a, .int .i64 b] w fun e w' => e = .returned (.int .i64 (op a b)) ∧ w = w' := by
 cases h
 ·go_enter Tryz.func106, Tryz.ntmps106
  go_wp2_with fail
  go_ret
  exact ⟨rfl, rfl⟩
 ·go_enter Tryz.func106, Tryz.ntmps106
  go_wp2_with fail
  go_ret
  exact ⟨rfl, rfl⟩
 ·go_enter Tryz.func106, Tryz.ntmps106
  go_wp2_with fail
  go_ret
  exact ⟨rfl, rfl⟩
 ·go_enter Tryz.func106, Tryz.ntmps106
  go_wp2_with fail
  go_ret
  exact ⟨rfl, rfl⟩
set_option maxHeartbeats 1000000 in
theorem wdyad_op {f : Int} {op : Int → Int → Int} {u : Int} (h : OpF f op u) (a b : Int) (w : World) :
  Calls Tryz.prog 91 #[.int .u8 f, .int .i64 a, .int .i64 b] w fun e w' => e = .returned (.tuple #[.int .i64 (op a b), .int .i64 0]) ∧ w = w' := by
 have H1 := Lib.hid (takes_op h w)
 have H2 := Lib.hid (refuses_op h a b w)
 have H3 := Lib.hid (dyad_op h a b w)
 go_enter Tryz.func91, Tryz.ntmps91
 go_wp2_with (first | (go_at_call 65; refine H1.out.mono ?_; rintro _ _ ⟨rfl, rfl⟩) | (go_at_call 105; refine H2.out.mono ?_; rintro _ _ ⟨rfl, rfl⟩) | (go_at_call 106; refine H3.out.mono ?_; rintro _ _ ⟨rfl, rfl⟩))
 refine bodyPost_ret (v := .tuple #[.int .i64 (op a b), .int .i64 0]) (by simp [results, Tryz.results91, go_sem]) rfl ⟨rfl, rfl⟩
theorem unit_op {f : Int} {op : Int → Int → Int} {u : Int} (h : OpF f op u) (w : World) :
  Calls Tryz.prog 68 #[.int .u8 f] w fun e w' => e = .returned (.tuple #[.int .i64 u, .bool true]) ∧ w = w' := by
 have H1 := Lib.hid (takes_op h w)
 cases h
 ·go_enter Tryz.func68, Tryz.ntmps68
  go_wp2_with (go_at_call 65; refine H1.out.mono ?_; rintro _ _ ⟨rfl, rfl⟩)
  refine bodyPost_ret (v := .tuple #[.int .i64 0, .bool true]) (by simp [results, Tryz.results68, go_sem]) rfl ⟨rfl, rfl⟩
 ·go_enter Tryz.func68, Tryz.ntmps68
  go_wp2_with fail
  refine bodyPost_ret (v := .tuple #[.int .i64 1, .bool true]) (by simp [results, Tryz.results68, go_sem]) rfl ⟨rfl, rfl⟩
 ·go_enter Tryz.func68, Tryz.ntmps68
  go_wp2_with fail
  refine bodyPost_ret (v := .tuple #[.int .i64 9223372036854775807, .bool true]) (by simp [results, Tryz.results68, go_sem]) rfl ⟨rfl, rfl⟩
 ·go_enter Tryz.func68, Tryz.ntmps68
  go_wp2_with fail
  refine bodyPost_ret (v := .tuple #[.int .i64 (-9223372036854775808), .bool true]) (by simp [results, Tryz.results68, go_sem]) rfl ⟨rfl, rfl⟩
/-- A pair that refused nothing: its closure's variable at b, itself at b + 1. -/
def PairAt (w : World) (b : Nat) (f : Int) : Prop := w.heap[b]? = some (.cells #[.int .u8 f] 69) ∧ w.heap[b + 1]? = some (.cells #[.func (.func 92) #[] #[.pointer (some ⟨b, 0, none⟩)], .int .i64 0] 164)
theorem PairAt.kept {w w' : World} {b : Nat} {f : Int} (h : PairAt w b f) (h1 : w'.heap[b]? = w.heap[b]?) (h2 : w'.heap[b + 1]? = w.heap[b + 1]?) : PairAt w' b f := ⟨h1.trans h.1, h2.trans h.2⟩
theorem PairAt.lt {w : World} {b : Nat} {f : Int} (h : PairAt w b f) : b + 1 < w.heap.size := (Array.getElem?_eq_some_iff.1 h.2).1
theorem of_any (f : Int) (w : World) : Calls Tryz.prog 67 #[.int .u8 f] w fun e w' => e = .returned (.pointer (some ⟨w.heap.size + 1, 0, none⟩)) ∧ PairAt w' w.heap.size f ∧ Below w.heap.size w w' := by
 have HP : ∀ W, W = (w.alloc (.cells #[.int .u8 f] 69)).alloc (.cells #[.func (.func 92) #[] #[.pointer (some ⟨w.heap.size, 0, none⟩)], .int .i64 0] 164) → PairAt W w.heap.size f ∧ Below w.heap.size w W := by
  rintro _ rfl
  refine ⟨⟨?_, ?_⟩, ((Below.refl _ _).alloc (Nat.le_refl _) _).alloc (by simp) _⟩
  ·rw [heap_alloc_old _ _ _ (by simp)]
   exact heap_alloc_new w _
  ·have := heap_alloc_new (w.alloc (.cells #[.int .u8 f] 69)) (.cells #[.func (.func 92) #[] #[.pointer (some ⟨w.heap.size, 0, none⟩)], .int .i64 0] 164)
   rwa [World.size_alloc] at this
 have HP := Lib.hid HP
 go_enter Tryz.func67, Tryz.ntmps67
 go_wp2_with fail
 go_ret
 exact ⟨rfl, HP.out _ rfl⟩
theorem of1_op {f : Int} {op : Int → Int → Int} {u : Int} (h : OpF f op u) (a b : Int) (k : Nat) (w : World) (hk : w.heap[k]? = some (.cells #[.int .u8 f] 69)) :
  Calls Tryz.prog 92 #[.int .i64 a, .int .i64 b, .pointer (some ⟨k, 0, none⟩)] w fun e w' => e = .returned (.tuple #[.int .i64 (op a b), .int .i64 0]) ∧ w = w' := by
 have H1 := Lib.hid (wdyad_op h a b w)
 have c0 : w.cell? ⟨k, 0, none⟩ = some (.int .u8 f) := by rw [cell_of_row _ _ _ _ _ _ hk]; rfl
 go_enter Tryz.func92, Tryz.ntmps92
 go_wp2_with (go_at_call 91; refine H1.out.mono ?_; rintro _ _ ⟨rfl, rfl⟩)
 refine bodyPost_ret (v := .tuple #[.int .i64 (op a b), .int .i64 0]) (by simp [results, Tryz.results92, go_sem]) rfl ⟨rfl, rfl⟩
theorem call_op {f : Int} {op : Int → Int → Int} {u : Int} (h : OpF f op u) (a b : Int) (k : Nat) (w : World) (hk : PairAt w k f) :
  Calls Tryz.prog 70 #[.pointer (some ⟨k + 1, 0, none⟩), .int .i64 a, .int .i64 b] w fun e w' => e = .returned (.int .i64 (op a b)) ∧ w = w' := by
 have H1 := Lib.hid (of1_op h a b k w hk.1)
 have c0 : w.cell? ⟨k + 1, 0, none⟩ = some (.func (.func 92) #[] #[.pointer (some ⟨k, 0, none⟩)]) := by rw [cell_of_row _ _ _ _ _ _ hk.2]; rfl
 clear hk
 go_enter Tryz.func70, Tryz.ntmps70
 go_wp2_with fail
 refine H1.out.mono ?_
 rintro _ _ ⟨rfl, rfl⟩
 go_wp2_with fail
 go_ret
 exact ⟨rfl, rfl⟩
def GoodPost (w : World) (vs vd : Value) (e : Ending) (w' : World) : Prop := e = .returned (.tuple #[.agg #[vs, vd], .int .i64 0]) ∧ Below w.heap.size w w'
theorem done_op {f : Int} (k : Nat) (a1 a2 : Option Addr) (n1 n2 c1 c2 : Nat) (w : World) (hk : PairAt w k f) :
  Calls Tryz.prog 69 #[.pointer (some ⟨k + 1, 0, none⟩), .slice a1 n1 c1, .slice a2 n2 c2] w (GoodPost w (.slice a1 n1 c1) (.slice a2 n2 c2)) := by
 have hlt := hk.lt
 have c0 : w.cell? ⟨k + 1, 1, none⟩ = some (.int .i64 0) := by rw [cell_of_row _ _ _ _ _ _ hk.2]; rfl
 have HB : Hid (∀ W, W = w.alloc (.cells #[.slice a1 n1 c1, .slice a2 n2 c2] 24) → Below w.heap.size w W) := Lib.hid (by rintro _ rfl; exact (Below.refl _ _).alloc (Nat.le_refl _) _)
 clear hk
 go_enter Tryz.func69, Tryz.ntmps69
 go_wp2_with fail
 refine bodyPost_ret (v := .tuple #[.agg #[.slice a1 n1 c1, .slice a2 n2 c2], .int .i64 0]) (by simp [results, Tryz.results69, go_sem]) rfl ⟨rfl, HB.out _ rfl⟩
/-- An array that the call made. -/
def ArrO (w : World) (base : Nat) (v : Value) (x : Arr) : Prop := ∃ vs vd, v = .agg #[vs, vd] ∧ IntsO w base vs (ofN x.sides) ∧ IntsO w base vd x.data
theorem ArrO.v {w : World} {base : Nat} {v : Value} {x : Arr} (h : ArrO w base v x) : ArrV w v x := let ⟨vs, vd, h1, h2, h3⟩ := h; ⟨vs, vd, h1, h2.s, h3.s⟩
theorem ArrO.base {w : World} {b b' : Nat} {v : Value} {x : Arr} (h : ArrO w b v x) (hb : b' ≤ b) : ArrO w b' v x := let ⟨vs, vd, h1, h2, h3⟩ := h; ⟨vs, vd, h1, h2.base hb, h3.base hb⟩
theorem ArrO.below {w w' : World} {b : Nat} {v : Value} {x : Arr} (h : ArrO w b v x) (hb : Below w.heap.size w w') : ArrO w' b v x := let ⟨vs, vd, h1, h2, h3⟩ := h; ⟨vs, vd, h1, h2.below hb, h3.below hb⟩
def PrimPost (y : Arr) (w : World) (e : Ending) (w' : World) : Prop := ∃ u, e = .returned (.tuple #[u, .int .i64 0]) ∧ ArrO w' w.heap.size u y ∧ Below w.heap.size w w'
set_option maxHeartbeats 1000000 in
theorem good_any (v1 v2 : Value) (l1 l2 : List Int) (w : World) (h1 : IntsS w v1 l1) (hl : l1.length ≤ 1000000) (ha : ∃ a c, v2 = .slice a l2.length c) :
  Calls Tryz.prog 60 #[v1, v2] w fun e w' => ∃ u, e = .returned (.tuple #[.agg #[u, v2], .int .i64 0]) ∧ IntsO w' w.heap.size u l1 ∧ Below w.heap.size w w' := by
 obtain ⟨a, c, rfl⟩ := ha
 have HC := Lib.hid (fun W (hb : Below w.heap.size w W) => clone_any v1 l1 W (h1.below hb) hl)
 have HB := Lib.hid ((Below.refl _ w).alloc (Nat.le_refl _) (.cells #[.slice none 0 0, .slice none 0 0] 24))
 generalize l2.length = n
 clear h1
 have HN := Lib.hid (Blk2.new w (.slice none 0 0) (.slice none 0 0) 24)
 go_enter Tryz.func60, Tryz.ntmps60
 go_wp2_with (go_at_call 23; refine (HC.out _ HB.out).mono ?_; rintro _ w2 ⟨u, rfl, hu, hb⟩; have HU := Lib.hid hu; have HB2 := Lib.hid hb; have hk2 : w2.heap[w.heap.size]? = some (.cells #[.slice none 0 0, .slice none 0 0] 24) := (hb.block _ (by simp)).trans (heap_alloc_new w _); obtain ⟨a1, k1, rfl⟩ := hu.form; have c0 : w2.cell? ⟨w.heap.size, 0, none⟩ = some (.slice none 0 0) := by { rw [cell_of_row _ _ _ _ _ _ hk2]; rfl }; have c1 : w2.cell? ⟨w.heap.size, 1, none⟩ = some (.slice none 0 0) := by { rw [cell_of_row _ _ _ _ _ _ hk2]; rfl }; have f0 : ∀ o, w2.frozen? ⟨w.heap.size, o, none⟩ = false := Blk.froz hk2; have HK2 := Lib.hid hk2; clear hu hb hk2)
 have hb2 : Blk ((w2.setCell ⟨w.heap.size, 0, none⟩ (.slice a1 l1.length k1)).setCell ⟨w.heap.size, 1, none⟩ (.slice a n c)) w.heap.size 24 #[.slice a1 l1.length k1, .slice a n c] := Blk.put2 HK2.out _ _
 have e0 := hb2.cell 0
 have e1 := hb2.cell 1
 simp only [List.getElem?_toArray, List.getElem?_cons_zero, List.getElem?_cons_succ] at e0 e1
 refine bodyPost_ret (v := .tuple #[.agg #[.slice a1 l1.length k1, .slice a n c], .int .i64 0]) (by simp [results, Tryz.results60, go_sem, e0, e1]) rfl ⟨_, rfl, ?_, ?_⟩
 ·have h1 : KeepTag 2 w2 (w2.setCell ⟨w.heap.size, 0, none⟩ (.slice a1 l1.length k1)) := KeepTag.set HK2.out (by decide) 0 _
  have h2 := KeepTag.set (t := 2) (Blk.put0 HK2.out (.slice a1 l1.length k1)) (by decide) 1 (.slice a n c)
  exact own_tag (own_tag (own_base HU.out (by simp)) h1) h2
 ·exact below_set (below_set (HB.out.trans (HB2.out.mono (by simp))) (Nat.le_refl _) _) (Nat.le_refl _) _
end
end Go.Proofs.YtknnleiinhdklaaGreatDoor
