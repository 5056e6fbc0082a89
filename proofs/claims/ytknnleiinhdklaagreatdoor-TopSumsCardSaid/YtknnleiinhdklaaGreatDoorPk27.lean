/-
  Walks of package array: Size, Right, at sides that are an array's; what they call of package slices. Condition: the slices read as lists, the sides are an array's.   Walks: array.Size, array.Right at an array; the document's Size, Right at whatever sides; fair. Condition: the slices read as lists.
-/
import Derived.Test.YtknnleiinhdklaaGreatDoorPk26
namespace Go.Proofs.YtknnleiinhdklaaGreatDoor
section
open Go.RowKit
def ofN (l : List Nat) : List Int := l.map fun n => ((n : Nat) : Int)
theorem ofN_len (l : List Nat) : (ofN l).length = l.length := by unfold ofN; rw [List.length_map]
theorem ofN_get (l : List Nat) (i : Nat) : (ofN l)[i]? = (l[i]?).map fun n => ((n : Nat) : Int) := by unfold ofN; rw [List.getElem?_map]
theorem IntsS.form {w : World} {v : Value} {l : List Int} (h : IntsS w v l) : ∃ a cap, v = .slice a l.length cap := let ⟨a, cap, h, _⟩ := h; ⟨a, cap, h⟩
/-- What a slice of numbers reads at a place. -/
theorem IntsS.at_ {w : World} {v : Value} {l : List Int} (h : IntsS w v l) (hn : 0 < l.length) : ∃ g o cap, v = .slice (some ⟨g, o, none⟩) l.length cap ∧ l.length ≤ cap ∧ cap ≤ 9223372036854775807 ∧ g < w.heap.size ∧ ∀ (i : Nat) (x : Int), l[i]? = some x → w.cell? ⟨g, o + i, none⟩ = some (.int .i64 x) := by
 obtain ⟨a, cap, rfl, h2, h3, h4⟩ := h
 obtain ⟨g, o, rfl, k2, k3⟩ := h4 hn
 exact ⟨g, o, cap, rfl, h2, by unfold maxLen at h3; omega, k2, k3⟩
theorem any_none {p : Int → Bool} {l : List Int} (h : ∀ x ∈ l, p x = false) : l.any p = false := by
 rw [List.any_eq_false]
 intro x hx
 rw [h x hx]
 decide
/-- A closure that tells something of a number. -/
def Tells (f : FuncId) (p : Int → Bool) : Prop := ∀ (x : Int) (w : World), Calls Tryz.prog f #[.int .i64 x] w fun e w' => e = .returned (.bool (p x)) ∧ w = w'
def badB (s : Int) : Bool := decide (s < 0) || decide (65536 < s)
set_option maxHeartbeats 400000 in
theorem size1_any : Tells 84 badB := by
 intro x w
 by_cases h1 : x < 0
 ·have h2 : Hid (badB x = true) := Lib.hid (by unfold badB; rw [decide_eq_true h1]; rfl)
  go_enter Tryz.func84, Tryz.ntmps84
  go_wp2_with fail
  go_ret
  exact ⟨by rw [h2.out]; rfl, rfl⟩
 ·have h2 : Hid (badB x = decide (65536 < x)) := Lib.hid (by unfold badB; rw [decide_eq_false h1]; rfl)
  have h3 : decide (x < 0) = false := decide_eq_false h1
  go_enter Tryz.func84, Tryz.ntmps84
  go_wp2_with fail
  go_ret
  exact ⟨by rw [h2.out]; rfl, rfl⟩
def IdxPost (p : Int → Bool) (l : List Int) (w : World) (e : Ending) (w' : World) : Prop := ∃ k : Int, e = .returned (.int .i64 k) ∧ decide (0 ≤ k) = l.any p ∧ w = w'
set_option maxHeartbeats 4000000 in
set_option maxRecDepth 100000 in
theorem idxf_any (f : FuncId) (p : Int → Bool) (hf : Tells f p) (hcf : ∀ (args : Array Value) (w : World), (callFunc f args).run Tryz.prog w = .ok (.enter f args) w) (v : Value) (l : List Int) (w : World) (hv : IntsS w v l) :
  Calls Tryz.prog 56 #[v, .func (.func f) #[] #[]] w (IdxPost p l w) := by
 obtain ⟨m, hm⟩ : ∃ m, m = l.length := ⟨_, rfl⟩
 have HM := Lib.hid hm
 have HV := Lib.hid hv
 obtain ⟨a, cap, rfl, hc1, hc2, hc3⟩ := hv
 have HC := Lib.hid hc3
 have HF := Lib.hid hf
 unfold maxLen at hc2
 rw [← hm] at hc1 ⊢
 have hmx : m ≤ 9223372036854775807 := by omega
 clear hm hc3 hf
 go_enter Tryz.func56, Tryz.ntmps56
 go_wp2_with fail
 go_loop [5, 8] (fun _ i => ∃ k : Nat, k ≤ m ∧ i = .int .i64 k ∧ Hid (∀ (j : Nat) (x : Int), j < k → l[j]? = some x → p x = false)) (fun _ i => m - (intOf i).toNat)
 case atStart => exact ⟨0, Nat.zero_le _, rfl, Lib.hid fun j _ hj => absurd hj (Nat.not_lt_zero _)⟩
 case round =>
  obtain ⟨k, hk, rfl, hno⟩ := hrel
  by_cases hlt : k < m
  ·obtain ⟨x, hx⟩ : ∃ x, l[k]? = some x := ⟨l[k]'(by have := HM.out; omega), List.getElem?_eq_getElem _⟩
   obtain ⟨g, o, rfl, hg, hcell⟩ := HC.out (by have := HM.out; omega)
   have d1 := hcell k x hx
   have kI : (k : Int) < m := by omega
   have k0 : (0 : Int) ≤ k := by omega
   have HX := Lib.hid hx
   have HL := Lib.hid (HF.out x w)
   have HLt := Lib.hid hlt
   clear hcell hx
   by_cases hp : p x = true
   ·have HP := Lib.hid hp
    rw [hp] at HL
    clear hp
    go_wp2_with fail
    refine HL.out.mono ?_
    rintro _ _ ⟨rfl, rfl⟩
    go_wp2_with fail
    go_ret
    exact ⟨k, rfl, by
     rw [decide_eq_true k0]
     exact (List.any_eq_true.2 ⟨x, List.mem_of_getElem? HX.out, HP.out⟩).symm, rfl⟩
   ·have hp : p x = false := by simpa using hp
    have HP := Lib.hid hp
    rw [hp] at HL
    clear hp
    have HN2 : Hid (∀ (j : Nat) (x : Int), j < k + 1 → l[j]? = some x → p x = false) := Lib.hid fun j y hj hy => by
     by_cases h2 : j < k
     ·exact hno.out j y h2 hy
     ·obtain rfl : j = k := by omega
      rw [HX.out] at hy
      injection hy with hy
      rw [← hy]
      exact HP.out
    clear hno
    go_wp2_with fail
    refine HL.out.mono ?_
    rintro _ _ ⟨rfl, rfl⟩
    go_wp2_with fail
    go_round
    case rel => exact ⟨k + 1, HLt.out, by go_num, HN2⟩
    case measure => have := HLt.out; simp [intOf]; omega
  ·obtain rfl : k = m := by omega
   have kI : ¬ (k : Int) < k := by omega
   have HN : Hid (l.any p = false) := Lib.hid (any_none fun x hx => by
    obtain ⟨j, hj, rfl⟩ := List.mem_iff_getElem.1 hx
    exact hno.out j _ (by rw [HM.out]; exact hj) (List.getElem?_eq_getElem hj))
   clear hno
   go_wp2_with fail
   go_ret
   exact ⟨-1, rfl, by rw [HN.out]; rfl, rfl⟩
set_option maxHeartbeats 1000000 in
theorem containsf_any (f : FuncId) (p : Int → Bool) (hf : Tells f p) (hcf : ∀ (args : Array Value) (w : World), (callFunc f args).run Tryz.prog w = .ok (.enter f args) w) (v : Value) (l : List Int) (w : World) (hv : IntsS w v l) :
  Calls Tryz.prog 36 #[v, .func (.func f) #[] #[]] w fun e w' => e = .returned (.bool (l.any p)) ∧ w = w' := by
 have H := Lib.hid (idxf_any f p hf hcf v l w hv)
 clear hv hf
 go_enter Tryz.func36, Tryz.ntmps36
 go_wp2_with (go_at_call 56; refine H.out.mono ?_; rintro _ _ ⟨k, rfl, hk, rfl⟩; have HK := Lib.hid hk; clear hk)
 go_ret
 exact ⟨by rw [← HK.out]; rfl, rfl⟩
set_option maxHeartbeats 4000000 in
set_option maxRecDepth 100000 in
theorem idx_any (x0 : Int) (v : Value) (l : List Int) (w : World) (hv : IntsS w v l) :
  Calls Tryz.prog 102 #[v, .int .i64 x0] w (IdxPost (fun x => x == x0) l w) := by
 obtain ⟨m, hm⟩ : ∃ m, m = l.length := ⟨_, rfl⟩
 have HM := Lib.hid hm
 obtain ⟨a, cap, rfl, hc1, hc2, hc3⟩ := hv
 have HC := Lib.hid hc3
 unfold maxLen at hc2
 rw [← hm] at hc1 ⊢
 have hmx : m ≤ 9223372036854775807 := by omega
 clear hm hc3
 go_enter Tryz.func102, Tryz.ntmps102
 go_wp2_with fail
 go_loop [5, 8] (fun _ i => ∃ k : Nat, k ≤ m ∧ i = .int .i64 k ∧ Hid (∀ (j : Nat) (x : Int), j < k → l[j]? = some x → (x == x0) = false)) (fun _ i => m - (intOf i).toNat)
 case atStart => exact ⟨0, Nat.zero_le _, rfl, Lib.hid fun j _ hj => absurd hj (Nat.not_lt_zero _)⟩
 case round =>
  obtain ⟨k, hk, rfl, hno⟩ := hrel
  by_cases hlt : k < m
  ·obtain ⟨x, hx⟩ : ∃ x, l[k]? = some x := ⟨l[k]'(by have := HM.out; omega), List.getElem?_eq_getElem _⟩
   obtain ⟨g, o, rfl, hg, hcell⟩ := HC.out (by have := HM.out; omega)
   have d1 := hcell k x hx
   have kI : (k : Int) < m := by omega
   have k0 : (0 : Int) ≤ k := by omega
   have HX := Lib.hid hx
   have HLt := Lib.hid hlt
   clear hcell hx
   by_cases hp : x = x0
   ·subst hp
    go_wp2_with fail
    go_ret
    exact ⟨k, rfl, by
     rw [decide_eq_true k0]
     exact (List.any_eq_true.2 ⟨x, List.mem_of_getElem? HX.out, by simp⟩).symm, rfl⟩
   ·have hq : (x0 == x) = false := by rw [beq_eq_false_iff_ne]; exact fun e => hp e.symm
    have HP : Hid ((x == x0) = false) := Lib.hid (by rw [beq_eq_false_iff_ne]; exact hp)
    have HN2 : Hid (∀ (j : Nat) (x : Int), j < k + 1 → l[j]? = some x → (x == x0) = false) := Lib.hid fun j y hj hy => by
     by_cases h2 : j < k
     ·exact hno.out j y h2 hy
     ·obtain rfl : j = k := by omega
      rw [HX.out] at hy
      injection hy with hy
      rw [← hy]
      exact HP.out
    clear hno hp
    go_wp2_with fail
    go_round
    case rel => exact ⟨k + 1, HLt.out, by go_num, HN2⟩
    case measure => have := HLt.out; simp [intOf]; omega
  ·obtain rfl : k = m := by omega
   have kI : ¬ (k : Int) < k := by omega
   have HN : Hid (l.any (fun x => x == x0) = false) := Lib.hid (any_none fun x hx => by
    obtain ⟨j, hj, rfl⟩ := List.mem_iff_getElem.1 hx
    exact hno.out j _ (by rw [HM.out]; exact hj) (List.getElem?_eq_getElem hj))
   clear hno
   go_wp2_with fail
   go_ret
   exact ⟨-1, rfl, by rw [HN.out]; rfl, rfl⟩
set_option maxHeartbeats 1000000 in
theorem contains_any (x0 : Int) (v : Value) (l : List Int) (w : World) (hv : IntsS w v l) :
  Calls Tryz.prog 85 #[v, .int .i64 x0] w fun e w' => e = .returned (.bool (l.any fun x => x == x0)) ∧ w = w' := by
 have H := Lib.hid (idx_any x0 v l w hv)
 clear hv
 go_enter Tryz.func85, Tryz.ntmps85
 go_wp2_with (go_at_call 102; refine H.out.mono ?_; rintro _ _ ⟨k, rfl, hk, rfl⟩; have HK := Lib.hid hk; clear hk)
 go_ret
 exact ⟨by rw [← HK.out]; rfl, rfl⟩
end
section
open Go.RowKit
/-- Sides that are an array's. -/
structure SidesOk (s : List Nat) : Prop where
 len : s.length ≤ 4
 each : ∀ x ∈ s, x ≤ 65536
 all : prodN s ≤ 65536
theorem bad_none {s : List Nat} (h : ∀ x ∈ s, x ≤ 65536) : (ofN s).any badB = false := by
 refine any_none fun x hx => ?_
 unfold ofN at hx
 obtain ⟨n, hn, rfl⟩ := List.mem_map.1 hx
 have := h n hn
 unfold badB
 rw [decide_eq_false (by omega), decide_eq_false (by omega)]
 rfl
theorem zero_any (s : List Nat) : (ofN s).any (fun x => x == 0) = s.any (fun n => n == 0) := by
 unfold ofN
 rw [List.any_map]
 congr 1
 funext n
 cases n with
 | zero => rfl
 | succ n => rfl
theorem prodN_zero {s : List Nat} (h : s.any (fun n => n == 0) = true) : prodN s = 0 := by
 induction s with
 | nil => simp at h
 | cons x r ih =>
  rw [prodN_cons]
  rw [List.any_cons, Bool.or_eq_true] at h
  rcases h with h | h
  ·have : x = 0 := by simpa using h
   rw [this, Nat.zero_mul]
  ·rw [ih h, Nat.mul_zero]
theorem prodN_pos {s : List Nat} (h : ∀ x ∈ s, 0 < x) : 0 < prodN s := by
 induction s with
 | nil => exact Nat.zero_lt_one
 | cons x r ih =>
  rw [prodN_cons]
  exact Nat.mul_pos (h x (by simp)) (ih fun y hy => h y (by simp [hy]))
theorem prodN_append (a b : List Nat) : prodN (a ++ b) = prodN a * prodN b := by rw [prodN_R, prodN_R, prodN_R, prodR_append]
theorem prodN_take {s : List Nat} {k x : Nat} (hx : s[k]? = some x) : prodN (s.take (k + 1)) = prodN (s.take k) * x := by
 have hk := (List.getElem?_eq_some_iff.1 hx).1
 have e : s.take (k + 1) = s.take k ++ [x] := by
  rw [List.take_add_one, hx]
  rfl
 rw [e, prodN_append]
 congr 1
 show 1 * x = x
 rw [Nat.one_mul]
theorem prodN_le {s : List Nat} (h : ∀ x ∈ s, 0 < x) (k : Nat) : prodN (s.take k) ≤ prodN s := by
 have e : prodN s = prodN (s.take k) * prodN (s.drop k) := by rw [← prodN_append, List.take_append_drop]
 rw [e]
 exact Nat.le_mul_of_pos_right _ (prodN_pos fun x hx => h x (List.mem_of_mem_drop hx))
theorem mul_in {p x q : Nat} (h : q = p * x) (hq : q ≤ 65536) : wrap64 ((p : Int) * (x : Int)) = (q : Int) ∧ IntKind.i64.wrap ((p : Int) * (x : Int)) = (q : Int) := by
 have e : (p : Int) * (x : Int) = (q : Int) := by rw [h]; exact (Int.natCast_mul p x).symm
 rw [e]
 exact ⟨by unfold wrap64; omega, by rw [IntKind.wrap_i64]; omega⟩
theorem mul_in4 {p x q : Nat} (h : q = p * x) (hq : q ≤ 65536 * 65536) : wrap64 ((p : Int) * (x : Int)) = (q : Int) ∧ IntKind.i64.wrap ((p : Int) * (x : Int)) = (q : Int) := by
 have e : (p : Int) * (x : Int) = (q : Int) := by rw [h]; exact (Int.natCast_mul p x).symm
 rw [e]
 exact ⟨by unfold wrap64; omega, by rw [IntKind.wrap_i64]; omega⟩
set_option maxHeartbeats 4000000 in
set_option maxRecDepth 100000 in
theorem size_any (v : Value) (s : List Nat) (w : World) (hv : IntsS w v (ofN s)) (hs : SidesOk s) :
  Calls Tryz.prog 57 #[v] w fun e w' => e = .returned (.tuple #[.int .i64 (prodN s), .int .i64 0]) ∧ w = w' := by
 have HB := Lib.hid (containsf_any _ _ size1_any (by intro args w; kernel_rfl) v (ofN s) w hv)
 have HZ := Lib.hid (contains_any 0 v (ofN s) w hv)
 rw [bad_none hs.each] at HB
 rw [zero_any] at HZ
 obtain ⟨m, hm⟩ : ∃ m, m = s.length := ⟨_, rfl⟩
 have HM := Lib.hid hm
 have HS := Lib.hid hs
 have hm4 : m ≤ 4 := by have := hs.len; omega
 have hv0 := hv
 obtain ⟨a, cap, rfl, hc1, hc2, hc3⟩ := hv
 have HC := Lib.hid hc3
 unfold maxLen at hc2
 rw [ofN_len, ← hm] at hc1 HB HZ ⊢
 clear hm hc3 hs hv0
 by_cases hz : s.any (fun n => n == 0) = true
 ·have HP := Lib.hid (prodN_zero hz)
  rw [hz] at HZ
  clear hz
  have i4 : ¬ ((m : Int) > 4) := by omega
  go_enter Tryz.func57, Tryz.ntmps57
  go_wp2_with (first | (go_at_call 36; refine HB.out.mono ?_; rintro _ _ ⟨rfl, rfl⟩) | (go_at_call 85; refine HZ.out.mono ?_; rintro _ _ ⟨rfl, rfl⟩))
  refine bodyPost_ret (v := .tuple #[.int .i64 0, .int .i64 0]) (by simp [results, Tryz.results57, go_sem]) rfl ⟨by rw [HP.out]; rfl, rfl⟩
 ·have hz : s.any (fun n => n == 0) = false := (Bool.not_eq_true _).mp hz
  have hpos : ∀ x ∈ s, 0 < x := fun x hx => by
   have := (List.any_eq_false.1 hz) x hx
   have h0 : ¬ x = 0 := by simpa using this
   omega
  have HPos := Lib.hid hpos
  rw [hz] at HZ
  clear hz hpos
  have i4 : ¬ ((m : Int) > 4) := by omega
  go_enter Tryz.func57, Tryz.ntmps57
  go_wp2_with (first | (go_at_call 36; refine HB.out.mono ?_; rintro _ _ ⟨rfl, rfl⟩) | (go_at_call 85; refine HZ.out.mono ?_; rintro _ _ ⟨rfl, rfl⟩))
  go_loop [4, 6, 18] (fun n _ i => ∃ k : Nat, k ≤ m ∧ i = .int .i64 k ∧ n = .int .i64 (prodN (s.take k))) (fun _ _ i => m - (intOf i).toNat)
  case atStart => exact ⟨0, Nat.zero_le _, rfl, rfl⟩
  case round =>
   obtain ⟨k, hk, rfl, rfl⟩ := hrel
   by_cases hlt : k < m
   ·obtain ⟨x, hx⟩ : ∃ x, s[k]? = some x := ⟨s[k]'(by have := HM.out; omega), List.getElem?_eq_getElem _⟩
    obtain ⟨g, o, rfl, hg, hcell⟩ := HC.out (by rw [ofN_len]; have := HM.out; omega)
    have d1 := hcell k x (by rw [ofN_get, hx]; rfl)
    have kI : (k : Int) < m := by omega
    have k0 : (0 : Int) ≤ k := by omega
    have p1 : prodN (s.take k) ≤ 65536 := Nat.le_trans (prodN_le HPos.out k) HS.out.all
    have p2 : prodN (s.take (k + 1)) ≤ 65536 := Nat.le_trans (prodN_le HPos.out (k + 1)) HS.out.all
    have p3 := prodN_take hx
    obtain ⟨p, hp⟩ : ∃ p, p = prodN (s.take k) := ⟨_, rfl⟩
    obtain ⟨q, hq⟩ : ∃ q, q = prodN (s.take (k + 1)) := ⟨_, rfl⟩
    rw [← hp] at p1 p3 ⊢
    rw [← hq] at p2 p3
    have hgt : ¬ ((q : Int) > 65536) := by omega
    obtain ⟨hmul, hmul2⟩ := mul_in p3 p2
    have HX := Lib.hid hx
    have HQ := Lib.hid hq
    have HLt := Lib.hid hlt
    clear hcell hx hp hq p3
    go_wp2_with fail
    go_round
    case rel => exact ⟨k + 1, HLt.out, by go_num, by rw [HQ.out]⟩
    case measure => have := HLt.out; simp [intOf]; omega
   ·obtain rfl : k = m := by omega
    have kI : ¬ (k : Int) < k := by omega
    have HT : Hid (s.take k = s) := Lib.hid (List.take_of_length_le (by have := HM.out; omega))
    go_wp2_with fail
    refine bodyPost_ret (v := .tuple #[.int .i64 (prodN (s.take k)), .int .i64 0]) (by simp [results, Tryz.results57, go_sem]) rfl ⟨by rw [HT.out], rfl⟩
/-- A struct value that reads as an array. -/
def ArrV (w : World) (v : Value) (x : Arr) : Prop := ∃ vs vd, v = .agg #[vs, vd] ∧ IntsS w vs (ofN x.sides) ∧ IntsS w vd x.data
theorem ArrV.below {w w' : World} {v : Value} {x : Arr} (h : ArrV w v x) (hb : Below w.heap.size w w') : ArrV w' v x := let ⟨vs, vd, h1, h2, h3⟩ := h; ⟨vs, vd, h1, h2.below hb, h3.below hb⟩
structure ArrOk (x : Arr) : Prop where
 sides : SidesOk x.sides
 all : prodN x.sides = x.data.length
theorem ArrOk.le {x : Arr} (h : ArrOk x) : x.data.length ≤ 65536 := by rw [← h.all]; exact h.sides.all
theorem Blk2.new (w : World) (a b : Value) (t : TypeId) : (w.alloc (.cells #[a, b] t)).cell? ⟨w.heap.size, 0, none⟩ = some a ∧ (w.alloc (.cells #[a, b] t)).cell? ⟨w.heap.size, 1, none⟩ = some b := by
 have hb : (w.alloc (.cells #[a, b] t)).heap[w.heap.size]? = some (.cells #[a, b] t) := heap_alloc_new w _
 exact ⟨by rw [cell_of_row _ _ _ _ _ _ hb]; rfl, by rw [cell_of_row _ _ _ _ _ _ hb]; rfl⟩
set_option maxHeartbeats 1000000 in
set_option maxRecDepth 100000 in
theorem right_ok (v : Value) (x : Arr) (w : World) (hv : ArrV w v x) (hx : ArrOk x) :
  Calls Tryz.prog 38 #[v] w fun e w' => e = .returned (.bool true) ∧ Below w.heap.size w w' := by
 obtain ⟨vs, vd, rfl, hs, hd⟩ := hv
 obtain ⟨ad, cd, rfl⟩ := hd.form
 have HS := Lib.hid (fun W (hb : Below w.heap.size w W) => size_any vs x.sides W (hs.below hb) hx.sides)
 have HE : Hid (((prodN x.sides : Int) == (x.data.length : Int)) = true) := Lib.hid (by rw [hx.all]; exact beq_self_eq_true _)
 have HB := Lib.hid ((Below.refl _ w).alloc (Nat.le_refl _) (.cells #[vs, .slice ad x.data.length cd] 24))
 clear hs hd hx
 generalize x.data.length = m at *
 generalize prodN x.sides = p at *
 obtain ⟨c0, c1⟩ := Blk2.new w vs (.slice ad m cd) 24
 have hE := HE.out
 go_enter Tryz.func38, Tryz.ntmps38
 go_wp2_with (go_at_call 57; refine (HS.out _ HB.out).mono ?_; rintro _ _ ⟨rfl, rfl⟩)
 go_ret
 exact ⟨rfl, HB.out⟩
/-- The sides are an array's; or the document's Size says so. -/
def SizePost (l : List Int) (w : World) (e : Ending) (w' : World) : Prop :=
 w = w' ∧ ((∃ s, l = ofN s ∧ SidesOk s ∧ e = .returned (.tuple #[.int .i64 (prodN s), .int .i64 0])) ∨ e = .returned (.tuple #[.int .i64 0, .int .i64 61]))
theorem ofN_of {l : List Int} (h : ∀ x ∈ l, 0 ≤ x) : l = ofN (l.map Int.toNat) := by
 unfold ofN
 rw [List.map_map]
 conv => lhs; rw [← List.map_id l]
 apply List.map_congr_left
 intro x hx
 have := h x hx
 show x = ((x.toNat : Nat) : Int)
 omega
end
end Go.Proofs.YtknnleiinhdklaaGreatDoor
