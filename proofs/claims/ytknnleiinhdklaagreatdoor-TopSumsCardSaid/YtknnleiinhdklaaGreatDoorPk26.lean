/-
  Slices of numbers in memory; walk of the document's Ints (windrowref06). Condition: the slices read as lists.   Plain Lean, no program: arrays: places and indices, what is turned round twice, lanes turned round twice. No condition.   Plain Lean, no program: numbers put together by a function that does not ask for their order: lane by lane, or turned round. No condition.   Plain Lean, no program: the four functions of numbers of 64 bits that do not ask for an order. No condition.   Plain Lean, no program: what is taken of an array and what is left, put together again; a row in a shape. No condition.
-/
import Derived.WalkKit
import Derived.WalkSpells
import Derived.WalkLawsBesides
import Derived.WalkSmall
import Derived.Lib.Hide
import Derived.BigQuiet
import Derived.Deep.QuietTactic
import Derived.StillTailTactics
import Derived.Test.YtknnleiinhdklaaGreatDoorProg
import Derived.Below
import Derived.RowKit
namespace Go.Proofs.YtknnleiinhdklaaGreatDoor
section
open Go.RowKit
/-- A slice value that reads as these numbers. -/
def IntsS (w : World) (v : Value) (l : List Int) : Prop :=
 ∃ a cap, v = .slice a l.length cap ∧ l.length ≤ cap ∧ cap ≤ maxLen ∧ (0 < l.length → ∃ g o, a = some ⟨g, o, none⟩ ∧ g < w.heap.size ∧ ∀ (i : Nat) (x : Int), l[i]? = some x → w.cell? ⟨g, o + i, none⟩ = some (.int .i64 x))
theorem IntsS.below {w w' : World} {v : Value} {l : List Int} (h : IntsS w v l) (hb : Below w.heap.size w w') : IntsS w' v l := by
 obtain ⟨a, cap, h1, h2, h3, h4⟩ := h
 refine ⟨a, cap, h1, h2, h3, fun hn => ?_⟩
 obtain ⟨g, o, k1, k2, k3⟩ := h4 hn
 exact ⟨g, o, k1, Nat.lt_of_lt_of_le k2 hb.size, fun i x hi => (hb.cell (p := ⟨g, _, none⟩) k2).trans (k3 i x hi)⟩
theorem below_drewI {B : Nat} {a w : World} (h : Below B a w) (n : Nat) : Below B a (w.drewN n) := h.trans ⟨rfl, rfl, rfl, Nat.le_refl _, fun _ _ => rfl⟩
theorem list_eq {l r : List Int} (hl : l.length = r.length) (h : ∀ (i : Nat) (x y : Int), i < l.length → l[i]? = some x → r[i]? = some y → x = y) : l = r := by
 apply List.ext_getElem hl
 intro i h1 h2
 exact h i _ _ h1 (List.getElem?_eq_getElem h1) (List.getElem?_eq_getElem h2)
set_option maxHeartbeats 4000000 in
set_option maxRecDepth 100000 in
theorem ints_any (v u : Value) (l r : List Int) (w : World) (hv : IntsS w v l) (hu : IntsS w u r) : Calls Tryz.prog 12 #[v, u] w fun e w' => e = .returned (.bool (decide (l = r))) ∧ Below w.heap.size w w' := by
 obtain ⟨a, ca, rfl, ha1, ha2, ha3⟩ := hv
 obtain ⟨b, cb, rfl, hb1, hb2, hb3⟩ := hu
 unfold maxLen at ha2 hb2
 by_cases hl : l.length = r.length
 ·have HE := Lib.hid (fun (h : ∀ (i : Nat) (x y : Int), i < l.length → l[i]? = some x → r[i]? = some y → x = y) => list_eq hl h)
  have HA := Lib.hid ha3
  have HB := Lib.hid hb3
  have HLr := Lib.hid hl
  obtain ⟨m, hm⟩ : ∃ m, m = l.length := ⟨_, rfl⟩
  have HM := Lib.hid hm
  rw [← hl, ← hm]
  rw [← hm] at ha1
  rw [← hl, ← hm] at hb1
  clear ha3 hb3 hl hm
  have i0 : ((m : Int) != m) = false := by rw [bne_eq_false_iff_eq]
  go_enter Tryz.func12, Tryz.ntmps12
  go_wp2_with fail
  clear i0
  go_loopw [5] (fun vi wr => ∃ k : Nat, k ≤ m ∧ vi = .int .i64 k ∧ Hid (∀ (i : Nat) (x y : Int), i < k → l[i]? = some x → r[i]? = some y → x = y) ∧ Below w.heap.size w wr) (fun vi _ => m - (intOf vi).toNat)
  case atStart => exact ⟨0, Nat.zero_le _, rfl, Lib.hid fun i _ _ h => absurd h (Nat.not_lt_zero _), Below.refl _ _⟩
  case round =>
   obtain ⟨k, hk, rfl, hno, hbel⟩ := hrel
   by_cases hlt : k < m
   ·obtain ⟨x, hx⟩ : ∃ x, l[k]? = some x := ⟨l[k]'(by have := HM.out; omega), List.getElem?_eq_getElem _⟩
    obtain ⟨y, hy⟩ : ∃ y, r[k]? = some y := ⟨r[k]'(by have := HM.out; have := HLr.out; omega), List.getElem?_eq_getElem _⟩
    obtain ⟨g1, o1, rfl, hg1, hc1⟩ := HA.out (by have := HM.out; omega)
    obtain ⟨g2, o2, rfl, hg2, hc2⟩ := HB.out (by have := HM.out; have := HLr.out; omega)
    have d1 := (hbel.cell (p := ⟨g1, _, none⟩) hg1).trans (hc1 k x hx)
    have d2 := (hbel.cell (p := ⟨g2, _, none⟩) hg2).trans (hc2 k y hy)
    have kI : (k : Int) < m := by omega
    have k0 : (0 : Int) ≤ k := by omega
    have HZ := Lib.hid hbel
    have HX := Lib.hid hx
    have HY := Lib.hid hy
    have HLt := Lib.hid hlt
    clear hc1 hc2 hbel hx hy
    by_cases hxy : x = y
    ·subst hxy
     have HN2 : Hid (∀ (i : Nat) (x y : Int), i < k + 1 → l[i]? = some x → r[i]? = some y → x = y) := Lib.hid fun i p q hi hp hq => by
      by_cases hi2 : i < k
      ·exact hno.out i p q hi2 hp hq
      ·obtain rfl : i = k := by omega
       rw [HX.out] at hp
       rw [HY.out] at hq
       injection hp with hp
       injection hq with hq
       rw [← hp, ← hq]
     clear hno
     go_wp2_with fail
     go_quiet (fail)
     go_wp2_with fail
     go_roundw
     case rel => exact ⟨k + 1, HLt.out, by go_num, HN2, below_drewI HZ.out _⟩
     case measure => have := HLt.out; simp [intOf]; omega
    ·have HF : Hid (decide (l = r) = false) := Lib.hid (decide_eq_false (fun e => hxy (by have h1 := HX.out; rw [e, HY.out] at h1; injection h1 with h1; exact h1.symm)))
     have x1 : (x != y) = true := by rw [bne_iff_ne]; exact hxy
     have x2 : (x == y) = false := by rw [beq_eq_false_iff_ne]; exact hxy
     clear hno
     go_wp2_with fail
     go_quiet (fail)
     go_wp2_with fail
     go_ret
     exact ⟨by rw [HF.out]; rfl, below_drewI HZ.out _⟩
   ·obtain rfl : k = m := by omega
    have HT : Hid (decide (l = r) = true) := Lib.hid (decide_eq_true (HE.out (fun i x y hi => hno.out i x y (by rw [HM.out]; exact hi))))
    have HZ := Lib.hid hbel
    have kI : ¬ (k : Int) < k := by omega
    clear hno hbel
    go_wp2_with fail
    go_ret
    exact ⟨by rw [HT.out]; rfl, HZ.out⟩
 ·have HF : Hid (decide (l = r) = false) := Lib.hid (decide_eq_false (fun e => hl (by rw [e])))
  have i0 : ((l.length : Int) != r.length) = true := by rw [bne_iff_ne]; omega
  have i1 : ¬ (l.length : Int) = r.length := by omega
  go_enter Tryz.func12, Tryz.ntmps12
  go_wp2_with fail
  go_ret
  exact ⟨by rw [HF.out]; rfl, Below.refl _ _⟩
set_option maxHeartbeats 4000000 in
set_option maxRecDepth 100000 in
theorem same_any (v1 v2 u1 u2 : Value) (l1 l2 r1 r2 : List Int) (w : World) (hv1 : IntsS w v1 l1) (hv2 : IntsS w v2 l2) (hu1 : IntsS w u1 r1) (hu2 : IntsS w u2 r2) :
  Calls Tryz.prog 11 #[.agg #[v1, v2], .agg #[u1, u2]] w fun e w' => e = .returned (.bool (decide (l1 = r1) && decide (l2 = r2))) ∧ Below w.heap.size w w' := by
 have H1 := Lib.hid (fun W (hb : Below w.heap.size w W) => ints_any v1 u1 l1 r1 W (hv1.below hb) (hu1.below hb))
 have H2 := Lib.hid (fun W (hb : Below w.heap.size w W) => ints_any v2 u2 l2 r2 W (hv2.below hb) (hu2.below hb))
 clear hv1 hv2 hu1 hu2
 have Z0 := Lib.hid (((Below.refl _ w).alloc (Nat.le_refl _) (.cells #[v1, v2] 24)).alloc (by simp) (.cells #[u1, u2] 24))
 generalize decide (l1 = r1) = p at *
 generalize decide (l2 = r2) = q at *
 go_enter Tryz.func11, Tryz.ntmps11
 go_wp2_with fail
 refine (H1.out _ Z0.out).mono ?_
 rintro _ w1 ⟨rfl, b1⟩
 have c1 : w1.cell? ⟨w.heap.size, 1, none⟩ = some v2 := (b1.cell (p := ⟨w.heap.size, 1, none⟩) (by simp; omega)).trans (by simp)
 have c2 : w1.cell? ⟨w.heap.size + 1, 1, none⟩ = some u2 := (b1.cell (p := ⟨w.heap.size + 1, 1, none⟩) (by simp)).trans (by simp)
 have Z1 := Lib.hid (Z0.out.trans (b1.mono Z0.out.size))
 clear b1
 cases p
 ·go_wp2_with fail
  go_ret
  exact ⟨rfl, Z1.out⟩
 ·go_wp2_with fail
  refine (H2.out _ Z1.out).mono ?_
  rintro _ w2 ⟨rfl, b2⟩
  go_wp2_with fail
  go_ret
  exact ⟨by rw [Bool.true_and]; rfl, Z1.out.trans (b2.mono Z1.out.size)⟩
end
section
open Go
/-- An array: its sides, and its numbers in a row. -/
structure Arr where
 sides : List Nat
 data : List Int
 deriving DecidableEq
def prodN (s : List Nat) : Nat := s.foldl (· * ·) 1
/-- A place's index by the sides, the last side first. -/
def idxR : List Nat → Nat → List Nat
 | [], _ => []
 | s :: r, p => p % s :: idxR r (p / s)
/-- The place of an index, the last side first. -/
def plcR : List Nat → List Nat → Nat
 | s :: r, k :: ks => plcR r ks * s + k
 | _, _ => 0
def prodR : List Nat → Nat
 | [] => 1
 | s :: r => prodR r * s
def inR : List Nat → List Nat → Prop
 | [], [] => True
 | s :: r, k :: ks => k < s ∧ inR r ks
 | _, _ => False
theorem plc_idx : ∀ (r : List Nat) (p : Nat), p < prodR r → plcR r (idxR r p) = p
 | [], p, h => by
  have : p < 1 := h
  show 0 = p
  omega
 | s :: r, p, h => by
  have hs : 0 < s := by
   rcases Nat.eq_zero_or_pos s with h0 | h0
   ·subst h0
    simp [prodR] at h
   ·exact h0
  have hq : p / s < prodR r := (Nat.div_lt_iff_lt_mul hs).2 h
  show plcR r (idxR r (p / s)) * s + p % s = p
  rw [plc_idx r (p / s) hq, Nat.mul_comm]
  exact Nat.div_add_mod p s
theorem idx_in : ∀ (r : List Nat) (p : Nat), p < prodR r → inR r (idxR r p)
 | [], _, _ => trivial
 | s :: r, p, h => by
  have hs : 0 < s := by
   rcases Nat.eq_zero_or_pos s with h0 | h0
   ·subst h0
    simp [prodR] at h
   ·exact h0
  exact ⟨Nat.mod_lt _ hs, idx_in r (p / s) ((Nat.div_lt_iff_lt_mul hs).2 h)⟩
theorem plc_lt : ∀ (r ks : List Nat), inR r ks → plcR r ks < prodR r
 | [], [], _ => Nat.zero_lt_one
 | s :: r, k :: ks, h => by
  have h1 := plc_lt r ks h.2
  have h2 := h.1
  show plcR r ks * s + k < prodR r * s
  have h3 : plcR r ks * s + s ≤ prodR r * s := by
   rw [← Nat.succ_mul]
   exact Nat.mul_le_mul_right s h1
  omega
 | [], _ :: _, h => h.elim
 | _ :: _, [], h => h.elim
theorem idx_plc : ∀ (r ks : List Nat), inR r ks → idxR r (plcR r ks) = ks
 | [], [], _ => rfl
 | s :: r, k :: ks, h => by
  have h2 := h.1
  have hs : 0 < s := by omega
  show (plcR r ks * s + k) % s :: idxR r ((plcR r ks * s + k) / s) = k :: ks
  rw [Nat.mul_comm, Nat.mul_add_mod, Nat.mod_eq_of_lt h2, Nat.mul_add_div hs, Nat.div_eq_of_lt h2, Nat.add_zero, idx_plc r ks h.2]
 | [], _ :: _, h => h.elim
 | _ :: _, [], h => h.elim
theorem in_len : ∀ (r ks : List Nat), inR r ks → ks.length = r.length
 | [], [], _ => rfl
 | _ :: r, _ :: ks, h => by rw [List.length_cons, List.length_cons, in_len r ks h.2]
 | [], _ :: _, h => h.elim
 | _ :: _, [], h => h.elim
theorem in_append : ∀ (r ks r' ks' : List Nat), inR r ks → inR r' ks' → inR (r ++ r') (ks ++ ks')
 | [], [], _, _, _, h => h
 | _ :: r, _ :: ks, r', ks', h, h' => ⟨h.1, in_append r ks r' ks' h.2 h'⟩
 | [], _ :: _, _, _, h, _ => h.elim
 | _ :: _, [], _, _, h, _ => h.elim
theorem in_reverse : ∀ (r ks : List Nat), inR r ks → inR r.reverse ks.reverse
 | [], [], _ => trivial
 | s :: r, k :: ks, h => by
  rw [List.reverse_cons, List.reverse_cons]
  exact in_append _ _ _ _ (in_reverse r ks h.2) ⟨h.1, trivial⟩
 | [], _ :: _, h => h.elim
 | _ :: _, [], h => h.elim
theorem prodR_append : ∀ (a b : List Nat), prodR (a ++ b) = prodR a * prodR b
 | [], b => by show prodR b = 1 * prodR b; rw [Nat.one_mul]
 | s :: a, b => by
  show prodR (a ++ b) * s = prodR a * s * prodR b
  rw [prodR_append a b, Nat.mul_assoc, Nat.mul_assoc, Nat.mul_comm (prodR b) s]
theorem prodR_reverse : ∀ (a : List Nat), prodR a.reverse = prodR a
 | [] => rfl
 | s :: a => by
  rw [List.reverse_cons, prodR_append, prodR_reverse a]
  show prodR a * (1 * s) = prodR a * s
  rw [Nat.one_mul]
/-- Where the number at a place of the turned array comes from: sides are the first one's. -/
def fromT (sides : List Nat) (i : Nat) : Nat := plcR sides.reverse (idxR sides i).reverse
def turnA (x : Arr) : Arr := ⟨x.sides.reverse, (List.range x.data.length).map fun i => x.data.getD (fromT x.sides i) 0⟩
theorem from_lt {sides : List Nat} {i : Nat} (h : i < prodR sides) : fromT sides i < prodR sides := by
 unfold fromT
 rw [← prodR_reverse]
 exact plc_lt _ _ (in_reverse _ _ (idx_in _ _ h))
theorem from_from {sides : List Nat} {i : Nat} (h : i < prodR sides) : fromT sides (fromT sides.reverse i) = i := by
 unfold fromT
 rw [List.reverse_reverse]
 have h' : i < prodR sides.reverse := by rw [prodR_reverse]; exact h
 have h1 : inR sides (idxR sides.reverse i).reverse := by
  have := in_reverse _ _ (idx_in _ _ h')
  rwa [List.reverse_reverse] at this
 rw [idx_plc _ _ h1, List.reverse_reverse]
 exact plc_idx _ _ h'
theorem turn_turn {x : Arr} (h : prodR x.sides = x.data.length) : turnA (turnA x) = x := by
 obtain ⟨s, d⟩ := x
 have h : prodR s = d.length := h
 unfold turnA
 dsimp only
 rw [List.reverse_reverse]
 congr 1
 apply List.ext_getElem
 ·simp
 ·intro i h1 h2
  have hi : i < prodR s := by rw [h]; exact h2
  have hj : fromT s.reverse i < prodR s := by
   have h3 : i < prodR s.reverse := by rw [prodR_reverse]; exact hi
   have := from_lt h3
   rwa [prodR_reverse] at this
  have hk := from_from hi
  simp only [List.length_map, List.length_range, List.getElem_map, List.getElem_range]
  rw [List.getD_eq_getElem?_getD, List.getElem?_map, List.getElem?_range (by rw [← h]; exact hj)]
  simp only [Option.map_some, Option.getD_some]
  rw [hk, List.getD_eq_getElem?_getD, List.getElem?_eq_getElem h2]
  rfl
/-- A row in pieces of so many, each one turned round. 'f': at least its length. -/
def revG (n : Nat) : Nat → List Int → List Int
 | 0, _ => []
 | f + 1, l => if l = [] then [] else (l.take n).reverse ++ revG n f (l.drop n)
theorem revG_nil (n f : Nat) : revG n f [] = [] := by
 cases f with
 | zero => rfl
 | succ f => rw [revG, if_pos rfl]
theorem revG_len {n : Nat} (hn : 0 < n) : ∀ (f : Nat) (l : List Int), l.length ≤ f → (revG n f l).length = l.length
 | 0, l, h => by
  have : l = [] := List.eq_nil_of_length_eq_zero (by omega)
  subst this
  rfl
 | f + 1, l, h => by
  rw [revG]
  by_cases h0 : l = []
  ·rw [if_pos h0, h0]
  ·have hl : 0 < l.length := List.length_pos_iff.2 h0
   rw [if_neg h0, List.length_append, List.length_reverse, List.length_take, revG_len hn f _ (by rw [List.length_drop]; omega), List.length_drop]
   omega
theorem revG_revG {n : Nat} (hn : 0 < n) : ∀ (f : Nat) (l : List Int), l.length ≤ f → revG n f (revG n f l) = l
 | 0, l, h => by
  have : l = [] := List.eq_nil_of_length_eq_zero (by omega)
  subst this
  rfl
 | f + 1, l, h => by
  by_cases h0 : l = []
  ·subst h0
   rw [revG_nil, revG_nil]
  ·have hl : 0 < l.length := List.length_pos_iff.2 h0
   have hd : (l.drop n).length ≤ f := by rw [List.length_drop]; omega
   have e : revG n (f + 1) l = (l.take n).reverse ++ revG n f (l.drop n) := by rw [revG, if_neg h0]
   have hne : revG n (f + 1) l ≠ [] := by
    intro h1
    have := revG_len hn (f + 1) l h
    rw [h1] at this
    simp at this
    omega
   by_cases hs : n ≤ l.length
   ·have ht : (l.take n).reverse.length = n := by rw [List.length_reverse, List.length_take]; omega
    have e1 : (revG n (f + 1) l).take n = (l.take n).reverse := by rw [e]; exact List.take_left' ht
    have e2 : (revG n (f + 1) l).drop n = revG n f (l.drop n) := by rw [e]; exact List.drop_left' ht
    rw [revG, if_neg hne, e1, e2, List.reverse_reverse, revG_revG hn f _ hd, List.take_append_drop]
   ·have hdr : l.drop n = [] := List.drop_of_length_le (by omega)
    have htk : l.take n = l := List.take_of_length_le (by omega)
    have e3 : revG n (f + 1) l = l.reverse := by rw [e, hdr, htk, revG_nil, List.append_nil]
    have hr : l.reverse ≠ [] := by simpa using h0
    rw [e3, revG, if_neg hr, List.take_of_length_le (by rw [List.length_reverse]; omega), List.drop_of_length_le (by rw [List.length_reverse]; omega), revG_nil, List.reverse_reverse, List.append_nil]
def revL (n : Nat) (l : List Int) : List Int := revG n l.length l
theorem rev_rev {n : Nat} (hn : 0 < n) (l : List Int) : revL n (revL n l) = l := by
 unfold revL
 rw [revG_len hn _ _ (Nat.le_refl _)]
 exact revG_revG hn _ _ (Nat.le_refl _)
end
section
open Go
def tot (op : Int → Int → Int) : List Int → Int
 | [] => 0
 | x :: r => r.foldl op x
/-- A row folded in pieces of so many. 'f': at least its length. -/
def foldG (op : Int → Int → Int) (n : Nat) : Nat → List Int → List Int
 | 0, _ => []
 | f + 1, l => if l = [] then [] else tot op (l.take n) :: foldG op n f (l.drop n)
section
variable {op : Int → Int → Int} (ha : ∀ a b c, op (op a b) c = op a (op b c))
include ha
theorem foldl_op (l : List Int) : ∀ a b, l.foldl op (op a b) = op a (l.foldl op b) := by
 induction l with
 | nil => intro a b; rfl
 | cons x r ih =>
  intro a b
  rw [List.foldl_cons, List.foldl_cons, ha, ih]
theorem tot_append {l r : List Int} (h1 : l ≠ []) (h2 : r ≠ []) : tot op (l ++ r) = op (tot op l) (tot op r) := by
 cases l with
 | nil => exact absurd rfl h1
 | cons x l =>
  cases r with
  | nil => exact absurd rfl h2
  | cons y r =>
   show (l ++ y :: r).foldl op x = op (l.foldl op x) (r.foldl op y)
   rw [List.foldl_append, List.foldl_cons, foldl_op ha]
theorem tot_foldG {n : Nat} (hn : 0 < n) : ∀ (f : Nat) (l : List Int), l.length ≤ f → l ≠ [] → tot op (foldG op n f l) = tot op l ∧ foldG op n f l ≠ []
 | 0, l, h, h0 => absurd (List.eq_nil_of_length_eq_zero (by omega)) h0
 | f + 1, l, h, h0 => by
  have hl : 0 < l.length := List.length_pos_iff.2 h0
  rw [foldG, if_neg h0]
  by_cases hs : n < l.length
  ·have hd0 : l.drop n ≠ [] := by
    intro e
    have := congrArg List.length e
    rw [List.length_drop] at this
    simp at this
    omega
   obtain ⟨h1, h2⟩ := tot_foldG hn f (l.drop n) (by rw [List.length_drop]; omega) hd0
   have ht0 : l.take n ≠ [] := by
    intro e
    have h3 := congrArg List.length e
    rw [List.length_take] at h3
    have h4 : min n l.length = 0 := h3
    omega
   have ht := tot_append ha ht0 hd0
   rw [List.take_append_drop] at ht
   refine ⟨?_, List.cons_ne_nil _ _⟩
   rw [show tot op (l.take n) :: foldG op n f (l.drop n) = [tot op (l.take n)] ++ foldG op n f (l.drop n) from rfl, tot_append ha (List.cons_ne_nil _ _) h2, h1, ht]
   rfl
  ·rw [List.drop_of_length_le (by omega), List.take_of_length_le (by omega)]
   refine ⟨?_, List.cons_ne_nil _ _⟩
   have : foldG op n f [] = [] := by
    cases f with
    | zero => rfl
    | succ f => rw [foldG, if_pos rfl]
   rw [this]
   rfl
theorem tot_perm (hc : ∀ a b, op a b = op b a) {l r : List Int} (h : l.Perm r) : tot op l = tot op r := by
 have key : ∀ {l r : List Int}, l.Perm r → ∀ a, l.foldl op a = r.foldl op a := by
  intro l r h
  induction h with
  | nil => intro a; rfl
  | cons x _ ih => intro a; exact ih _
  | swap x y l => intro a; simp only [List.foldl_cons]; rw [ha, hc y x, ← ha]
  | trans _ _ ih1 ih2 => intro a; rw [ih1, ih2]
 induction h with
 | nil => rfl
 | cons x h _ => exact key h x
 | swap x y l => show l.foldl op (op y x) = l.foldl op (op x y); rw [hc]
 | trans _ _ ih1 ih2 => rw [ih1, ih2]
end
theorem from_inj {sides : List Nat} {i j : Nat} (hi : i < prodR sides) (hj : j < prodR sides) (h : fromT sides i = fromT sides j) : i = j := by
 have e : ∀ k, k < prodR sides → fromT sides.reverse (fromT sides k) = k := fun k hk => by
  have h' : k < prodR sides.reverse := by rw [prodR_reverse]; exact hk
  have := from_from h'
  rwa [List.reverse_reverse] at this
 rw [← e i hi, ← e j hj, h]
theorem turn_perm {x : Arr} (h : prodR x.sides = x.data.length) : (turnA x).data.Perm x.data := by
 obtain ⟨s, d⟩ := x
 have h : prodR s = d.length := h
 show ((List.range d.length).map fun i => d.getD (fromT s i) 0).Perm d
 have hp : ((List.range d.length).map (fromT s)).Perm (List.range d.length) := by
  refine (List.perm_ext_iff_of_nodup ?_ List.nodup_range).2 fun a => ?_
  ·rw [List.Nodup, List.pairwise_map]
   refine List.Pairwise.imp_of_mem (fun {i j} hi hj hne e => ?_) (List.nodup_range (n := d.length))
   rw [List.mem_range] at hi hj
   exact hne (from_inj (by omega) (by omega) e)
  ·rw [List.mem_map, List.mem_range]
   constructor
   ·rintro ⟨i, hi, rfl⟩
    rw [List.mem_range] at hi
    rw [← h]
    exact from_lt (by omega)
   ·intro ha
    have h1 : a < prodR s := by omega
    have h2 : fromT s.reverse a < prodR s := by
     have h3 : a < prodR s.reverse := by rw [prodR_reverse]; exact h1
     have := from_lt h3
     rwa [prodR_reverse] at this
    exact ⟨fromT s.reverse a, List.mem_range.2 (by omega), from_from h1⟩
 have h2 := hp.map (fun i => d.getD i 0)
 rw [List.map_map] at h2
 have h3 : (List.range d.length).map (fun i => d.getD i 0) = d := by
  apply List.ext_getElem
  ·simp
  ·intro i h1 h2
   simp only [List.length_map, List.length_range] at h1
   simp [List.getD_eq_getElem?_getD, List.getElem?_eq_getElem h1]
 rw [h3] at h2
 exact h2
end
section
open Go Go.RowKit
theorem w64_mod (x : Int) : wrap64 x % 18446744073709551616 = x % 18446744073709551616 := by unfold wrap64; omega
theorem w64_eq {x y : Int} (h : x % 18446744073709551616 = y % 18446744073709551616) : wrap64 x = wrap64 y := by unfold wrap64; omega
def plusF (a b : Int) : Int := wrap64 (a + b)
def timesF (a b : Int) : Int := wrap64 (a * b)
theorem plus_assoc (a b c : Int) : plusF (plusF a b) c = plusF a (plusF b c) := by unfold plusF wrap64; omega
theorem plus_comm (a b : Int) : plusF a b = plusF b a := by unfold plusF; rw [Int.add_comm]
theorem times_assoc (a b c : Int) : timesF (timesF a b) c = timesF a (timesF b c) := by
 unfold timesF
 apply w64_eq
 rw [Int.mul_emod, w64_mod, ← Int.mul_emod, Int.mul_assoc]
 conv => rhs; rw [Int.mul_emod, w64_mod, ← Int.mul_emod]
theorem times_comm (a b : Int) : timesF a b = timesF b a := by unfold timesF; rw [Int.mul_comm]
/-- One of the four, by its number. -/
def orderF (k : Nat) : Int → Int → Int := if k = 0 then plusF else if k = 1 then timesF else if k = 2 then min else max
theorem order_assoc (k : Nat) (a b c : Int) : orderF k (orderF k a b) c = orderF k a (orderF k b c) := by
 unfold orderF
 split
 ·exact plus_assoc a b c
 split
 ·exact times_assoc a b c
 split
 ·omega
 ·omega
theorem order_comm (k : Nat) (a b : Int) : orderF k a b = orderF k b a := by
 unfold orderF
 split
 ·exact plus_comm a b
 split
 ·exact times_comm a b
 split
 ·omega
 ·omega
/-- Folding the last side, again and again. -/
def foldA (op : Int → Int → Int) (unit : Int) (x : Arr) : Arr :=
 match x.sides.reverse with
 | [] => x
 | n :: r => ⟨r.reverse, if n = 0 then List.replicate (prodR r) unit else foldG op n x.data.length x.data⟩
theorem foldG_len {op : Int → Int → Int} {n : Nat} (hn : 0 < n) : ∀ (m f : Nat) (l : List Int), l.length = m * n → l.length ≤ f → (foldG op n f l).length = m
 | 0, f, l, h, _ => by
  have : l = [] := List.eq_nil_of_length_eq_zero (by rw [h, Nat.zero_mul])
  subst this
  cases f with
  | zero => rfl
  | succ f => rw [foldG, if_pos rfl]; rfl
 | m + 1, f, l, h, hf => by
  have hl : n ≤ l.length := by rw [h, Nat.succ_mul]; omega
  obtain ⟨g, rfl⟩ : ∃ g, f = g + 1 := ⟨f - 1, by omega⟩
  have h0 : l ≠ [] := by
   intro e
   rw [e] at hl
   simp at hl
   omega
  rw [foldG, if_neg h0, List.length_cons, foldG_len hn m g (l.drop n) (by rw [List.length_drop, h, Nat.succ_mul]; omega) (by rw [List.length_drop]; omega)]
/-- What is left when all sides are folded: one number, all of them put together. -/
theorem fold_all {op : Int → Int → Int} (ha : ∀ a b c, op (op a b) c = op a (op b c)) (unit : Int) : ∀ (r : List Nat) (d : List Int), d ≠ [] → d.length = prodR r → (List.range r.length).foldl (fun x _ => foldA op unit x) ⟨r.reverse, d⟩ = ⟨[], [tot op d]⟩
 | [], d, h0, h => by
  have h1 : d.length = 1 := h
  match d, h1 with
  | [x], _ => rfl
 | n :: r, d, h0, h => by
  have hp : d.length = prodR r * n := h
  have hd : 0 < d.length := List.length_pos_iff.2 h0
  have hn : 0 < n := by
   rcases Nat.eq_zero_or_pos n with e | e
   ·rw [e, Nat.mul_zero] at hp; omega
   ·exact e
  obtain ⟨h1, h2⟩ := tot_foldG ha hn d.length d (Nat.le_refl _) h0
  have h3 := foldG_len (op := op) hn (prodR r) d.length d hp (Nat.le_refl _)
  have e : foldA op unit ⟨(n :: r).reverse, d⟩ = ⟨r.reverse, foldG op n d.length d⟩ := by
   unfold foldA
   dsimp only
   rw [List.reverse_reverse]
   dsimp only
   rw [if_neg (by omega)]
  rw [List.length_cons, List.range_succ_eq_map, List.foldl_cons, e, List.foldl_map, fold_all ha unit r _ h2 h3, h1]
theorem tot_units {op : Int → Int → Int} {u : Int} (hu : op u u = u) : ∀ n, 0 < n → tot op (List.replicate n u) = u
 | n + 1, _ => by
  rw [List.replicate_succ]
  show (List.replicate n u).foldl op u = u
  induction n with
  | zero => rfl
  | succ n ih => rw [List.replicate_succ, List.foldl_cons, hu]; exact ih (Nat.succ_pos _)
theorem fold_units {op : Int → Int → Int} {u : Int} (hu : op u u = u) (a : Nat) : foldA op u ⟨[a], List.replicate a u⟩ = ⟨[], [u]⟩ := by
 unfold foldA
 show (⟨[], _⟩ : Arr) = _
 by_cases h : a = 0
 ·rw [if_pos h]; rfl
 ·rw [if_neg h]
  have h1 : List.replicate a u ≠ [] := by
   intro e
   have := congrArg List.length e
   simp at this
   exact h this
  have h2 : foldG op a a (List.replicate a u) = [u] := by
   obtain ⟨b, rfl⟩ : ∃ b, a = b + 1 := ⟨a - 1, by omega⟩
   rw [foldG, if_neg h1, List.take_of_length_le (by simp), List.drop_of_length_le (by simp), tot_units hu _ (Nat.succ_pos _)]
   cases b with
   | zero => rfl
   | succ b => rw [foldG, if_pos rfl]
  rw [List.length_replicate, h2]
/-- An array without a number, of one side or two: all sides folded. -/
theorem fold_none {op : Int → Int → Int} {u : Int} (hu : op u u = u) (r : List Nat) (h : prodR r = 0) (hl : r.length ≤ 2) : (List.range r.length).foldl (fun x _ => foldA op u x) ⟨r.reverse, []⟩ = ⟨[], [u]⟩ := by
 match r, hl with
 | [], _ => exact absurd h (by decide)
 | [n], _ =>
  have h0 : n = 0 := by simpa [prodR] using h
  subst h0
  rfl
 | [b, a], _ =>
  show foldA op u (foldA op u ⟨[a, b], []⟩) = _
  by_cases hb : b = 0
  ·subst hb
   have e : foldA op u ⟨[a, 0], []⟩ = ⟨[a], List.replicate a u⟩ := by
    unfold foldA
    show (⟨[a], if (0 : Nat) = 0 then List.replicate (1 * a) u else _⟩ : Arr) = _
    rw [if_pos rfl, Nat.one_mul]
   rw [e]
   exact fold_units hu a
  ·have h0 : a = 0 := by
    have h1 : 1 * a * b = 0 := h
    rw [Nat.one_mul] at h1
    rcases Nat.mul_eq_zero.1 h1 with h2 | h2
    ·exact h2
    ·exact absurd h2 hb
   subst h0
   have e : foldA op u ⟨[0, b], []⟩ = ⟨[0], List.replicate 0 u⟩ := by
    unfold foldA
    show (⟨[0], if b = 0 then _ else foldG op b 0 []⟩ : Arr) = _
    rw [if_neg hb]
    rfl
   rw [e]
   exact fold_units hu 0
end
section
open Go Go.RowKit
/-- What Take and Drop hand back: the cells from one number to another of the first side. -/
def partA (x : Arr) (lo hi : Nat) : Arr :=
 match x.sides with
 | [] => x
 | all :: r => ⟨(hi - lo) :: r, if all = 0 then [] else (x.data.take (hi * (x.data.length / all))).drop (lo * (x.data.length / all))⟩
def catA (a b : Arr) : Arr :=
 match a.sides, b.sides with
 | x :: r, y :: _ => ⟨(x + y) :: r, a.data ++ b.data⟩
 | _, _ => a
theorem part_cat {all : Nat} {r : List Nat} {d : List Int} (h : all * prodN r = d.length) {k : Nat} (hk : k ≤ all) : catA (partA ⟨all :: r, d⟩ 0 k) (partA ⟨all :: r, d⟩ k all) = ⟨all :: r, d⟩ := by
 unfold partA catA
 dsimp only
 rw [Nat.sub_zero, show k + (all - k) = all by omega]
 congr 1
 by_cases h0 : all = 0
 ·rw [if_pos h0, if_pos h0]
  rw [h0, Nat.zero_mul] at h
  exact (List.eq_nil_of_length_eq_zero h.symm).symm
 ·have hc : all * (d.length / all) = d.length := by rw [← h, Nat.mul_div_cancel_left _ (by omega)]
  rw [if_neg h0, if_neg h0, Nat.zero_mul, List.drop_zero, hc, List.take_length, List.take_append_drop]
theorem foldl_mul (s : List Nat) : ∀ n : Nat, s.foldl (· * ·) n = n * prodN s := by
 unfold prodN
 induction s with
 | nil => intro n; exact (Nat.mul_one n).symm
 | cons x r ih =>
  intro n
  rw [List.foldl_cons, List.foldl_cons, ih, ih (1 * x), Nat.one_mul, Nat.mul_assoc]
theorem prodN_cons (x : Nat) (r : List Nat) : prodN (x :: r) = x * prodN r := by
 show r.foldl (· * ·) (1 * x) = _
 rw [foldl_mul, Nat.one_mul]
theorem prodN_R (s : List Nat) : prodN s = prodR s := by
 induction s with
 | nil => rfl
 | cons x r ih => rw [prodN_cons, ih, Nat.mul_comm]; rfl
end
end Go.Proofs.YtknnleiinhdklaaGreatDoor
