/-
  Rows of pieces in memory: one more, one less; their rows of texts lie apart. Condition: the rows lie in memory.
-/
import Derived.Test.YtknnleiinhdklaaGreatDoorPk21
namespace Go.Proofs.YtknnleiinhdklaaGreatDoor
open Go.RowKit Go.Shelf Go.Sort Go.Maps
def pcC (u : Value) (p : Pc) : List Value := [u, .int .i64 p.nest, .int .i64 p.tokens, .bool p.plain]
def pcsC : List Value → List Pc → List Value
 | u :: us, p :: ps => pcC u p ++ pcsC us ps
 | _, _ => []
theorem pcsC_len : ∀ (us : List Value) (ps : List Pc), us.length = ps.length → (pcsC us ps).length = ps.length * 4
 | [], [], _ => rfl
 | u :: us, p :: ps, h => by
  have := pcsC_len us ps (by simpa using h)
  show (pcC u p ++ pcsC us ps).length = (ps.length + 1) * 4
  rw [List.length_append, this]
  show 4 + _ = _
  omega
 | [], _ :: _, h => by simp at h
 | _ :: _, [], h => by simp at h
theorem pcsC_snoc : ∀ (us : List Value) (ps : List Pc), us.length = ps.length → ∀ (u : Value) (p : Pc), pcsC (us ++ [u]) (ps ++ [p]) = pcsC us ps ++ pcC u p
 | [], [], _, u, p => by show pcC u p ++ [] = [] ++ pcC u p; simp
 | x :: us, y :: ps, h, u, p => by
  show pcC x y ++ pcsC (us ++ [u]) (ps ++ [p]) = (pcC x y ++ pcsC us ps) ++ pcC u p
  rw [pcsC_snoc us ps (by simpa using h), List.append_assoc]
 | [], _ :: _, h, _, _ => by simp at h
 | _ :: _, [], h, _, _ => by simp at h
theorem pcsC_get {us : List Value} {ps : List Pc} {ur : List Value} {pr : List Pc} (h : us.length = ps.length) (u : Value) (p : Pc) (j : Nat) (hj : j < 4) : (pcsC (us ++ u :: ur) (ps ++ p :: pr))[ps.length * 4 + j]? = (pcC u p)[j]? := by
 induction us generalizing ps with
 | nil =>
  have : ps = [] := List.eq_nil_of_length_eq_zero (by simpa using h.symm)
  subst this
  show (pcC u p ++ pcsC ur pr)[0 * 4 + j]? = _
  rw [Nat.zero_mul, Nat.zero_add, List.getElem?_append_left (by show j < 4; exact hj)]
 | cons x us ih =>
  cases ps with
  | nil => simp at h
  | cons y ps =>
   show (pcC x y ++ pcsC (us ++ u :: ur) (ps ++ p :: pr))[(ps.length + 1) * 4 + j]? = _
   have hx : (pcC x y).length = 4 := rfl
   rw [List.getElem?_append_right (by rw [hx]; omega), hx, show (ps.length + 1) * 4 + j - 4 = ps.length * 4 + j by omega]
   exact ih (by simpa using h)
/-- Rows of texts, each of its piece, no two in one block. -/
structure RowsP (w : World) (B : Nat) (us : List Value) (ps : List Pc) : Prop where
 len : us.length = ps.length
 row : ∀ (i : Nat) (u : Value) (p : Pc), us[i]? = some u → ps[i]? = some p → StrO w B u p.words
 apart : us.Pairwise fun a b => a.ownBlock ≠ b.ownBlock
theorem RowsP.nil (w : World) (B : Nat) : RowsP w B [] [] := ⟨rfl, fun i u p h => by simp at h, List.Pairwise.nil⟩
theorem RowsP.tag {w w' : World} {B : Nat} {us : List Value} {ps : List Pc} (h : RowsP w B us ps) (hk : KeepTag 9 w w') : RowsP w' B us ps := ⟨h.len, fun i u p h1 h2 => (h.row i u p h1 h2).tag hk, h.apart⟩
theorem RowsP.below {w w' : World} {B : Nat} {us : List Value} {ps : List Pc} (h : RowsP w B us ps) (hb : Below w.heap.size w w') : RowsP w' B us ps := h.tag (KeepTag.below hb)
theorem RowsP.keep {w w' : World} {B : Nat} {us : List Value} {ps : List Pc} {r : Option Nat} (h : RowsP w B us ps) (hg : w.grownBy w' r) (hr : ∀ u ∈ us, u.ownBlock = none ∨ u.ownBlock ≠ r) : RowsP w' B us ps :=
 ⟨h.len, fun i u p h1 h2 => (h.row i u p h1 h2).kept hg (hr u (List.mem_of_getElem? h1)), h.apart⟩
theorem RowsP.snoc {w : World} {B : Nat} {us : List Value} {ps : List Pc} (h : RowsP w B us ps) {u : Value} {p : Pc} (hu : StrO w B u p.words) (hd : ∀ x ∈ us, x.ownBlock ≠ u.ownBlock) : RowsP w B (us ++ [u]) (ps ++ [p]) := by
 refine ⟨by rw [List.length_append, List.length_append, h.len]; rfl, fun i x q h1 h2 => ?_, ?_⟩
 ·by_cases hi : i < us.length
  ·rw [List.getElem?_append_left hi] at h1
   rw [List.getElem?_append_left (by rw [← h.len]; exact hi)] at h2
   exact h.row i x q h1 h2
  ·rw [List.getElem?_append_right (by omega)] at h1
   rw [List.getElem?_append_right (by rw [← h.len]; omega), ← h.len] at h2
   have h0 : i - us.length = 0 := by
    rcases Nat.eq_zero_or_pos (i - us.length) with h0 | h0
    ·exact h0
    ·rw [List.getElem?_eq_none (by rw [List.length_singleton]; omega)] at h1
     cases h1
   rw [h0] at h1 h2
   simp only [List.getElem?_cons_zero, Option.some.injEq] at h1 h2
   subst h1 h2
   exact hu
 ·rw [List.pairwise_append]
  exact ⟨h.apart, List.pairwise_singleton _ _, fun a ha b hb => by obtain rfl := List.mem_singleton.1 hb; exact hd a ha⟩
theorem RowsP.init {w : World} {B : Nat} {us : List Value} {ps : List Pc} {p : Pc} (h : RowsP w B us (ps ++ [p])) : ∃ ur u, us = ur ++ [u] ∧ RowsP w B ur ps ∧ StrO w B u p.words ∧ ∀ x ∈ ur, x.ownBlock ≠ u.ownBlock := by
 have hl := h.len
 rw [List.length_append, List.length_singleton] at hl
 have hne : us ≠ [] := fun e => by rw [e] at hl; simp at hl
 obtain ⟨ur, u, rfl⟩ : ∃ ur u, us = ur ++ [u] := ⟨us.dropLast, us.getLast hne, (List.dropLast_concat_getLast hne).symm⟩
 have hl2 : ur.length = ps.length := by rw [List.length_append, List.length_singleton] at hl; omega
 have ha := h.apart
 rw [List.pairwise_append] at ha
 refine ⟨ur, u, rfl, ⟨hl2, fun i x q h1 h2 => ?_, ha.1⟩, ?_, fun x hx => ha.2.2 x hx u (by simp)⟩
 ·have hi := (List.getElem?_eq_some_iff.1 h1).1
  have hj := (List.getElem?_eq_some_iff.1 h2).1
  exact h.row i x q (by rw [List.getElem?_append_left hi]; exact h1) (by rw [List.getElem?_append_left hj]; exact h2)
 ·exact h.row ur.length u p (by rw [List.getElem?_append_right (Nat.le_refl _), Nat.sub_self]; rfl) (by rw [hl2, List.getElem?_append_right (Nat.le_refl _), Nat.sub_self]; rfl)
/-- A row of pieces, with the rows of their texts. -/
def PcsO (w : World) (B : Nat) (v : Value) (us : List Value) (ps : List Pc) : Prop := w.ownsRow B 194 4 v ps.length (pcsC us ps) ∧ RowsP w B us ps
theorem PcsO.nil (w : World) (B : Nat) : PcsO w B (.slice none 0 0) [] [] := ⟨World.ownsRow_nil _ _ _ _, RowsP.nil _ _⟩
theorem PcsO.below {w w' : World} {B : Nat} {v : Value} {us : List Value} {ps : List Pc} (h : PcsO w B v us ps) (hb : Below w.heap.size w w') : PcsO w' B v us ps := ⟨own_below h.1 hb, h.2.below hb⟩
theorem PcsO.form {w : World} {B : Nat} {v : Value} {us : List Value} {ps : List Pc} (h : PcsO w B v us ps) : ∃ a cap, v = .slice a ps.length cap := own_form h.1
/-- The cells of a piece. -/
theorem own_piece {w : World} {B n : Nat} {v : Value} {us ur : List Value} {ps pr : List Pc} {u : Value} {p : Pc} (h : w.ownsRow B 194 4 v n (pcsC (us ++ u :: ur) (ps ++ p :: pr))) (hl : us.length = ps.length) (hn : ps.length < n) :
  ∃ g cap, v = .slice (some ⟨g, 0, none⟩) n cap ∧ n ≤ cap ∧ cap ≤ maxLen ∧ B ≤ g ∧ g < w.heap.size ∧ w.cell? ⟨g, ps.length * 4, none⟩ = some u ∧ w.cell? ⟨g, ps.length * 4 + 1, none⟩ = some (.int .i64 p.nest) ∧ w.cell? ⟨g, ps.length * 4 + 2, none⟩ = some (.int .i64 p.tokens) ∧ w.cell? ⟨g, ps.length * 4 + 3, none⟩ = some (.bool p.plain) := by
 obtain ⟨g, cap, rfl, hb, hg, hc, hm, hcell, _⟩ := own_cells h (by omega)
 have key := fun j hj => (hcell (ps.length * 4 + j) (by omega)).trans (pcsC_get hl u p j hj)
 exact ⟨g, cap, rfl, hc, hm, hb, hg, (key 0 (by omega)).trans rfl, (key 1 (by omega)).trans rfl, (key 2 (by omega)).trans rfl, (key 3 (by omega)).trans rfl⟩
/-- One piece less: the slice is shorter. -/
theorem own_less {w : World} {B n k : Nat} {a : Option Addr} {cap : Nat} {xs ys : List Value} (h : w.ownsRow B 194 4 (.slice a n cap) n (xs ++ ys)) (hx : xs.length = k * 4) (hk : k ≤ n) (hn : a ≠ none) : w.ownsRow B 194 4 (.slice a k cap) k xs := by
 refine ⟨hx, ?_⟩
 rcases h.2 with ⟨he, _⟩ | ⟨g, c, cur, he, hb, hg, h1, h2, h3, h4⟩
 ·injection he with he _ _
  exact absurd he hn
 ·injection he with he1 he2 he3
  subst he1 he3
  refine .inr ⟨g, cap, cur, rfl, hb, hg, by omega, h2, h3, ?_⟩
  have : cur.toList.take (k * 4) = (cur.toList.take (n * 4)).take (k * 4) := by rw [List.take_take, Nat.min_eq_left (by omega)]
  rw [this, h4, ← hx, List.take_left]
theorem StrO.some {w : World} {B : Nat} {u : Value} {l : List (List UInt8)} (h : StrO w B u l) (hl : l ≠ []) : ∃ k, u.ownBlock = some k ∧ B ≤ k ∧ k < w.heap.size := by
 obtain ⟨g, cap, rfl, h1, h2⟩ := World.ownsRow.form h (List.length_pos_iff.2 hl)
 exact ⟨g, rfl, h1, h2⟩
/-- A new row lies apart from all old ones. -/
theorem RowsP.fresh {w w1 : World} {B b : Nat} {us : List Value} {ps : List Pc} (h : RowsP w B us ps) {u : Value} {l : List (List UInt8)} (hu : StrO w1 b u l) (hb : w.heap.size ≤ b) (hl : l ≠ []) : ∀ x ∈ us, x.ownBlock ≠ u.ownBlock := by
 intro x hx e
 obtain ⟨k, hk, hbk, _⟩ := hu.some hl
 rw [hk] at e
 obtain ⟨i, hi, rfl⟩ := List.mem_iff_getElem.1 hx
 have h1 := h.row i us[i] (ps[i]'(by rw [← h.len]; exact hi)) (List.getElem?_eq_getElem hi) (List.getElem?_eq_getElem _)
 have := (h1.lt k e).2
 omega
/-- A piece more. -/
theorem PcsO.push {w w1 w2 : World} {B b : Nat} {v v' u : Value} {us : List Value} {ps : List Pc} {p : Pc} (h : PcsO w B v us ps) (hb : Below w.heap.size w w1) (hu : StrO w1 b u p.words) (h1 : w.heap.size ≤ b) (h2 : B ≤ b) (hp : p.words ≠ [])
  (ho : w2.ownsRow B 194 4 v' (ps.length + 1) (pcsC us ps ++ pcC u p)) (hg : w1.grownBy w2 v.ownBlock) : PcsO w2 B v' (us ++ [u]) (ps ++ [p]) := by
 have hk : KeepTag 9 w1 w2 := KeepTag.own hg (own_below h.1 hb) (by decide)
 refine ⟨?_, ((h.2.below hb).tag hk).snoc ((hu.base h2).tag hk) (h.2.fresh hu h1 hp)⟩
 rw [pcsC_snoc us ps h.2.len, List.length_append, List.length_singleton]
 exact ho
/-- A piece more, whose row lies apart. -/
theorem PcsO.push2 {w w1 w2 : World} {B : Nat} {v v' u : Value} {us : List Value} {ps : List Pc} {p : Pc} (h : PcsO w B v us ps) (hb : Below w.heap.size w w1) (hu : StrO w1 B u p.words) (hd : ∀ x ∈ us, x.ownBlock ≠ u.ownBlock)
  (ho : w2.ownsRow B 194 4 v' (ps.length + 1) (pcsC us ps ++ pcC u p)) (hg : w1.grownBy w2 v.ownBlock) : PcsO w2 B v' (us ++ [u]) (ps ++ [p]) := by
 have hk : KeepTag 9 w1 w2 := KeepTag.own hg (own_below h.1 hb) (by decide)
 refine ⟨?_, ((h.2.below hb).tag hk).snoc (hu.tag hk) hd⟩
 rw [pcsC_snoc us ps h.2.len, List.length_append, List.length_singleton]
 exact ho
theorem RowsP.lt {w : World} {B : Nat} {us : List Value} {ps : List Pc} (h : RowsP w B us ps) : ∀ x ∈ us, ∀ k, x.ownBlock = some k → k < w.heap.size := by
 intro x hx k hk
 obtain ⟨i, hi, rfl⟩ := List.mem_iff_getElem.1 hx
 exact ((h.row i us[i] (ps[i]'(by rw [← h.len]; exact hi)) (List.getElem?_eq_getElem hi) (List.getElem?_eq_getElem _)).lt k hk).2
theorem Tryz.infoPiece : (Tryz.prog.info? 194).map (fun i => (i.zero, i.size, i.bytes)) = some (some (.agg #[.slice none 0 0, .int .i64 0, .int .i64 0, .bool false]), 4, 48) := by kernel_rfl
end Go.Proofs.YtknnleiinhdklaaGreatDoor
