/-
  A slice of tokens in memory: what it reads as, and how that is kept. No condition.
-/
import Derived.Test.YtknnleiinhdklaaGreatDoorPk03
namespace Go.Proofs.YtknnleiinhdklaaGreatDoor
open Go.RowKit Go.Shelf Go.Sort
theorem own_form {w : World} {base e size n : Nat} {v : Value} {xs : List Value} (h : w.ownsRow base e size v n xs) : ∃ a cap, v = .slice a n cap := by
 rcases h.2 with ⟨rfl, rfl⟩ | ⟨g, cap, cur, rfl, _⟩
 ·exact ⟨_, _, rfl⟩
 ·exact ⟨_, _, rfl⟩
theorem own_cells {w : World} {base e size n : Nat} {v : Value} {xs : List Value} (h : w.ownsRow base e size v n xs) (hn : n ≠ 0) :
  ∃ g cap, v = .slice (some ⟨g, 0, none⟩) n cap ∧ base ≤ g ∧ g < w.heap.size ∧ n ≤ cap ∧ cap ≤ maxLen ∧ (∀ j, j < n * size → w.cell? ⟨g, j, none⟩ = xs[j]?) ∧ (∀ j, w.frozen? ⟨g, j, none⟩ = false) := by
 have h0 := h
 rcases h.2 with ⟨rfl, h1⟩ | ⟨g, cap, cur, rfl, hb, hg, hc, hm, _⟩
 ·exact absurd h1 hn
 ·exact ⟨g, cap, rfl, hb, (Array.getElem?_eq_some_iff.1 hg).1, hc, hm, fun j hj => h0.cellAt j hj, fun j => h0.frozenAt j⟩
def Tok.ok (t : Tok) : Prop := -9223372036854775808 ≤ t.n ∧ t.n ≤ 9223372036854775807 ∧ t.word.length ≤ 9223372036854775807
theorem mkS_ne {a b : List UInt8} (h : a ≠ b) : ¬ (mkS a).toList = (mkS b).toList := fun e => h (by rw [ByteArray.toList_eq, ByteArray.toList_eq, mkS_toList, mkS_toList] at e; exact e)
/-- A slice value, in old memory, that reads as these tokens. -/
def TokS (w : World) (B : Nat) (v : Value) (l : List Tok) : Prop :=
 ∃ a cap, v = .slice a l.length cap ∧ l.length ≤ cap ∧ cap ≤ maxLen ∧ (0 < l.length → ∃ g o, a = some ⟨g, o, none⟩ ∧ g < B ∧
  ∀ (i : Nat) (t : Tok), l[i]? = some t → w.cell? ⟨g, o + i * 4, none⟩ = some (.int .i64 t.kind) ∧ w.cell? ⟨g, o + i * 4 + 1, none⟩ = some (.int .i64 t.at_) ∧ w.cell? ⟨g, o + i * 4 + 2, none⟩ = some (.string (mkS t.word)) ∧ w.cell? ⟨g, o + i * 4 + 3, none⟩ = some (.int .i64 t.n))
theorem TokS.below {w w' : World} {B : Nat} {v : Value} {l : List Tok} (h : TokS w B v l) (hb : Below B w w') : TokS w' B v l := by
 obtain ⟨a, cap, h1, h2, h3, h4⟩ := h
 refine ⟨a, cap, h1, h2, h3, fun hn => ?_⟩
 obtain ⟨g, o, k1, k2, k3⟩ := h4 hn
 refine ⟨g, o, k1, k2, fun i t hi => ?_⟩
 obtain ⟨c0, c1, c2, c3⟩ := k3 i t hi
 exact ⟨(hb.cell (p := ⟨g, _, none⟩) k2).trans c0, (hb.cell (p := ⟨g, _, none⟩) k2).trans c1, (hb.cell (p := ⟨g, _, none⟩) k2).trans c2, (hb.cell (p := ⟨g, _, none⟩) k2).trans c3⟩
theorem TokS.mono {w : World} {B B' : Nat} {v : Value} {l : List Tok} (h : TokS w B v l) (hB : B ≤ B') : TokS w B' v l := by
 obtain ⟨a, cap, h1, h2, h3, h4⟩ := h
 refine ⟨a, cap, h1, h2, h3, fun hn => ?_⟩
 obtain ⟨g, o, k1, k2, k3⟩ := h4 hn
 exact ⟨g, o, k1, Nat.lt_of_lt_of_le k2 hB, k3⟩
theorem tokCells_get (l : List Tok) : ∀ (i : Nat) (t : Tok), l[i]? = some t → (tokCells l)[i * 4]? = some (.int .i64 t.kind) ∧ (tokCells l)[i * 4 + 1]? = some (.int .i64 t.at_) ∧ (tokCells l)[i * 4 + 2]? = some (.string (mkS t.word)) ∧ (tokCells l)[i * 4 + 3]? = some (.int .i64 t.n) := by
 induction l with
 | nil => intro i t h; simp at h
 | cons a l ih =>
  intro i t h
  have hc : tokCells (a :: l) = a.cells ++ tokCells l := by simp [tokCells]
  have h4 : a.cells.length = 4 := rfl
  rw [hc]
  cases i with
  | zero => simp at h; subst h; simp [Tok.cells]
  | succ i =>
   obtain ⟨c0, c1, c2, c3⟩ := ih i t (by simpa using h)
   refine ⟨?_, ?_, ?_, ?_⟩
   ·rw [List.getElem?_append_right (by omega), h4, show (i + 1) * 4 - 4 = i * 4 by omega]; exact c0
   ·rw [List.getElem?_append_right (by omega), h4, show (i + 1) * 4 + 1 - 4 = i * 4 + 1 by omega]; exact c1
   ·rw [List.getElem?_append_right (by omega), h4, show (i + 1) * 4 + 2 - 4 = i * 4 + 2 by omega]; exact c2
   ·rw [List.getElem?_append_right (by omega), h4, show (i + 1) * 4 + 3 - 4 = i * 4 + 3 by omega]; exact c3
theorem TokS.of_own {w : World} {base : Nat} {v : Value} {l : List Tok} (h : w.ownsRow base 60 4 v l.length (tokCells l)) : TokS w w.heap.size v l := by
 rcases Nat.eq_zero_or_pos l.length with h0 | h0
 ·obtain ⟨a, cap, rfl⟩ := own_form h
  refine ⟨a, cap, rfl, by omega, ?_, fun hn => by omega⟩
  rcases h.2 with ⟨hv, _⟩ | ⟨g, cap', cur, hv, _, _, _, hm, _⟩
  ·injection hv with _ _ hc; subst hc; unfold maxLen; omega
  ·injection hv with _ _ hc; subst hc; exact hm
 ·obtain ⟨g, cap, rfl, _, hg, hc, hm, hcell, _⟩ := own_cells h (by omega)
  refine ⟨_, cap, rfl, hc, hm, fun _ => ⟨g, 0, rfl, hg, fun i t hi => ?_⟩⟩
  have hil : i < l.length := (List.getElem?_eq_some_iff.1 hi).1
  obtain ⟨c0, c1, c2, c3⟩ := tokCells_get l i t hi
  simp only [Nat.zero_add]
  exact ⟨(hcell _ (by omega)).trans c0, (hcell _ (by omega)).trans c1, (hcell _ (by omega)).trans c2, (hcell _ (by omega)).trans c3⟩
theorem TokS.nil (w : World) (B : Nat) : TokS w B (.slice none 0 0) [] := ⟨none, 0, rfl, Nat.le_refl _, by unfold maxLen; omega, fun h => absurd h (by simp)⟩
theorem TokS.take {w : World} {B : Nat} {g o n cap : Nat} {l : List Tok} (h : TokS w B (.slice (some ⟨g, o, none⟩) n cap) l) (k : Nat) (hk : k ≤ l.length) : TokS w B (.slice (some ⟨g, o, none⟩) k cap) (l.take k) := by
 obtain ⟨a, cap', he, h2, h3, h4⟩ := h
 injection he with e1 e2 e3
 subst e1 e2 e3
 have hl : (l.take k).length = k := by rw [List.length_take]; omega
 refine ⟨_, _, by rw [hl], by omega, h3, fun hn => ?_⟩
 obtain ⟨g', o', k1, k2, k3⟩ := h4 (by omega)
 injection k1 with k1
 injection k1 with k1 k1' _
 subst k1 k1'
 refine ⟨_, _, rfl, k2, fun i t hi => k3 i t ?_⟩
 rw [List.getElem?_take] at hi
 split at hi
 ·exact hi
 ·cases hi
theorem TokS.drop {w : World} {B : Nat} {g o n cap : Nat} {l : List Tok} (h : TokS w B (.slice (some ⟨g, o, none⟩) n cap) l) (k : Nat) (hk : k ≤ n) : TokS w B (.slice (some ⟨g, o + k * 4, none⟩) (n - k) (cap - k)) (l.drop k) := by
 obtain ⟨a, cap', he, h2, h3, h4⟩ := h
 injection he with e1 e2 e3
 subst e1 e2 e3
 have hl : (l.drop k).length = l.length - k := by rw [List.length_drop]
 refine ⟨_, _, by rw [hl], by omega, by omega, fun hn => ?_⟩
 obtain ⟨g', o', k1, k2, k3⟩ := h4 (by omega)
 injection k1 with k1
 injection k1 with k1 k1' _
 subst k1 k1'
 refine ⟨_, _, rfl, k2, fun i t hi => ?_⟩
 rw [List.getElem?_drop] at hi
 obtain ⟨c0, c1, c2, c3⟩ := k3 (k + i) t hi
 rw [show o + k * 4 + i * 4 = o + (k + i) * 4 by omega]
 exact ⟨c0, c1, c2, c3⟩
end Go.Proofs.YtknnleiinhdklaaGreatDoor
