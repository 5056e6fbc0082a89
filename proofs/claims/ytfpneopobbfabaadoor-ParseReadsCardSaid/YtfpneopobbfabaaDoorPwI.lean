/-
  Rows of items that a call makes by append: a row behind a row, an item behind a row. Condition: the rows lie in memory.
-/
import Derived.Test.YtfpneopobbfabaaDoorPwC
namespace Go.Proofs.YtfpneopobbfabaaDoor
open Go.RowKit Go.Shelf Go.Sort

/-- Items in memory, from a block on. -/
def ItsO (w : World) (base : Nat) (v : Value) (l : List Itm) : Prop := ∃ cs, w.ownsRow base 48 5 v l.length cs ∧ ItsC w l cs
theorem ItsO.v {w : World} {base : Nat} {v : Value} {l : List Itm} (h : ItsO w base v l) : ItsV w v l := let ⟨cs, h1, h2⟩ := h; ⟨cs, own_base h1 (Nat.zero_le _), h2⟩
theorem ItsV.keep {w w' : World} {v : Value} {l : List Itm} (h : ItsV w v l) (hk : ∀ t, KeepTag t w w') : ItsV w' v l := let ⟨cs, h1, h2⟩ := h; ⟨cs, own_tag h1 (hk _), h2.keep (hk _)⟩
theorem ItsO.keep {w w' : World} {base : Nat} {v : Value} {l : List Itm} (h : ItsO w base v l) (hk : ∀ t, KeepTag t w w') : ItsO w' base v l := let ⟨cs, h1, h2⟩ := h; ⟨cs, own_tag h1 (hk _), h2.keep (hk _)⟩
theorem ItsV.lt {w : World} {v : Value} {l : List Itm} (h : ItsV w v l) {k : Nat} (hk : v.ownBlock = some k) : k < w.heap.size := let ⟨_, h1, _⟩ := h; (h1.lt k hk).2
theorem ItsV.other {w w' : World} {v : Value} {l : List Itm} {row : Option Nat} (h : ItsV w v l) (hg : w.grownBy w' row) (hne : v.ownBlock = none ∨ v.ownBlock ≠ row) (hk : KeepTag 2 w w') : ItsV w' v l :=
  let ⟨cs, h1, h2⟩ := h; ⟨cs, h1.kept hg hne, h2.keep hk⟩
theorem ItsC.append {w : World} {l1 l2 : List Itm} {cs1 cs2 : List Value} (h : ItsC w l1 cs1) (k : ItsC w l2 cs2) : ItsC w (l1 ++ l2) (cs1 ++ cs2) := by
  refine ⟨by rw [List.length_append, List.length_append, h.1, k.1, Nat.add_mul], fun i x hi => ?_⟩
  by_cases hl : i < l1.length
  · rw [List.getElem?_append_left hl] at hi
    obtain ⟨vn', h1, h2⟩ := h.2 i x hi
    refine ⟨vn', h1, fun j u hu => ?_⟩
    have := h2 j u hu
    rw [List.getElem?_append_left (List.getElem?_eq_some_iff.1 this).1]
    exact this
  · rw [List.getElem?_append_right (by omega)] at hi
    obtain ⟨vn', h1, h2⟩ := k.2 _ x hi
    refine ⟨vn', h1, fun j u hu => ?_⟩
    have := h2 j u hu
    rw [List.getElem?_append_right (by rw [h.1]; omega), h.1, show i * 5 + j - l1.length * 5 = (i - l1.length) * 5 + j by omega]
    exact this
theorem ItsC.one {w : World} {l : List Itm} {cs : List Value} (h : ItsC w l cs) : ∀ u ∈ cs, u.oneCell' = true := by
  intro u hu
  obtain ⟨j, hj⟩ := List.getElem?_of_mem hu
  have hlt := (List.getElem?_eq_some_iff.1 hj).1
  rw [h.1] at hlt
  obtain ⟨x, hx⟩ : ∃ x, l[j / 5]? = some x := ⟨l[j / 5]'(by omega), List.getElem?_eq_getElem _⟩
  obtain ⟨vn, hn, hc⟩ := h.2 _ x hx
  obtain ⟨an, cn, rfl⟩ := own_form hn
  have hm : j % 5 < (x.cells (.slice an x.nums.length cn)).length := by show j % 5 < 5; omega
  have hu2 := hc (j % 5) _ (List.getElem?_eq_getElem hm)
  rw [show j / 5 * 5 + j % 5 = j by omega, hj] at hu2
  injection hu2 with hu2
  have : ∀ y ∈ x.cells (.slice an x.nums.length cn), y.oneCell' = true := by
    intro y hy
    unfold Itm.cells at hy
    simp at hy
    rcases hy with rfl | rfl | rfl | rfl | rfl <;> rfl
  rw [hu2]
  exact this _ (List.getElem_mem _)
/-- A whole row of items behind a row that the call made. -/
theorem wpList_append_items {ops : Array Oper} {rest : List Oper} {o : Oper} {a : Act} {w : World} {Q : Exit → Act → World → Prop} (hgd : o.guard = none) (s x : Operand)
    (ho : o.op = .call { callee := .builtin .append, args := #[s, x], argTypes := #[40, 40] }) (base n m : Nat) (v v2 : Value) (l1 l2 : List Itm) (hs : a.eval s = v) (h1 : ItsO w base v l1) (hx : a.eval x = v2) (h2 : ItsV w v2 l2)
    (hne : 0 < l2.length) (hn : n = l1.length) (hm : m = l2.length) (hb1 : l1.length ≤ 100000) (hb2 : l2.length ≤ 100000) (hbase : base ≤ w.heap.size)
    (h : ∀ g cap w', ItsO w' base (.slice (some ⟨g, 0, none⟩) (n + m) cap) (l1 ++ l2) → w.grownBy w' v.ownBlock → (∀ t, t ≠ 48 → KeepTag t w w') → (v.ownBlock = some g ∨ g = w.heap.size) → wpList Tryd.prog ops Q rest (a.put o.dst (.slice (some ⟨g, 0, none⟩) (n + m) cap)) w') :
    wpList Tryd.prog ops Q (o :: rest) a w := by
  subst hn hm
  obtain ⟨i0, hi, hz0, hz1, hz2⟩ := info_parts Tryd.infoItem
  obtain ⟨cs1, o1, c1⟩ := h1
  obtain ⟨cs2, o2, c2⟩ := h2
  have o2' := o2
  obtain ⟨g2, cap2, rfl, _, hg2, hc2, hm2, hcell, _⟩ := own_cells o2 (by omega)
  refine wpList_append_lies w hgd s x 40 ho base 48 i0 (.agg #[.int .i64 0, .int .i64 0, .int .u8 0, .string ⟨#[]⟩, .slice none 0 0]) 5 64 Tryd.underlying40 hi hz0 hz1 hz2 rfl (by decide) v l1.length cs1 hs o1 ⟨g2, 0, none⟩ l2.length cap2 cs2 hx c2.1 ?_ c2.one hne (by unfold maxLen; omega) (by omega) hbase _ rfl ?_
  · intro j u hu
    rw [Addr.add_lit, Nat.zero_add, hcell j (by have := (List.getElem?_eq_some_iff.1 hu).1; rw [c2.1] at this; exact this)]
    exact hu
  · intro g cap w' hown hgrow hat hlt
    have kt : ∀ t, t ≠ 48 → KeepTag t w w' := fun t ht => KeepTag.own hgrow o1 ht
    refine h g cap w' ⟨cs1 ++ cs2, by rw [List.length_append]; exact hown, (c1.append c2).keep (kt _ (by decide))⟩ hgrow kt hat
end Go.Proofs.YtfpneopobbfabaaDoor
