/-
  A slice of strings that came in: what its reading says of the memory. No condition.
-/
import Derived.Test.YtfpneopobbfabaaDoorTokS
import Derived.Lib.SmallJoins
import Derived.SliceStrings
namespace Go.Proofs.YtfpneopobbfabaaDoor
open Go Go.ChangeShapes Go.WideShapes Go.RowKit Go.Deep Go.Joins

/-- A slice value that reads as these strings. -/
def StrS (w : World) (v : Value) (l : List ByteArray) : Prop :=
  ∃ a cap, v = .slice a l.length cap ∧ l.length ≤ cap ∧ cap ≤ maxLen ∧ (0 < l.length → ∃ g o, a = some ⟨g, o, none⟩ ∧ g < w.heap.size ∧ ∀ (i : Nat) (s : ByteArray), l[i]? = some s → w.cell? ⟨g, o + i, none⟩ = some (.string s))
theorem addr_add (b o j : Nat) : (⟨b, o, none⟩ : Addr).add j = ⟨b, o + j, none⟩ := by unfold Addr.add; split <;> simp_all
section
variable {H : Type} {enc : TypeId × Value → H} {w : World} {base : Nat} {spare : Nat → Bool} {held : Bool}
set_option maxRecDepth 100000 in
theorem open_strs {r : Reach} {b0 : Nat} {v : Value} {d : DataW H} {p : List MemPlace} (hv : Value.okWide Tryd.prog w r b0 50 v) (h : DataW.Trod enc Tryd.prog w base spare held 50 v d p) :
    ∃ l : List ByteArray, StrS w v l ∧ ∀ s ∈ l, s.size ≤ maxLen := by
  obtain ⟨a0, l0, c0, rfl⟩ := okWide_slice Tryd.underlying50 hv
  obtain ⟨fuel, hf⟩ := h
  have hC : Tryd.prog.cellsOf 9 = 1 := by kernel_rfl
  rcases open_strings Tryd.underlying50 Tryd.underlying9 hC hf with ⟨hcs, _⟩ | ⟨a, len, cap, ss, hcs, hb, hl, hm, hz, _, hcell, hsz⟩
  · simp [Value.cells] at hcs
    obtain ⟨rfl, rfl, rfl⟩ := hcs
    exact ⟨[], ⟨none, 0, rfl, Nat.le_refl _, by unfold maxLen; omega, fun h => absurd h (by simp)⟩, fun t ht => by simp at ht⟩
  · simp [Value.cells] at hcs
    obtain ⟨rfl, rfl, rfl⟩ := hcs
    have hlm : l0 ≤ ss.length := by rw [hz]; split <;> omega
    have htl : (ss.take l0).length = l0 := by rw [List.length_take]; omega
    refine ⟨ss.take l0, ⟨some a, c0, by rw [htl], by rw [htl]; exact hl, hm, ?_⟩, fun s hs => hsz s (List.mem_of_mem_take hs)⟩
    intro hpos
    rw [htl] at hpos
    obtain ⟨b, o, spot⟩ := a
    have h0 := hcell 0 (by omega)
    have hspot : spot = none := by simpa [Addr.add] using World.cell?_spot h0
    subst hspot
    refine ⟨b, o, rfl, ?_, ?_⟩
    · have := World.block_lt_of_cell? _ _ h0
      rwa [addr_add] at this
    · intro i s hi
      have hil : i < l0 := by
        have := (List.getElem?_eq_some_iff.1 hi).1
        rwa [htl] at this
      have := hcell i (by omega)
      rw [addr_add] at this
      rw [this, List.getD_eq_getElem?_getD]
      rw [List.getElem?_take_of_lt hil] at hi
      rw [hi]
      rfl
end
end Go.Proofs.YtfpneopobbfabaaDoor
