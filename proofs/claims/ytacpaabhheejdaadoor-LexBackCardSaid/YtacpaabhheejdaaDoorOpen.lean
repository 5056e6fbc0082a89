/-
  A token, and a slice of tokens, that came in: what their readings say of the memory. No condition.
-/
import Derived.Test.YtacpaabhheejdaaDoorSame
import Derived.Lib.SmallJoins
namespace Go.Proofs.YtacpaabhheejdaaDoor
open Go Go.ChangeShapes Go.WideShapes Go.RowKit Go.Deep Go.Joins

theorem wf_bounds {n : Int} (h : (Lit.int .i64 n).wf = true) : -9223372036854775808 ≤ n ∧ n ≤ 9223372036854775807 := by
  simp only [Lit.wf, Bool.and_eq_true, decide_eq_true_eq] at h
  exact h
section
variable {H : Type} {enc : TypeId × Value → H} {w : World} {base : Nat} {spare : Nat → Bool} {held : Bool}
set_option maxRecDepth 100000 in
theorem open_token {r : Reach} {b0 : Nat} {v : Value} {d : DataW H} {p : List MemPlace} (hv : Value.okWide Tryd.prog w r b0 32 v) (h : DataW.Trod enc Tryd.prog w base spare held 32 v d p) : ∃ t : Tok, v = t.val ∧ t.ok := by
  obtain ⟨v0, v1, v2, v3, y0, y1, y2, y3, n, rfl, -, -, g0, g1, g2, g3⟩ := open_agg4 Tryd.underlying32 (by kernel_rfl) (by kernel_rfl) hv h
  obtain ⟨k, e0, -, -⟩ := DataW.trod_int Tryd.underlying3 g0
  obtain ⟨a, e1, -, -⟩ := DataW.trod_int Tryd.underlying3 g1
  obtain ⟨s, e2, -, hs⟩ := DataW.trod_string Tryd.underlying9 g2
  obtain ⟨q, e3, -, hq⟩ := DataW.trod_int Tryd.underlying2 g3
  injection e0 with e0
  injection e1 with e1
  injection e2 with e2
  injection e3 with e3
  subst e0 e1 e2 e3
  have hb := wf_bounds hq
  exact ⟨⟨k, a, s.data.toList, q⟩, by simp [Tok.val], hb.1, hb.2, by unfold maxLen at hs; rw [← size_list]; omega⟩
set_option maxRecDepth 100000 in
theorem token_cells {n : Nat} {cs : List Value} {x : DataW H × List MemPlace} (h : DataW.trod enc Tryd.prog w base spare held n 32 cs = some x) : ∃ t : Tok, cs = t.cells ∧ t.ok := by
  obtain ⟨y0, y1, y2, y3, n, -, hl, g0, g1, g2, g3⟩ := trod_struct4 Tryd.underlying32 h
  have hC : Tryd.prog.cellsOf 32 = 4 := by kernel_rfl
  rw [hC] at hl
  match cs, hl with
  | [c0, c1, c2, c3], _ =>
    have k0 : Tryd.prog.cellsOf 3 = 1 := by kernel_rfl
    have k1 : Tryd.prog.cellsOf 9 = 1 := by kernel_rfl
    have k2 : Tryd.prog.cellsOf 2 = 1 := by kernel_rfl
    simp [k0, k1, k2] at g0 g1 g2 g3
    obtain ⟨k, e0, -, -⟩ := DataW.trod_int Tryd.underlying3 g0
    obtain ⟨a, e1, -, -⟩ := DataW.trod_int Tryd.underlying3 g1
    obtain ⟨s, e2, -, hs⟩ := DataW.trod_string Tryd.underlying9 g2
    obtain ⟨q, e3, -, hq⟩ := DataW.trod_int Tryd.underlying2 g3
    injection e0 with e0
    injection e1 with e1
    injection e2 with e2
    injection e3 with e3
    subst e0 e1 e2 e3
    have hb := wf_bounds hq
    exact ⟨⟨k, a, s.data.toList, q⟩, by simp [Tok.cells], hb.1, hb.2, by unfold maxLen at hs; rw [← size_list]; omega⟩
theorem add_plain' (b o j : Nat) : (⟨b, o, none⟩ : Addr).add j = ⟨b, o + j, none⟩ := by unfold Addr.add; split <;> simp_all
instance : Inhabited Tok := ⟨Tok.none⟩
set_option maxRecDepth 100000 in
theorem open_tokens {r : Reach} {b0 : Nat} {v : Value} {d : DataW H} {p : List MemPlace} (hv : Value.okWide Tryd.prog w r b0 23 v) (h : DataW.Trod enc Tryd.prog w base spare held 23 v d p) :
    ∃ l : List Tok, TokS w w.heap.size v l ∧ ∀ t ∈ l, t.ok := by
  obtain ⟨a0, l0, c0, rfl⟩ := okWide_slice Tryd.underlying23 hv
  obtain ⟨fuel, hf⟩ := h
  have hC : Tryd.prog.cellsOf 32 = 4 := by kernel_rfl
  rcases open_slice Tryd.underlying23 hf with ⟨hcs, _⟩ | ⟨a, len, cap, m, n, D, Pl, hcs, hb, hl, hm, hmm, _, hx⟩
  · simp [Value.cells] at hcs
    obtain ⟨rfl, rfl, rfl⟩ := hcs
    exact ⟨[], ⟨none, 0, rfl, Nat.le_refl _, by unfold maxLen; omega, fun h => absurd h (by simp)⟩, fun t ht => by simp at ht⟩
  · simp [Value.cells] at hcs
    obtain ⟨rfl, rfl, rfl⟩ := hcs
    have hlm : l0 ≤ m := by rw [hmm]; split <;> omega
    rw [hC] at hx
    obtain ⟨f, hfm⟩ := choose_lt (n := l0) (p := fun i (t : Tok) => w.cells? base (a.add (i * 4)) 4 = some t.cells ∧ t.ok) (fun i hi => by
      obtain ⟨cs', h1, h2⟩ := hx i (by omega)
      obtain ⟨t, rfl, ht⟩ := token_cells h2
      exact ⟨t, h1, ht⟩)
    refine ⟨(List.range l0).map f, ⟨some a, c0, by simp, by simpa using hl, hm, ?_⟩, ?_⟩
    · intro hpos
      simp at hpos
      obtain ⟨b, o, spot⟩ := a
      have hcell : ∀ i, i < l0 → ∀ j, j < 4 → w.cell? (((⟨b, o, spot⟩ : Addr).add (i * 4)).add j) = (f i).cells[j]? := fun i hi => (World.cells?_some (hfm i hi).1).2.2
      have h0 : w.cell? (((⟨b, o, spot⟩ : Addr).add (0 * 4)).add 0) = some (.int .i64 (f 0).kind) := hcell 0 hpos 0 (by omega)
      have hspot : spot = none := by simpa [Addr.add] using World.cell?_spot h0
      subst hspot
      refine ⟨b, o, rfl, ?_, ?_⟩
      · have := World.block_lt_of_cell? _ _ h0
        rwa [add_plain', add_plain'] at this
      · intro i t hi
        have hil : i < l0 := by
          have := (List.getElem?_eq_some_iff.1 hi).1
          simpa using this
        have ht : f i = t := by simpa [List.getElem?_range hil] using hi
        subst ht
        have g := hcell i hil
        simp only [add_plain'] at g
        exact ⟨g 0 (by omega), g 1 (by omega), g 2 (by omega), g 3 (by omega)⟩
    · intro t ht
      obtain ⟨i, hi, rfl⟩ := List.mem_map.1 ht
      exact (hfm i (List.mem_range.1 hi)).2
end
end Go.Proofs.YtacpaabhheejdaaDoor
