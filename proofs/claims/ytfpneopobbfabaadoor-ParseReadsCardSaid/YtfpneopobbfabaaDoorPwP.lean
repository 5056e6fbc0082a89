/-
  The cells of a program in memory. No condition.
-/
import Derived.Test.YtfpneopobbfabaaDoorPwI
namespace Go.Proofs.YtfpneopobbfabaaDoor
open Go.RowKit Go.Shelf Go.Sort

theorem PrgV.forms {w : World} {b : Nat} {vi vl : Value} {p : Prg} (h : PrgV w b vi vl p) : (∃ a c, vi = .slice a p.inputs.length c) ∧ (∃ a c, vl = .slice a p.lines.length c) := by
  obtain ⟨ci, cl, o1, _, o3, _⟩ := h
  exact ⟨own_form o1, own_form o3⟩
theorem PrgV.line_at {w : World} {b : Nat} {vi vl : Value} {p : Prg} (h : PrgV w b vi vl p) (hl : 0 < p.lines.length) :
    ∃ g cap, vl = .slice (some ⟨g, 0, none⟩) p.lines.length cap ∧ p.lines.length ≤ cap ∧ cap ≤ maxLen ∧ b ≤ g ∧ g < w.heap.size ∧ ∀ (i : Nat) (x : Lin), p.lines[i]? = some x → ∃ v, ItsV w v x.items ∧
      w.cell? ⟨g, i * 3, none⟩ = some (.string (mkS x.name)) ∧ w.cell? ⟨g, i * 3 + 1, none⟩ = some (.int .i64 x.at_) ∧ w.cell? ⟨g, i * 3 + 2, none⟩ = some v := by
  obtain ⟨ci, cl, _, _, o3, o4⟩ := h
  obtain ⟨g, cap, rfl, hb, hg, hc, hm, hcell, _⟩ := own_cells o3 (by omega)
  refine ⟨g, cap, rfl, hc, hm, hb, hg, fun i x hx => ?_⟩
  obtain ⟨c, hcl, ⟨v, cs, rfl, hox, hix⟩, hj⟩ := o4.2 i x hx
  have hi := (List.getElem?_eq_some_iff.1 hx).1
  exact ⟨v, ⟨cs, hox, hix⟩, (hcell _ (by omega)).trans (hj 0 _ rfl), (hcell _ (by omega)).trans (hj 1 _ rfl), (hcell _ (by omega)).trans (hj 2 _ rfl)⟩
theorem PrgV.input_at {w : World} {b : Nat} {vi vl : Value} {p : Prg} (h : PrgV w b vi vl p) (hl : 0 < p.inputs.length) :
    ∃ g cap, vi = .slice (some ⟨g, 0, none⟩) p.inputs.length cap ∧ p.inputs.length ≤ cap ∧ cap ≤ maxLen ∧ b ≤ g ∧ g < w.heap.size ∧ ∀ (i : Nat) (x : Inp), p.inputs[i]? = some x → ∃ v, w.ownsRow 0 77 2 v x.sides.length (sideCells x.sides) ∧
      w.cell? ⟨g, i * 3, none⟩ = some (.string (mkS x.name)) ∧ w.cell? ⟨g, i * 3 + 1, none⟩ = some (.int .i64 x.at_) ∧ w.cell? ⟨g, i * 3 + 2, none⟩ = some v := by
  obtain ⟨ci, cl, o1, o2, _, _⟩ := h
  obtain ⟨g, cap, rfl, hb, hg, hc, hm, hcell, _⟩ := own_cells o1 (by omega)
  refine ⟨g, cap, rfl, hc, hm, hb, hg, fun i x hx => ?_⟩
  obtain ⟨c, hcl, ⟨v, rfl, hox⟩, hj⟩ := o2.2 i x hx
  have hi := (List.getElem?_eq_some_iff.1 hx).1
  exact ⟨v, hox, (hcell _ (by omega)).trans (hj 0 _ rfl), (hcell _ (by omega)).trans (hj 1 _ rfl), (hcell _ (by omega)).trans (hj 2 _ rfl)⟩
theorem PrgV.all {w w' : World} {b : Nat} {vi vl : Value} {p : Prg} (h : PrgV w b vi vl p) (hk : ∀ t, KeepTag t w w') : PrgV w' b vi vl p := h.keep (fun t _ _ _ _ => hk t)
theorem keep_two (w : World) (o1 o2 : Obj) : ∀ t, KeepTag t w ((w.alloc o1).alloc o2) := fun t => KeepTag.below (((Below.refl _ _).alloc (Nat.le_refl _) _).alloc (by simp) _)
end Go.Proofs.YtfpneopobbfabaaDoor
