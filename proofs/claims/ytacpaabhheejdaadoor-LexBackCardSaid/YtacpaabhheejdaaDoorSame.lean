/-
  Walk of windrowref03.Same, where the tokens are the same: it says so. Condition: places and the move are not great.
-/
import Derived.Test.YtacpaabhheejdaaDoorLawA
namespace Go.Proofs.YtacpaabhheejdaaDoor
open Go.RowKit Go.Shelf Go.Sort

/-- A slice value, in old memory, that reads as these tokens. -/
def TokS (w : World) (B : Nat) (v : Value) (l : List Tok) : Prop :=
  ∃ a cap, v = .slice a l.length cap ∧ l.length ≤ cap ∧ cap ≤ maxLen ∧ (0 < l.length → ∃ g o, a = some ⟨g, o, none⟩ ∧ g < B ∧
    ∀ (i : Nat) (t : Tok), l[i]? = some t → w.cell? ⟨g, o + i * 4, none⟩ = some (.int .i64 t.kind) ∧ w.cell? ⟨g, o + i * 4 + 1, none⟩ = some (.int .i64 t.at_) ∧ w.cell? ⟨g, o + i * 4 + 2, none⟩ = some (.string (mkS t.word)) ∧ w.cell? ⟨g, o + i * 4 + 3, none⟩ = some (.int .i64 t.n))
theorem TokS.below {w w' : World} {B : Nat} {v : Value} {l : List Tok} (h : TokS w B v l) (hb : Below B w w') : TokS w' B v l := by
  obtain ⟨a, cap, h1, h2, h3, h4⟩ := h
  refine ⟨a, cap, h1, h2, h3, fun hn => ?_⟩
  obtain ⟨g, o, k1, k2, k3⟩ := h4 hn
  refine ⟨g, o, k1, k2, fun i t hi => ?_⟩
  obtain ⟨c0, c1, c2, c3⟩ := k3 i t hi
  exact ⟨(hb.cell (p := ⟨g, _, none⟩) k2).trans c0, (hb.cell (p := ⟨g, _, none⟩) k2).trans c1, (hb.cell (p := ⟨g, _, none⟩) k2).trans c2, (hb.cell (p := ⟨g, _, none⟩) k2).trans c3⟩
theorem TokS.mono {w : World} {B B' : Nat} {v : Value} {l : List Tok} (h : TokS w B v l) (hB : B ≤ B') : TokS w B' v l := by
  obtain ⟨a, cap, h1, h2, h3, h4⟩ := h
  refine ⟨a, cap, h1, h2, h3, fun hn => ?_⟩
  obtain ⟨g, o, k1, k2, k3⟩ := h4 hn
  exact ⟨g, o, k1, Nat.lt_of_lt_of_le k2 hB, k3⟩
theorem tokCells_get (l : List Tok) : ∀ (i : Nat) (t : Tok), l[i]? = some t → (tokCells l)[i * 4]? = some (.int .i64 t.kind) ∧ (tokCells l)[i * 4 + 1]? = some (.int .i64 t.at_) ∧ (tokCells l)[i * 4 + 2]? = some (.string (mkS t.word)) ∧ (tokCells l)[i * 4 + 3]? = some (.int .i64 t.n) := by
  induction l with
  | nil => intro i t h; simp at h
  | cons a l ih =>
    intro i t h
    have hc : tokCells (a :: l) = a.cells ++ tokCells l := by simp [tokCells]
    have h4 : a.cells.length = 4 := rfl
    rw [hc]
    cases i with
    | zero => simp at h; subst h; simp [Tok.cells]
    | succ i =>
      obtain ⟨c0, c1, c2, c3⟩ := ih i t (by simpa using h)
      refine ⟨?_, ?_, ?_, ?_⟩
      · rw [List.getElem?_append_right (by omega), h4, show (i + 1) * 4 - 4 = i * 4 by omega]; exact c0
      · rw [List.getElem?_append_right (by omega), h4, show (i + 1) * 4 + 1 - 4 = i * 4 + 1 by omega]; exact c1
      · rw [List.getElem?_append_right (by omega), h4, show (i + 1) * 4 + 2 - 4 = i * 4 + 2 by omega]; exact c2
      · rw [List.getElem?_append_right (by omega), h4, show (i + 1) * 4 + 3 - 4 = i * 4 + 3 by omega]; exact c3
theorem TokS.of_own {w : World} {base : Nat} {v : Value} {l : List Tok} (h : w.ownsRow base 32 4 v l.length (tokCells l)) : TokS w w.heap.size v l := by
  rcases Nat.eq_zero_or_pos l.length with h0 | h0
  · obtain ⟨a, cap, rfl⟩ := own_form h
    refine ⟨a, cap, rfl, by omega, ?_, fun hn => by omega⟩
    rcases h.2 with ⟨hv, _⟩ | ⟨g, cap', cur, hv, _, _, _, hm, _⟩
    · injection hv with _ _ hc; subst hc; unfold maxLen; omega
    · injection hv with _ _ hc; subst hc; exact hm
  · obtain ⟨g, cap, rfl, _, hg, hc, hm, hcell, _⟩ := own_cells h (by omega)
    refine ⟨_, cap, rfl, hc, hm, fun _ => ⟨g, 0, rfl, hg, fun i t hi => ?_⟩⟩
    have hil : i < l.length := (List.getElem?_eq_some_iff.1 hi).1
    obtain ⟨c0, c1, c2, c3⟩ := tokCells_get l i t hi
    simp only [Nat.zero_add]
    exact ⟨(hcell _ (by omega)).trans c0, (hcell _ (by omega)).trans c1, (hcell _ (by omega)).trans c2, (hcell _ (by omega)).trans c3⟩
/-- A token moved, if it lies from a place on. -/
def Tok.move (f d : Int) (t : Tok) : Tok := if f ≤ t.at_ then { t with at_ := t.at_ + d } else t

set_option maxRecDepth 100000 in
set_option maxHeartbeats 4000000 in
theorem Same_true (l : List Tok) (va vb : Value) (f d : Int) (w : World) (ha : TokS w w.heap.size va l) (hb : TokS w w.heap.size vb (l.map (Tok.move f d)))
    (hl : ∀ t ∈ l, 0 ≤ t.at_ ∧ t.at_ ≤ 4294967296) (hd0 : 0 ≤ d) (hd1 : d ≤ 4294967296) :
    Calls Tryd.prog 14 #[va, vb, .int .i64 f, .int .i64 d] w fun e w' => e = .returned (.bool true) ∧ Below w.heap.size w w' := by
  obtain ⟨a, cap, rfl, hc1, hm1, ha1⟩ := ha
  obtain ⟨b, cap', rfl, hc2, hm2, hb1⟩ := hb
  rw [List.length_map] at hc2 hb1 ⊢
  unfold maxLen at hm1 hm2
  have HA := Lib.hid ha1
  have HB := Lib.hid hb1
  have HL := Lib.hid hl
  clear ha1 hb1 hl
  obtain ⟨n, hn⟩ : ∃ n, n = l.length := ⟨_, rfl⟩
  rw [← hn] at hc1 hc2 HA HB ⊢
  have HN := Lib.hid hn
  clear hn
  go_enter Tryd.func14, Tryd.ntmps14
  go_wp2
  go_loopw [9] (fun i wr => ∃ k : Nat, k ≤ n ∧ i = .int .i64 k ∧ Below w.heap.size w wr) (fun i _ => n - (intOf i).toNat)
  case atStart => exact ⟨0, Nat.zero_le _, rfl, Below.refl _ _⟩
  case round =>
    obtain ⟨k, hk, rfl, hbel⟩ := hrel
    by_cases hlt : k < n
    · obtain ⟨g, o, rfl, hg, hcell⟩ := HA.out (by omega)
      obtain ⟨g', o', rfl, hg', hcell'⟩ := HB.out (by omega)
      obtain ⟨t, ht⟩ : ∃ t, l[k]? = some t := ⟨l[k]'(by rw [← HN.out]; exact hlt), List.getElem?_eq_getElem _⟩
      obtain ⟨c0, c1, c2, c3⟩ := hcell k t ht
      obtain ⟨d0, d1, d2, d3⟩ := hcell' k (t.move f d) (by rw [List.getElem?_map, ht]; rfl)
      obtain ⟨hp0, hp1⟩ := HL.out t (List.mem_of_getElem? ht)
      clear hcell hcell' ht
      have k0 := (hbel.cell (p := ⟨g, _, none⟩) hg).trans c0
      have k1 := (hbel.cell (p := ⟨g, _, none⟩) hg).trans c1
      have k2 := (hbel.cell (p := ⟨g, _, none⟩) hg).trans c2
      have k3 := (hbel.cell (p := ⟨g, _, none⟩) hg).trans c3
      have q0 := (hbel.cell (p := ⟨g', _, none⟩) hg').trans d0
      have q1 := (hbel.cell (p := ⟨g', _, none⟩) hg').trans d1
      have q2 := (hbel.cell (p := ⟨g', _, none⟩) hg').trans d2
      have q3 := (hbel.cell (p := ⟨g', _, none⟩) hg').trans d3
      clear c0 c1 c2 c3 d0 d1 d2 d3
      have hsz := hbel.size
      have hgw : g < wr.heap.size := by omega
      have hgw2 : g' < wr.heap.size := by omega
      obtain ⟨kd, pl, wd, nn⟩ := t
      dsimp only at *
      by_cases hf : f ≤ pl
      · simp only [Tok.move, hf, if_true] at q0 q1 q2 q3
        have hlt' : (k : Int) < (n : Int) := by omega
        go_wp2
        go_quiet (fail)
        go_wp2
        go_roundw
        case rel => exact ⟨k + 1, by omega, by go_num, below_draws (hbel.alloc hbel.size _) _⟩
        case measure => simp [intOf]; omega
      · simp only [Tok.move, hf, if_false] at q0 q1 q2 q3
        have hlt' : (k : Int) < (n : Int) := by omega
        go_wp2
        go_quiet (fail)
        go_wp2
        go_roundw
        case rel => exact ⟨k + 1, by omega, by go_num, below_draws (hbel.alloc hbel.size _) _⟩
        case measure => simp [intOf]; omega
    · obtain rfl : k = n := by omega
      go_wp2
      go_ret
      exact ⟨rfl, hbel⟩
end Go.Proofs.YtacpaabhheejdaaDoor
