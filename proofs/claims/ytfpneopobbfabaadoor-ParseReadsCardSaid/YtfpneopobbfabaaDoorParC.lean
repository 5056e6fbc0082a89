/-
  Walks of package parse: a line's at, peek, fault. Condition: the line lies in memory, its tokens too.
-/
import Derived.Test.YtfpneopobbfabaaDoorParB
import Derived.StillTailTactics
import Derived.Deep.QuietTactic
import Derived.RegionTactic
import Derived.BigRegion
namespace Go.Proofs.YtfpneopobbfabaaDoor
open Go.RowKit Go.Shelf Go.Sort

theorem below_drewN' {B : Nat} {a w : World} (h : Below B a w) (n : Nat) : Below B a (w.drewN n) := h.trans ⟨rfl, rfl, rfl, Nat.le_refl _, fun _ _ => rfl⟩
/-- A line lies in block L: its tokens, the next one's number, the place of its end. -/
def LineIs (w : World) (L : Nat) (vt : Value) (k : Nat) (e : Int) : Prop := w.heap[L]? = some (.cells #[vt, .int .i64 k, .int .i64 e] 62 (0, 0))
theorem LineIs.lt {w : World} {L : Nat} {vt : Value} {k : Nat} {e : Int} (h : LineIs w L vt k e) : L < w.heap.size := (Array.getElem?_eq_some_iff.1 h).1
theorem LineIs.below {w w' : World} {L : Nat} {vt : Value} {k : Nat} {e : Int} (h : LineIs w L vt k e) (hb : Below w.heap.size w w') : LineIs w' L vt k e := (hb.block L h.lt).trans h
theorem LineIs.cells {w : World} {L : Nat} {vt : Value} {k : Nat} {e : Int} (h : LineIs w L vt k e) :
    w.cell? ⟨L, 0, none⟩ = some vt ∧ w.cell? ⟨L, 1, none⟩ = some (.int .i64 k) ∧ w.cell? ⟨L, 2, none⟩ = some (.int .i64 e) ∧ w.frozen? ⟨L, 0, none⟩ = false ∧ w.frozen? ⟨L, 1, none⟩ = false ∧ w.frozen? ⟨L, 2, none⟩ = false := by
  unfold LineIs at h
  simp [World.cell?, World.frozen?, h]
def peekT (toks : List Tok) (k : Nat) : Tok := match toks.drop k with | [] => ⟨4, 0, [], 0⟩ | t :: _ => t
theorem peek_in {toks : List Tok} {k : Nat} {t : Tok} (h : toks[k]? = some t) : peekT toks k = t := by
  obtain ⟨hk, ht⟩ := List.getElem?_eq_some_iff.1 h
  unfold peekT
  rw [List.drop_eq_getElem_cons hk, ht]
theorem peek_out {toks : List Tok} {k : Nat} (h : toks.length ≤ k) : peekT toks k = ⟨4, 0, [], 0⟩ := by
  unfold peekT
  rw [List.drop_eq_nil_of_le h]
theorem place_in {toks : List Tok} {k : Nat} {t : Tok} (e : Int) (h : toks[k]? = some t) : placeP e (toks.drop k) = t.at_ := by
  obtain ⟨hk, ht⟩ := List.getElem?_eq_some_iff.1 h
  unfold placeP
  rw [List.drop_eq_getElem_cons hk, ht]
theorem place_out {toks : List Tok} {k : Nat} (e : Int) (h : toks.length ≤ k) : placeP e (toks.drop k) = e := by
  unfold placeP
  rw [List.drop_eq_nil_of_le h]
set_option maxHeartbeats 1000000 in
set_option maxRecDepth 100000 in
theorem at_any (L : Nat) (vt : Value) (toks : List Tok) (k : Nat) (e : Int) (w : World) (hL : LineIs w L vt k e) (hT : TokS w w.heap.size vt toks) :
    Calls Tryd.prog 55 #[.pointer (some ⟨L, 0, none⟩)] w fun e' w' => e' = .returned (.int .i64 (placeP e (toks.drop k))) ∧ Below w.heap.size w w' := by
  obtain ⟨c0, c1, c2, -, -, -⟩ := hL.cells
  have hlt := hL.lt
  obtain ⟨a, cap, rfl, hc, hm, hcells⟩ := hT
  have HC := Lib.hid hcells
  clear hcells hL
  obtain ⟨n, hn⟩ : ∃ n, n = toks.length := ⟨_, rfl⟩
  rw [← hn] at hc HC c0
  unfold maxLen at hm
  by_cases hk : k < n
  · have hk2 : (k : Int) < n := by omega
    have hk3 : decide ((k : Int) < n) = true := by rw [decide_eq_true_iff]; exact hk2
    obtain ⟨g, o, rfl, hg, hcell⟩ := HC.out (by omega)
    obtain ⟨t, ht⟩ : ∃ t, toks[k]? = some t := ⟨toks[k]'(by omega), List.getElem?_eq_getElem _⟩
    obtain ⟨d0, d1, d2, d3⟩ := hcell k t ht
    have HP := Lib.hid (place_in e ht)
    clear hcell ht d0 d2 d3 hn
    go_enter Tryd.func55, Tryd.ntmps55
    go_wp2
    go_quiet (fail)
    go_wp2
    go_quiet (fail)
    go_wp2
    go_ret
    exact ⟨by rw [HP.out]; rfl, by repeat (first | exact Below.refl _ _ | refine below_drewN' ?_ _)⟩
  · have hk2 : ¬ (k : Int) < n := by omega
    have hk3 : decide ((k : Int) < n) = false := by rw [decide_eq_false_iff_not]; exact hk2
    have HP := Lib.hid (place_out (toks := toks) (k := k) e (by omega))
    clear hn
    go_enter Tryd.func55, Tryd.ntmps55
    go_wp2
    go_quiet (fail)
    go_wp2
    go_ret
    exact ⟨by rw [HP.out]; rfl, by repeat (first | exact Below.refl _ _ | refine below_drewN' ?_ _)⟩
set_option maxHeartbeats 1000000 in
set_option maxRecDepth 100000 in
theorem peek_any (L : Nat) (vt : Value) (toks : List Tok) (k : Nat) (e : Int) (w : World) (hL : LineIs w L vt k e) (hT : TokS w w.heap.size vt toks) :
    Calls Tryd.prog 39 #[.pointer (some ⟨L, 0, none⟩)] w fun e' w' => e' = .returned (peekT toks k).val ∧ Below w.heap.size w w' := by
  obtain ⟨c0, c1, c2, -, -, -⟩ := hL.cells
  have hlt := hL.lt
  obtain ⟨a, cap, rfl, hc, hm, hcells⟩ := hT
  have HC := Lib.hid hcells
  clear hcells hL
  obtain ⟨n, hn⟩ : ∃ n, n = toks.length := ⟨_, rfl⟩
  rw [← hn] at hc HC c0
  unfold maxLen at hm
  by_cases hk : k < n
  · have hk2 : (k : Int) < n := by omega
    have hk3 : decide ((k : Int) < n) = true := by rw [decide_eq_true_iff]; exact hk2
    obtain ⟨g, o, rfl, hg, hcell⟩ := HC.out (by omega)
    obtain ⟨t, ht⟩ : ∃ t, toks[k]? = some t := ⟨toks[k]'(by omega), List.getElem?_eq_getElem _⟩
    obtain ⟨d0, d1, d2, d3⟩ := hcell k t ht
    have HP := Lib.hid (peek_in ht)
    obtain ⟨kd, pl, wd, nn⟩ := t
    clear hcell ht hn
    go_enter Tryd.func39, Tryd.ntmps39
    go_wp2
    go_quiet (fail)
    go_wp2
    go_region
    go_wp2
    refine bodyPost_ret (v := .agg #[.int .i64 kd, .int .i64 pl, .string (mkS wd), .int .i64 nn]) (by simp [results, Tryd.results39, go_sem]) rfl ⟨by rw [HP.out]; rfl, by repeat (first | exact Below.refl _ _ | refine below_drewN' ?_ _ | refine below_set ?_ (Nat.le_refl _) _ | refine Below.alloc ?_ (Nat.le_refl _) _)⟩
  · have hk2 : ¬ (k : Int) < n := by omega
    have hk3 : decide ((k : Int) < n) = false := by rw [decide_eq_false_iff_not]; exact hk2
    have HP := Lib.hid (peek_out (toks := toks) (k := k) (by omega))
    clear hn
    go_enter Tryd.func39, Tryd.ntmps39
    go_wp2
    go_quiet (fail)
    go_wp2
    refine bodyPost_ret (v := .agg #[.int .i64 4, .int .i64 0, .string ⟨#[]⟩, .int .i64 0]) (by simp [results, Tryd.results39, go_sem]) rfl ⟨by rw [HP.out]; rfl, by repeat (first | exact Below.refl _ _ | refine below_drewN' ?_ _ | refine below_set ?_ (Nat.le_refl _) _ | refine Below.alloc ?_ (Nat.le_refl _) _)⟩
set_option maxHeartbeats 1000000 in
set_option maxRecDepth 100000 in
theorem fault_any (L : Nat) (vt : Value) (toks : List Tok) (k : Nat) (e : Int) (c : Int) (w : World) (hL : LineIs w L vt k e) (hT : TokS w w.heap.size vt toks) :
    Calls Tryd.prog 40 #[.pointer (some ⟨L, 0, none⟩), .int .i64 c] w fun e' w' => e' = .returned (.agg #[.int .i64 (placeP e (toks.drop k)), .int .i64 c]) ∧ Below w.heap.size w w' := by
  have HA := Lib.hid (fun wx (hb : Below w.heap.size w wx) => at_any L vt toks k e wx (hL.below hb) ((hT.below hb).mono hb.size))
  clear hL hT
  generalize placeP e (toks.drop k) = p at *
  go_enter Tryd.func40, Tryd.ntmps40
  go_wp2_with fail
  refine (HA.out _ (by exact (Below.refl _ _).alloc (Nat.le_refl _) _)).mono ?_
  rintro e1 w1 ⟨rfl, hb⟩
  have hbel : Below w.heap.size w w1 := ((Below.refl _ _).alloc (Nat.le_refl _) _).trans (hb.mono (by simp))
  have f0 : w1.frozen? ⟨w.heap.size, 0, none⟩ = false := by rw [hb.frozen (p := ⟨w.heap.size, 0, none⟩) (by simp)]; simp
  have f1 : w1.frozen? ⟨w.heap.size, 1, none⟩ = false := by rw [hb.frozen (p := ⟨w.heap.size, 1, none⟩) (by simp)]; simp
  have c0 : w1.cell? ⟨w.heap.size, 0, none⟩ = some (.int .i64 0) := by rw [hb.cell (p := ⟨w.heap.size, 0, none⟩) (by simp)]; simp
  have c1 : w1.cell? ⟨w.heap.size, 1, none⟩ = some (.int .i64 0) := by rw [hb.cell (p := ⟨w.heap.size, 1, none⟩) (by simp)]; simp
  clear hb
  go_wp2
  refine bodyPost_ret (v := .agg #[.int .i64 p, .int .i64 c]) (by simp [results, Tryd.results40, go_sem, c0, c1]) rfl ⟨rfl, by repeat (first | exact hbel | refine below_set ?_ (Nat.le_refl _) _)⟩
end Go.Proofs.YtfpneopobbfabaaDoor
