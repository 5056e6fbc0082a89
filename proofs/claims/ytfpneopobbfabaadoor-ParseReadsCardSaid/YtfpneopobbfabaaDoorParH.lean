/-
  Package parse: the machine in memory, and the walk of the closure that runs what is to be done (expr$1). Condition: the machine lies in memory as said.
-/
import Derived.Test.YtfpneopobbfabaaDoorParG
import Derived.Test.YtfpneopobbfabaaDoorParP
import Derived.Deep.LoopGhost
import Derived.Deep.RegionWith
namespace Go.Proofs.YtfpneopobbfabaaDoor
open Go.RowKit Go.Shelf Go.Sort

/-- What the machine's calls leave: all blocks but those of items, of the boxes for rows of items and of rows of closures. -/
def Kept (w w' : World) : Prop := ∀ t, t ≠ 40 → t ≠ 98 → t ≠ 48 → KeepTag t w w'
theorem Kept.refl (w : World) : Kept w w := fun t _ _ _ => KeepTag.refl t w
theorem Kept.trans {a b c : World} (h : Kept a b) (k : Kept b c) : Kept a c := fun t h1 h2 h3 => (h t h1 h2 h3).trans (k t h1 h2 h3)
/-- A function that is still to be run. -/
def TodoV (w : World) (bo : Nat) (vo : Value) : Option Itm → Value → Prop
  | none, u => u = .nilFunc
  | some it, u => ∃ bit, u = .func (.func 59) #[] #[.pointer (some ⟨bo, 0, none⟩), .pointer (some ⟨bit, 0, none⟩)] ∧ Blk w bit 48 (phraseC it) ∧ vo.ownBlock ≠ some bit ∧ it.name = [] ∧ it.nums = []
def TodoC (w : World) (bo : Nat) (vo : Value) (ts : List (Option Itm)) (cs : List Value) : Prop := cs.length = ts.length ∧ ∀ (i : Nat) (x : Option Itm), ts[i]? = some x → ∃ u, cs[i]? = some u ∧ TodoV w bo vo x u
/-- The machine: the box of what has been read, the box of what is to be done. -/
def Mach (B : Nat) (w : World) (bo bt : Nat) (ts : List (Option Itm)) (out : List Itm) : Prop :=
  ∃ vo cs vd ds, Blk w bo 40 #[vo] ∧ w.ownsRow B 48 5 vo out.length cs ∧ ItsC w out cs ∧ Blk w bt 98 #[vd] ∧ w.ownsRow B 1 1 vd ts.length ds ∧ TodoC w bo vo ts ds
theorem own_pop {w : World} {B e : Nat} {a : Option Addr} {cap n : Nat} {cs : List Value} {u : Value} (h : w.ownsRow B e 1 (.slice a (n + 1) cap) (n + 1) (cs ++ [u])) : w.ownsRow B e 1 (.slice a n cap) n cs := by
  have hl := h.1
  simp at hl
  refine ⟨by omega, ?_⟩
  rcases h.2 with ⟨_, h0⟩ | ⟨g, cap', cur, hv, hb, hg, hc, hm, hs, ht⟩
  · omega
  · injection hv with h1 h2 h3
    subst h1
    subst h3
    refine .inr ⟨g, cap, cur, rfl, hb, hg, by omega, hm, hs, ?_⟩
    have : (cur.toList.take ((n + 1) * 1)).take (n * 1) = (cs ++ [u]).take (n * 1) := by rw [ht]
    rw [List.take_take, List.take_left' (by omega), Nat.min_eq_left (by omega)] at this
    exact this
theorem TodoC.init {w : World} {bo : Nat} {vo : Value} {ts : List (Option Itm)} {x : Option Itm} {cs : List Value} (h : TodoC w bo vo (ts ++ [x]) cs) : ∃ ds u, cs = ds ++ [u] ∧ TodoC w bo vo ts ds ∧ TodoV w bo vo x u := by
  obtain ⟨h1, h2⟩ := h
  rcases List.eq_nil_or_concat cs with rfl | ⟨ds, u, rfl⟩
  · simp at h1
  · simp at h1
    refine ⟨ds, u, by simp, ⟨h1, fun i y hy => ?_⟩, ?_⟩
    · have hi := (List.getElem?_eq_some_iff.1 hy).1
      obtain ⟨v, hv, ht⟩ := h2 i y (by rw [List.getElem?_append_left hi]; exact hy)
      rw [List.concat_eq_append, List.getElem?_append_left (by omega)] at hv
      exact ⟨v, hv, ht⟩
    · obtain ⟨v, hv, ht⟩ := h2 ts.length x (by simp)
      rw [List.concat_eq_append, List.getElem?_append_right (by omega), h1] at hv
      simp at hv
      subst hv
      exact ht
theorem TodoC.chg {w w' : World} {bo : Nat} {vo vo' : Value} {ts : List (Option Itm)} {cs : List Value} (h : TodoC w bo vo ts cs) (hob : Blk w bo 40 #[vo]) (hc : Chg (fun k => k = bo ∨ vo.ownBlock = some k) w w') (hg : ∀ g, vo'.ownBlock = some g → vo.ownBlock = some g ∨ w.heap.size ≤ g) : TodoC w' bo vo' ts cs := by
  refine ⟨h.1, fun i x hi => ?_⟩
  obtain ⟨u, hu, ht⟩ := h.2 i x hi
  refine ⟨u, hu, ?_⟩
  cases x with
  | none => exact ht
  | some it =>
    obtain ⟨bit, h1, h2, h3, h4⟩ := ht
    refine ⟨bit, h1, hc.blk h2 ?_, fun e => ?_, h4⟩
    · rintro (rfl | e)
      · exact absurd (tag_ne hob h2) (by decide)
      · exact h3 e
    · rcases hg bit e with e | e
      · exact h3 e
      · exact absurd h2.lt (by omega)
theorem TodoC.keep {w w' : World} {bo : Nat} {vo : Value} {ts : List (Option Itm)} {cs : List Value} (h : TodoC w bo vo ts cs) (hk : KeepTag 48 w w') : TodoC w' bo vo ts cs := by
  refine ⟨h.1, fun i x hi => ?_⟩
  obtain ⟨u, hu, ht⟩ := h.2 i x hi
  refine ⟨u, hu, ?_⟩
  cases x with
  | none => exact ht
  | some it =>
    obtain ⟨bit, h1, h2, h3⟩ := ht
    exact ⟨bit, h1, h2.keep hk, h3⟩
theorem phrase_cells {it : Itm} (h1 : it.name = []) : (phraseC it).toList = it.cells (.slice none 0 0) := by
  unfold phraseC Itm.cells mkS
  rw [h1]
theorem run_neq_nil (w : World) : Sem.run Tryd.prog (binOp BinOp.neq 1 Value.nilFunc Value.nilFunc) w = .ok (.bool false) w := by kernel_rfl
theorem run_neq_some (w : World) (fn : Fn) (first captured : Array Value) : Sem.run Tryd.prog (binOp BinOp.neq 1 (Value.func fn first captured) Value.nilFunc) w = .ok (.bool true) w := by kernel_rfl
set_option maxHeartbeats 1000000 in
set_option maxRecDepth 100000 in
/-- What is to be done since the last bracket is done. -/
theorem finish_any (B bo bt : Nat) (ts : List (Option Itm)) (out : List Itm) (w : World) (hB : B ≤ w.heap.size) (hbo : B ≤ bo) (hbt : B ≤ bt) (hM : Mach B w bo bt ts out) (hn : out.length + ts.length ≤ 100000) :
    Calls Tryd.prog 56 #[.pointer (some ⟨bt, 0, none⟩)] w fun e w' => e = .returned (.tuple #[]) ∧ ∃ ts' out', finP ts.reverse out = (out', ts'.reverse) ∧ Mach B w' bo bt ts' out' ∧ out'.length + ts'.length = out.length + ts.length ∧ Below B w w' ∧ Kept w w' := by
  have HD := Lib.hid (fun bit vo it n cs wx h1 h2 h3 h4 h5 => done_any B bo bit vo it n cs wx h1 h2 h3 h4 h5)
  have HM := Lib.hid hM
  clear hM
  go_enter Tryd.func56, Tryd.ntmps56
  go_wp2
  go_loopg [] ts.length (fun g wr => ∃ ts1 out1, g = ts1.length ∧ Mach B wr bo bt ts1 out1 ∧ finP ts1.reverse out1 = finP ts.reverse out ∧ out1.length + ts1.length = out.length + ts.length ∧ Below B w wr ∧ Kept w wr)
  case atStart => exact ⟨ts, out, rfl, HM.out, rfl, rfl, Below.refl _ _, Kept.refl _⟩
  case round =>
    obtain ⟨ts1, out1, rfl, hM1, hf1, hn1, hb1, hk1⟩ := hrel
    obtain ⟨vo, cs, vd, ds, m1, m2, m3, m4, m5, m6⟩ := hM1
    rcases List.eq_nil_or_concat ts1 with rfl | ⟨ts2, x, rfl⟩
    · obtain ⟨a, cap, rfl⟩ := own_form m5
      have c0 : wr.cell? ⟨bt, 0, none⟩ = some (.slice a 0 cap) := m4.cell 0
      go_wp2
      go_end0
      exact ⟨rfl, [], out1, by rw [← hf1]; rfl, ⟨_, cs, _, ds, m1, m2, m3, m4, m5, m6⟩, by simpa using hn1, hb1, hk1⟩
    · rw [List.concat_eq_append] at *
      have m6' := m6
      obtain ⟨ds2, u, rfl, n6, mu⟩ := m6.init
      rw [List.length_append] at m5
      have mo := m5
      obtain ⟨g, cap, rfl, hg1, hg2, hgc, hgm, hcell, _⟩ := own_cells m5 (by simp)
      have hnn : ts2.length ≤ 100000 := by simp at hn1; omega
      have c0 : wr.cell? ⟨bt, 0, none⟩ = some (.slice (some ⟨g, 0, none⟩) (ts2.length + 1) cap) := m4.cell 0
      have f0 := m4.froz 0
      have hdl : ds2.length = ts2.length := n6.1
      have c1 : wr.cell? ⟨g, 0 + ts2.length * 1, none⟩ = some u := by
        rw [Nat.zero_add, Nat.mul_one]
        exact (hcell _ (by simp)).trans (by rw [← hdl]; simp)
      have hi1 : ((ts2.length + 1 : Nat) : Int) - 1 = (ts2.length : Int) := by omega
      have hlt1 : ts2.length < ts2.length + 1 := Nat.lt_succ_self _
      cases x with
      | none =>
        obtain rfl : u = .nilFunc := mu
        have hr := run_neq_nil wr
        go_wp2
        go_end0
        exact ⟨rfl, ts2 ++ [none], out1, by rw [← hf1, List.reverse_append]; rfl, ⟨_, cs, _, _, m1, m2, m3, m4, by rw [List.length_append]; exact mo, m6'⟩, hn1, hb1, hk1⟩
      | some it =>
        obtain ⟨bit, rfl, q1, q2, q3, q4⟩ := mu
        have hr := run_neq_some wr (.func 59) #[] #[.pointer (some ⟨bo, 0, none⟩), .pointer (some ⟨bit, 0, none⟩)]
        have HC := Lib.hid (HD.out bit vo it out1.length cs wr (Nat.le_trans hB hb1.size) m1 m2 q1 (by omega))
        go_wp2_with fail
        refine HC.out.mono ?_
        rintro _ w2 ⟨rfl, g2, cap2, p1, p2, p3, p4⟩
        have hbn : ¬ (bt = bo ∨ vo.ownBlock = some bt) := by
          rintro (rfl | e)
          · exact absurd (tag_ne m1 m4) (by decide)
          · exact m4.own_ne m2 (by decide) e
        have m4' := p3.blk m4 hbn
        have hkt : ∀ t, t ≠ 40 → t ≠ 48 → KeepTag t wr w2 := fun t h1 h2 => p3.keep (fun b cur hb => by
          rintro (rfl | e)
          · exact h1 (tag_ne hb m1)
          · exact h2 (own_tag_ne hb m2 e))
        have hb2 : Below B w w2 := hb1.trans ⟨p3.os, p3.tape, p3.output, p3.size, fun k hk => p3.block k (by have := hb1.size; omega) (by
          rintro (rfl | e)
          · omega
          · have := (m2.lt k e).1; omega)⟩
        have mo' : w2.ownsRow B 1 1 (.slice (some ⟨g, 0, none⟩) (ts2.length + 1) cap) (ts2.length + 1) (ds2 ++ [_]) := own_tag mo (hkt _ (by decide) (by decide))
        have m6n := n6.chg (vo' := .slice (some ⟨g2, 0, none⟩) (out1.length + 1) cap2) m1 p3 (by
          intro k hk
          have : g2 = k := by simpa [Value.ownBlock] using hk
          subst this
          exact p4)
        have hits : ItsC w2 (out1 ++ [it]) (cs ++ (phraseC it).toList) := by
          rw [phrase_cells q3]
          exact (m3.keep (hkt _ (by decide) (by decide))).snoc (by rw [q4]; exact NumS.nil _)
        have c2 : w2.cell? ⟨bt, 0, none⟩ = some (.slice (some ⟨g, 0, none⟩) (ts2.length + 1) cap) := m4'.cell 0
        have f2 := m4'.froz 0
        clear c0 f0
        go_wp2
        have ks : ∀ t, t ≠ 98 → KeepTag t w2 (w2.setCell ⟨bt, 0, none⟩ (.slice (some ⟨g, 0, none⟩) ts2.length cap)) := fun t h => KeepTag.set m4' h 0 _
        go_roundg ts2.length
        case measure => simp
        case rel =>
          refine ⟨ts2, out1 ++ [it], rfl, ⟨_, _, _, ds2, p1.keep (ks _ (by decide)), by rw [List.length_append]; exact own_tag p2 (ks _ (by decide)), hits.keep (ks _ (by decide)), m4'.put _, own_pop (own_tag mo' (ks _ (by decide))), m6n.keep (ks _ (by decide))⟩, ?_, ?_, ?_, ?_⟩
          · rw [← hf1, List.reverse_append]
            rfl
          · simp at hn1 ⊢
            omega
          · exact hb2.trans ⟨rfl, rfl, rfl, by simp [World.setCell], fun k hk => Below.heap_setCell _ _ _ _ (fun e => by have e : k = bt := e; omega)⟩
          · exact hk1.trans fun t h1 h2 h3 => (hkt t h1 h3).trans (ks t h2)
end Go.Proofs.YtfpneopobbfabaaDoor
