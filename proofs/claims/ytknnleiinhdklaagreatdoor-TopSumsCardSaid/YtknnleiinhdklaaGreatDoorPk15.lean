/-
  Package parse: the machine in memory, and the walk of the closure that runs what is to be done (expr$1). Condition: the machine lies in memory as said.   Package parse: the walk of the closure that reads a verb and lays it by (expr$2). Condition: the machine and the line lie in memory as said.
-/
import Derived.Deep.LoopGhost
import Derived.Deep.RegionWith
import Derived.Test.YtknnleiinhdklaaGreatDoorPk01
import Derived.Test.YtknnleiinhdklaaGreatDoorPk11
import Derived.Test.YtknnleiinhdklaaGreatDoorPk14
namespace Go.Proofs.YtknnleiinhdklaaGreatDoor
section
open Go.RowKit Go.Shelf Go.Sort
/-- What the machine's calls leave: all blocks but those of items, of the boxes for rows of items and of rows of closures. -/
def Kept (w w' : World) : Prop := ∀ t, t ≠ 63 → t ≠ 108 → t ≠ 71 → KeepTag t w w'
theorem Kept.refl (w : World) : Kept w w := fun t _ _ _ => KeepTag.refl t w
theorem Kept.trans {a b c : World} (h : Kept a b) (k : Kept b c) : Kept a c := fun t h1 h2 h3 => (h t h1 h2 h3).trans (k t h1 h2 h3)
/-- A function that is still to be run. -/
def TodoV (w : World) (bo : Nat) (vo : Value) : Option Itm → Value → Prop
 | none, u => u = .nilFunc
 | some it, u => ∃ bit, u = .func (.func 54) #[] #[.pointer (some ⟨bo, 0, none⟩), .pointer (some ⟨bit, 0, none⟩)] ∧ Blk w bit 71 (phraseC it) ∧ vo.ownBlock ≠ some bit ∧ it.name = [] ∧ it.nums = []
def TodoC (w : World) (bo : Nat) (vo : Value) (ts : List (Option Itm)) (cs : List Value) : Prop := cs.length = ts.length ∧ ∀ (i : Nat) (x : Option Itm), ts[i]? = some x → ∃ u, cs[i]? = some u ∧ TodoV w bo vo x u
/-- The machine: the box of what has been read, the box of what is to be done. -/
def Mach (B : Nat) (w : World) (bo bt : Nat) (ts : List (Option Itm)) (out : List Itm) : Prop :=
 ∃ vo cs vd ds, Blk w bo 63 #[vo] ∧ w.ownsRow B 71 5 vo out.length cs ∧ ItsC w out cs ∧ Blk w bt 108 #[vd] ∧ w.ownsRow B 1 1 vd ts.length ds ∧ TodoC w bo vo ts ds
theorem own_pop {w : World} {B e : Nat} {a : Option Addr} {cap n : Nat} {cs : List Value} {u : Value} (h : w.ownsRow B e 1 (.slice a (n + 1) cap) (n + 1) (cs ++ [u])) : w.ownsRow B e 1 (.slice a n cap) n cs := by
 have hl := h.1
 simp at hl
 refine ⟨by omega, ?_⟩
 rcases h.2 with ⟨_, h0⟩ | ⟨g, cap', cur, hv, hb, hg, hc, hm, hs, ht⟩
 ·omega
 ·injection hv with h1 h2 h3
  subst h1
  subst h3
  refine .inr ⟨g, cap, cur, rfl, hb, hg, by omega, hm, hs, ?_⟩
  have : (cur.toList.take ((n + 1) * 1)).take (n * 1) = (cs ++ [u]).take (n * 1) := by rw [ht]
  rw [List.take_take, List.take_left' (by omega), Nat.min_eq_left (by omega)] at this
  exact this
theorem TodoC.init {w : World} {bo : Nat} {vo : Value} {ts : List (Option Itm)} {x : Option Itm} {cs : List Value} (h : TodoC w bo vo (ts ++ [x]) cs) : ∃ ds u, cs = ds ++ [u] ∧ TodoC w bo vo ts ds ∧ TodoV w bo vo x u := by
 obtain ⟨h1, h2⟩ := h
 rcases List.eq_nil_or_concat cs with rfl | ⟨ds, u, rfl⟩
 ·simp at h1
 ·simp at h1
  refine ⟨ds, u, by simp, ⟨h1, fun i y hy => ?_⟩, ?_⟩
  ·have hi := (List.getElem?_eq_some_iff.1 hy).1
   obtain ⟨v, hv, ht⟩ := h2 i y (by rw [List.getElem?_append_left hi]; exact hy)
   rw [List.concat_eq_append, List.getElem?_append_left (by omega)] at hv
   exact ⟨v, hv, ht⟩
  ·obtain ⟨v, hv, ht⟩ := h2 ts.length x (by simp)
   rw [List.concat_eq_append, List.getElem?_append_right (by omega), h1] at hv
   simp at hv
   subst hv
   exact ht
theorem TodoC.chg {w w' : World} {bo : Nat} {vo vo' : Value} {ts : List (Option Itm)} {cs : List Value} (h : TodoC w bo vo ts cs) (hob : Blk w bo 63 #[vo]) (hc : Chg (fun k => k = bo ∨ vo.ownBlock = some k) w w') (hg : ∀ g, vo'.ownBlock = some g → vo.ownBlock = some g ∨ w.heap.size ≤ g) : TodoC w' bo vo' ts cs := by
 refine ⟨h.1, fun i x hi => ?_⟩
 obtain ⟨u, hu, ht⟩ := h.2 i x hi
 refine ⟨u, hu, ?_⟩
 cases x with
 | none => exact ht
 | some it =>
  obtain ⟨bit, h1, h2, h3, h4⟩ := ht
  refine ⟨bit, h1, hc.blk h2 ?_, fun e => ?_, h4⟩
  ·rintro (rfl | e)
   ·exact absurd (tag_ne hob h2) (by decide)
   ·exact h3 e
  ·rcases hg bit e with e | e
   ·exact h3 e
   ·exact absurd h2.lt (by omega)
theorem TodoC.keep {w w' : World} {bo : Nat} {vo : Value} {ts : List (Option Itm)} {cs : List Value} (h : TodoC w bo vo ts cs) (hk : KeepTag 71 w w') : TodoC w' bo vo ts cs := by
 refine ⟨h.1, fun i x hi => ?_⟩
 obtain ⟨u, hu, ht⟩ := h.2 i x hi
 refine ⟨u, hu, ?_⟩
 cases x with
 | none => exact ht
 | some it =>
  obtain ⟨bit, h1, h2, h3⟩ := ht
  exact ⟨bit, h1, h2.keep hk, h3⟩
theorem phrase_cells {it : Itm} (h1 : it.name = []) : (phraseC it).toList = it.cells (.slice none 0 0) := by
 unfold phraseC Itm.cells mkS
 rw [h1]
theorem run_neq_nil (w : World) : Sem.run Tryz.prog (binOp BinOp.neq 1 Value.nilFunc Value.nilFunc) w = .ok (.bool false) w := by kernel_rfl
theorem run_neq_some (w : World) (fn : Fn) (first captured : Array Value) : Sem.run Tryz.prog (binOp BinOp.neq 1 (Value.func fn first captured) Value.nilFunc) w = .ok (.bool true) w := by kernel_rfl
set_option maxHeartbeats 1000000 in
set_option maxRecDepth 100000 in
/-- What is to be done since the last bracket is done. -/
theorem finish_any (B bo bt : Nat) (ts : List (Option Itm)) (out : List Itm) (w : World) (hB : B ≤ w.heap.size) (hbo : B ≤ bo) (hbt : B ≤ bt) (hM : Mach B w bo bt ts out) (hn : out.length + ts.length ≤ 100000) :
  Calls Tryz.prog 51 #[.pointer (some ⟨bt, 0, none⟩)] w fun e w' => e = .returned (.tuple #[]) ∧ ∃ ts' out', finP ts.reverse out = (out', ts'.reverse) ∧ Mach B w' bo bt ts' out' ∧ out'.length + ts'.length = out.length + ts.length ∧ Below B w w' ∧ Kept w w' := by
 have HD := Lib.hid (fun bit vo it n cs wx h1 h2 h3 h4 h5 => done_any B bo bit vo it n cs wx h1 h2 h3 h4 h5)
 have HM := Lib.hid hM
 clear hM
 go_enter Tryz.func51, Tryz.ntmps51
 go_wp2
 go_loopg [] ts.length (fun g wr => ∃ ts1 out1, g = ts1.length ∧ Mach B wr bo bt ts1 out1 ∧ finP ts1.reverse out1 = finP ts.reverse out ∧ out1.length + ts1.length = out.length + ts.length ∧ Below B w wr ∧ Kept w wr)
 case atStart => exact ⟨ts, out, rfl, HM.out, rfl, rfl, Below.refl _ _, Kept.refl _⟩
 case round =>
  obtain ⟨ts1, out1, rfl, hM1, hf1, hn1, hb1, hk1⟩ := hrel
  obtain ⟨vo, cs, vd, ds, m1, m2, m3, m4, m5, m6⟩ := hM1
  rcases List.eq_nil_or_concat ts1 with rfl | ⟨ts2, x, rfl⟩
  ·obtain ⟨a, cap, rfl⟩ := own_form m5
   have c0 : wr.cell? ⟨bt, 0, none⟩ = some (.slice a 0 cap) := m4.cell 0
   go_wp2
   go_end0
   exact ⟨rfl, [], out1, by rw [← hf1]; rfl, ⟨_, cs, _, ds, m1, m2, m3, m4, m5, m6⟩, by simpa using hn1, hb1, hk1⟩
  ·rw [List.concat_eq_append] at *
   have m6' := m6
   obtain ⟨ds2, u, rfl, n6, mu⟩ := m6.init
   rw [List.length_append] at m5
   have mo := m5
   obtain ⟨g, cap, rfl, hg1, hg2, hgc, hgm, hcell, _⟩ := own_cells m5 (by simp)
   have hnn : ts2.length ≤ 100000 := by simp at hn1; omega
   have c0 : wr.cell? ⟨bt, 0, none⟩ = some (.slice (some ⟨g, 0, none⟩) (ts2.length + 1) cap) := m4.cell 0
   have f0 := m4.froz 0
   have hdl : ds2.length = ts2.length := n6.1
   have c1 : wr.cell? ⟨g, 0 + ts2.length * 1, none⟩ = some u := by
    rw [Nat.zero_add, Nat.mul_one]
    exact (hcell _ (by simp)).trans (by rw [← hdl]; simp)
   have hi1 : ((ts2.length + 1 : Nat) : Int) - 1 = (ts2.length : Int) := by omega
   have hlt1 : ts2.length < ts2.length + 1 := Nat.lt_succ_self _
   cases x with
   | none =>
    obtain rfl : u = .nilFunc := mu
    have hr := run_neq_nil wr
    go_wp2
    go_end0
    exact ⟨rfl, ts2 ++ [none], out1, by rw [← hf1, List.reverse_append]; rfl, ⟨_, cs, _, _, m1, m2, m3, m4, by rw [List.length_append]; exact mo, m6'⟩, hn1, hb1, hk1⟩
   | some it =>
    obtain ⟨bit, rfl, q1, q2, q3, q4⟩ := mu
    have hr := run_neq_some wr (.func 54) #[] #[.pointer (some ⟨bo, 0, none⟩), .pointer (some ⟨bit, 0, none⟩)]
    have HC := Lib.hid (HD.out bit vo it out1.length cs wr (Nat.le_trans hB hb1.size) m1 m2 q1 (by omega))
    go_wp2_with fail
    refine HC.out.mono ?_
    rintro _ w2 ⟨rfl, g2, cap2, p1, p2, p3, p4⟩
    have hbn : ¬ (bt = bo ∨ vo.ownBlock = some bt) := by
     rintro (rfl | e)
     ·exact absurd (tag_ne m1 m4) (by decide)
     ·exact m4.own_ne m2 (by decide) e
    have m4' := p3.blk m4 hbn
    have hkt : ∀ t, t ≠ 63 → t ≠ 71 → KeepTag t wr w2 := fun t h1 h2 => p3.keep (fun b cur hb => by
     rintro (rfl | e)
     ·exact h1 (tag_ne hb m1)
     ·exact h2 (own_tag_ne hb m2 e))
    have hb2 : Below B w w2 := hb1.trans ⟨p3.os, p3.tape, p3.output, p3.size, fun k hk => p3.block k (by have := hb1.size; omega) (by
     rintro (rfl | e)
     ·omega
     ·have := (m2.lt k e).1; omega)⟩
    have mo' : w2.ownsRow B 1 1 (.slice (some ⟨g, 0, none⟩) (ts2.length + 1) cap) (ts2.length + 1) (ds2 ++ [_]) := own_tag mo (hkt _ (by decide) (by decide))
    have m6n := n6.chg (vo' := .slice (some ⟨g2, 0, none⟩) (out1.length + 1) cap2) m1 p3 (by
     intro k hk
     have : g2 = k := by simpa [Value.ownBlock] using hk
     subst this
     exact p4)
    have hits : ItsC w2 (out1 ++ [it]) (cs ++ (phraseC it).toList) := by
     rw [phrase_cells q3]
     exact (m3.keep (hkt _ (by decide) (by decide))).snoc (by rw [q4]; exact NumS.nil _)
    have c2 : w2.cell? ⟨bt, 0, none⟩ = some (.slice (some ⟨g, 0, none⟩) (ts2.length + 1) cap) := m4'.cell 0
    have f2 := m4'.froz 0
    clear c0 f0
    go_wp2
    have ks : ∀ t, t ≠ 108 → KeepTag t w2 (w2.setCell ⟨bt, 0, none⟩ (.slice (some ⟨g, 0, none⟩) ts2.length cap)) := fun t h => KeepTag.set m4' h 0 _
    go_roundg ts2.length
    case measure => simp
    case rel =>
     refine ⟨ts2, out1 ++ [it], rfl, ⟨_, _, _, ds2, p1.keep (ks _ (by decide)), by rw [List.length_append]; exact own_tag p2 (ks _ (by decide)), hits.keep (ks _ (by decide)), m4'.put _, own_pop (own_tag mo' (ks _ (by decide))), m6n.keep (ks _ (by decide))⟩, ?_, ?_, ?_, ?_⟩
     ·rw [← hf1, List.reverse_append]
      rfl
     ·simp at hn1 ⊢
      omega
     ·exact hb2.trans ⟨rfl, rfl, rfl, by simp [World.setCell], fun k hk => Below.heap_setCell _ _ _ _ (fun e => by have e : k = bt := e; omega)⟩
     ·exact hk1.trans fun t h1 h2 h3 => (hkt t h1 h3).trans (ks t h2)
end
section
open Go.RowKit Go.Shelf Go.Sort
theorem phrase_bare {left : Bool} {t : Tok} {r r2 : List Tok} {it : Itm} (h : phraseP left t r = .ok (it, r2)) : it.name = [] ∧ it.nums = [] := by
 unfold phraseP at h
 split at h
 ·split at h
  ·cases h
  ·injection h with h; injection h with h _; subst h; exact ⟨rfl, rfl⟩
 ·split at h
  ·split at h
   ·cases h
   ·injection h with h; injection h with h _; subst h; exact ⟨rfl, rfl⟩
  ·split at h
   ·cases h
   ·injection h with h; injection h with h _; subst h; exact ⟨rfl, rfl⟩
/-- The frame: the line and what is newer may turn. -/
def Fr (L B : Nat) (w w' : World) : Prop := Chg (fun k => k = L ∨ B ≤ k) w w'
/-- What the machine's calls leave, the line but. -/
def KeptL (w w' : World) : Prop := ∀ t, t ≠ 63 → t ≠ 108 → t ≠ 71 → t ≠ 58 → t ≠ 1 → KeepTag t w w'
theorem KeptL.refl (w : World) : KeptL w w := fun t _ _ _ _ _ => KeepTag.refl t w
theorem KeptL.trans {a b c : World} (h : KeptL a b) (k : KeptL b c) : KeptL a c := fun t h1 h2 h3 h4 h5 => (h t h1 h2 h3 h4 h5).trans (k t h1 h2 h3 h4 h5)
theorem Kept.line {w w' : World} (h : Kept w w') : KeptL w w' := fun t h1 h2 h3 _ _ => h t h1 h2 h3
theorem Fr.refl (L B : Nat) (w : World) : Fr L B w w := Chg.refl _ w
theorem Fr.trans {L B : Nat} {a b c : World} (h : Fr L B a b) (k : Fr L B b c) : Fr L B a c := Chg.trans h k (fun _ _ e => e)
theorem Fr.below {L B : Nat} {w w' : World} (hb : Below B w w') (hs : w.heap.size ≤ w'.heap.size) : Fr L B w w' := ⟨hb.os, hb.tape, hb.output, hs, fun k hk hn => hb.block k (by simp at hn; omega)⟩
theorem Fr.gb {L B : Nat} {w w' : World} (hg : w.grownBy w' (some L)) : Fr L B w w' := Chg.gb hg (fun k e => by injection e with e; exact .inl e.symm)
theorem KeptL.gb {w w' : World} {L : Nat} {vt : Value} {k : Nat} {e : Int} (hg : w.grownBy w' (some L)) (hl : LineIs w L vt k e) : KeptL w w' := fun _ _ _ _ h _ => KeepTag.gb hg hl h
theorem Mach.keep {B : Nat} {w w' : World} {bo bt : Nat} {ts : List (Option Itm)} {out : List Itm} (h : Mach B w bo bt ts out) (hk : ∀ t, t ≠ 58 → KeepTag t w w') : Mach B w' bo bt ts out := by
 obtain ⟨vo, cs, vd, ds, m1, m2, m3, m4, m5, m6⟩ := h
 exact ⟨vo, cs, vd, ds, m1.keep (hk _ (by decide)), own_tag m2 (hk _ (by decide)), m3.keep (hk _ (by decide)), m4.keep (hk _ (by decide)), own_tag m5 (hk _ (by decide)), m6.keep (hk _ (by decide))⟩
theorem PhrasePost.one {B L : Nat} {vt : Value} {toks : List Tok} {e : Int} {x : Except Fault (Itm × List Tok)} {w w' : World} {en : Ending} (h : PhrasePost B L vt toks e x w en w') :
  ∃ it a b k', en = .returned (.tuple #[phraseV it, .agg #[.int .i64 a, .int .i64 b]]) ∧ w.grownBy w' (some L) ∧ LineIs w' L vt k' e ∧ (∀ y, x = .error y → a = y.1 ∧ b = y.2) ∧ (∀ q, x = .ok q → a = 0 ∧ b = 0 ∧ it = q.1 ∧ At w' B L vt toks k' e ∧ toks.drop k' = q.2) := by
 cases x with
 | error y =>
  obtain ⟨it, h1, h2, k', h3⟩ := h
  exact ⟨it, y.1, y.2, k', h1, h2, h3, fun z hz => by injection hz with hz; subst hz; exact ⟨rfl, rfl⟩, fun q hq => nomatch hq⟩
 | ok q =>
  obtain ⟨it, r2⟩ := q
  obtain ⟨h1, h2, k', h3, h4⟩ := h
  refine ⟨it, 0, 0, k', h1, h2, h3.line, fun z hz => ?_, fun q hq => ?_⟩
  ·cases hz
  ·injection hq with hq
   subst hq
   exact ⟨rfl, rfl, rfl, h3, h4⟩
/-- What the closure gives. -/
def LaterPost (Bt B L : Nat) (vt : Value) (toks : List Tok) (e : Int) (bo bt : Nat) (ts : List (Option Itm)) (out : List Itm) (x : Except Fault (Itm × List Tok)) (w : World) (en : Ending) (w' : World) : Prop :=
 Fr L B w w' ∧ KeptL w w' ∧ match x with
 | .error y => en = .returned (.agg #[.int .i64 y.1, .int .i64 y.2]) ∧ ∃ k', LineIs w' L vt k' e
 | .ok (it, r2) => en = .returned (.agg #[.int .i64 0, .int .i64 0]) ∧ Mach B w' bo bt (ts ++ [some it]) out ∧ ∃ k', At w' Bt L vt toks k' e ∧ toks.drop k' = r2
theorem Tryz.infoFunc : (Tryz.prog.info? 1).map (fun i => (i.zero, i.size, i.bytes)) = some (some .nilFunc, 1, 8) := by kernel_rfl
theorem cells1 (w : World) (a : Value) (t : TypeId) {g : Nat} (hg : g = w.heap.size) : ∀ (j : Nat) (u : Value), [a][j]? = some u → (w.alloc (.cells #[a] t)).cell? ((⟨g, 0, none⟩ : Addr).add j) = some u := by
 subst hg
 intro j u hj
 rw [Addr.add_lit, Nat.zero_add, cell_of_row _ _ _ _ _ _ (heap_alloc_new w _)]
 simpa using hj
theorem heap_mid (w : World) (o1 o2 o3 : Obj) : (((w.alloc o1).alloc o2).alloc o3).heap[w.heap.size + 1]? = some o2 := by
 have e : (w.alloc o1).heap.size = w.heap.size + 1 := by simp
 have h := heap_alloc_new (w.alloc o1) o2
 rw [e] at h
 exact (Below.heap_alloc _ o3 _ (by simp)).trans h
theorem heap_first (w : World) (o1 o2 o3 : Obj) : (((w.alloc o1).alloc o2).alloc o3).heap[w.heap.size]? = some o1 := (Below.heap_alloc _ o3 _ (by simp; omega)).trans ((Below.heap_alloc _ o2 _ (by simp)).trans (heap_alloc_new w o1))
theorem KeepTag.own {w w' : World} {base e size n : Nat} {v : Value} {xs : List Value} (hg : w.grownBy w' v.ownBlock) (ho : w.ownsRow base e size v n xs) {t : TypeId} (h : t ≠ e) : KeepTag t w w' := fun b _ hb =>
 (hg.block b (Array.getElem?_eq_some_iff.1 hb).1 (fun e => h (own_tag_ne hb ho e.symm))).trans hb
theorem Blk.put0 {w : World} {b : Nat} {t : TypeId} {x y : Value} (h : Blk w b t #[x, y]) (u : Value) : Blk (w.setCell ⟨b, 0, none⟩ u) b t #[u, y] := by
 unfold Blk at h ⊢
 simp [World.setCell, Array.getElem?_modify, h]
theorem Blk.put2 {w : World} {b : Nat} {t : TypeId} {x y : Value} (h : Blk w b t #[x, y]) (u v : Value) : Blk ((w.setCell ⟨b, 0, none⟩ u).setCell ⟨b, 1, none⟩ v) b t #[u, v] := by
 unfold Blk at h ⊢
 simp [World.setCell, Array.getElem?_modify, h]
theorem TodoC.snoc {w : World} {bo : Nat} {vo : Value} {ts : List (Option Itm)} {cs : List Value} (h : TodoC w bo vo ts cs) {x : Option Itm} {u : Value} (hx : TodoV w bo vo x u) : TodoC w bo vo (ts ++ [x]) (cs ++ [u]) := by
 refine ⟨by simp [h.1], fun i y hi => ?_⟩
 by_cases hl : i < ts.length
 ·rw [List.getElem?_append_left hl] at hi
  obtain ⟨v, h1, h2⟩ := h.2 i y hi
  exact ⟨v, by rw [List.getElem?_append_left (by rw [h.1]; exact hl)]; exact h1, h2⟩
 ·rw [List.getElem?_append_right (by omega)] at hi
  have hz : i - ts.length = 0 := by
   have := (List.getElem?_eq_some_iff.1 hi).1
   simp at this
   omega
  rw [hz] at hi
  simp at hi
  subst hi
  exact ⟨u, by rw [List.getElem?_append_right (by rw [h.1]; omega), h.1, hz]; rfl, hx⟩
theorem Chg.mono {S S' : Nat → Prop} {w w' : World} (h : Chg S w w') (hs : ∀ k, S k → S' k) : Chg S' w w' := ⟨h.os, h.tape, h.output, h.size, fun k hk hn => h.block k hk (fun e => hn (hs k e))⟩
set_option maxHeartbeats 1000000 in
set_option maxRecDepth 100000 in
theorem later_any (Bt B L bl bo bt : Nat) (vt : Value) (toks : List Tok) (k : Nat) (e : Int) (left : Bool) (t : Tok) (ts : List (Option Itm)) (out : List Itm) (w : World) (hB : B ≤ w.heap.size) (hBt : Bt ≤ B) (hbt : B ≤ bt)
  (hbl : Blk w bl 56 #[.pointer (some ⟨L, 0, none⟩)]) (hA : At w Bt L vt toks k e) (ht : toks[k]? = some t) (hM : Mach B w bo bt ts out) (hn : ts.length ≤ 100000) :
  Calls Tryz.prog 52 #[.bool left, .pointer (some ⟨bl, 0, none⟩), .pointer (some ⟨bt, 0, none⟩), .pointer (some ⟨bo, 0, none⟩)] w (LaterPost Bt B L vt toks e bo bt ts out (phraseP left t (toks.drop (k + 1))) w) := by
 obtain ⟨i0, hi, hz0, hz1, hz2⟩ := info_parts Tryz.infoFunc
 have HP := Lib.hid (fun wx (hb : Below w.heap.size w wx) => phrase_any Bt L vt toks k e left t wx (hA.below hb) ht)
 have HA := Lib.hid hA
 have HM := Lib.hid hM
 have hlt := hbl.lt
 clear ht hA hM
 generalize hx : phraseP left t (toks.drop (k + 1)) = x at *
 have c0 : w.cell? ⟨bl, 0, none⟩ = some (.pointer (some ⟨L, 0, none⟩)) := hbl.cell 0
 go_enter Tryz.func52, Tryz.ntmps52
 go_wp2_with fail
 refine (HP.out _ ((Below.refl _ _).alloc (Nat.le_refl _) _)).mono ?_
 intro en w1 hpp
 obtain ⟨it, a, b, k', rfl, hg1, hl1, hex, hok⟩ := hpp.one
 clear hpp
 obtain ⟨vo, cs, vd, ds, m1, m2, m3, m4, m5, m6⟩ := HM.out
 have hnl : ∀ t, t ≠ 58 → KeepTag t w w1 := fun t h => (KeepTag.alloc _).trans (KeepTag.gb hg1 (HA.out.line.below ((Below.refl _ _).alloc (Nat.le_refl _) _)) h)
 have hs1 : w.heap.size + 1 ≤ w1.heap.size := by have := hg1.size; simpa using this
 have n1 := m1.keep (hnl _ (by decide))
 have n2 := own_tag m2 (hnl _ (by decide))
 have n3 := m3.keep (hnl _ (by decide))
 have n4 := m4.keep (hnl _ (by decide))
 have n5 := own_tag m5 (hnl _ (by decide))
 have n6 := m6.keep (hnl _ (by decide))
 clear m1 m2 m3 m4 m5 m6
 have r5 : Blk w1 w.heap.size 44 #[.int .i64 0, .int .i64 0] := (hg1.block _ (by simp) (fun e => by injection e with e; have := HA.out.line.lt; omega)).trans (heap_alloc_new w _)
 obtain ⟨ad, capd, rfl⟩ := own_form n5
 have hbt1 := n4.lt
 unfold phraseV
 have aa : ∀ o1 o2, Below w1.heap.size w1 ((w1.alloc o1).alloc o2) := fun o1 o2 => ((Below.refl _ _).alloc (Nat.le_refl _) _).alloc (by simp) _
 have c14 : ∀ o1 o2, ((w1.alloc o1).alloc o2).cell? ⟨bt, 0, none⟩ = some (.slice ad ts.length capd) := fun o1 o2 => (n4.keep (KeepTag.below (aa o1 o2))).cell 0
 have f14 : ∀ o1 o2, ((w1.alloc o1).alloc o2).frozen? ⟨bt, 0, none⟩ = false := fun o1 o2 => (n4.keep (KeepTag.below (aa o1 o2))).froz 0
 go_wp2_with (at_builtin; refine wpList_append_lies _ rfl (.tmp 14) (.tmp 16) 108 rfl B 1 i0 .nilFunc 1 8 Tryz.underlying108 hi hz0 hz1 hz2 rfl (by decide) _ _ _ rfl (own_tag n5 (KeepTag.below ((aa _ _).alloc (aa _ _).size _))) ⟨w1.heap.size + 1 + 1, 0, none⟩ 1 1 [.func (.func 54) #[] #[.pointer (some ⟨bo, 0, none⟩), .pointer (some ⟨w1.heap.size, 0, none⟩)]] rfl rfl ?c1 ?c2 (by decide) ?c3 ?c4 ?c5 _ rfl ?_)
 case c1 => exact cells1 _ _ _ (by simp)
 case c2 => intro u hu; simp at hu; subst hu; rfl
 case c3 => unfold maxLen; omega
 case c4 => omega
 case c5 => simp; omega
 intro g2 cap2 w2 hown2 hg2 hat hlt2
 have nk : ∀ t, t ≠ 1 → KeepTag t _ w2 := fun t h => KeepTag.own hg2 (own_tag n5 (KeepTag.below ((aa _ _).alloc (aa _ _).size _))) h
 have kk : ∀ t, t ≠ 1 → KeepTag t w1 w2 := fun t h => (KeepTag.below ((aa _ _).alloc (aa _ _).size _)).trans (nk t h)
 have j4 := n4.keep (kk _ (by decide))
 have j5 := r5.keep (kk _ (by decide))
 have j7 : Blk w2 (w1.heap.size + 1) 44 #[.int .i64 a, .int .i64 b] := nk _ (by decide) _ _ (heap_mid _ _ _ _)
 have j6 : Blk w2 w1.heap.size 71 (phraseC it) := nk _ (by decide) _ _ (heap_first _ _ _ _)
 have d4 : w2.cell? ⟨bt, 0, none⟩ = some (.slice ad ts.length capd) := j4.cell 0
 have d4f := j4.froz 0
 have hc2 : Chg (fun k => B ≤ k) w1 w2 := Chg.trans (Chg.below ((aa _ _).alloc (aa _ _).size _)) (Chg.gb (S := fun k => B ≤ k) hg2 (fun k e => (n5.lt k e).1)) (fun _ _ h => h)
 clear aa c14 f14 HP c0
 have ks : ∀ v t, t ≠ 108 → KeepTag t w2 (w2.setCell ⟨bt, 0, none⟩ v) := fun v t h => KeepTag.set j4 h 0 v
 have i5 := fun v => j5.keep (ks v _ (by decide))
 have i7 := fun v => j7.keep (ks v _ (by decide))
 have e0 := fun v => (i7 v).cell 0
 have e1 := fun v => (i7 v).cell 1
 have e2 := fun v => (i5 v).cell 0
 have e3 := fun v => (i5 v).cell 1
 have e4 := fun v => (i5 v).froz 0
 have e5 := fun v => (i5 v).froz 1
 simp at e0 e1 e2 e3
 go_wp2
 have hc5 := Chg.trans hc2 (Chg.trans (Chg.set (S := fun k => B ≤ k) (w := w2) (b := bt) hbt 0 (.slice (some ⟨g2, 0, none⟩) (ts.length + 1) cap2)) (Chg.trans (Chg.set (S := fun k => B ≤ k) hB 0 (.int .i64 a)) (Chg.set (S := fun k => B ≤ k) hB 1 (.int .i64 b)) (fun _ _ h => h)) (fun _ _ h => h)) (fun _ _ h => h)
 have k25 : ∀ t, t ≠ 108 → t ≠ 44 → KeepTag t w2 _ := fun t h1 h2 => (ks (.slice (some ⟨g2, 0, none⟩) (ts.length + 1) cap2) t h1).trans ((KeepTag.set (i5 _) h2 0 (.int .i64 a)).trans (KeepTag.set (Blk.put0 (i5 _) _) h2 1 (.int .i64 b)))
 have hfr : Fr L B w _ := Fr.trans (Chg.below ((Below.refl _ _).alloc (Nat.le_refl _) _)) (Fr.trans (Fr.gb hg1) (hc5.mono (fun k h => .inr h)))
 have hkl : KeptL w _ := fun t h1 h2 h3 h4 h5 => fun b0 cur hb0 => (Below.heap_setCell _ ⟨w.heap.size, 1, none⟩ (.int .i64 b) _ (fun e => by have e : b0 = w.heap.size := e; have := (Array.getElem?_eq_some_iff.1 hb0).1; omega)).trans ((Below.heap_setCell _ ⟨w.heap.size, 0, none⟩ (.int .i64 a) _ (fun e => by have e : b0 = w.heap.size := e; have := (Array.getElem?_eq_some_iff.1 hb0).1; omega)).trans (ks (.slice (some ⟨g2, 0, none⟩) (ts.length + 1) cap2) t h2 b0 cur (kk t h5 b0 cur (hnl t h4 b0 cur hb0))))
 have hbt5 := (j4.put (.slice (some ⟨g2, 0, none⟩) (ts.length + 1) cap2)).keep ((KeepTag.set (i5 _) (by decide) 0 (.int .i64 a)).trans (KeepTag.set (Blk.put0 (i5 _) _) (by decide) 1 (.int .i64 b)))
 have fin := (i5 (.slice (some ⟨g2, 0, none⟩) (ts.length + 1) cap2)).put2 (.int .i64 a) (.int .i64 b)
 obtain ⟨w5, hw5⟩ : ∃ w5, w5 = (((w2.setCell ⟨bt, 0, none⟩ (.slice (some ⟨g2, 0, none⟩) (ts.length + 1) cap2)).setCell ⟨w.heap.size, 0, none⟩ (.int .i64 a)).setCell ⟨w.heap.size, 1, none⟩ (.int .i64 b)) := ⟨_, rfl⟩
 rw [← hw5] at hc5 k25 hfr hkl hbt5 fin ⊢
 have g0 : w5.cell? ⟨w.heap.size, 0, none⟩ = some (.int .i64 a) := fin.cell 0
 have g1 : w5.cell? ⟨w.heap.size, 1, none⟩ = some (.int .i64 b) := fin.cell 1
 clear hw5 ks i5 i7 e0 e1 e2 e3 e4 e5
 refine bodyPost_ret (v := .agg #[.int .i64 a, .int .i64 b]) (by simp [results, Tryz.results52, go_sem, g0, g1]) rfl ?_
 refine ⟨hfr, hkl, ?_⟩
 have hline : LineIs w1 L vt k' e → LineIs w5 L vt k' e := fun h => k25 58 (by decide) (by decide) L _ (kk _ (by decide) L _ h)
 cases x with
 | error y =>
  obtain ⟨rfl, rfl⟩ := hex y rfl
  exact ⟨rfl, k', hline hl1⟩
 | ok q =>
  obtain ⟨it', r2⟩ := q
  obtain ⟨rfl, rfl, rfl, hA1, hdr⟩ := hok _ rfl
  obtain ⟨p1, p2⟩ := phrase_bare hx
  refine ⟨rfl, ⟨vo, cs, .slice (some ⟨g2, 0, none⟩) (ts.length + 1) cap2, _, (n1.keep (kk _ (by decide))).keep (k25 _ (by decide) (by decide)), own_tag (own_tag n2 (kk _ (by decide))) (k25 _ (by decide) (by decide)), (n3.keep (kk _ (by decide))).keep (k25 _ (by decide) (by decide)), ?_, ?_, ((n6.keep (kk _ (by decide))).keep (k25 _ (by decide) (by decide))).snoc ⟨w1.heap.size, rfl, j6.keep (k25 _ (by decide) (by decide)), fun e => ?_, p1, p2⟩⟩, k', ?_, hdr⟩
  ·exact hbt5
  ·rw [List.length_append]
   exact own_tag hown2 (k25 _ (by decide) (by decide))
  ·have := (n2.lt _ e).2
   omega
  ·refine ⟨hline hl1, hA1.toks.below ⟨hc5.os, hc5.tape, hc5.output, hc5.size, fun k hk => hc5.block k (by have := hA1.le; omega) (by omega)⟩, hA1.lt, Nat.le_trans hA1.le hc5.size⟩
end
end Go.Proofs.YtknnleiinhdklaaGreatDoor
