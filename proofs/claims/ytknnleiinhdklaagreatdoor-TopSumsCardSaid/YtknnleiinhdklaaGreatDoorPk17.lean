/-
  Walk of package parse: an expression. Condition: the line lies in memory, its tokens too.
-/
import Derived.Deep.DeepCutAuto
import Derived.Deep.CutBlock
import Derived.Deep.RegionHeld3
import Derived.Test.YtknnleiinhdklaaGreatDoorPk02
import Derived.Test.YtknnleiinhdklaaGreatDoorPk10
import Derived.Test.YtknnleiinhdklaaGreatDoorPk15
import Derived.Test.YtknnleiinhdklaaGreatDoorPk16
namespace Go.Proofs.YtknnleiinhdklaaGreatDoor
open Go.RowKit Go.Shelf Go.Sort
theorem var_of_block {P : Program} {w w' : World} {n : String} {g : Nat} (hg : P.globalNamed n = some g) (hb : w'.heap[g]? = w.heap[g]?) : w'.var? P n = w.var? P n := by
 simp [World.var?, hg, hb]
theorem ErrIs.chg {S : Nat → Prop} {w w' : World} (h : ErrIs w) (hc : Chg S w w') (hn : ¬ S 2) : ErrIs w' := by
 have hl := h.lt
 obtain ⟨tp, p, h'⟩ := h
 refine ⟨tp, p, ?_⟩
 rw [← h']
 exact var_of_block (g := 2) (by kernel_rfl) (hc.block _ hl hn)
/-- The boxes of expr, the line's place, the machine. -/
structure ExprAt (w0 w : World) (Bt L bl br bo bt : Nat) (vt : Value) (toks : List Tok) (e : Int) (k : Nat) (ts : List (Option Itm)) (out : List Itm) : Prop where
 line : At w Bt L vt toks k e
 mach : Mach w0.heap.size w bo bt ts out
 box : Blk w bl 56 #[.pointer (some ⟨L, 0, none⟩)]
 res : Blk w br 44 #[.int .i64 0, .int .i64 0]
 fr : Fr L w0.heap.size w0 w
/-- What expr gives. -/
def ExprPost (L : Nat) (vt : Value) (e : Int) (x : Except Fault (List Itm)) (w : World) (en : Ending) (w' : World) : Prop :=
 Fr L w.heap.size w w' ∧ match x with
 | .error y => en = .returned (.tuple #[.slice none 0 0, .agg #[.int .i64 y.1, .int .i64 y.2]]) ∧ ∃ k', LineIs w' L vt k' e
 | .ok its => ∃ v cs, en = .returned (.tuple #[v, .agg #[.int .i64 0, .int .i64 0]]) ∧ w'.ownsRow w.heap.size 71 5 v its.length cs ∧ ItsC w' its cs ∧ ∃ k', LineIs w' L vt k' e
theorem four (w : World) (o1 o2 o3 o4 : Obj) : ((((w.alloc o1).alloc o2).alloc o3).alloc o4).heap[w.heap.size]? = some o1 ∧ ((((w.alloc o1).alloc o2).alloc o3).alloc o4).heap[w.heap.size + 1]? = some o2 ∧ ((((w.alloc o1).alloc o2).alloc o3).alloc o4).heap[w.heap.size + 1 + 1]? = some o3 ∧ ((((w.alloc o1).alloc o2).alloc o3).alloc o4).heap[w.heap.size + 1 + 1 + 1]? = some o4 := by
 have e1 : (w.alloc o1).heap.size = w.heap.size + 1 := by simp
 have h := heap_mid (w.alloc o1) o2 o3 o4
 have h2 := heap_first (w.alloc o1) o2 o3 o4
 have h3 := heap_first w o1 o2 o3
 have h4 := heap_alloc_new (((w.alloc o1).alloc o2).alloc o3) o4
 have e3 : (((w.alloc o1).alloc o2).alloc o3).heap.size = w.heap.size + 1 + 1 + 1 := by simp
 rw [e1] at h h2
 rw [e3] at h4
 exact ⟨(Below.heap_alloc _ o4 _ (by simp; omega)).trans h3, h2, h, h4⟩
theorem expr_start {w : World} {Bt L : Nat} {vt : Value} {toks : List Tok} {k : Nat} {e : Int} (h : At w Bt L vt toks k e) :
  ExprAt w ((((w.alloc (.cells #[.pointer (some ⟨L, 0, none⟩)] 56)).alloc (.cells #[.int .i64 0, .int .i64 0] 44)).alloc (.cells #[.slice none 0 0] 63)).alloc (.cells #[.slice none 0 0] 108)) Bt L w.heap.size (w.heap.size + 1) (w.heap.size + 1 + 1) (w.heap.size + 1 + 1 + 1) vt toks e k [] [] := by
 obtain ⟨f1, f2, f3, f4⟩ := four w (.cells #[.pointer (some ⟨L, 0, none⟩)] 56) (.cells #[.int .i64 0, .int .i64 0] 44) (.cells #[.slice none 0 0] 63) (.cells #[.slice none 0 0] 108)
 have hb : Below w.heap.size w ((((w.alloc (.cells #[.pointer (some ⟨L, 0, none⟩)] 56)).alloc (.cells #[.int .i64 0, .int .i64 0] 44)).alloc (.cells #[.slice none 0 0] 63)).alloc (.cells #[.slice none 0 0] 108)) :=
  ((((Below.refl _ _).alloc (Nat.le_refl _) _).alloc (by simp) _).alloc (by simp; omega) _).alloc (by simp; omega) _
 exact ⟨h.below hb, ⟨_, [], _, [], f3, World.ownsRow_nil _ _ _ _, ItsC.nil _, f4, World.ownsRow_nil _ _ _ _, rfl, fun i x hi => by simp at hi⟩, f1, f2, Chg.below hb⟩
theorem ExprAt.below {w0 w w' : World} {Bt L bl br bo bt : Nat} {vt : Value} {toks : List Tok} {e : Int} {k : Nat} {ts : List (Option Itm)} {out : List Itm} (h : ExprAt w0 w Bt L bl br bo bt vt toks e k ts out) (hb : Below w.heap.size w w') : ExprAt w0 w' Bt L bl br bo bt vt toks e k ts out :=
 ⟨h.line.below hb, h.mach.keep (fun _ _ => KeepTag.below hb), h.box.keep (KeepTag.below hb), h.res.keep (KeepTag.below hb), h.fr.trans (Chg.below hb)⟩
theorem ExprAt.alloc {w0 w : World} {Bt L bl br bo bt : Nat} {vt : Value} {toks : List Tok} {e : Int} {k : Nat} {ts : List (Option Itm)} {out : List Itm} (h : ExprAt w0 w Bt L bl br bo bt vt toks e k ts out) (o : Obj) : ExprAt w0 (w.alloc o) Bt L bl br bo bt vt toks e k ts out :=
 h.below ((Below.refl _ _).alloc (Nat.le_refl _) o)
/-- What expr leaves behind a store into its fault's cell. -/
structure Left (L : Nat) (vt : Value) (e : Int) (w w' : World) : Prop where
 fr : Fr L w.heap.size w w'
 line : ∃ k', LineIs w' L vt k' e
theorem expr_end {L br : Nat} {vt : Value} {e : Int} {w w2 : World} {k' : Nat} {x y : Value} (hb : Blk w2 br 44 #[x, y]) (hbr : w.heap.size ≤ br) (hf : Fr L w.heap.size w w2) (hl : LineIs w2 L vt k' e) (a c : Value) : Left L vt e w ((w2.setCell ⟨br, 0, none⟩ a).setCell ⟨br, 1, none⟩ c) :=
 ⟨hf.trans ((Chg.set (.inr hbr) 0 a).trans (Chg.set (.inr hbr) 1 c) (fun _ _ h => h)), k', (KeepTag.set (Blk.put0 hb a) (by decide) 1 c) L _ (KeepTag.set hb (by decide) 0 a L _ hl)⟩
theorem res_alloc {w2 : World} {br : Nat} {x y : Value} (hb : Blk w2 br 44 #[x, y]) (a c : Value) (o : Obj) : (((w2.setCell ⟨br, 0, none⟩ a).setCell ⟨br, 1, none⟩ c).alloc o).cell? ⟨br, 0, none⟩ = some a ∧ (((w2.setCell ⟨br, 0, none⟩ a).setCell ⟨br, 1, none⟩ c).alloc o).cell? ⟨br, 1, none⟩ = some c :=
 ⟨((hb.put2 a c).keep (KeepTag.alloc o)).cell 0, ((hb.put2 a c).keep (KeepTag.alloc o)).cell 1⟩
theorem res_plain {w2 : World} {br : Nat} {x y : Value} (hb : Blk w2 br 44 #[x, y]) (a c : Value) : ((w2.setCell ⟨br, 0, none⟩ a).setCell ⟨br, 1, none⟩ c).cell? ⟨br, 0, none⟩ = some a ∧ ((w2.setCell ⟨br, 0, none⟩ a).setCell ⟨br, 1, none⟩ c).cell? ⟨br, 1, none⟩ = some c :=
 ⟨(hb.put2 a c).cell 0, (hb.put2 a c).cell 1⟩
theorem Left.alloc {L : Nat} {vt : Value} {e : Int} {w w' : World} (h : Left L vt e w w') (o : Obj) : Left L vt e w (w'.alloc o) :=
 ⟨h.fr.trans (Chg.below ((Below.refl _ _).alloc (Nat.le_refl _) o)), let ⟨k', hl⟩ := h.line; ⟨k', hl.alloc o⟩⟩
theorem Left.drew {L : Nat} {vt : Value} {e : Int} {w w' : World} (h : Left L vt e w w') : Left L vt e w w'.drew :=
 ⟨h.fr.trans (Chg.below ((Below.refl _ _).drew)), let ⟨k', hl⟩ := h.line; ⟨k', hl.drew⟩⟩
theorem Left.bad {L : Nat} {vt : Value} {e : Int} {w w' : World} (h : Left L vt e w w') (y : Fault) : ExprPost L vt e (.error y) w (.returned (.tuple #[.slice none 0 0, .agg #[.int .i64 y.1, .int .i64 y.2]])) w' := ⟨h.fr, rfl, h.line⟩
theorem At.drop {w : World} {B L : Nat} {vt : Value} {toks : List Tok} {k : Nat} {e : Int} {t : Tok} (_ : At w B L vt toks k e) (h : toks[k]? = some t) : toks.drop k = t :: toks.drop (k + 1) := by
 obtain ⟨hk, ht⟩ := List.getElem?_eq_some_iff.1 h
 rw [List.drop_eq_getElem_cons hk, ht]
/-- Behind an operand: the boxes, the token's box, what is left. -/
structure Behind (w0 w : World) (Bt L bl br bo bt : Nat) (vt : Value) (toks : List Tok) (e : Int) (k0 b9 k : Nat) (ts : List (Option Itm)) (out : List Itm) (op : Nat) (X : Except Fault (List Itm)) : Prop where
 at_ : ExprAt w0 w Bt L bl br bo bt vt toks e k ts out
 box : ∃ x0 x1 x2 x3, Blk w b9 60 #[x0, x1, x2, x3]
 run : runX e false (toks.drop k) out ts.reverse op = X
 len : out.length + ts.length ≤ 2 * k
 lt : k0 < k
 low : w0.heap.size ≤ b9
 non : nones ts.reverse = op
 few : out.length + ts.length ≤ 100000
theorem ExprAt.next {w0 w : World} {Bt L bl br bo bt : Nat} {vt : Value} {toks : List Tok} {e : Int} {k : Nat} {ts : List (Option Itm)} {out : List Itm} (h : ExprAt w0 w Bt L bl br bo bt vt toks e k ts out) (k' : Nat) {u : Value} (hu : u = .int .i64 k') : ExprAt w0 (w.setCell ⟨L, 1, none⟩ u) Bt L bl br bo bt vt toks e k' ts out := by
 have hk : ∀ t, t ≠ 58 → KeepTag t w (w.setCell ⟨L, 1, none⟩ u) := fun t ht => KeepTag.set h.line.line ht 1 u
 exact ⟨h.line.gb (gb_own (gb_below (Below.refl _ _)) 1 u) (h.line.line.next k' hu), h.mach.keep hk, h.box.keep (hk _ (by decide)), h.res.keep (hk _ (by decide)), h.fr.trans (Chg.set (.inl rfl) 1 u)⟩
theorem ExprAt.pushed {w0 w w2 : World} {Bt L bl br bo bt : Nat} {vt : Value} {toks : List Tok} {e : Int} {k : Nat} {ts : List (Option Itm)} {out : List Itm} (h : ExprAt w0 w Bt L bl br bo bt vt toks e k ts out) {vo vd v' u : Value} {cs ds : List Value} {x : Option Itm}
  (m1 : Blk w bo 63 #[vo]) (m2 : w.ownsRow w0.heap.size 71 5 vo out.length cs) (m3 : ItsC w out cs) (m4 : Blk w bt 108 #[vd]) (m5 : w.ownsRow w0.heap.size 1 1 vd ts.length ds) (m6 : TodoC w bo vo ts ds)
  (hBt : Bt ≤ w0.heap.size) (hbt : w0.heap.size ≤ bt) (hg : w.grownBy w2 vd.ownBlock) (hown : w2.ownsRow w0.heap.size 1 1 v' (ts.length + 1) (ds ++ [u])) (hx : TodoV w2 bo vo x u) :
  ExprAt w0 (w2.setCell ⟨bt, 0, none⟩ v') Bt L bl br bo bt vt toks e k (ts ++ [x]) out := by
 have kk : ∀ t, t ≠ 1 → KeepTag t w w2 := fun t h => KeepTag.own hg m5 h
 have j4 := m4.keep (kk _ (by decide))
 have ks : ∀ t, t ≠ 108 → KeepTag t w2 (w2.setCell ⟨bt, 0, none⟩ v') := fun t h => KeepTag.set j4 h 0 v'
 have ka : ∀ t, t ≠ 1 → t ≠ 108 → KeepTag t w (w2.setCell ⟨bt, 0, none⟩ v') := fun t h1 h2 => (kk t h1).trans (ks t h2)
 have hc : Chg (fun k => w0.heap.size ≤ k) w (w2.setCell ⟨bt, 0, none⟩ v') := Chg.trans (Chg.gb (S := fun k => w0.heap.size ≤ k) hg (fun k e => (m5.lt k e).1)) (Chg.set (S := fun k => w0.heap.size ≤ k) hbt 0 v') (fun _ _ h => h)
 refine ⟨⟨ka _ (by decide) (by decide) L _ h.line.line, h.line.toks.below ⟨hc.os, hc.tape, hc.output, hc.size, fun k hk => hc.block k (by have := h.line.le; omega) (by omega)⟩, h.line.lt, Nat.le_trans h.line.le hc.size⟩,
  ⟨vo, cs, v', ds ++ [u], m1.keep (ka _ (by decide) (by decide)), own_tag m2 (ka _ (by decide) (by decide)), m3.keep (ka _ (by decide) (by decide)), j4.put v', ?_, ?_⟩,
  h.box.keep (ka _ (by decide) (by decide)), h.res.keep (ka _ (by decide) (by decide)), h.fr.trans (hc.mono (fun k h => .inr h))⟩
 ·rw [List.length_append]
  exact own_tag hown (ks _ (by decide))
 ·refine ((m6.keep (kk _ (by decide))).snoc hx).keep (ks _ (by decide))
theorem ExprAt.wrote {w0 w w2 : World} {Bt L bl br bo bt : Nat} {vt : Value} {toks : List Tok} {e : Int} {k : Nat} {ts : List (Option Itm)} {out : List Itm} (h : ExprAt w0 w Bt L bl br bo bt vt toks e k ts out) {vo vd v' vn : Value} {cs ds : List Value} {it : Itm}
  (m1 : Blk w bo 63 #[vo]) (m2 : w.ownsRow w0.heap.size 71 5 vo out.length cs) (m3 : ItsC w out cs) (m4 : Blk w bt 108 #[vd]) (m5 : w.ownsRow w0.heap.size 1 1 vd ts.length ds) (m6 : TodoC w bo vo ts ds)
  (hBt : Bt ≤ w0.heap.size) (hbo : w0.heap.size ≤ bo) (hg : w.grownBy w2 vo.ownBlock) (hown : w2.ownsRow w0.heap.size 71 5 v' (out.length + 1) (cs ++ it.cells vn)) (hn : NumS w vn it.nums) (hat : ∀ g, v'.ownBlock = some g → vo.ownBlock = some g ∨ w.heap.size ≤ g) :
  ExprAt w0 (w2.setCell ⟨bo, 0, none⟩ v') Bt L bl br bo bt vt toks e k ts (out ++ [it]) := by
 have kk : ∀ t, t ≠ 71 → KeepTag t w w2 := fun t h => KeepTag.own hg m2 h
 have j1 := m1.keep (kk _ (by decide))
 have ks : ∀ t, t ≠ 63 → KeepTag t w2 (w2.setCell ⟨bo, 0, none⟩ v') := fun t h => KeepTag.set j1 h 0 v'
 have ka : ∀ t, t ≠ 71 → t ≠ 63 → KeepTag t w (w2.setCell ⟨bo, 0, none⟩ v') := fun t h1 h2 => (kk t h1).trans (ks t h2)
 have hc1 : Chg (fun k => k = bo ∨ vo.ownBlock = some k) w (w2.setCell ⟨bo, 0, none⟩ v') := Chg.trans (Chg.gb (S := fun k => k = bo ∨ vo.ownBlock = some k) hg (fun k e => .inr e)) (Chg.set (S := fun k => k = bo ∨ vo.ownBlock = some k) (.inl rfl) 0 v') (fun _ _ h => h)
 have hc : Chg (fun k => w0.heap.size ≤ k) w (w2.setCell ⟨bo, 0, none⟩ v') := hc1.mono (fun k hk => by
  rcases hk with rfl | hk
  ·exact hbo
  ·exact (m2.lt k hk).1)
 refine ⟨⟨ka _ (by decide) (by decide) L _ h.line.line, h.line.toks.below ⟨hc.os, hc.tape, hc.output, hc.size, fun k hk => hc.block k (by have := h.line.le; omega) (by omega)⟩, h.line.lt, Nat.le_trans h.line.le hc.size⟩,
  ⟨v', cs ++ it.cells vn, vd, ds, j1.put v', ?_, (m3.snoc hn).keep (ka _ (by decide) (by decide)), m4.keep (ka _ (by decide) (by decide)), own_tag m5 (ka _ (by decide) (by decide)), m6.chg m1 hc1 hat⟩,
  h.box.keep (ka _ (by decide) (by decide)), h.res.keep (ka _ (by decide) (by decide)), h.fr.trans (hc.mono (fun k h => .inr h))⟩
 rw [List.length_append]
 exact own_tag hown (ks _ (by decide))
theorem keep_fr {L B : Nat} {w w' : World} {vt : Value} {k : Nat} {e : Int} (hl : LineIs w L vt k e) (hB : w.heap.size ≤ B) (hf : Fr L B w w') : ∀ t, t ≠ 58 → KeepTag t w w' := fun t ht => Chg.keep hf (fun b cur hb => by
 rintro (rfl | h)
 ·exact ht (tag_ne hb hl)
 ·have := (Array.getElem?_eq_some_iff.1 hb).1; omega)
theorem ExprAt.moved {w0 w w' : World} {Bt L bl br bo bt : Nat} {vt : Value} {toks : List Tok} {e : Int} {k k' : Nat} {ts : List (Option Itm)} {out : List Itm} (h : ExprAt w0 w Bt L bl br bo bt vt toks e k ts out) (hf : Fr L w.heap.size w w') (hl : LineIs w' L vt k' e) : ExprAt w0 w' Bt L bl br bo bt vt toks e k' ts out := by
 have hk := keep_fr h.line.line (Nat.le_refl _) hf
 refine ⟨⟨hl, h.line.toks.keep h.line.line (fun g hg hne => hf.block g (Nat.lt_of_lt_of_le hg h.line.le) (by rintro (e | e); exact hne e; have := h.line.le; omega)), h.line.lt, Nat.le_trans h.line.le hf.size⟩, h.mach.keep hk, h.box.keep (hk _ (by decide)), h.res.keep (hk _ (by decide)), h.fr.trans (Chg.mono hf (fun k hk => ?_))⟩
 rcases hk with hk | hk
 ·exact .inl hk
 ·exact .inr (Nat.le_trans h.fr.size hk)
theorem Tryz.infoI64 : (Tryz.prog.info? 2).map (fun i => (i.zero, i.size, i.bytes)) = some (some (.int .i64 0), 1, 8) := by kernel_rfl
theorem nums_head {toks : List Tok} {k : Nat} {t : Tok} (h : toks[k]? = some t) (hn : isNum t = true) : (toks.drop k).takeWhile isNum = t :: (toks.drop (k + 1)).takeWhile isNum ∧ (toks.drop k).dropWhile isNum = (toks.drop (k + 1)).dropWhile isNum := by
 obtain ⟨hk, ht⟩ := List.getElem?_eq_some_iff.1 h
 rw [List.drop_eq_getElem_cons hk, ht, List.takeWhile_cons, List.dropWhile_cons, hn]
 exact ⟨rfl, rfl⟩
theorem nums_stop {toks : List Tok} {k : Nat} (h : isNum (peekT toks k) = false) : (toks.drop k).takeWhile isNum = [] ∧ (toks.drop k).dropWhile isNum = toks.drop k := by
 rcases Nat.lt_or_ge k toks.length with hk | hk
 ·have h1 := List.getElem?_eq_getElem hk
  rw [peek_in h1] at h
  rw [List.drop_eq_getElem_cons hk, List.takeWhile_cons, List.dropWhile_cons, h]
  exact ⟨rfl, rfl⟩
 ·rw [List.drop_eq_nil_of_le hk]
  exact ⟨rfl, rfl⟩
theorem peek_num {toks : List Tok} {k : Nat} (h : isNum (peekT toks k) = true) : toks[k]? = some (peekT toks k) := by
 rcases Nat.lt_or_ge k toks.length with hk | hk
 ·have h1 := List.getElem?_eq_getElem hk
  rw [peek_in h1, h1]
 ·rw [peek_out hk] at h
  cases h
theorem two_new (w : World) (a b : Obj) : ((w.alloc a).alloc b).heap[w.heap.size]? = some a ∧ ((w.alloc a).alloc b).heap[w.heap.size + 1]? = some b := by
 have h1 := heap_alloc_new (w.alloc a) b
 have e1 : (w.alloc a).heap.size = w.heap.size + 1 := by simp
 rw [e1] at h1
 exact ⟨(Below.heap_alloc _ b _ (by simp)).trans (heap_alloc_new w a), h1⟩
theorem field_tok0 (a b c d : Value) (w : World) : (Instr.field 60 (.agg #[a, b, c, d]) 0).run Tryz.prog w = .ok a w := by kernel_rfl
theorem field_tok3 (a b c d : Value) (w : World) : (Instr.field 60 (.agg #[a, b, c, d]) 3).run Tryz.prog w = .ok d w := by kernel_rfl
theorem Blk.put4 {w : World} {b : Nat} {t : TypeId} {x0 x1 x2 x3 x4 : Value} (h : Blk w b t #[x0, x1, x2, x3, x4]) (u : Value) : Blk (w.setCell ⟨b, 4, none⟩ u) b t #[x0, x1, x2, x3, u] := by
 unfold Blk at h ⊢
 simp [World.setCell, Array.getElem?_modify, h]
theorem Blk.set40 {w : World} {b : Nat} {t : TypeId} {x0 x1 x2 x3 : Value} (h : Blk w b t #[x0, x1, x2, x3]) (u : Value) : Blk (w.setCell ⟨b, 0, none⟩ u) b t #[u, x1, x2, x3] := by
 unfold Blk at h ⊢
 simp [World.setCell, Array.getElem?_modify, h]
theorem Blk.set41 {w : World} {b : Nat} {t : TypeId} {x0 x1 x2 x3 : Value} (h : Blk w b t #[x0, x1, x2, x3]) (u : Value) : Blk (w.setCell ⟨b, 1, none⟩ u) b t #[x0, u, x2, x3] := by
 unfold Blk at h ⊢
 simp [World.setCell, Array.getElem?_modify, h]
theorem Blk.set42 {w : World} {b : Nat} {t : TypeId} {x0 x1 x2 x3 : Value} (h : Blk w b t #[x0, x1, x2, x3]) (u : Value) : Blk (w.setCell ⟨b, 2, none⟩ u) b t #[x0, x1, u, x3] := by
 unfold Blk at h ⊢
 simp [World.setCell, Array.getElem?_modify, h]
theorem Blk.set43 {w : World} {b : Nat} {t : TypeId} {x0 x1 x2 x3 : Value} (h : Blk w b t #[x0, x1, x2, x3]) (u : Value) : Blk (w.setCell ⟨b, 3, none⟩ u) b t #[x0, x1, x2, u] := by
 unfold Blk at h ⊢
 simp [World.setCell, Array.getElem?_modify, h]
theorem tok_set {w : World} {b : Nat} {t : TypeId} {x0 x1 x2 x3 : Value} (h : Blk w b t #[x0, x1, x2, x3]) (y0 y1 y2 y3 : Value) : Blk ((((w.setCell ⟨b, 0, none⟩ y0).setCell ⟨b, 1, none⟩ y1).setCell ⟨b, 2, none⟩ y2).setCell ⟨b, 3, none⟩ y3) b t #[y0, y1, y2, y3] ∧
  (∀ s, s ≠ t → KeepTag s w ((((w.setCell ⟨b, 0, none⟩ y0).setCell ⟨b, 1, none⟩ y1).setCell ⟨b, 2, none⟩ y2).setCell ⟨b, 3, none⟩ y3)) ∧ Chg (fun k => k = b) w ((((w.setCell ⟨b, 0, none⟩ y0).setCell ⟨b, 1, none⟩ y1).setCell ⟨b, 2, none⟩ y2).setCell ⟨b, 3, none⟩ y3) := by
 have h1 := h.set40 y0
 have h2 := h1.set41 y1
 have h3 := h2.set42 y2
 have h4 := h3.set43 y3
 refine ⟨h4, fun s hs => (KeepTag.set h hs 0 y0).trans ((KeepTag.set h1 hs 1 y1).trans ((KeepTag.set h2 hs 2 y2).trans (KeepTag.set h3 hs 3 y3))), ?_⟩
 exact Chg.trans (Chg.set (S := fun k => k = b) rfl 0 y0) (Chg.trans (Chg.set (S := fun k => k = b) rfl 1 y1) (Chg.trans (Chg.set (S := fun k => k = b) rfl 2 y2) (Chg.set (S := fun k => k = b) rfl 3 y3) (fun _ _ h => h)) (fun _ _ h => h)) (fun _ _ h => h)
theorem ExprAt.kept {w0 w w' : World} {Bt L bl br bo bt : Nat} {vt : Value} {toks : List Tok} {e : Int} {k : Nat} {ts : List (Option Itm)} {out : List Itm} (h : ExprAt w0 w Bt L bl br bo bt vt toks e k ts out) (hBt : Bt ≤ w0.heap.size) (hk : ∀ t, t ≠ 60 → KeepTag t w w') (hc : Chg (fun k => w0.heap.size ≤ k) w w') : ExprAt w0 w' Bt L bl br bo bt vt toks e k ts out := by
 have hm : Mach w0.heap.size w' bo bt ts out := by
  obtain ⟨vo, cs, vd, ds, m1, m2, m3, m4, m5, m6⟩ := h.mach
  exact ⟨vo, cs, vd, ds, m1.keep (hk _ (by decide)), own_tag m2 (hk _ (by decide)), m3.keep (hk _ (by decide)), m4.keep (hk _ (by decide)), own_tag m5 (hk _ (by decide)), m6.keep (hk _ (by decide))⟩
 exact ⟨⟨hk _ (by decide) L _ h.line.line, h.line.toks.below ⟨hc.os, hc.tape, hc.output, hc.size, fun k hk => hc.block k (by have := h.line.le; omega) (by omega)⟩, h.line.lt, Nat.le_trans h.line.le hc.size⟩, hm, h.box.keep (hk _ (by decide)), h.res.keep (hk _ (by decide)), h.fr.trans (hc.mono (fun k h => .inr h))⟩
theorem ExprAt.finish {w0 w w' : World} {Bt L bl br bo bt : Nat} {vt : Value} {toks : List Tok} {e : Int} {k : Nat} {ts ts' : List (Option Itm)} {out out' : List Itm} (h : ExprAt w0 w Bt L bl br bo bt vt toks e k ts out) (hBt : Bt ≤ w0.heap.size) (hm : Mach w0.heap.size w' bo bt ts' out') (hb : Below w0.heap.size w w') (hs : w.heap.size ≤ w'.heap.size) (hk : Kept w w') : ExprAt w0 w' Bt L bl br bo bt vt toks e k ts' out' :=
 ⟨⟨hk _ (by decide) (by decide) (by decide) L _ h.line.line, h.line.toks.below ⟨hb.os, hb.tape, hb.output, hs, fun k hk => hb.block k (by omega)⟩, h.line.lt, Nat.le_trans h.line.le hs⟩, hm, h.box.keep (hk _ (by decide) (by decide) (by decide)), h.res.keep (hk _ (by decide) (by decide) (by decide)), h.fr.trans (Fr.below hb hs)⟩
theorem ExprAt.pop {w0 w : World} {Bt L bl br bo bt : Nat} {vt : Value} {toks : List Tok} {e : Int} {k : Nat} {ts : List (Option Itm)} {x : Option Itm} {out : List Itm} (h : ExprAt w0 w Bt L bl br bo bt vt toks e k (ts ++ [x]) out) {vo : Value} {cs ds : List Value} {a : Option Addr} {cap : Nat}
  (m1 : Blk w bo 63 #[vo]) (m2 : w.ownsRow w0.heap.size 71 5 vo out.length cs) (m3 : ItsC w out cs) (m4 : Blk w bt 108 #[.slice a (ts.length + 1) cap]) (m5 : w.ownsRow w0.heap.size 1 1 (.slice a (ts.length + 1) cap) (ts.length + 1) ds) (m6 : TodoC w bo vo (ts ++ [x]) ds)
  (hBt : Bt ≤ w0.heap.size) (hbt : w0.heap.size ≤ bt) : ExprAt w0 (w.setCell ⟨bt, 0, none⟩ (.slice a ts.length cap)) Bt L bl br bo bt vt toks e k ts out := by
 have ks : ∀ t, t ≠ 108 → KeepTag t w (w.setCell ⟨bt, 0, none⟩ (.slice a ts.length cap)) := fun t h => KeepTag.set m4 h 0 _
 have hc : Chg (fun k => w0.heap.size ≤ k) w (w.setCell ⟨bt, 0, none⟩ (.slice a ts.length cap)) := Chg.set (S := fun k => w0.heap.size ≤ k) hbt 0 _
 obtain ⟨ds2, u, rfl, n6, mu⟩ := m6.init
 exact ⟨⟨ks _ (by decide) L _ h.line.line, h.line.toks.below ⟨hc.os, hc.tape, hc.output, hc.size, fun k hk => hc.block k (by have := h.line.le; omega) (by omega)⟩, h.line.lt, Nat.le_trans h.line.le hc.size⟩,
  ⟨vo, cs, _, ds2, m1.keep (ks _ (by decide)), own_tag m2 (ks _ (by decide)), m3.keep (ks _ (by decide)), m4.put _, own_pop (own_tag m5 (ks _ (by decide))), n6.keep (ks _ (by decide))⟩,
  h.box.keep (ks _ (by decide)), h.res.keep (ks _ (by decide)), h.fr.trans (hc.mono (fun k h => .inr h))⟩
theorem fin_open {ts ts' : List (Option Itm)} {out out' : List Itm} {op : Nat} (hn : nones ts.reverse = op) (h0 : 0 < op) (hf : finP ts.reverse out = (out', ts'.reverse)) : ∃ ts5, ts' = ts5 ++ [none] ∧ nones ts5.reverse = op - 1 ∧ (finP ts.reverse out).1 = out' ∧ (finP ts.reverse out).2.tail = ts5.reverse := by
 obtain ⟨l, rs, h1, h2, h3⟩ := fin_split ts.reverse out
 rcases h3 with h3 | ⟨s, h3⟩
 ·subst h3
  rw [h1, nones_some] at hn
  have : nones ([] : List (Option Itm)) = 0 := rfl
  omega
 ·subst h3
  rw [h2] at hf
  injection hf with e1 e2
  have e3 : ts' = s.reverse ++ [none] := by
   have := congrArg List.reverse e2
   rw [List.reverse_reverse, List.reverse_cons] at this
   exact this.symm
  refine ⟨s.reverse, e3, ?_, by rw [h2]; exact e1, by rw [h2, List.reverse_reverse]; rfl⟩
  rw [h1, nones_some] at hn
  have : nones (none :: s) = nones s + 1 := rfl
  rw [List.reverse_reverse]
  omega
theorem peek_some {toks : List Tok} {k : Nat} (h : (peekT toks k).kind ≠ 4) : toks[k]? = some (peekT toks k) := by
 rcases Nat.lt_or_ge k toks.length with hk | hk
 ·have h1 := List.getElem?_eq_getElem hk
  rw [peek_in h1, h1]
 ·rw [peek_out hk] at h
  exact absurd rfl h
theorem drop_some {toks : List Tok} {k : Nat} {t : Tok} (h : toks[k]? = some t) : toks.drop k = t :: toks.drop (k + 1) := by
 obtain ⟨hk, ht⟩ := List.getElem?_eq_some_iff.1 h
 rw [List.drop_eq_getElem_cons hk, ht]
/-- What expr leaves behind its last store, all being well. -/
theorem expr_good {L : Nat} {vt : Value} {e : Int} {w w4 : World} {Bt bl br bo bt k : Nat} {toks : List Tok} {ts : List (Option Itm)} {out : List Itm} {vo : Value} {cs : List Value} (h : ExprAt w w4 Bt L bl br bo bt vt toks e k ts out) (hbr : w.heap.size ≤ br)
  (m2 : w4.ownsRow w.heap.size 71 5 vo out.length cs) (m3 : ItsC w4 out cs) : ExprPost L vt e (.ok out) w (.returned (.tuple #[vo, .agg #[.int .i64 0, .int .i64 0]])) ((w4.setCell ⟨br, 0, none⟩ (.int .i64 0)).setCell ⟨br, 1, none⟩ (.int .i64 0)) := by
 have hl := expr_end h.res hbr h.fr h.line.line (.int .i64 0) (.int .i64 0)
 have hk : ∀ t, t ≠ 44 → KeepTag t w4 ((w4.setCell ⟨br, 0, none⟩ (.int .i64 0)).setCell ⟨br, 1, none⟩ (.int .i64 0)) := fun t ht => (KeepTag.set h.res ht 0 _).trans (KeepTag.set (h.res.put0 _) ht 1 _)
 exact ⟨hl.fr, vo, cs, rfl, own_tag m2 (hk _ (by decide)), m3.keep (hk _ (by decide)), hl.line⟩
set_option maxHeartbeats 20000000 in
set_option maxRecDepth 100000 in
theorem expr_any (Bt L : Nat) (vt : Value) (toks : List Tok) (k : Nat) (e : Int) (w : World) (hA : At w Bt L vt toks k e) (hlen : toks.length ≤ 50000) (hW : ∀ t ∈ toks, t.word.length ≤ maxLen) (hK : ∀ t ∈ toks, t.kind ≠ 4) (hErr : ErrIs w) (hLg : 2 < L) :
  Calls Tryz.prog 31 #[.pointer (some ⟨L, 0, none⟩)] w (ExprPost L vt e (runX e true (toks.drop k) [] [] 0) w) := by
 have HA := Lib.hid hA
 have hBt : Bt ≤ w.heap.size := hA.le
 clear hA
 generalize hX : runX e true (toks.drop k) [] [] 0 = X
 go_enter Tryz.func31, Tryz.ntmps31
 go_wp2
 go_loopg [6] (toks.length - k) (fun g s6 wr => ∃ k1 ts out op, g = toks.length - k1 ∧ s6 = .int .i64 (op : Nat) ∧ op ≤ 32 ∧ ExprAt w wr Bt L w.heap.size (w.heap.size + 1) (w.heap.size + 1 + 1) (w.heap.size + 1 + 1 + 1) vt toks e k1 ts out ∧ runX e true (toks.drop k1) out ts.reverse op = X ∧ out.length + ts.length ≤ 2 * k1 ∧ nones ts.reverse = op)
 case atStart =>
  refine ⟨k, [], [], 0, rfl, rfl, by omega, expr_start HA.out, hX, by simp, rfl⟩
 case round =>
  obtain ⟨k1, ts, out, op, rfl, rfl, hop, hE, hX1, hn1, hnon⟩ := hrel
  have HNon := Lib.hid hnon
  clear hnon
  have HE := Lib.hid hE
  have b1 : wr.cell? ⟨w.heap.size, 0, none⟩ = some (.pointer (some ⟨L, 0, none⟩)) := hE.box.cell 0
  clear hE
  go_wp2_with fail
  refine (peek_any L vt toks k1 e wr HE.out.line.line HE.out.line.full).mono ?_
  rintro _ w1 ⟨rfl, hb1⟩
  have HE1 := Lib.hid (HE.out.below hb1)
  clear HE b1 hb1
  have b2 : ∀ o, (w1.alloc o).cell? ⟨w.heap.size, 0, none⟩ = some (.pointer (some ⟨L, 0, none⟩)) := fun o => (HE1.out.alloc o).box.cell 0
  have HT : Hid ((k1 < toks.length ∧ toks[k1]? = some (peekT toks k1)) ∨ (toks.length ≤ k1 ∧ peekT toks k1 = ⟨4, 0, [], 0⟩)) := by
   apply Lib.hid
   rcases Nat.lt_or_ge k1 toks.length with hk1 | hk1
   ·left
    have h := List.getElem?_eq_getElem hk1
    exact ⟨hk1, by rw [peek_in h, h]⟩
   ·exact .inr ⟨hk1, peek_out hk1⟩
  generalize peekT toks k1 = T at *
  obtain ⟨tk, ta, tw, tn⟩ := T
  unfold Tok.val
  dsimp only
  have hsz1 : w.heap.size < w1.heap.size := HE1.out.box.lt
  go_upto_block 2 with fail
  go_cut [6] from 15 to 191 (fun s6 wx => ∃ k2 out2, s6 = .int .i64 (op : Nat) ∧ Behind w wx Bt L w.heap.size (w.heap.size + 1) (w.heap.size + 1 + 1) (w.heap.size + 1 + 1 + 1) vt toks e k1 w1.heap.size k2 ts out2 op X)
  case first =>
   clear hX
   have HE2 := Lib.hid (HE1.out.alloc (.cells #[.int .i64 tk, .int .i64 ta, .string (mkS tw), .int .i64 tn] 60))
   have HB9 : Hid (Blk (w1.alloc (.cells #[.int .i64 tk, .int .i64 ta, .string (mkS tw), .int .i64 tn] 60)) w1.heap.size 60 #[.int .i64 tk, .int .i64 ta, .string (mkS tw), .int .i64 tn]) := Lib.hid (heap_alloc_new w1 _)
   have r0 : ∀ o, (w1.alloc o).cell? ⟨w.heap.size + 1, 0, none⟩ = some (.int .i64 0) := fun o => (HE1.out.alloc o).res.cell 0
   rcases HT.out with ⟨hk1, hT⟩ | ⟨hk1, hT⟩
   ·have hdrop := HE1.out.line.drop hT
    rw [hdrop, runX_cons] at hX1
    have HD := Lib.hid hdrop
    have hwd := hW _ (List.mem_of_getElem? hT)
    clear HT hdrop
    have HT := Lib.hid hT
    clear hT
    dsimp only at hX1 hwd
    have HV := Lib.hid (fun w => verb_any (mkS tw) w)
    have HN := Lib.hid (fun w => Name_any (mkS tw) w (by rw [mkS_size]; exact hwd))
    rw [mkS_toList] at HV HN
    have HPl := Lib.hid (place_in e HT.out)
    by_cases hv : tk ≠ 2 ∧ tk ≠ 4 ∧ verbB tw = true
    ·rw [if_pos hv] at hX1
     obtain ⟨k2, k4, hv⟩ := hv
     have k2b : (tk != 2) = true := by simpa using k2
     have k4b : (tk != 4) = true := by simpa using k4
     have HL := later_any Bt w.heap.size L w.heap.size (w.heap.size + 1 + 1) (w.heap.size + 1 + 1 + 1) vt toks k1 e false ⟨tk, ta, tw, tn⟩ ts out _ HE2.out.fr.size hBt (by omega) HE2.out.box HE2.out.line HT.out HE2.out.mach (by omega)
     have HF := Lib.hid (fun y h => @phrase_fault false ⟨tk, ta, tw, tn⟩ (toks.drop (k1 + 1)) y h)
     have HX := Lib.hid hX1
     have HL := Lib.hid HL
     generalize hph : phraseP false ⟨tk, ta, tw, tn⟩ (toks.drop (k1 + 1)) = x at *
     clear hX1
     have HP := Lib.hid hph
     rw [hv] at HV
     clear hv hph
     go_wp2_with (refine (HV.out _).mono ?_; rintro _ _ ⟨rfl, rfl⟩)
     refine HL.out.mono ?_
     rintro en w2 ⟨hfr, hkl, hpost⟩
     have hres : Blk w2 (w.heap.size + 1) 44 #[.int .i64 0, .int .i64 0] := hkl _ (by decide) (by decide) (by decide) (by decide) (by decide) _ _ HE2.out.res
     have hbox : Blk w2 w.heap.size 56 #[.pointer (some ⟨L, 0, none⟩)] := hkl _ (by decide) (by decide) (by decide) (by decide) (by decide) _ _ HE2.out.box
     have hfr2 := HE2.out.fr.trans hfr
     clear HL HE1 HE2
     cases x with
     | error y =>
      obtain ⟨rfl, k', hl⟩ := hpost
      obtain rfl := HF.out y rfl
      have HX2 : Hid (Except.error (ta, 43) = X) := HX
      have r0 : w2.cell? ⟨w.heap.size + 1, 0, none⟩ = some (.int .i64 0) := hres.cell 0
      have r1 : w2.cell? ⟨w.heap.size + 1, 1, none⟩ = some (.int .i64 0) := hres.cell 1
      have f0 : w2.frozen? ⟨w.heap.size + 1, 0, none⟩ = false := hres.froz 0
      have f1 : w2.frozen? ⟨w.heap.size + 1, 1, none⟩ = false := hres.froz 1
      have hlt2 := hres.lt
      go_wp2_with fail
      go_region
      go_wp2
      obtain ⟨g0, g1⟩ := res_alloc hres (.int .i64 ta) (.int .i64 43) (.cells #[.int .i64 ta, .int .i64 43] 44)
      refine bodyPost_ret (v := .tuple #[.slice none 0 0, .agg #[.int .i64 ta, .int .i64 43]]) (by simp [results, Tryz.results31, go_sem, g0, g1]) rfl ?_
      rw [← HX2.out]
      exact (((expr_end hres (by omega) hfr2 hl (.int .i64 ta) (.int .i64 43)).alloc _).drew).bad (ta, 43)
     | ok q =>
      obtain ⟨it, r2⟩ := q
      obtain ⟨rfl, hM, k', hA', hdr⟩ := hpost
      have hlr := phrase_len HP.out
      have hl2 : toks.length - k' = r2.length := by rw [← hdr, List.length_drop]
      rw [List.length_drop] at hlr
      have HD := Lib.hid hdr
      clear hdr
      go_wp2_with fail
      go_roundg (toks.length - k')
      case measure => omega
      case rel =>
       refine ⟨k', ts ++ [some it], out, op, rfl, rfl, hop, ExprAt.alloc ⟨hA', hM, hbox, hres, hfr2⟩ _, ?_, ?_, by rw [List.reverse_append]; exact HNon.out⟩
       ·rw [HD.out, List.reverse_append]
        exact HX.out
       ·rw [List.length_append]
        show out.length + (ts.length + 1) ≤ 2 * k'
        omega
    ·rw [if_neg hv] at hX1
     by_cases k2 : tk = 2
     ·subst k2
      rw [if_neg (by unfold signIs; simp), if_pos (by rfl)] at hX1
      clear hv HV HN hwd
      have HX := Lib.hid hX1
      have htk : isNum ⟨2, ta, tw, tn⟩ = true := rfl
      have HNH := Lib.hid (nums_head HT.out htk)
      clear hX1 HPl htk
      have fd0 := field_tok0
      have fd3 := field_tok3
      go_wp2_with fail
      go_loopg [] (toks.length - k1) (fun g wr2 => ∃ k3 nums vn, g = toks.length - k3 ∧ Fr L w1.heap.size w1 wr2 ∧ LineIs wr2 L vt k3 e ∧ Blk wr2 (w1.heap.size + 1) 71 #[.int .i64 1, .int .i64 ta, .int .u8 0, .string ⟨#[]⟩, vn] ∧
        wr2.ownsRow (w1.heap.size + 1) 2 1 vn nums.length (nums.map (Value.int .i64)) ∧ Blk wr2 w1.heap.size 60 #[.int .i64 2, .int .i64 ta, .string (mkS tw), .int .i64 tn] ∧ k1 ≤ k3 ∧
        nums ++ ((toks.drop k3).takeWhile isNum).map Tok.n = ((toks.drop k1).takeWhile isNum).map Tok.n ∧ (toks.drop k3).dropWhile isNum = (toks.drop k1).dropWhile isNum ∧ nums.length ≤ k3 - k1)
      case atStart =>
       exact ⟨k1, [], .slice none 0 0, rfl, Chg.below (((Below.refl _ _).alloc (Nat.le_refl _) _).alloc (by simp) _), (HE1.out.line.line.alloc _).alloc _, (two_new w1 _ _).2, World.ownsRow_nil _ _ _ _, (two_new w1 _ _).1, Nat.le_refl _, by simp, rfl, by simp⟩
      case round =>
       obtain ⟨k3, nums, vn, rfl, hfr3, hln3, hbi, hown, hb9, hk3, hnum, hdrop3, hnl⟩ := hrel
       have HE3 := Lib.hid (HE1.out.moved hfr3 hln3)
       have HQ := Lib.hid (And.intro hnum hdrop3)
       have bx : wr.cell? ⟨w.heap.size, 0, none⟩ = some (.pointer (some ⟨L, 0, none⟩)) := HE3.out.box.cell 0
       have Hown := Lib.hid hown
       have HB := Lib.hid (And.intro hbi hb9)
       have Hfr3 := Lib.hid hfr3
       clear hown hbi hb9 hfr3 hln3 hnum hdrop3 r0
       go_wp2_with fail
       refine (peek_any L vt toks k3 e wr HE3.out.line.line HE3.out.line.full).mono ?_
       rintro _ w3 ⟨rfl, hb3⟩
       have HE4 := Lib.hid (HE3.out.below hb3)
       have Hown4 := Lib.hid (own_below Hown.out hb3)
       have hbi : Blk w3 (w1.heap.size + 1) 71 #[.int .i64 1, .int .i64 ta, .int .u8 0, .string ⟨#[]⟩, vn] := HB.out.1.keep (KeepTag.below hb3)
       have hb9 : Blk w3 w1.heap.size 60 #[.int .i64 2, .int .i64 ta, .string (mkS tw), .int .i64 tn] := HB.out.2.keep (KeepTag.below hb3)
       have Hfr4 := Lib.hid (Hfr3.out.trans (Chg.below hb3))
       have HB4 := Lib.hid (And.intro hbi hb9)
       have bx4 : w3.cell? ⟨w.heap.size, 0, none⟩ = some (.pointer (some ⟨L, 0, none⟩)) := HE4.out.box.cell 0
       have i4 : w3.cell? ⟨w1.heap.size + 1, 4, none⟩ = some vn := hbi.cell 4
       have i4f : w3.frozen? ⟨w1.heap.size + 1, 4, none⟩ = false := hbi.froz 4
       have i0 : w3.cell? ⟨w1.heap.size + 1, 0, none⟩ = some (.int .i64 1) := hbi.cell 0
       have i1 : w3.cell? ⟨w1.heap.size + 1, 1, none⟩ = some (.int .i64 ta) := hbi.cell 1
       have i2 : w3.cell? ⟨w1.heap.size + 1, 2, none⟩ = some (.int .u8 0) := hbi.cell 2
       have i3 : w3.cell? ⟨w1.heap.size + 1, 3, none⟩ = some (.string ⟨#[]⟩) := hbi.cell 3
       have hlt4 := hbi.lt
       clear HE3 Hown Hfr3 HB hb3 bx hbi hb9
       cases hn : isNum (peekT toks k3) with
       | true =>
        have hT3 := peek_num hn
        have HNH3 := Lib.hid (nums_head hT3 hn)
        have hk3l : k3 < toks.length := (List.getElem?_eq_some_iff.1 hT3).1
        have HPk := Lib.hid (fun wx (hb : Below w3.heap.size w3 wx) => peek_any L vt toks k3 e wx (HE4.out.below hb).line.line (HE4.out.below hb).line.full)
        clear hT3
        generalize peekT toks k3 = T at *
        obtain ⟨uk, ua, uw, un⟩ := T
        obtain rfl : uk = 2 := by simpa [isNum] using hn
        clear hn
        unfold Tok.val at HPk ⊢
        dsimp only at HPk ⊢
        obtain ⟨z0, hi, hz0, hz1, hz2⟩ := info_parts Tryz.infoI64
        obtain ⟨ad, capd, rfl⟩ := own_form Hown4.out
        clear i0 i1 i2 i3
        have hbl4 : w.heap.size < w3.heap.size := by omega
        have hcap5 : nums.length + 1 ≤ maxLen := by unfold maxLen; omega
        have hby5 : (nums.length + 1) * 8 ≤ 140737488355328 := by omega
        go_upto_block 4 with fail
        go_cut [] from 71 to 89 (fun wx => ∃ vn', Fr L w1.heap.size w1 wx ∧ LineIs wx L vt k3 e ∧ Blk wx (w1.heap.size + 1) 71 #[.int .i64 1, .int .i64 ta, .int .u8 0, .string ⟨#[]⟩, vn'] ∧
         wx.ownsRow (w1.heap.size + 1) 2 1 vn' (nums ++ [un]).length ((nums ++ [un]).map (Value.int .i64)) ∧ Blk wx w1.heap.size 60 #[.int .i64 2, .int .i64 ta, .string (mkS tw), .int .i64 tn])
        case first =>
         go_upto_region 22 with fail
         go_region_law
          (first
           | (go_simp; go_at_call 27; refine (HPk.out _ (by exact Below.drew (Below.refl _ _))).mono ?_; rintro _ w4 ⟨rfl, hb4⟩; have bx5 : w4.cell? ⟨w.heap.size, 0, none⟩ = some (.pointer (some ⟨L, 0, none⟩)) := (hb4.cell (p := ⟨w.heap.size, 0, none⟩) hbl4).trans bx4; have i5 : w4.cell? ⟨w1.heap.size + 1, 4, none⟩ = some (.slice ad nums.length capd) := (hb4.cell (p := ⟨w1.heap.size + 1, 4, none⟩) hlt4).trans i4; have HB5 := Lib.hid hb4; have Hown5 := Lib.hid (own_below (w := w3.drew) Hown4.out hb4); have hs5 : w1.heap.size + 1 < w4.heap.size := Nat.lt_of_lt_of_le hlt4 hb4.size; have HBx5 : Hid (Blk w4 w.heap.size 56 #[.pointer (some ⟨L, 0, none⟩)]) := Lib.hid ((hb4.block w.heap.size hbl4).trans HE4.out.box); have HBi5 : Hid (Blk w4 (w1.heap.size + 1) 71 #[.int .i64 1, .int .i64 ta, .int .u8 0, .string ⟨#[]⟩, .slice ad nums.length capd]) := Lib.hid ((hb4.block (w1.heap.size + 1) hlt4).trans HB4.out.1); clear hb4)
           | (refine step_append_lies _ (by rfl) _ _ _ (by rfl) (w1.heap.size + 1) 2 z0 (.int .i64 0) 1 8 Tryz.underlying22 hi hz0 hz1 hz2 rfl (by decide) (.slice ad nums.length capd) nums.length (nums.map (Value.int .i64)) (by rfl) (Hown5.out.alloc _) ⟨w4.heap.size, 0, none⟩ 1 1 [.int .i64 un] (by rfl) (by rfl) (cells1 _ _ _ rfl) (by simp [Value.oneCell']) (by decide) hcap5 hby5 (by simp; omega) (w4.heap.size + 1) (by simp) ?_; intro g2 cap2 w5 hown5 hgrow5 hat5 hlt5; have hk5 : ∀ t, t ≠ 2 → KeepTag t w4 w5 := (fun t h => (KeepTag.alloc _).trans (KeepTag.own hgrow5 (Hown5.out.alloc _) h)); have HBx6 := Lib.hid (HBx5.out.keep (hk5 _ (by decide))); have HBi6 := Lib.hid (HBi5.out.keep (hk5 _ (by decide))); have bx6 : w5.cell? ⟨w.heap.size, 0, none⟩ = some (.pointer (some ⟨L, 0, none⟩)) := HBx6.out.cell 0; have i6 : w5.cell? ⟨w1.heap.size + 1, 4, none⟩ = some (.slice ad nums.length capd) := HBi6.out.cell 4; have i6f : w5.frozen? ⟨w1.heap.size + 1, 4, none⟩ = false := HBi6.out.froz 4))
         all_goals
          go_wp2_with fail
          go_meet
          case rel =>
           have ks5 : ∀ t, t ≠ 71 → KeepTag t w5 (w5.setCell ⟨w1.heap.size + 1, 4, none⟩ (.slice (some ⟨g2, 0, none⟩) (nums.length + 1) cap2)) := fun t h => KeepTag.set HBi6.out h 4 _
           refine ⟨.slice (some ⟨g2, 0, none⟩) (nums.length + 1) cap2, ?_, ?_, ?_, ?_, ?_⟩
           ·refine Hfr4.out.trans (Fr.trans (Chg.below (Below.drew (Below.refl _ _))) (Fr.trans (Chg.below HB5.out) (Fr.trans (Chg.below ((Below.refl _ _).alloc (Nat.le_refl _) _)) (Fr.trans (Chg.gb hgrow5 (fun k hk => .inr ?_)) (Chg.set (.inr (Nat.le_succ _)) 4 _)))))
            have := (Hown5.out.lt k hk).1
            omega
           ·exact ks5 _ (by decide) L _ (hk5 _ (by decide) L _ ((HB5.out.block L (by have := HE4.out.line.line.lt; exact this)).trans HE4.out.line.line))
           ·exact HBi6.out.put4 _
           ·rw [List.length_append, List.map_append]
            exact own_tag hown5 (ks5 _ (by decide))
           ·have h9 : Blk w4 w1.heap.size 60 #[.int .i64 2, .int .i64 ta, .string (mkS tw), .int .i64 tn] := (HB5.out.block w1.heap.size (by have := HB4.out.2.lt; exact this)).trans HB4.out.2
            exact Blk.keep (Blk.keep h9 (hk5 _ (by decide))) (ks5 _ (by decide))
        case rest =>
         obtain ⟨vn', q1, q2, q3, q4, q5⟩ := hcut
         have HE6 := Lib.hid (HE1.out.moved q1 q2)
         obtain ⟨c0, c1, c2, f0, f1, f2⟩ := q2.cells
         have bx : wc.cell? ⟨w.heap.size, 0, none⟩ = some (.pointer (some ⟨L, 0, none⟩)) := HE6.out.box.cell 0
         have HQ3 := Lib.hid (And.intro q1 (And.intro q2 (And.intro q3 (And.intro q4 q5))))
         clear q1 q2 q3 q4 q5 bx4 i4 i4f hlt4
         go_wp2_with fail
         go_roundg (toks.length - (k3 + 1))
         case measure => omega
         case rel =>
          obtain ⟨q1, q2, q3, q4, q5⟩ := HQ3.out
          have ks : ∀ t, t ≠ 58 → KeepTag t wc (wc.setCell ⟨L, 1, none⟩ (.int .i64 ((k3 : Int) + 1))) := fun t h => KeepTag.set q2 h 1 _
          obtain ⟨n1, n2⟩ := HQ.out
          obtain ⟨p1, p2⟩ := HNH3.out
          refine ⟨k3 + 1, nums ++ [un], vn', rfl, q1.trans (Chg.set (.inl rfl) 1 _), q2.next (k3 + 1) (by rw [Int.natCast_add]; rfl), q3.keep (ks _ (by decide)), own_tag q4 (ks _ (by decide)), q5.keep (ks _ (by decide)), by omega, ?_, ?_, ?_⟩
          ·rw [← n1, p1]
           simp
          ·rw [← n2, p2]
          ·rw [List.length_append]
           show nums.length + 1 ≤ k3 + 1 - k1
           omega
       | false =>
        obtain ⟨s1, s2⟩ := nums_stop hn
        have HX3 : Hid (runX e false (toks.drop k3) (out ++ [⟨1, ta, 0, [], nums⟩]) ts.reverse op = X ∧ 1 ≤ nums.length) := by
         apply Lib.hid
         obtain ⟨q1, q2⟩ := HQ.out
         obtain ⟨n1, n2⟩ := HNH.out
         rw [s1, n1, List.map_nil, List.append_nil, List.map_cons] at q1
         rw [s2, n2] at q2
         have hx := HX.out
         rw [← q2, ← q1] at hx
         exact ⟨hx, by rw [q1, List.length_cons]; omega⟩
        have hkb : ((peekT toks k3).kind == 2) = false := hn
        have hk13 : k1 < k3 := by have := HX3.out.2; omega
        generalize peekT toks k3 = T at *
        obtain ⟨uk, ua, uw, un⟩ := T
        clear HX HNH HQ hn s1 s2
        unfold Tok.val
        dsimp only at hkb ⊢
        have hkb2 : ¬ uk = 2 := by simpa using hkb
        obtain ⟨vo, cs, vd, ds, m1, m2, m3, m4, m5, m6⟩ := HE4.out.mach
        obtain ⟨ad, capd, rfl⟩ := own_form m2
        obtain ⟨z0, hi, hz0, hz1, hz2⟩ := info_parts Tryz.infoItem
        have hbo2 := m1.lt
        have c14 : w3.cell? ⟨w.heap.size + 1 + 1, 0, none⟩ = some (.slice ad out.length capd) := m1.cell 0
        have f14 : w3.frozen? ⟨w.heap.size + 1 + 1, 0, none⟩ = false := m1.froz 0
        have M := Lib.hid (And.intro m1 (And.intro m3 (And.intro m4 (And.intro m5 m6))))
        clear m1 m3 m4 m5 m6
        go_wp2_with (at_builtin; refine wpList_append_lies _ rfl (.tmp 90) (.tmp 92) 63 rfl w.heap.size 71 z0 (.agg #[.int .i64 0, .int .i64 0, .int .u8 0, .string ⟨#[]⟩, .slice none 0 0]) 5 64 Tryz.underlying63 hi hz0 hz1 hz2 rfl (by decide) _ _ _ rfl (m2.alloc _) ⟨w3.heap.size, 0, none⟩ 1 1 [.int .i64 1, .int .i64 ta, .int .u8 0, .string ⟨#[]⟩, vn] rfl rfl ?c1 ?c2 (by decide) ?c3 ?c4 ?c5 _ rfl ?_)
        case c1 => exact cells5 _ _ _ _ _ _ _ rfl
        case c2 =>
         obtain ⟨an, cn, hvn⟩ := own_form Hown4.out
         intro u hu; simp at hu; rcases hu with rfl | rfl | rfl | rfl | rfl
         ·rfl
         ·rfl
         ·rfl
         ·rfl
         ·rw [hvn]; rfl
        case c3 => unfold maxLen; omega
        case c4 => omega
        case c5 => simp; omega
        intro g2 cap2 w5 hown5 hg5 hat hlt5
        obtain ⟨m1, m3, m4, m5, m6⟩ := M.out
        have ka : ∀ t, KeepTag t w3 (w3.alloc (.cells #[.int .i64 1, .int .i64 ta, .int .u8 0, .string ⟨#[]⟩, vn] 71)) := fun t => KeepTag.alloc _
        have kb : ∀ t, t ≠ 71 → KeepTag t w3 w5 := fun t h => (ka t).trans (KeepTag.own hg5 (own_tag m2 (ka _)) h)
        have n1 : Blk w5 (w.heap.size + 1 + 1) 63 #[.slice ad out.length capd] := m1.keep (kb _ (by decide))
        have HPu := Lib.hid (ExprAt.wrote (it := ⟨1, ta, 0, [], nums⟩) (vn := vn) (HE4.out.alloc (.cells #[.int .i64 1, .int .i64 ta, .int .u8 0, .string ⟨#[]⟩, vn] 71)) (m1.keep (ka _)) (own_tag m2 (ka _)) (m3.keep (ka _)) (m4.keep (ka _)) (own_tag m5 (ka _)) (m6.keep (ka _)) hBt (by omega) hg5 hown5 (own_base (own_tag Hown4.out (ka _)) (Nat.zero_le _)) (fun g hg => by
         have : g2 = g := by simpa [Value.ownBlock] using hg
         subst this
         rcases hat with h | h
         ·exact .inl h
         ·exact .inr (by rw [h]; simp)))
        have h9 : Blk (w5.setCell ⟨w.heap.size + 1 + 1, 0, none⟩ (.slice (some ⟨g2, 0, none⟩) (out.length + 1) cap2)) w1.heap.size 60 #[.int .i64 2, .int .i64 ta, .string (mkS tw), .int .i64 tn] := (HB4.out.2.keep (kb _ (by decide))).keep (KeepTag.set n1 (by decide) 0 _)
        have d4 : w5.cell? ⟨w.heap.size + 1 + 1, 0, none⟩ = some (.slice ad out.length capd) := n1.cell 0
        have d4f : w5.frozen? ⟨w.heap.size + 1 + 1, 0, none⟩ = false := n1.froz 0
        have H9b := Lib.hid h9
        clear c14 f14 m1 m2 m3 m4 m5 m6 n1 ka kb hg5 hown5 hat HE4 M h9 bx4 i4 i4f i0 i1 i2 i3
        go_wp2_with fail
        go_meet
        case rel =>
         refine ⟨k3, _, rfl, HPu.out, ⟨_, _, _, _, H9b.out⟩, HX3.out.1, ?_, hk13, by omega, HNon.out, by rw [List.length_append]; show out.length + 1 + ts.length ≤ 100000; omega⟩
         rw [List.length_append]
         show out.length + 1 + ts.length ≤ 2 * k3
         omega
     ·by_cases k4 : tk = 4
      ·subst k4
       rw [if_neg (by unfold signIs; simp), if_neg (by unfold isNum; simp), if_neg (by simp), if_neg (by simp)] at hX1
       clear hv HV HN hwd k2
       have HFt := Lib.hid (fault_any L vt toks k1 e 42 _ HE2.out.line.line HE2.out.line.full)
       rw [HPl.out] at HFt
       have HX := Lib.hid hX1
       clear hX1 HPl
       go_wp2_with (go_at_call 50; refine (HV.out _).mono ?_; rintro _ _ ⟨rfl, rfl⟩)
       refine HFt.out.mono ?_
       rintro _ w2 ⟨rfl, hb2⟩
       have HE3 := HE2.out.below hb2
       have hres := HE3.res
       have hfr3 := HE3.fr
       have hln3 := HE3.line.line
       have r0 : w2.cell? ⟨w.heap.size + 1, 0, none⟩ = some (.int .i64 0) := hres.cell 0
       have r1 : w2.cell? ⟨w.heap.size + 1, 1, none⟩ = some (.int .i64 0) := hres.cell 1
       have f0 : w2.frozen? ⟨w.heap.size + 1, 0, none⟩ = false := hres.froz 0
       have f1 : w2.frozen? ⟨w.heap.size + 1, 1, none⟩ = false := hres.froz 1
       have Hres := Lib.hid hres
       clear HE1 HE2 HE3 HFt hres
       go_wp2
       obtain ⟨g0, g1⟩ := res_plain Hres.out (.int .i64 ta) (.int .i64 42)
       refine bodyPost_ret (v := .tuple #[.slice none 0 0, .agg #[.int .i64 ta, .int .i64 42]]) (by simp [results, Tryz.results31, go_sem, g0, g1]) rfl ?_
       rw [← HX.out]
       exact (expr_end Hres.out (by omega) hfr3 hln3 (.int .i64 ta) (.int .i64 42)).bad (ta, 42)
      ·have hvb : verbB tw = false := by
        cases hh : verbB tw with
        | false => rfl
        | true => exact absurd ⟨k2, k4, hh⟩ hv
       rw [hvb] at HV
       have k2b : (tk != 2) = true := by simpa using k2
       have k4b : (tk != 4) = true := by simpa using k4
       have k2c : (tk == 2) = false := by simpa using k2
       clear hvb hv
       by_cases k3 : tk = 3
       ·subst k3
        clear k2 k4 k2b k4b k2c HN
        by_cases hw : tw = [40]
        ·subst hw
         rw [if_pos (by rfl)] at hX1
         have hwb : ((mkS [40]).toList == [40]) = true := by rw [ByteArray.toList_eq, mkS_toList]; rfl
         clear hwd
         by_cases h32 : op = 32
         ·subst h32
          rw [if_pos rfl] at hX1
          have HFt := Lib.hid (fault_any L vt toks k1 e 44 _ HE2.out.line.line HE2.out.line.full)
          rw [HPl.out] at HFt
          have HX := Lib.hid hX1
          clear hX1 HPl
          go_wp2_with (go_at_call 50; refine (HV.out _).mono ?_; rintro _ _ ⟨rfl, rfl⟩)
          refine HFt.out.mono ?_
          rintro _ w2 ⟨rfl, hb2⟩
          have HE3 := HE2.out.below hb2
          have hres := HE3.res
          have hfr3 := HE3.fr
          have hln3 := HE3.line.line
          have r0 : w2.cell? ⟨w.heap.size + 1, 0, none⟩ = some (.int .i64 0) := hres.cell 0
          have r1 : w2.cell? ⟨w.heap.size + 1, 1, none⟩ = some (.int .i64 0) := hres.cell 1
          have f0 : w2.frozen? ⟨w.heap.size + 1, 0, none⟩ = false := hres.froz 0
          have f1 : w2.frozen? ⟨w.heap.size + 1, 1, none⟩ = false := hres.froz 1
          have Hres := Lib.hid hres
          clear HE1 HE2 HE3 HFt hres
          go_wp2
          obtain ⟨g0, g1⟩ := res_plain Hres.out (.int .i64 ta) (.int .i64 44)
          refine bodyPost_ret (v := .tuple #[.slice none 0 0, .agg #[.int .i64 ta, .int .i64 44]]) (by simp [results, Tryz.results31, go_sem, g0, g1]) rfl ?_
          rw [← HX.out]
          exact (expr_end Hres.out (by omega) hfr3 hln3 (.int .i64 ta) (.int .i64 44)).bad (ta, 44)
         ·rw [if_neg h32] at hX1
          have h32b : ((op : Int) == 32) = false := by rw [beq_eq_false_iff_ne]; omega
          have h32n : op < 32 := by omega
          have HX := Lib.hid hX1
          obtain ⟨c0, c1, c2, f0, f1, f2⟩ := HE2.out.line.line.cells
          have HE4 := Lib.hid (HE2.out.next (k1 + 1) (u := .int .i64 ((k1 : Int) + 1)) (by rw [Int.natCast_add]; rfl))
          clear hX1 HPl h32 r0
          go_upto_region 17 with (go_at_call 50; refine (HV.out _).mono ?_; rintro _ _ ⟨rfl, rfl⟩)
          generalize ((w1.alloc (.cells #[.int .i64 3, .int .i64 ta, .string (mkS [40]), .int .i64 tn] 60)).setCell ⟨L, 1, none⟩ (.int .i64 ((k1 : Int) + 1))) = W4 at HE4 ⊢
          clear c0 c1 c2 f0 f1 f2 HE2 HB9 HE1 b2
          obtain ⟨vo, cs, vd, ds, m1, m2, m3, m4, m5, m6⟩ := HE4.out.mach
          obtain ⟨ad, capd, rfl⟩ := own_form m5
          obtain ⟨i0, hi, hz0, hz1, hz2⟩ := info_parts Tryz.infoFunc
          have hbt4 := m4.lt
          have c14 : W4.cell? ⟨w.heap.size + 1 + 1 + 1, 0, none⟩ = some (.slice ad ts.length capd) := m4.cell 0
          have f14 : W4.frozen? ⟨w.heap.size + 1 + 1 + 1, 0, none⟩ = false := m4.froz 0
          have M := Lib.hid (And.intro m1 (And.intro m2 (And.intro m3 (And.intro m4 (And.intro m5 m6)))))
          clear m1 m2 m3 m4 m6
          go_wp2_with (at_builtin; refine wpList_append_lies _ rfl (.tmp 61) (.tmp 62) 108 rfl w.heap.size 1 i0 .nilFunc 1 8 Tryz.underlying108 hi hz0 hz1 hz2 rfl (by decide) _ _ _ rfl (own_tag m5 (KeepTag.alloc _)) ⟨W4.heap.size, 0, none⟩ 1 1 [.nilFunc] rfl rfl ?c1 ?c2 (by decide) ?c3 ?c4 ?c5 _ rfl ?_)
          case c1 => exact cells1 _ _ _ (by simp)
          case c2 => intro u hu; simp at hu; subst hu; rfl
          case c3 => unfold maxLen; omega
          case c4 => omega
          case c5 => simp; omega
          intro g2 cap2 w2 hown2 hg2 hat hlt2
          obtain ⟨m1, m2, m3, m4, -, m6⟩ := M.out
          have ka : ∀ t, KeepTag t W4 (W4.alloc (.cells #[.nilFunc] 1)) := fun t => KeepTag.alloc _
          have n4 : Blk w2 (w.heap.size + 1 + 1 + 1) 108 #[.slice ad ts.length capd] := (m4.keep (ka _)).keep (KeepTag.own hg2 (own_tag m5 (ka _)) (by decide))
          have HPu := Lib.hid (ExprAt.pushed (HE4.out.alloc (.cells #[.nilFunc] 1)) (m1.keep (ka _)) (own_tag m2 (ka _)) (m3.keep (ka _)) (m4.keep (ka _)) (own_tag m5 (ka _)) (m6.keep (ka _)) hBt (by omega) hg2 hown2 (x := none) rfl)
          have d4 : w2.cell? ⟨w.heap.size + 1 + 1 + 1, 0, none⟩ = some (.slice ad ts.length capd) := n4.cell 0
          have d4f : w2.frozen? ⟨w.heap.size + 1 + 1 + 1, 0, none⟩ = false := n4.froz 0
          clear c14 f14 m1 m2 m3 m4 m6 n4 ka hg2 hown2 hat m5 HE4 M
          go_wp2_with fail
          go_roundg (toks.length - (k1 + 1))
          case measure => omega
          case rel =>
           refine ⟨k1 + 1, ts ++ [none], out, op + 1, rfl, by rw [Int.natCast_add]; rfl, by omega, HPu.out, ?_, ?_, by rw [List.reverse_append]; show nones ts.reverse + 1 = op + 1; rw [HNon.out]⟩
           ·rw [List.reverse_append]
            exact HX.out
           ·rw [List.length_append]
            show out.length + (ts.length + 1) ≤ 2 * (k1 + 1)
            omega
        ·rw [if_neg (by unfold signIs; simp [hw]), if_neg (by unfold isNum; simp), if_neg (by simp), if_neg (by simp)] at hX1
         have hwb : ((mkS tw).toList == [40]) = false := by rw [ByteArray.toList_eq, mkS_toList, beq_eq_false_iff_ne]; exact hw
         have hwb2 : ¬ tw = [40] := hw
         clear hwd hw
         have HFt := Lib.hid (fault_any L vt toks k1 e 42 _ HE2.out.line.line HE2.out.line.full)
         rw [HPl.out] at HFt
         have HX := Lib.hid hX1
         clear hX1 HPl
         go_wp2_with (go_at_call 50; refine (HV.out _).mono ?_; rintro _ _ ⟨rfl, rfl⟩)
         refine HFt.out.mono ?_
         rintro _ w2 ⟨rfl, hb2⟩
         have HE3 := HE2.out.below hb2
         have hres := HE3.res
         have hfr3 := HE3.fr
         have hln3 := HE3.line.line
         have r0 : w2.cell? ⟨w.heap.size + 1, 0, none⟩ = some (.int .i64 0) := hres.cell 0
         have r1 : w2.cell? ⟨w.heap.size + 1, 1, none⟩ = some (.int .i64 0) := hres.cell 1
         have f0 : w2.frozen? ⟨w.heap.size + 1, 0, none⟩ = false := hres.froz 0
         have f1 : w2.frozen? ⟨w.heap.size + 1, 1, none⟩ = false := hres.froz 1
         have Hres := Lib.hid hres
         clear HE1 HE2 HE3 HFt hres
         go_wp2
         obtain ⟨g0, g1⟩ := res_plain Hres.out (.int .i64 ta) (.int .i64 42)
         refine bodyPost_ret (v := .tuple #[.slice none 0 0, .agg #[.int .i64 ta, .int .i64 42]]) (by simp [results, Tryz.results31, go_sem, g0, g1]) rfl ?_
         rw [← HX.out]
         exact (expr_end Hres.out (by omega) hfr3 hln3 (.int .i64 ta) (.int .i64 42)).bad (ta, 42)
       ·rw [if_neg (by unfold signIs; simp [k3]), if_neg (by unfold isNum; simp [k2])] at hX1
        have k3c : (tk == 3) = false := by simpa using k3
        by_cases k1' : tk = 1
        ·subst k1'
         clear k2 k4 k2b k4b k2c k3 k3c
         by_cases hn : nameB tw = true
         ·rw [if_pos ⟨rfl, hn⟩] at hX1
          rw [hn] at HN
          clear hn hwd
          have HX := Lib.hid hX1
          have hEr : ErrIs (w1.alloc (.cells #[.int .i64 1, .int .i64 ta, .string (mkS tw), .int .i64 tn] 60)) := hErr.chg HE2.out.fr (by rintro (h | h) <;> have := hErr.lt <;> omega)
          have HN := Lib.hid (HN.out _ hEr)
          clear hX1 r0 hEr
          go_wp2_with (go_at_call 50; refine (HV.out _).mono ?_; rintro _ _ ⟨rfl, rfl⟩)
          refine HN.out.mono ?_
          rintro _ w2 ⟨rfl, hb2⟩
          have HE3 := Lib.hid (HE2.out.below hb2)
          have hb9 : Blk w2 w1.heap.size 60 #[.int .i64 1, .int .i64 ta, .string (mkS tw), .int .i64 tn] := HB9.out.keep (KeepTag.below hb2)
          have t0 : w2.cell? ⟨w1.heap.size, 0, none⟩ = some (.int .i64 1) := hb9.cell 0
          have t1 : w2.cell? ⟨w1.heap.size, 1, none⟩ = some (.int .i64 ta) := hb9.cell 1
          have t2 : w2.cell? ⟨w1.heap.size, 2, none⟩ = some (.string (mkS tw)) := hb9.cell 2
          have bx : w2.cell? ⟨w.heap.size, 0, none⟩ = some (.pointer (some ⟨L, 0, none⟩)) := HE3.out.box.cell 0
          have H9 := Lib.hid hb9
          clear HN HV HE1 HE2 HB9 b2 hb9
          obtain ⟨vo, cs, vd, ds, m1, m2, m3, m4, m5, m6⟩ := HE3.out.mach
          obtain ⟨ad, capd, rfl⟩ := own_form m2
          obtain ⟨i0, hi, hz0, hz1, hz2⟩ := info_parts Tryz.infoItem
          have hbo2 := m1.lt
          have c14 : w2.cell? ⟨w.heap.size + 1 + 1, 0, none⟩ = some (.slice ad out.length capd) := m1.cell 0
          have f14 : w2.frozen? ⟨w.heap.size + 1 + 1, 0, none⟩ = false := m1.froz 0
          have M := Lib.hid (And.intro m1 (And.intro m3 (And.intro m4 (And.intro m5 m6))))
          clear m1 m3 m4 m5 m6
          go_wp2_with (at_builtin; refine wpList_append_lies _ rfl (.tmp 103) (.tmp 109) 63 rfl w.heap.size 71 i0 (.agg #[.int .i64 0, .int .i64 0, .int .u8 0, .string ⟨#[]⟩, .slice none 0 0]) 5 64 Tryz.underlying63 hi hz0 hz1 hz2 rfl (by decide) _ _ _ rfl (m2.alloc _) ⟨w2.heap.size, 0, none⟩ 1 1 [.int .i64 2, .int .i64 ta, .int .u8 0, .string (mkS tw), .slice none 0 0] rfl rfl ?c1 ?c2 (by decide) ?c3 ?c4 ?c5 _ rfl ?_)
          case c1 => exact cells5 _ _ _ _ _ _ _ rfl
          case c2 => intro u hu; simp at hu; rcases hu with rfl | rfl | rfl | rfl | rfl <;> rfl
          case c3 => unfold maxLen; omega
          case c4 => omega
          case c5 => simp; omega
          intro g2 cap2 w3 hown3 hg3 hat hlt3
          obtain ⟨m1, m3, m4, m5, m6⟩ := M.out
          have ka : ∀ t, KeepTag t w2 (w2.alloc (.cells #[.int .i64 2, .int .i64 ta, .int .u8 0, .string (mkS tw), .slice none 0 0] 71)) := fun t => KeepTag.alloc _
          have kb : ∀ t, t ≠ 71 → KeepTag t w2 w3 := fun t h => (ka t).trans (KeepTag.own hg3 (own_tag m2 (ka _)) h)
          have n1 : Blk w3 (w.heap.size + 1 + 1) 63 #[.slice ad out.length capd] := m1.keep (kb _ (by decide))
          have HPu := Lib.hid (ExprAt.wrote (it := ⟨2, ta, 0, tw, []⟩) (vn := .slice none 0 0) (HE3.out.alloc (.cells #[.int .i64 2, .int .i64 ta, .int .u8 0, .string (mkS tw), .slice none 0 0] 71)) (m1.keep (ka _)) (own_tag m2 (ka _)) (m3.keep (ka _)) (m4.keep (ka _)) (own_tag m5 (ka _)) (m6.keep (ka _)) hBt (by omega) hg3 hown3 (NumS.nil _) (fun g hg => by
           have : g2 = g := by simpa [Value.ownBlock] using hg
           subst this
           rcases hat with h | h
           ·exact .inl h
           ·exact .inr (by rw [h]; simp)))
          have h9 : Blk (w3.setCell ⟨w.heap.size + 1 + 1, 0, none⟩ (.slice (some ⟨g2, 0, none⟩) (out.length + 1) cap2)) w1.heap.size 60 #[.int .i64 1, .int .i64 ta, .string (mkS tw), .int .i64 tn] := (H9.out.keep (kb _ (by decide))).keep (KeepTag.set n1 (by decide) 0 _)
          have d4 : w3.cell? ⟨w.heap.size + 1 + 1, 0, none⟩ = some (.slice ad out.length capd) := n1.cell 0
          have d4f : w3.frozen? ⟨w.heap.size + 1 + 1, 0, none⟩ = false := n1.froz 0
          have H9b := Lib.hid h9
          clear c14 f14 m1 m2 m3 m4 m5 m6 n1 ka kb hg3 hown3 hat HE3 M t0 t1 t2 bx h9
          go_upto_region 26 with fail
          generalize (w3.setCell ⟨w.heap.size + 1 + 1, 0, none⟩ (.slice (some ⟨g2, 0, none⟩) (out.length + 1) cap2)) = W5 at HPu H9b ⊢
          obtain ⟨c0, c1, c2, f0, f1, f2⟩ := HPu.out.line.line.cells
          have bx : W5.cell? ⟨w.heap.size, 0, none⟩ = some (.pointer (some ⟨L, 0, none⟩)) := HPu.out.box.cell 0
          have HE6 := Lib.hid (HPu.out.next (k1 + 1) (u := .int .i64 ((k1 : Int) + 1)) (by rw [Int.natCast_add]; rfl))
          have h9 : Blk (W5.setCell ⟨L, 1, none⟩ (.int .i64 ((k1 : Int) + 1))) w1.heap.size 60 #[.int .i64 1, .int .i64 ta, .string (mkS tw), .int .i64 tn] := H9b.out.keep (KeepTag.set HPu.out.line.line (by decide) 1 _)
          have H9c := Lib.hid h9
          clear h9 HPu H9b d4 d4f
          go_wp2_with fail
          go_meet
          case rel =>
           refine ⟨k1 + 1, _, rfl, HE6.out, ⟨_, _, _, _, H9c.out⟩, HX.out, ?_, by omega, by omega, HNon.out, by rw [List.length_append]; show out.length + 1 + ts.length ≤ 100000; omega⟩
           rw [List.length_append]
           show out.length + 1 + ts.length ≤ 2 * (k1 + 1)
           omega
         ·have hnb : nameB tw = false := by simpa using hn
          rw [if_neg (fun h => hn h.2), if_pos rfl] at hX1
          rw [hnb] at HN
          clear hn hnb hwd
          have HX := Lib.hid hX1
          have hEr : ErrIs (w1.alloc (.cells #[.int .i64 1, .int .i64 ta, .string (mkS tw), .int .i64 tn] 60)) := hErr.chg HE2.out.fr (by rintro (h | h) <;> have := hErr.lt <;> omega)
          have HN := Lib.hid (HN.out _ hEr)
          clear hX1 r0 hEr
          go_wp2_with (go_at_call 50; refine (HV.out _).mono ?_; rintro _ _ ⟨rfl, rfl⟩)
          refine HN.out.mono ?_
          rintro _ w2 ⟨rfl, hb2⟩
          have HE3 := Lib.hid (HE2.out.below hb2)
          have hb9 : Blk w2 w1.heap.size 60 #[.int .i64 1, .int .i64 ta, .string (mkS tw), .int .i64 tn] := HB9.out.keep (KeepTag.below hb2)
          have t0 : w2.cell? ⟨w1.heap.size, 0, none⟩ = some (.int .i64 1) := hb9.cell 0
          have t1 : w2.cell? ⟨w1.heap.size, 1, none⟩ = some (.int .i64 ta) := hb9.cell 1
          have t2 : w2.cell? ⟨w1.heap.size, 2, none⟩ = some (.string (mkS tw)) := hb9.cell 2
          have bx : w2.cell? ⟨w.heap.size, 0, none⟩ = some (.pointer (some ⟨L, 0, none⟩)) := HE3.out.box.cell 0
          have H9 := Lib.hid hb9
          clear HN HV HE1 HE2 HB9 b2 hb9
          have HFt := Lib.hid (fault_any L vt toks k1 e 41 _ HE3.out.line.line HE3.out.line.full)
          rw [HPl.out] at HFt
          go_wp2_with fail
          refine HFt.out.mono ?_
          rintro _ w3 ⟨rfl, hb3⟩
          have HE4 := HE3.out.below hb3
          have hres := HE4.res
          have hfr3 := HE4.fr
          have hln3 := HE4.line.line
          have r0 : w3.cell? ⟨w.heap.size + 1, 0, none⟩ = some (.int .i64 0) := hres.cell 0
          have r1 : w3.cell? ⟨w.heap.size + 1, 1, none⟩ = some (.int .i64 0) := hres.cell 1
          have f0 : w3.frozen? ⟨w.heap.size + 1, 0, none⟩ = false := hres.froz 0
          have f1 : w3.frozen? ⟨w.heap.size + 1, 1, none⟩ = false := hres.froz 1
          have Hres := Lib.hid hres
          clear HE4 HFt hres t0 t1 t2 bx
          go_wp2
          obtain ⟨g0, g1⟩ := res_plain Hres.out (.int .i64 ta) (.int .i64 41)
          refine bodyPost_ret (v := .tuple #[.slice none 0 0, .agg #[.int .i64 ta, .int .i64 41]]) (by simp [results, Tryz.results31, go_sem, g0, g1]) rfl ?_
          rw [← HX.out]
          exact (expr_end Hres.out (by omega) hfr3 hln3 (.int .i64 ta) (.int .i64 41)).bad (ta, 41)
        ·rw [if_neg (fun h => k1' h.1), if_neg k1'] at hX1
         have k1c : (tk == 1) = false := by simpa using k1'
         clear HN hwd
         have HFt := Lib.hid (fault_any L vt toks k1 e 42 _ HE2.out.line.line HE2.out.line.full)
         rw [HPl.out] at HFt
         have HX := Lib.hid hX1
         clear hX1 HPl
         go_wp2_with (go_at_call 50; refine (HV.out _).mono ?_; rintro _ _ ⟨rfl, rfl⟩)
         refine HFt.out.mono ?_
         rintro _ w2 ⟨rfl, hb2⟩
         have HE3 := HE2.out.below hb2
         have hres := HE3.res
         have hfr3 := HE3.fr
         have hln3 := HE3.line.line
         have r0 : w2.cell? ⟨w.heap.size + 1, 0, none⟩ = some (.int .i64 0) := hres.cell 0
         have r1 : w2.cell? ⟨w.heap.size + 1, 1, none⟩ = some (.int .i64 0) := hres.cell 1
         have f0 : w2.frozen? ⟨w.heap.size + 1, 0, none⟩ = false := hres.froz 0
         have f1 : w2.frozen? ⟨w.heap.size + 1, 1, none⟩ = false := hres.froz 1
         have Hres := Lib.hid hres
         clear HE1 HE2 HE3 HFt hres
         go_wp2
         obtain ⟨g0, g1⟩ := res_plain Hres.out (.int .i64 ta) (.int .i64 42)
         refine bodyPost_ret (v := .tuple #[.slice none 0 0, .agg #[.int .i64 ta, .int .i64 42]]) (by simp [results, Tryz.results31, go_sem, g0, g1]) rfl ?_
         rw [← HX.out]
         exact (expr_end Hres.out (by omega) hfr3 hln3 (.int .i64 ta) (.int .i64 42)).bad (ta, 42)
   ·injection hT with q1 q2 q3 q4
    subst q1 q2 q3 q4
    have hdr : toks.drop k1 = [] := List.drop_eq_nil_of_le hk1
    rw [hdr, runX_end] at hX1
    have HPl := Lib.hid (place_out (toks := toks) (k := k1) e hk1)
    clear HT hdr
    have HFt := Lib.hid (fault_any L vt toks k1 e 42 _ HE2.out.line.line HE2.out.line.full)
    rw [HPl.out] at HFt
    have HX := Lib.hid hX1
    clear hX1 HPl
    go_wp2_with (go_at_call 50; refine (HV.out _).mono ?_; rintro _ _ ⟨rfl, rfl⟩)
    refine HFt.out.mono ?_
    rintro _ w2 ⟨rfl, hb2⟩
    have HE3 := HE2.out.below hb2
    have hres := HE3.res
    have hfr3 := HE3.fr
    have hln3 := HE3.line.line
    have r0 : w2.cell? ⟨w.heap.size + 1, 0, none⟩ = some (.int .i64 0) := hres.cell 0
    have r1 : w2.cell? ⟨w.heap.size + 1, 1, none⟩ = some (.int .i64 0) := hres.cell 1
    have f0 : w2.frozen? ⟨w.heap.size + 1, 0, none⟩ = false := hres.froz 0
    have f1 : w2.frozen? ⟨w.heap.size + 1, 1, none⟩ = false := hres.froz 1
    have Hres := Lib.hid hres
    clear HE1 HE2 HE3 HFt hres
    go_wp2
    obtain ⟨g0, g1⟩ := res_plain Hres.out (.int .i64 e) (.int .i64 42)
    refine bodyPost_ret (v := .tuple #[.slice none 0 0, .agg #[.int .i64 e, .int .i64 42]]) (by simp [results, Tryz.results31, go_sem, g0, g1]) rfl ?_
    rw [← HX.out]
    exact (expr_end Hres.out (by omega) hfr3 hln3 (.int .i64 e) (.int .i64 42)).bad (e, 42)
  case rest =>
   obtain ⟨k2, out2, rfl, hBh⟩ := hcut
   have HB := Lib.hid hBh
   have bx : wc.cell? ⟨w.heap.size, 0, none⟩ = some (.pointer (some ⟨L, 0, none⟩)) := hBh.at_.box.cell 0
   clear hBh hX hX1 HE1 HT b2 HNon
   go_wp2_with fail
   refine (peek_any L vt toks k2 e wc HB.out.at_.line.line HB.out.at_.line.full).mono ?_
   rintro _ w2 ⟨rfl, hb2⟩
   have HE2 := Lib.hid (HB.out.at_.below hb2)
   obtain ⟨x0, x1, x2, x3, hb9'⟩ := HB.out.box
   have hb9 : Blk w2 w1.heap.size 60 #[x0, x1, x2, x3] := hb9'.keep (KeepTag.below hb2)
   have t0 : w2.cell? ⟨w1.heap.size, 0, none⟩ = some x0 := hb9.cell 0
   have t1 : w2.cell? ⟨w1.heap.size, 1, none⟩ = some x1 := hb9.cell 1
   have t2 : w2.cell? ⟨w1.heap.size, 2, none⟩ = some x2 := hb9.cell 2
   have t3 : w2.cell? ⟨w1.heap.size, 3, none⟩ = some x3 := hb9.cell 3
   have g0 : w2.frozen? ⟨w1.heap.size, 0, none⟩ = false := hb9.froz 0
   have g1 : w2.frozen? ⟨w1.heap.size, 1, none⟩ = false := hb9.froz 1
   have g2 : w2.frozen? ⟨w1.heap.size, 2, none⟩ = false := hb9.froz 2
   have g3 : w2.frozen? ⟨w1.heap.size, 3, none⟩ = false := hb9.froz 3
   have H9 := Lib.hid hb9
   clear hb9 hb9' hb2 bx
   unfold Tok.val
   dsimp only
   go_upto_block 5 with fail
   obtain ⟨HS1, HS2, HS3⟩ := tok_set H9.out (.int .i64 (peekT toks k2).kind) (.int .i64 (peekT toks k2).at_) (.string (mkS (peekT toks k2).word)) (.int .i64 (peekT toks k2).n)
   have HE3 := Lib.hid (HE2.out.kept hBt HS2 (HS3.mono (fun k hk => by rw [hk]; exact HB.out.low)))
   have H93 := Lib.hid HS1
   clear HS1 HS2 HS3 t0 t1 t2 t3 g0 g1 g2 g3 HE2 H9
   generalize ((((w2.setCell ⟨w1.heap.size, 0, none⟩ (.int .i64 (peekT toks k2).kind)).setCell ⟨w1.heap.size, 1, none⟩ (.int .i64 (peekT toks k2).at_)).setCell ⟨w1.heap.size, 2, none⟩ (.string (mkS (peekT toks k2).word))).setCell ⟨w1.heap.size, 3, none⟩ (.int .i64 (peekT toks k2).n)) = W3 at HE3 H93 ⊢
   go_cut [6] from 15 to 191 (fun s6 wx => ∃ k3 ts3 out3 op3, s6 = .int .i64 (op3 : Nat) ∧ op3 ≤ 32 ∧ Behind w wx Bt L w.heap.size (w.heap.size + 1) (w.heap.size + 1 + 1) (w.heap.size + 1 + 1 + 1) vt toks e k1 w1.heap.size k3 ts3 out3 op3 X ∧ Blk wx w1.heap.size 60 #[.int .i64 (peekT toks k3).kind, .int .i64 (peekT toks k3).at_, .string (mkS (peekT toks k3).word), .int .i64 (peekT toks k3).n] ∧ ¬ (0 < op3 ∧ signIs [41] (peekT toks k3) = true))
   case first =>
    go_wp2_with fail
    go_loopg [6] (toks.length - k2) (fun g s6 wr => ∃ k3 ts3 out3 op3, g = toks.length - k3 ∧ s6 = .int .i64 (op3 : Nat) ∧ op3 ≤ 32 ∧ Behind w wr Bt L w.heap.size (w.heap.size + 1) (w.heap.size + 1 + 1) (w.heap.size + 1 + 1 + 1) vt toks e k1 w1.heap.size k3 ts3 out3 op3 X ∧ Blk wr w1.heap.size 60 #[.int .i64 (peekT toks k3).kind, .int .i64 (peekT toks k3).at_, .string (mkS (peekT toks k3).word), .int .i64 (peekT toks k3).n])
    case atStart =>
     exact ⟨k2, ts, out2, op, rfl, rfl, hop, ⟨HE3.out, ⟨_, _, _, _, H93.out⟩, HB.out.run, HB.out.len, HB.out.lt, HB.out.low, HB.out.non, HB.out.few⟩, H93.out⟩
    case round =>
     obtain ⟨k3, ts3, out3, op3, rfl, rfl, hop3, hBh3, hb9⟩ := hrel
     clear HB HE3 H93
     have HB3 := Lib.hid hBh3
     have H9 := Lib.hid hb9
     have t0 : wr.cell? ⟨w1.heap.size, 0, none⟩ = some (.int .i64 (peekT toks k3).kind) := hb9.cell 0
     have t2 : wr.cell? ⟨w1.heap.size, 2, none⟩ = some (.string (mkS (peekT toks k3).word)) := hb9.cell 2
     clear hBh3 hb9
     by_cases hcl : 0 < op3 ∧ signIs [41] (peekT toks k3) = true
     ·obtain ⟨h0, hsg⟩ := hcl
      have hkw : (peekT toks k3).kind = 3 ∧ (peekT toks k3).word = [41] := by simpa [signIs] using hsg
      have h0b : (0 : Int) < (op3 : Int) := by omega
      have h0c : decide ((0 : Int) < (op3 : Int)) = true := by simpa using h0b
      have h3b : ((peekT toks k3).kind == 3) = true := by simpa using hkw.1
      have hwb : ((mkS (peekT toks k3).word).toList == [41]) = true := by rw [ByteArray.toList_eq, mkS_toList, hkw.2]; rfl
      have HT3 := Lib.hid (peek_some (toks := toks) (k := k3) (by rw [hkw.1]; decide))
      have HSg := Lib.hid hsg
      have hk3l : k3 < toks.length := (List.getElem?_eq_some_iff.1 HT3.out).1
      have hlen3 := HB3.out.len
      have hlt3 := HB3.out.lt
      have hfew3 := HB3.out.few
      clear hsg hkw
      go_wp2_with fail
      refine (finish_any w.heap.size (w.heap.size + 1 + 1) (w.heap.size + 1 + 1 + 1) ts3 out3 wr HB3.out.at_.fr.size (by omega) (by omega) HB3.out.at_.mach (by omega)).mono ?_
      rintro _ w4 ⟨rfl, ts4, out4, hf, hM4, hlen4, hb4, hk4⟩
      obtain ⟨ts5, rfl, hn5, hf1, hf2⟩ := fin_open HB3.out.non h0 hf
      have HE4 := Lib.hid (HB3.out.at_.finish hBt hM4 hb4 hb4.size hk4)
      have H94 := Lib.hid (H9.out.keep (hk4 _ (by decide) (by decide) (by decide)))
      have HX4 : Hid (runX e false (toks.drop (k3 + 1)) out4 ts5.reverse (op3 - 1) = X) := by
       apply Lib.hid
       have := HB3.out.run
       rw [drop_some HT3.out, runX_behind, if_pos ⟨h0, HSg.out⟩, hf1, hf2] at this
       exact this
      have HN5 := Lib.hid hn5
      rw [List.length_append] at hlen4
      have hlen4 : out4.length + (ts5.length + 1) = out3.length + ts3.length := hlen4
      have hlow := HB3.out.low
      clear hf hM4 hb4 hk4 hn5 hf1 hf2 t0 t2 H9 HB3 h3b hwb
      obtain ⟨vo, cs, vd, ds, m1, m2, m3, m4, m5, m6⟩ := HE4.out.mach
      rw [List.length_append] at m5
      obtain ⟨g, cap, rfl, hg1, hg2, hgc, hgm, -, -⟩ := own_cells m5 (by simp)
      have c14 : w4.cell? ⟨w.heap.size + 1 + 1 + 1, 0, none⟩ = some (.slice (some ⟨g, 0, none⟩) (ts5.length + 1) cap) := m4.cell 0
      have f14 : w4.frozen? ⟨w.heap.size + 1 + 1 + 1, 0, none⟩ = false := m4.froz 0
      have hi1 : ((ts5.length + 1 : Nat) : Int) - 1 = (ts5.length : Int) := by omega
      have hlt1 : ts5.length < ts5.length + 1 := Nat.lt_succ_self _
      have hgc : ts5.length + 1 ≤ cap := hgc
      have HE5 := Lib.hid (ExprAt.pop HE4.out m1 m2 m3 m4 m5 m6 hBt (by omega))
      have H95 := Lib.hid (H94.out.keep (KeepTag.set m4 (by decide) 0 (.slice (some ⟨g, 0, none⟩) ts5.length cap)))
      clear m1 m2 m3 m4 m5 m6 HE4 H94
      go_upto_region 35 with fail
      generalize (w4.setCell ⟨w.heap.size + 1 + 1 + 1, 0, none⟩ (.slice (some ⟨g, 0, none⟩) ts5.length cap)) = W5 at HE5 H95 ⊢
      obtain ⟨c0, c1, c2, f0, f1, f2⟩ := HE5.out.line.line.cells
      have bx : W5.cell? ⟨w.heap.size, 0, none⟩ = some (.pointer (some ⟨L, 0, none⟩)) := HE5.out.box.cell 0
      have hlbx := HE5.out.box.lt
      have HE6 := Lib.hid (HE5.out.next (k3 + 1) (u := .int .i64 ((k3 : Int) + 1)) (by rw [Int.natCast_add]; rfl))
      have H96 := Lib.hid (H95.out.keep (KeepTag.set HE5.out.line.line (by decide) 1 (.int .i64 ((k3 : Int) + 1))))
      have bx6 : (W5.setCell ⟨L, 1, none⟩ (.int .i64 ((k3 : Int) + 1))).cell? ⟨w.heap.size, 0, none⟩ = some (.pointer (some ⟨L, 0, none⟩)) := HE6.out.box.cell 0
      clear c14 f14 HE5 H95
      go_upto_region 31 with fail
      clear bx c0 c1 c2 f0 f1 f2
      generalize (W5.setCell ⟨L, 1, none⟩ (.int .i64 ((k3 : Int) + 1))) = W6 at HE6 H96 bx6 ⊢
      go_wp2_with fail
      refine (peek_any L vt toks (k3 + 1) e W6 HE6.out.line.line HE6.out.line.full).mono ?_
      rintro _ w7 ⟨rfl, hb7⟩
      have HE7 := Lib.hid (HE6.out.below hb7)
      have hb9 : Blk w7 w1.heap.size 60 #[.int .i64 (peekT toks k3).kind, .int .i64 (peekT toks k3).at_, .string (mkS (peekT toks k3).word), .int .i64 (peekT toks k3).n] := H96.out.keep (KeepTag.below hb7)
      have t0 := hb9.cell 0
      have t1 := hb9.cell 1
      have t2 := hb9.cell 2
      have t3 := hb9.cell 3
      simp at t0 t1 t2 t3
      have g0 : w7.frozen? ⟨w1.heap.size, 0, none⟩ = false := hb9.froz 0
      have g1 : w7.frozen? ⟨w1.heap.size, 1, none⟩ = false := hb9.froz 1
      have g2 : w7.frozen? ⟨w1.heap.size, 2, none⟩ = false := hb9.froz 2
      have g3 : w7.frozen? ⟨w1.heap.size, 3, none⟩ = false := hb9.froz 3
      obtain ⟨HS1, HS2, HS3⟩ := tok_set hb9 (.int .i64 (peekT toks (k3 + 1)).kind) (.int .i64 (peekT toks (k3 + 1)).at_) (.string (mkS (peekT toks (k3 + 1)).word)) (.int .i64 (peekT toks (k3 + 1)).n)
      have HE8 := Lib.hid (HE7.out.kept hBt HS2 (HS3.mono (fun k hk => by rw [hk]; exact hlow)))
      have H98 := Lib.hid HS1
      clear HS1 HS2 HS3 hb9 hb7 HE6 H96 HE7 bx6
      unfold Tok.val
      dsimp only
      go_wp2_with fail
      go_roundg (toks.length - (k3 + 1))
      case measure => omega
      case rel => exact ⟨k3 + 1, ts5, out4, op3 - 1, rfl, by congr 1; omega, by omega, ⟨HE8.out, ⟨_, _, _, _, H98.out⟩, HX4.out, by omega, by omega, hlow, HN5.out, by omega⟩, H98.out⟩
     ·have HC := Lib.hid hcl
      by_cases h0 : op3 = 0
      ·subst h0
       clear hcl
       go_wp2_with fail
       go_meet
       case rel => exact ⟨k3, ts3, out3, 0, rfl, hop3, HB3.out, H9.out, HC.out⟩
      ·have h0b : (0 : Int) < (op3 : Int) := by omega
       have h0c : decide ((0 : Int) < (op3 : Int)) = true := by simpa using h0b
       by_cases h3 : (peekT toks k3).kind = 3
       ·have h3b : ((peekT toks k3).kind == 3) = true := by simpa using h3
        have hw : (peekT toks k3).word ≠ [41] := fun hw => hcl ⟨by omega, by unfold signIs; simp [h3, hw]⟩
        have hwb : ((mkS (peekT toks k3).word).toList == [41]) = false := by rw [ByteArray.toList_eq, mkS_toList, beq_eq_false_iff_ne]; exact hw
        clear hcl h0 h3 hw
        go_wp2_with fail
        go_meet
        case rel => exact ⟨k3, ts3, out3, op3, rfl, hop3, HB3.out, H9.out, HC.out⟩
       ·have h3b : ((peekT toks k3).kind == 3) = false := by simpa using h3
        clear hcl h0
        go_wp2_with fail
        go_meet
        case rel => exact ⟨k3, ts3, out3, op3, rfl, hop3, HB3.out, H9.out, HC.out⟩
   case rest =>
    obtain ⟨k3, ts3, out3, op3, rfl, hop3, hBh3, hb9, hcl⟩ := hcut
    clear HB HE3 H93 hn1
    have HB3 := Lib.hid hBh3
    have hlen3 := hBh3.len
    have hlt3 := hBh3.lt
    have hfew3 := hBh3.few
    have hX3 := hBh3.run
    have t0 : wc.cell? ⟨w1.heap.size, 0, none⟩ = some (.int .i64 (peekT toks k3).kind) := hb9.cell 0
    have t1 : wc.cell? ⟨w1.heap.size, 1, none⟩ = some (.int .i64 (peekT toks k3).at_) := hb9.cell 1
    have t2 : wc.cell? ⟨w1.heap.size, 2, none⟩ = some (.string (mkS (peekT toks k3).word)) := hb9.cell 2
    clear hBh3 hb9
    rcases Nat.lt_or_ge k3 toks.length with hk3 | hk3
    ·obtain ⟨T, hT⟩ : ∃ t, toks[k3]? = some t := ⟨toks[k3], List.getElem?_eq_getElem hk3⟩
     rw [peek_in hT] at t0 t1 t2 hcl
     rw [drop_some hT, runX_behind, if_neg hcl] at hX3
     have hK4 := hK T (List.mem_of_getElem? hT)
     have HT := Lib.hid hT
     have HPl := Lib.hid (place_in e hT)
     clear hT hcl
     obtain ⟨uk, ua, uw, un⟩ := T
     dsimp only at t0 t1 t2 hX3 hK4 HPl
     have hK4b : (uk == 4) = false := by simpa using hK4
     have HV := Lib.hid (fun w => verb_any (mkS uw) w)
     rw [mkS_toList] at HV
     by_cases hu : uk = 2
     ·subst hu
      rw [if_pos (.inl rfl)] at hX3
      have HX := Lib.hid hX3
      clear hX3 hK4 hK4b HV
      have HFt := Lib.hid (fault_any L vt toks k3 e 46 _ HB3.out.at_.line.line HB3.out.at_.line.full)
      rw [HPl.out] at HFt
      have bx : wc.cell? ⟨w.heap.size, 0, none⟩ = some (.pointer (some ⟨L, 0, none⟩)) := HB3.out.at_.box.cell 0
      clear HPl
      go_wp2_with fail
      refine HFt.out.mono ?_
      rintro _ w2 ⟨rfl, hb2⟩
      have HE3 := HB3.out.at_.below hb2
      have hres := HE3.res
      have hfr3 := HE3.fr
      have hln3 := HE3.line.line
      have r0 : w2.cell? ⟨w.heap.size + 1, 0, none⟩ = some (.int .i64 0) := hres.cell 0
      have r1 : w2.cell? ⟨w.heap.size + 1, 1, none⟩ = some (.int .i64 0) := hres.cell 1
      have f0 : w2.frozen? ⟨w.heap.size + 1, 0, none⟩ = false := hres.froz 0
      have f1 : w2.frozen? ⟨w.heap.size + 1, 1, none⟩ = false := hres.froz 1
      have Hres := Lib.hid hres
      clear HE3 HFt hres t0 t1 t2 bx
      go_wp2
      obtain ⟨g0, g1⟩ := res_plain Hres.out (.int .i64 ua) (.int .i64 46)
      refine bodyPost_ret (v := .tuple #[.slice none 0 0, .agg #[.int .i64 ua, .int .i64 46]]) (by simp [results, Tryz.results31, go_sem, g0, g1]) rfl ?_
      rw [← HX.out]
      exact (expr_end Hres.out (by omega) hfr3 hln3 (.int .i64 ua) (.int .i64 46)).bad (ua, 46)
     ·have hub : (uk == 2) = false := by simpa using hu
      cases hvb : verbB uw with
      | false =>
       rw [if_pos (.inr hvb)] at hX3
       rw [hvb] at HV
       have HX := Lib.hid hX3
       clear hX3 hvb
       have HFt := Lib.hid (fault_any L vt toks k3 e 46 _ HB3.out.at_.line.line HB3.out.at_.line.full)
       rw [HPl.out] at HFt
       have bx : wc.cell? ⟨w.heap.size, 0, none⟩ = some (.pointer (some ⟨L, 0, none⟩)) := HB3.out.at_.box.cell 0
       clear HPl
       go_wp2_with (go_at_call 50; refine (HV.out _).mono ?_; rintro _ _ ⟨rfl, rfl⟩)
       refine HFt.out.mono ?_
       rintro _ w2 ⟨rfl, hb2⟩
       have HE3 := HB3.out.at_.below hb2
       have hres := HE3.res
       have hfr3 := HE3.fr
       have hln3 := HE3.line.line
       have r0 : w2.cell? ⟨w.heap.size + 1, 0, none⟩ = some (.int .i64 0) := hres.cell 0
       have r1 : w2.cell? ⟨w.heap.size + 1, 1, none⟩ = some (.int .i64 0) := hres.cell 1
       have f0 : w2.frozen? ⟨w.heap.size + 1, 0, none⟩ = false := hres.froz 0
       have f1 : w2.frozen? ⟨w.heap.size + 1, 1, none⟩ = false := hres.froz 1
       have Hres := Lib.hid hres
       clear HE3 HFt hres t0 t1 t2 bx
       go_wp2
       obtain ⟨g0, g1⟩ := res_plain Hres.out (.int .i64 ua) (.int .i64 46)
       refine bodyPost_ret (v := .tuple #[.slice none 0 0, .agg #[.int .i64 ua, .int .i64 46]]) (by simp [results, Tryz.results31, go_sem, g0, g1]) rfl ?_
       rw [← HX.out]
       exact (expr_end Hres.out (by omega) hfr3 hln3 (.int .i64 ua) (.int .i64 46)).bad (ua, 46)
      | true =>
       rw [if_neg (by rintro (h | h); exact hu h; rw [hvb] at h; cases h)] at hX3
       rw [hvb] at HV
       have HX := Lib.hid hX3
       have HNon := Lib.hid HB3.out.non
       clear hX3 hvb
       have HL := later_any Bt w.heap.size L w.heap.size (w.heap.size + 1 + 1) (w.heap.size + 1 + 1 + 1) vt toks k3 e true ⟨uk, ua, uw, un⟩ ts3 out3 _ HB3.out.at_.fr.size hBt (by omega) HB3.out.at_.box HB3.out.at_.line HT.out HB3.out.at_.mach (by omega)
       have HF := Lib.hid (fun y h => @phrase_fault true ⟨uk, ua, uw, un⟩ (toks.drop (k3 + 1)) y h)
       have HL := Lib.hid HL
       generalize hph : phraseP true ⟨uk, ua, uw, un⟩ (toks.drop (k3 + 1)) = x at *
       have HP := Lib.hid hph
       clear hph
       go_wp2_with (go_at_call 50; refine (HV.out _).mono ?_; rintro _ _ ⟨rfl, rfl⟩)
       refine HL.out.mono ?_
       rintro en w2 ⟨hfr, hkl, hpost⟩
       have hres : Blk w2 (w.heap.size + 1) 44 #[.int .i64 0, .int .i64 0] := hkl _ (by decide) (by decide) (by decide) (by decide) (by decide) _ _ HB3.out.at_.res
       have hbox : Blk w2 w.heap.size 56 #[.pointer (some ⟨L, 0, none⟩)] := hkl _ (by decide) (by decide) (by decide) (by decide) (by decide) _ _ HB3.out.at_.box
       have hfr2 := HB3.out.at_.fr.trans hfr
       clear HL HB3
       cases x with
       | error y =>
        obtain ⟨rfl, k', hl⟩ := hpost
        obtain rfl := HF.out y rfl
        have HX2 : Hid (Except.error (ua, 43) = X) := HX
        have r0 : w2.cell? ⟨w.heap.size + 1, 0, none⟩ = some (.int .i64 0) := hres.cell 0
        have r1 : w2.cell? ⟨w.heap.size + 1, 1, none⟩ = some (.int .i64 0) := hres.cell 1
        have f0 : w2.frozen? ⟨w.heap.size + 1, 0, none⟩ = false := hres.froz 0
        have f1 : w2.frozen? ⟨w.heap.size + 1, 1, none⟩ = false := hres.froz 1
        have hlt2 := hres.lt
        go_wp2_with fail
        go_region
        go_wp2
        obtain ⟨g0, g1⟩ := res_alloc hres (.int .i64 ua) (.int .i64 43) (.cells #[.int .i64 ua, .int .i64 43] 44)
        refine bodyPost_ret (v := .tuple #[.slice none 0 0, .agg #[.int .i64 ua, .int .i64 43]]) (by simp [results, Tryz.results31, go_sem, g0, g1]) rfl ?_
        rw [← HX2.out]
        exact (((expr_end hres (by omega) hfr2 hl (.int .i64 ua) (.int .i64 43)).alloc _).drew).bad (ua, 43)
       | ok q =>
        obtain ⟨it, r2⟩ := q
        obtain ⟨rfl, hM, k', hA', hdr⟩ := hpost
        have hlr := phrase_len HP.out
        have hl2 : toks.length - k' = r2.length := by rw [← hdr, List.length_drop]
        rw [List.length_drop] at hlr
        have HD := Lib.hid hdr
        clear hdr
        go_wp2_with fail
        go_roundg (toks.length - k')
        case measure => omega
        case rel =>
         refine ⟨k', ts3 ++ [some it], out3, op3, rfl, rfl, hop3, ExprAt.alloc ⟨hA', hM, hbox, hres, hfr2⟩ _, ?_, ?_, by rw [List.reverse_append]; exact HNon.out⟩
         ·rw [HD.out, List.reverse_append]
          exact HX.out
         ·rw [List.length_append]
          show out3.length + (ts3.length + 1) ≤ 2 * k'
          omega
    ·rw [peek_out hk3] at t0 t1 t2
     rw [List.drop_eq_nil_of_le hk3, runX_stop] at hX3
     dsimp only at t0 t1 t2
     have HPl := Lib.hid (place_out (toks := toks) (k := k3) e hk3)
     clear hcl
     by_cases h0 : 0 < op3
     ·rw [if_pos h0] at hX3
      have h0b : (0 : Int) < (op3 : Int) := by omega
      have h0c : decide ((0 : Int) < (op3 : Int)) = true := by simpa using h0b
      have HX := Lib.hid hX3
      clear hX3
      have HFt := Lib.hid (fault_any L vt toks k3 e 42 _ HB3.out.at_.line.line HB3.out.at_.line.full)
      rw [HPl.out] at HFt
      have bx : wc.cell? ⟨w.heap.size, 0, none⟩ = some (.pointer (some ⟨L, 0, none⟩)) := HB3.out.at_.box.cell 0
      clear HPl
      go_wp2_with fail
      refine HFt.out.mono ?_
      rintro _ w2 ⟨rfl, hb2⟩
      have HE3 := HB3.out.at_.below hb2
      have hres := HE3.res
      have hfr3 := HE3.fr
      have hln3 := HE3.line.line
      have r0 : w2.cell? ⟨w.heap.size + 1, 0, none⟩ = some (.int .i64 0) := hres.cell 0
      have r1 : w2.cell? ⟨w.heap.size + 1, 1, none⟩ = some (.int .i64 0) := hres.cell 1
      have f0 : w2.frozen? ⟨w.heap.size + 1, 0, none⟩ = false := hres.froz 0
      have f1 : w2.frozen? ⟨w.heap.size + 1, 1, none⟩ = false := hres.froz 1
      have Hres := Lib.hid hres
      clear HE3 HFt hres t0 t1 t2 bx
      go_wp2
      obtain ⟨g0, g1⟩ := res_plain Hres.out (.int .i64 e) (.int .i64 42)
      refine bodyPost_ret (v := .tuple #[.slice none 0 0, .agg #[.int .i64 e, .int .i64 42]]) (by simp [results, Tryz.results31, go_sem, g0, g1]) rfl ?_
      rw [← HX.out]
      exact (expr_end Hres.out (by omega) hfr3 hln3 (.int .i64 e) (.int .i64 42)).bad (e, 42)
     ·obtain rfl : op3 = 0 := by omega
      rw [if_neg (by omega)] at hX3
      have HX := Lib.hid hX3
      have hlow := HB3.out.low
      clear hX3 h0 HPl
      go_wp2_with fail
      refine (finish_any w.heap.size (w.heap.size + 1 + 1) (w.heap.size + 1 + 1 + 1) ts3 out3 wc HB3.out.at_.fr.size (by omega) (by omega) HB3.out.at_.mach (by omega)).mono ?_
      rintro _ w4 ⟨rfl, ts4, out4, hf, hM4, hlen4, hb4, hk4⟩
      have HE4 := Lib.hid (HB3.out.at_.finish hBt hM4 hb4 hb4.size hk4)
      have HX4 : Hid (Except.ok out4 = X) := by
       apply Lib.hid
       have := HX.out
       rw [hf] at this
       exact this
      clear hf hM4 hb4 hk4 t0 t1 t2 HB3 HX
      obtain ⟨vo, cs, vd, ds, m1, m2, m3, m4, m5, m6⟩ := HE4.out.mach
      obtain ⟨ad, capd, rfl⟩ := own_form m2
      have hres := HE4.out.res
      have c14 : w4.cell? ⟨w.heap.size + 1 + 1, 0, none⟩ = some (.slice ad out4.length capd) := m1.cell 0
      have r0 : w4.cell? ⟨w.heap.size + 1, 0, none⟩ = some (.int .i64 0) := hres.cell 0
      have r1 : w4.cell? ⟨w.heap.size + 1, 1, none⟩ = some (.int .i64 0) := hres.cell 1
      have f0 : w4.frozen? ⟨w.heap.size + 1, 0, none⟩ = false := hres.froz 0
      have f1 : w4.frozen? ⟨w.heap.size + 1, 1, none⟩ = false := hres.froz 1
      have M := Lib.hid (And.intro m2 m3)
      have Hres := Lib.hid hres
      clear m1 m2 m3 m4 m5 m6 hres
      go_wp2
      obtain ⟨g0, g1⟩ := res_plain Hres.out (.int .i64 0) (.int .i64 0)
      refine bodyPost_ret (v := .tuple #[.slice ad out4.length capd, .agg #[.int .i64 0, .int .i64 0]]) (by simp [results, Tryz.results31, go_sem, g0, g1]) rfl ?_
      rw [← HX4.out]
      exact expr_good HE4.out (by omega) M.out.1 M.out.2
end Go.Proofs.YtknnleiinhdklaaGreatDoor
