/-
  Walk of package parse: a line's phrase. Condition: the line lies in memory, its tokens too, there is a token.
-/
import Derived.Test.YtfpneopobbfabaaDoorParC
namespace Go.Proofs.YtfpneopobbfabaaDoor
open Go.RowKit Go.Shelf Go.Sort

/-! ### what has turned: one block, and what is new -/
theorem gb_below {a w : World} {r : Option Nat} (h : Below a.heap.size a w) : a.grownBy w r := ⟨h.os, h.tape, h.output, h.size, fun k hk _ => h.block k hk⟩
theorem gb_then {a w w' : World} {r : Option Nat} (h : a.grownBy w r) (hb : Below w.heap.size w w') : a.grownBy w' r :=
  ⟨hb.os.trans h.os, hb.tape.trans h.tape, hb.output.trans h.output, Nat.le_trans h.size hb.size, fun k hk hn => (hb.block k (Nat.lt_of_lt_of_le hk h.size)).trans (h.block k hk hn)⟩
theorem gb_trans {a w w' : World} {r : Option Nat} (h : a.grownBy w r) (hb : w.grownBy w' r) : a.grownBy w' r :=
  ⟨hb.os.trans h.os, hb.tape.trans h.tape, hb.output.trans h.output, Nat.le_trans h.size hb.size, fun k hk hn => (hb.block k (Nat.lt_of_lt_of_le hk h.size) hn).trans (h.block k hk hn)⟩
theorem gb_alloc {a w : World} {r : Option Nat} (h : a.grownBy w r) (o : Obj) : a.grownBy (w.alloc o) r := gb_then h ((Below.refl _ _).alloc (Nat.le_refl _) o)
theorem gb_draws {a w : World} {r : Option Nat} (h : a.grownBy w r) (n : Nat) : a.grownBy (w.drewN n) r := gb_then h (below_drewN' (Below.refl _ _) n)
theorem gb_drew {a w : World} {r : Option Nat} (h : a.grownBy w r) : a.grownBy w.drew r := gb_then h ((Below.refl _ _).drew)
theorem gb_own {a w : World} {L : Nat} (h : a.grownBy w (some L)) (o : Nat) (u : Value) : a.grownBy (w.setCell ⟨L, o, none⟩ u) (some L) :=
  ⟨h.os, h.tape, h.output, by simpa [World.setCell] using h.size, fun k hk hn => (Below.heap_setCell w ⟨L, o, none⟩ u k (fun e => hn (by rw [e]))).trans (h.block k hk hn)⟩
theorem gb_new {a w : World} {r : Option Nat} (h : a.grownBy w r) {b : Nat} (hb : a.heap.size ≤ b) (o : Nat) (u : Value) : a.grownBy (w.setCell ⟨b, o, none⟩ u) r :=
  ⟨h.os, h.tape, h.output, by simpa [World.setCell] using h.size, fun k hk hn => (Below.heap_setCell w ⟨b, o, none⟩ u k (by show k ≠ b; omega)).trans (h.block k hk hn)⟩
theorem LineIs.next {w : World} {L : Nat} {vt : Value} {k : Nat} {e : Int} (h : LineIs w L vt k e) (k' : Nat) {u : Value} (hu : u = .int .i64 k') : LineIs (w.setCell ⟨L, 1, none⟩ u) L vt k' e := by
  subst hu
  unfold LineIs at h ⊢
  simp [World.setCell, Array.getElem?_modify, h]
theorem LineIs.next2 {w : World} {L : Nat} {vt : Value} {k : Nat} {e : Int} (h : LineIs w L vt (k + 1) e) : LineIs (w.setCell ⟨L, 1, none⟩ (.int .i64 ((k : Int) + 1 + 1))) L vt (k + 2) e :=
  h.next (k + 2) (by rw [show ((k + 2 : Nat) : Int) = (k : Int) + 1 + 1 by omega])
theorem LineIs.alloc {w : World} {L : Nat} {vt : Value} {k : Nat} {e : Int} (h : LineIs w L vt k e) (o : Obj) : LineIs (w.alloc o) L vt k e := h.below ((Below.refl _ _).alloc (Nat.le_refl _) o)
theorem LineIs.draws {w : World} {L : Nat} {vt : Value} {k : Nat} {e : Int} (h : LineIs w L vt k e) (n : Nat) : LineIs (w.drewN n) L vt k e := h
theorem LineIs.drew {w : World} {L : Nat} {vt : Value} {k : Nat} {e : Int} (h : LineIs w L vt k e) : LineIs w.drew L vt k e := h
theorem LineIs.other {w : World} {L : Nat} {vt : Value} {k : Nat} {e : Int} (h : LineIs w L vt k e) {b : Nat} (hb : L ≠ b) (o : Nat) (u : Value) : LineIs (w.setCell ⟨b, o, none⟩ u) L vt k e :=
  (Below.heap_setCell w ⟨b, o, none⟩ u L hb).trans h
/-- The line's block holds no tokens. -/
theorem TokS.ne_line {w : World} {B L : Nat} {v vt : Value} {k : Nat} {e : Int} {toks : List Tok} (hL : LineIs w L vt k e) (hT : TokS w B v toks) {g o n cap : Nat} (hv : v = .slice (some ⟨g, o, none⟩) n cap) (hn : 0 < toks.length) : g ≠ L := by
  obtain ⟨a, c, h1, h2, h3, h4⟩ := hT
  subst hv
  injection h1 with e1 e2 e3
  subst e1
  obtain ⟨g', o', k1, k2, k3⟩ := h4 hn
  injection k1 with k1
  injection k1 with k1 k1' _
  subst k1 k1'
  obtain ⟨t, ht⟩ : ∃ t, toks[0]? = some t := ⟨toks[0]'hn, List.getElem?_eq_getElem _⟩
  have h5 := (k3 0 t ht).2.2.2
  rintro rfl
  unfold LineIs at hL
  simp [World.cell?, hL] at h5
theorem TokS.keep {w w' : World} {B L : Nat} {vt v : Value} {k : Nat} {e : Int} {toks : List Tok} (hT : TokS w B v toks) (hL : LineIs w L vt k e) (hb : ∀ g, g < B → g ≠ L → w'.heap[g]? = w.heap[g]?) : TokS w' B v toks := by
  have hT0 := hT
  obtain ⟨a, c, h1, h2, h3, h4⟩ := hT
  refine ⟨a, c, h1, h2, h3, fun hn => ?_⟩
  obtain ⟨g, o, rfl, k2, k3⟩ := h4 hn
  have hne := hT0.ne_line hL h1 hn
  have hblk := hb g k2 hne
  refine ⟨g, o, rfl, k2, fun i t hi => ?_⟩
  obtain ⟨c0, c1, c2, c3⟩ := k3 i t hi
  exact ⟨(World.cell?_of_block (a := ⟨g, _, none⟩) hblk).trans c0, (World.cell?_of_block (a := ⟨g, _, none⟩) hblk).trans c1, (World.cell?_of_block (a := ⟨g, _, none⟩) hblk).trans c2, (World.cell?_of_block (a := ⟨g, _, none⟩) hblk).trans c3⟩
/-- A line in memory, with its tokens, which lie below B. -/
structure At (w : World) (B L : Nat) (vt : Value) (toks : List Tok) (k : Nat) (e : Int) : Prop where
  line : LineIs w L vt k e
  toks : TokS w B vt toks
  lt : L < B
  le : B ≤ w.heap.size
theorem At.full {w : World} {B L : Nat} {vt : Value} {toks : List Tok} {k : Nat} {e : Int} (h : At w B L vt toks k e) : TokS w w.heap.size vt toks := h.toks.mono h.le
theorem At.gb {w w' : World} {B L : Nat} {vt : Value} {toks : List Tok} {k k' : Nat} {e : Int} (h : At w B L vt toks k e) (hg : w.grownBy w' (some L)) (hl : LineIs w' L vt k' e) : At w' B L vt toks k' e :=
  ⟨hl, h.toks.keep h.line (fun g hg2 hne => hg.block g (Nat.lt_of_lt_of_le hg2 h.le) (fun e => hne (by injection e))), h.lt, Nat.le_trans h.le hg.size⟩
theorem At.below {w w' : World} {B L : Nat} {vt : Value} {toks : List Tok} {k : Nat} {e : Int} (h : At w B L vt toks k e) (hb : Below w.heap.size w w') : At w' B L vt toks k e :=
  h.gb (gb_below hb) (h.line.below hb)

theorem cell_new (w : World) (x : Array Value) (t : TypeId) {b : Nat} (hb : b = w.heap.size) (j : Nat) : (w.alloc (.cells x t)).cell? ⟨b, j, none⟩ = x[j]? := by
  subst hb
  exact cell_of_row _ _ _ _ _ _ (heap_alloc_new w _)
theorem cell_old (w : World) (o : Obj) {b : Nat} (hb : b < w.heap.size) (j : Nat) : (w.alloc o).cell? ⟨b, j, none⟩ = w.cell? ⟨b, j, none⟩ := World.cell?_alloc_lt _ _ _ hb
theorem size_set (w : World) (a : Addr) (u : Value) : (w.setCell a u).heap.size = w.heap.size := by simp [World.setCell]

/-! ### phrase -/
/-- The cells of an item without a name and numbers. -/
def phraseV (it : Itm) : Value := .agg #[.int .i64 it.how, .int .i64 it.at_, .int .u8 it.fn, .string ⟨#[]⟩, .slice none 0 0]
/-- What phrase gives. -/
def PhrasePost (B L : Nat) (vt : Value) (toks : List Tok) (e : Int) (x : Except Fault (Itm × List Tok)) (w : World) (en : Ending) (w' : World) : Prop :=
  match x with
  | .error y => ∃ it : Itm, en = .returned (.tuple #[phraseV it, .agg #[.int .i64 y.1, .int .i64 y.2]]) ∧ w.grownBy w' (some L) ∧ ∃ k', LineIs w' L vt k' e
  | .ok (it, r2) => en = .returned (.tuple #[phraseV it, .agg #[.int .i64 0, .int .i64 0]]) ∧ w.grownBy w' (some L) ∧ ∃ k', At w' B L vt toks k' e ∧ toks.drop k' = r2
theorem phraseP_plain {left : Bool} {t : Tok} {toks : List Tok} {k : Nat} (h : isOp (peekT toks k) = false) :
    phraseP left t (toks.drop k) = if verbF t.word left = 0 then .error (t.at_, 43) else .ok (⟨if left then 4 else 3, t.at_, verbF t.word left, [], []⟩, toks.drop k) := by
  unfold peekT at h
  cases hd : toks.drop k with
  | nil => rfl
  | cons a r =>
    rw [hd] at h
    show (if isOp a = true then _ else _) = _
    rw [if_neg (by rw [show isOp a = false from h]; simp)]
theorem phraseP_op {left : Bool} {t : Tok} {toks : List Tok} {k : Nat} (h : isOp (peekT toks k) = true) :
    phraseP left t (toks.drop k) = if 17 < twoF t.word ∨ ((peekT toks k).word == [46]) ≠ left ∨ twoF t.word = 0 then .error (t.at_, 43)
      else .ok (⟨if (peekT toks k).word = [47] then 5 else if (peekT toks k).word = [92] then 6 else 7, t.at_, twoF t.word, [], []⟩, toks.drop (k + 1)) := by
  unfold peekT at *
  cases hd : toks.drop k with
  | nil => rw [hd] at h; simp [isOp] at h
  | cons a r =>
    rw [hd] at h
    have hr : toks.drop (k + 1) = r := by rw [← List.drop_drop, hd]; rfl
    rw [hr]
    show (if isOp a = true then _ else _) = _
    rw [if_pos h]
/-- A block that is known whole. -/
def Blk (w : World) (b : Nat) (t : TypeId) (cs : Array Value) : Prop := w.heap[b]? = some (.cells cs t (0, 0))
theorem Blk.lt {w : World} {b : Nat} {t : TypeId} {cs : Array Value} (h : Blk w b t cs) : b < w.heap.size := (Array.getElem?_eq_some_iff.1 h).1
theorem Blk.cell {w : World} {b : Nat} {t : TypeId} {cs : Array Value} (h : Blk w b t cs) (j : Nat) : w.cell? ⟨b, j, none⟩ = cs[j]? := cell_of_row w b j cs t (0, 0) h
theorem Blk.froz {w : World} {b : Nat} {t : TypeId} {cs : Array Value} (h : Blk w b t cs) (j : Nat) : w.frozen? ⟨b, j, none⟩ = false := by unfold Blk at h; simp [World.frozen?, h]
theorem Blk.new (w : World) (t : TypeId) (cs : Array Value) {b : Nat} (hb : b = w.heap.size) : Blk (w.alloc (.cells cs t)) b t cs := by subst hb; exact heap_alloc_new w _
theorem Blk.below {w w' : World} {b : Nat} {t : TypeId} {cs : Array Value} (h : Blk w b t cs) (hb : Below w.heap.size w w') : Blk w' b t cs := (hb.block b h.lt).trans h
theorem Blk.alloc {w : World} {b : Nat} {t : TypeId} {cs : Array Value} (h : Blk w b t cs) (o : Obj) : Blk (w.alloc o) b t cs := h.below ((Below.refl _ _).alloc (Nat.le_refl _) o)
theorem Blk.draws {w : World} {b : Nat} {t : TypeId} {cs : Array Value} (h : Blk w b t cs) (n : Nat) : Blk (w.drewN n) b t cs := h
theorem Blk.other {w : World} {b : Nat} {t : TypeId} {cs : Array Value} (h : Blk w b t cs) {c : Nat} (hne : b ≠ c) (o : Nat) (u : Value) : Blk (w.setCell ⟨c, o, none⟩ u) b t cs := (Below.heap_setCell w ⟨c, o, none⟩ u b hne).trans h
end Go.Proofs.YtfpneopobbfabaaDoor
