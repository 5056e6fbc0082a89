/-
  Walk of package parse: a line's phrase. Condition: the line lies in memory, its tokens too, there is a token.   Package parse: the machine's memory (what has been read, what is still to be done), and the walk of the closure that puts a verb behind what it works on. Condition: the memory is as said.
-/
import Derived.Deep.AppendLies
import Derived.Test.YtknnleiinhdklaaGreatDoorPk10
namespace Go.Proofs.YtknnleiinhdklaaGreatDoor
section
open Go.RowKit Go.Shelf Go.Sort
theorem gb_below {a w : World} {r : Option Nat} (h : Below a.heap.size a w) : a.grownBy w r := ⟨h.os, h.tape, h.output, h.size, fun k hk _ => h.block k hk⟩
theorem gb_then {a w w' : World} {r : Option Nat} (h : a.grownBy w r) (hb : Below w.heap.size w w') : a.grownBy w' r :=
 ⟨hb.os.trans h.os, hb.tape.trans h.tape, hb.output.trans h.output, Nat.le_trans h.size hb.size, fun k hk hn => (hb.block k (Nat.lt_of_lt_of_le hk h.size)).trans (h.block k hk hn)⟩
theorem gb_trans {a w w' : World} {r : Option Nat} (h : a.grownBy w r) (hb : w.grownBy w' r) : a.grownBy w' r :=
 ⟨hb.os.trans h.os, hb.tape.trans h.tape, hb.output.trans h.output, Nat.le_trans h.size hb.size, fun k hk hn => (hb.block k (Nat.lt_of_lt_of_le hk h.size) hn).trans (h.block k hk hn)⟩
theorem gb_alloc {a w : World} {r : Option Nat} (h : a.grownBy w r) (o : Obj) : a.grownBy (w.alloc o) r := gb_then h ((Below.refl _ _).alloc (Nat.le_refl _) o)
theorem gb_draws {a w : World} {r : Option Nat} (h : a.grownBy w r) (n : Nat) : a.grownBy (w.drewN n) r := gb_then h (below_drewN' (Below.refl _ _) n)
theorem gb_drew {a w : World} {r : Option Nat} (h : a.grownBy w r) : a.grownBy w.drew r := gb_then h ((Below.refl _ _).drew)
theorem gb_own {a w : World} {L : Nat} (h : a.grownBy w (some L)) (o : Nat) (u : Value) : a.grownBy (w.setCell ⟨L, o, none⟩ u) (some L) :=
 ⟨h.os, h.tape, h.output, by simpa [World.setCell] using h.size, fun k hk hn => (Below.heap_setCell w ⟨L, o, none⟩ u k (fun e => hn (by rw [e]))).trans (h.block k hk hn)⟩
theorem gb_new {a w : World} {r : Option Nat} (h : a.grownBy w r) {b : Nat} (hb : a.heap.size ≤ b) (o : Nat) (u : Value) : a.grownBy (w.setCell ⟨b, o, none⟩ u) r :=
 ⟨h.os, h.tape, h.output, by simpa [World.setCell] using h.size, fun k hk hn => (Below.heap_setCell w ⟨b, o, none⟩ u k (by show k ≠ b; omega)).trans (h.block k hk hn)⟩
theorem LineIs.next {w : World} {L : Nat} {vt : Value} {k : Nat} {e : Int} (h : LineIs w L vt k e) (k' : Nat) {u : Value} (hu : u = .int .i64 k') : LineIs (w.setCell ⟨L, 1, none⟩ u) L vt k' e := by
 subst hu
 unfold LineIs at h ⊢
 simp [World.setCell, Array.getElem?_modify, h]
theorem LineIs.next2 {w : World} {L : Nat} {vt : Value} {k : Nat} {e : Int} (h : LineIs w L vt (k + 1) e) : LineIs (w.setCell ⟨L, 1, none⟩ (.int .i64 ((k : Int) + 1 + 1))) L vt (k + 2) e :=
 h.next (k + 2) (by rw [show ((k + 2 : Nat) : Int) = (k : Int) + 1 + 1 by omega])
theorem LineIs.alloc {w : World} {L : Nat} {vt : Value} {k : Nat} {e : Int} (h : LineIs w L vt k e) (o : Obj) : LineIs (w.alloc o) L vt k e := h.below ((Below.refl _ _).alloc (Nat.le_refl _) o)
theorem LineIs.draws {w : World} {L : Nat} {vt : Value} {k : Nat} {e : Int} (h : LineIs w L vt k e) (n : Nat) : LineIs (w.drewN n) L vt k e := h
theorem LineIs.drew {w : World} {L : Nat} {vt : Value} {k : Nat} {e : Int} (h : LineIs w L vt k e) : LineIs w.drew L vt k e := h
theorem LineIs.other {w : World} {L : Nat} {vt : Value} {k : Nat} {e : Int} (h : LineIs w L vt k e) {b : Nat} (hb : L ≠ b) (o : Nat) (u : Value) : LineIs (w.setCell ⟨b, o, none⟩ u) L vt k e :=
 (Below.heap_setCell w ⟨b, o, none⟩ u L hb).trans h
/-- The line's block holds no tokens. -/
theorem TokS.ne_line {w : World} {B L : Nat} {v vt : Value} {k : Nat} {e : Int} {toks : List Tok} (hL : LineIs w L vt k e) (hT : TokS w B v toks) {g o n cap : Nat} (hv : v = .slice (some ⟨g, o, none⟩) n cap) (hn : 0 < toks.length) : g ≠ L := by
 obtain ⟨a, c, h1, h2, h3, h4⟩ := hT
 subst hv
 injection h1 with e1 e2 e3
 subst e1
 obtain ⟨g', o', k1, k2, k3⟩ := h4 hn
 injection k1 with k1
 injection k1 with k1 k1' _
 subst k1 k1'
 obtain ⟨t, ht⟩ : ∃ t, toks[0]? = some t := ⟨toks[0]'hn, List.getElem?_eq_getElem _⟩
 have h5 := (k3 0 t ht).2.2.2
 rintro rfl
 unfold LineIs at hL
 simp [World.cell?, hL] at h5
theorem TokS.keep {w w' : World} {B L : Nat} {vt v : Value} {k : Nat} {e : Int} {toks : List Tok} (hT : TokS w B v toks) (hL : LineIs w L vt k e) (hb : ∀ g, g < B → g ≠ L → w'.heap[g]? = w.heap[g]?) : TokS w' B v toks := by
 have hT0 := hT
 obtain ⟨a, c, h1, h2, h3, h4⟩ := hT
 refine ⟨a, c, h1, h2, h3, fun hn => ?_⟩
 obtain ⟨g, o, rfl, k2, k3⟩ := h4 hn
 have hne := hT0.ne_line hL h1 hn
 have hblk := hb g k2 hne
 refine ⟨g, o, rfl, k2, fun i t hi => ?_⟩
 obtain ⟨c0, c1, c2, c3⟩ := k3 i t hi
 exact ⟨(World.cell?_of_block (a := ⟨g, _, none⟩) hblk).trans c0, (World.cell?_of_block (a := ⟨g, _, none⟩) hblk).trans c1, (World.cell?_of_block (a := ⟨g, _, none⟩) hblk).trans c2, (World.cell?_of_block (a := ⟨g, _, none⟩) hblk).trans c3⟩
/-- A line in memory, with its tokens, which lie below B. -/
structure At (w : World) (B L : Nat) (vt : Value) (toks : List Tok) (k : Nat) (e : Int) : Prop where
 line : LineIs w L vt k e
 toks : TokS w B vt toks
 lt : L < B
 le : B ≤ w.heap.size
theorem At.full {w : World} {B L : Nat} {vt : Value} {toks : List Tok} {k : Nat} {e : Int} (h : At w B L vt toks k e) : TokS w w.heap.size vt toks := h.toks.mono h.le
theorem At.gb {w w' : World} {B L : Nat} {vt : Value} {toks : List Tok} {k k' : Nat} {e : Int} (h : At w B L vt toks k e) (hg : w.grownBy w' (some L)) (hl : LineIs w' L vt k' e) : At w' B L vt toks k' e :=
 ⟨hl, h.toks.keep h.line (fun g hg2 hne => hg.block g (Nat.lt_of_lt_of_le hg2 h.le) (fun e => hne (by injection e))), h.lt, Nat.le_trans h.le hg.size⟩
theorem At.below {w w' : World} {B L : Nat} {vt : Value} {toks : List Tok} {k : Nat} {e : Int} (h : At w B L vt toks k e) (hb : Below w.heap.size w w') : At w' B L vt toks k e :=
 h.gb (gb_below hb) (h.line.below hb)
theorem size_set (w : World) (a : Addr) (u : Value) : (w.setCell a u).heap.size = w.heap.size := by simp [World.setCell]
/-- The cells of an item without a name and numbers. -/
def phraseV (it : Itm) : Value := .agg #[.int .i64 it.how, .int .i64 it.at_, .int .u8 it.fn, .string ⟨#[]⟩, .slice none 0 0]
/-- What phrase gives. -/
def PhrasePost (B L : Nat) (vt : Value) (toks : List Tok) (e : Int) (x : Except Fault (Itm × List Tok)) (w : World) (en : Ending) (w' : World) : Prop :=
 match x with
 | .error y => ∃ it : Itm, en = .returned (.tuple #[phraseV it, .agg #[.int .i64 y.1, .int .i64 y.2]]) ∧ w.grownBy w' (some L) ∧ ∃ k', LineIs w' L vt k' e
 | .ok (it, r2) => en = .returned (.tuple #[phraseV it, .agg #[.int .i64 0, .int .i64 0]]) ∧ w.grownBy w' (some L) ∧ ∃ k', At w' B L vt toks k' e ∧ toks.drop k' = r2
theorem phraseP_plain {left : Bool} {t : Tok} {toks : List Tok} {k : Nat} (h : isOp (peekT toks k) = false) :
  phraseP left t (toks.drop k) = if verbF t.word left = 0 then .error (t.at_, 43) else .ok (⟨if left then 4 else 3, t.at_, verbF t.word left, [], []⟩, toks.drop k) := by
 unfold peekT at h
 cases hd : toks.drop k with
 | nil => rfl
 | cons a r =>
  rw [hd] at h
  show (if isOp a = true then _ else _) = _
  rw [if_neg (by rw [show isOp a = false from h]; simp)]
theorem phraseP_op {left : Bool} {t : Tok} {toks : List Tok} {k : Nat} (h : isOp (peekT toks k) = true) :
  phraseP left t (toks.drop k) = if 17 < twoF t.word ∨ ((peekT toks k).word == [46]) ≠ left ∨ twoF t.word = 0 then .error (t.at_, 43)
   else .ok (⟨if (peekT toks k).word = [47] then 5 else if (peekT toks k).word = [92] then 6 else 7, t.at_, twoF t.word, [], []⟩, toks.drop (k + 1)) := by
 unfold peekT at *
 cases hd : toks.drop k with
 | nil => rw [hd] at h; simp [isOp] at h
 | cons a r =>
  rw [hd] at h
  have hr : toks.drop (k + 1) = r := by rw [← List.drop_drop, hd]; rfl
  rw [hr]
  show (if isOp a = true then _ else _) = _
  rw [if_pos h]
/-- A block that is known whole. -/
def Blk (w : World) (b : Nat) (t : TypeId) (cs : Array Value) : Prop := w.heap[b]? = some (.cells cs t (0, 0))
theorem Blk.lt {w : World} {b : Nat} {t : TypeId} {cs : Array Value} (h : Blk w b t cs) : b < w.heap.size := (Array.getElem?_eq_some_iff.1 h).1
theorem Blk.cell {w : World} {b : Nat} {t : TypeId} {cs : Array Value} (h : Blk w b t cs) (j : Nat) : w.cell? ⟨b, j, none⟩ = cs[j]? := cell_of_row w b j cs t (0, 0) h
theorem Blk.froz {w : World} {b : Nat} {t : TypeId} {cs : Array Value} (h : Blk w b t cs) (j : Nat) : w.frozen? ⟨b, j, none⟩ = false := by unfold Blk at h; simp [World.frozen?, h]
theorem Blk.new (w : World) (t : TypeId) (cs : Array Value) {b : Nat} (hb : b = w.heap.size) : Blk (w.alloc (.cells cs t)) b t cs := by subst hb; exact heap_alloc_new w _
theorem Blk.below {w w' : World} {b : Nat} {t : TypeId} {cs : Array Value} (h : Blk w b t cs) (hb : Below w.heap.size w w') : Blk w' b t cs := (hb.block b h.lt).trans h
theorem Blk.alloc {w : World} {b : Nat} {t : TypeId} {cs : Array Value} (h : Blk w b t cs) (o : Obj) : Blk (w.alloc o) b t cs := h.below ((Below.refl _ _).alloc (Nat.le_refl _) o)
theorem Blk.draws {w : World} {b : Nat} {t : TypeId} {cs : Array Value} (h : Blk w b t cs) (n : Nat) : Blk (w.drewN n) b t cs := h
theorem Blk.other {w : World} {b : Nat} {t : TypeId} {cs : Array Value} (h : Blk w b t cs) {c : Nat} (hne : b ≠ c) (o : Nat) (u : Value) : Blk (w.setCell ⟨c, o, none⟩ u) b t cs := (Below.heap_setCell w ⟨c, o, none⟩ u b hne).trans h
end
section
open Go.RowKit Go.Shelf Go.Sort
def KeepTag (t : TypeId) (w w' : World) : Prop := ∀ (b : Nat) (cur : Array Value), w.heap[b]? = some (Obj.cells cur t (0, 0)) → w'.heap[b]? = some (Obj.cells cur t (0, 0))
theorem KeepTag.trans {t : TypeId} {a b c : World} (h : KeepTag t a b) (k : KeepTag t b c) : KeepTag t a c := fun x cur hx => k x cur (h x cur hx)
theorem KeepTag.refl (t : TypeId) (w : World) : KeepTag t w w := fun _ _ h => h
theorem KeepTag.below {t : TypeId} {w w' : World} (hb : Below w.heap.size w w') : KeepTag t w w' := fun b _ h => (hb.block b (Array.getElem?_eq_some_iff.1 h).1).trans h
theorem KeepTag.gb {t s : TypeId} {w w' : World} {g : Nat} {cs : Array Value} (hg : w.grownBy w' (some g)) (hk : Blk w g s cs) (hne : t ≠ s) : KeepTag t w w' := fun b cur h => by
 refine (hg.block b (Array.getElem?_eq_some_iff.1 h).1 (fun e => ?_)).trans h
 injection e with e
 subst e
 unfold Blk at hk
 rw [h] at hk
 injection hk with hk
 injection hk with _ hk _
 exact hne hk
theorem KeepTag.set {t s : TypeId} {w : World} {b : Nat} {cs : Array Value} (hk : Blk w b s cs) (hne : t ≠ s) (o : Nat) (u : Value) : KeepTag t w (w.setCell ⟨b, o, none⟩ u) := fun k cur h => by
 refine (Below.heap_setCell w ⟨b, o, none⟩ u k (fun e => ?_)).trans h
 have e : k = b := e
 subst e
 unfold Blk at hk
 rw [h] at hk
 injection hk with hk
 injection hk with _ hk _
 exact hne hk
theorem KeepTag.alloc {t : TypeId} {w : World} (o : Obj) : KeepTag t w (w.alloc o) := KeepTag.below ((Below.refl _ _).alloc (Nat.le_refl _) o)
theorem Blk.put {w : World} {b : Nat} {t : TypeId} {x : Value} (h : Blk w b t #[x]) (u : Value) : Blk (w.setCell ⟨b, 0, none⟩ u) b t #[u] := by
 unfold Blk at h ⊢
 simp [World.setCell, Array.getElem?_modify, h]
theorem own_tag {w w' : World} {base e size n : Nat} {v : Value} {xs : List Value} (h : w.ownsRow base e size v n xs) (hk : KeepTag e w w') : w'.ownsRow base e size v n xs := by
 refine ⟨h.1, ?_⟩
 rcases h.2 with h0 | ⟨g, cap, cur, hv, hb, hg, rest⟩
 ·exact .inl h0
 ·exact .inr ⟨g, cap, cur, hv, hb, hk g cur hg, rest⟩
theorem Blk.keep {w w' : World} {b : Nat} {t : TypeId} {cs : Array Value} (h : Blk w b t cs) (hk : KeepTag t w w') : Blk w' b t cs := hk b cs h
theorem Blk.own_ne {w : World} {b : Nat} {t : TypeId} {cs : Array Value} (h : Blk w b t cs) {base e size n : Nat} {v : Value} {xs : List Value} (ho : w.ownsRow base e size v n xs) (hne : e ≠ t) : v.ownBlock ≠ some b := by
 rcases ho.2 with ⟨rfl, _⟩ | ⟨g, cap, cur, rfl, _, hg, _⟩
 ·simp [Value.ownBlock]
 ·intro he
  have : g = b := by simpa [Value.ownBlock] using he
  subst this
  unfold Blk at h
  rw [hg] at h
  injection h with h
  injection h with _ h _
  exact hne h
/-- The blocks of a set have turned, and what is new. -/
structure Chg (S : Nat → Prop) (w w' : World) : Prop where
 os : w'.os = w.os
 tape : w'.tape = w.tape
 output : w'.output = w.output
 size : w.heap.size ≤ w'.heap.size
 block : ∀ k, k < w.heap.size → ¬ S k → w'.heap[k]? = w.heap[k]?
theorem Chg.blk {S : Nat → Prop} {w w' : World} (h : Chg S w w') {k : Nat} {t : TypeId} {cs : Array Value} (hk : Blk w k t cs) (h1 : ¬ S k) : Blk w' k t cs := (h.block k hk.lt h1).trans hk
theorem Chg.trans {S S' : Nat → Prop} {a b c : World} (h : Chg S a b) (k : Chg S' b c) (hs : ∀ x, x < a.heap.size → S' x → S x) : Chg S a c :=
 ⟨k.os.trans h.os, k.tape.trans h.tape, k.output.trans h.output, Nat.le_trans h.size k.size, fun x hx hn => (k.block x (Nat.lt_of_lt_of_le hx h.size) (fun e => hn (hs x hx e))).trans (h.block x hx hn)⟩
theorem Chg.refl (S : Nat → Prop) (w : World) : Chg S w w := ⟨rfl, rfl, rfl, Nat.le_refl _, fun _ _ _ => rfl⟩
theorem Chg.below {S : Nat → Prop} {w w' : World} (hb : Below w.heap.size w w') : Chg S w w' := ⟨hb.os, hb.tape, hb.output, hb.size, fun k hk _ => hb.block k hk⟩
theorem Chg.set {S : Nat → Prop} {w : World} {b : Nat} (hb : S b) (o : Nat) (u : Value) : Chg S w (w.setCell ⟨b, o, none⟩ u) :=
 ⟨rfl, rfl, rfl, by simp [World.setCell], fun k _ hn => Below.heap_setCell _ _ _ _ (fun e => hn (by rw [show k = b from e]; exact hb))⟩
theorem Chg.gb {S : Nat → Prop} {w w' : World} {r : Option Nat} (hg : w.grownBy w' r) (hr : ∀ k, r = some k → S k) : Chg S w w' :=
 ⟨hg.os, hg.tape, hg.output, hg.size, fun k hk hn => hg.block k hk (fun e => hn (hr k e.symm))⟩
/-- Blocks that a set's tags leave out are kept. -/
theorem Chg.keep {S : Nat → Prop} {w w' : World} (h : Chg S w w') {t : TypeId} (hs : ∀ b cur, w.heap[b]? = some (Obj.cells cur t (0, 0)) → ¬ S b) : KeepTag t w w' := fun b cur hb => (h.block b (Array.getElem?_eq_some_iff.1 hb).1 (hs b cur hb)).trans hb
theorem tag_ne {w : World} {b : Nat} {t s : TypeId} {cur cs : Array Value} (h : w.heap[b]? = some (Obj.cells cur t (0, 0))) (hk : Blk w b s cs) : t = s := by
 unfold Blk at hk
 rw [h] at hk
 injection hk with hk
 injection hk
theorem own_tag_ne {w : World} {b : Nat} {t : TypeId} {cur : Array Value} (h : w.heap[b]? = some (Obj.cells cur t (0, 0))) {base e size n : Nat} {v : Value} {xs : List Value} (ho : w.ownsRow base e size v n xs) (hv : v.ownBlock = some b) : t = e := by
 rcases ho.2 with ⟨rfl, _⟩ | ⟨g, cap, cur', rfl, _, hg, _⟩
 ·simp [Value.ownBlock] at hv
 ·have : g = b := by simpa [Value.ownBlock] using hv
  subst this
  rw [h] at hg
  injection hg with hg
  injection hg
def NumS (w : World) (v : Value) (l : List Int) : Prop := w.ownsRow 0 2 1 v l.length (l.map (Value.int .i64))
theorem NumS.nil (w : World) : NumS w (.slice none 0 0) [] := World.ownsRow_nil _ _ _ _
theorem NumS.keep {w w' : World} {v : Value} {l : List Int} (h : NumS w v l) (hk : KeepTag 2 w w') : NumS w' v l := own_tag h hk
def Itm.cells (it : Itm) (vn : Value) : List Value := [.int .i64 it.how, .int .i64 it.at_, .int .u8 it.fn, .string (mkS it.name), vn]
/-- Cells that are these items'. -/
def ItsC (w : World) (l : List Itm) (cs : List Value) : Prop := cs.length = l.length * 5 ∧ ∀ i it, l[i]? = some it → ∃ vn, NumS w vn it.nums ∧ ∀ j u, (it.cells vn)[j]? = some u → cs[i * 5 + j]? = some u
theorem ItsC.nil (w : World) : ItsC w [] [] := ⟨rfl, fun i it h => by simp at h⟩
theorem ItsC.keep {w w' : World} {l : List Itm} {cs : List Value} (h : ItsC w l cs) (hk : KeepTag 2 w w') : ItsC w' l cs :=
 ⟨h.1, fun i it hi => let ⟨vn, h1, h2⟩ := h.2 i it hi; ⟨vn, h1.keep hk, h2⟩⟩
theorem ItsC.snoc {w : World} {l : List Itm} {cs : List Value} (h : ItsC w l cs) {it : Itm} {vn : Value} (hn : NumS w vn it.nums) : ItsC w (l ++ [it]) (cs ++ it.cells vn) := by
 refine ⟨by rw [List.length_append, List.length_append, h.1]; simp [Itm.cells]; omega, fun i x hi => ?_⟩
 by_cases hl : i < l.length
 ·rw [List.getElem?_append_left hl] at hi
  obtain ⟨vn', h1, h2⟩ := h.2 i x hi
  refine ⟨vn', h1, fun j u hu => ?_⟩
  have := h2 j u hu
  rw [List.getElem?_append_left (List.getElem?_eq_some_iff.1 this).1]
  exact this
 ·rw [List.getElem?_append_right (by omega)] at hi
  have hz : i - l.length = 0 := by
   have := (List.getElem?_eq_some_iff.1 hi).1
   simp at this
   omega
  rw [hz] at hi
  simp at hi
  subst hi
  refine ⟨vn, hn, fun j u hu => ?_⟩
  rw [List.getElem?_append_right (by rw [h.1]; omega), h.1, show i * 5 + j - l.length * 5 = j by omega]
  exact hu
theorem Tryz.infoItem : (Tryz.prog.info? 71).map (fun i => (i.zero, i.size, i.bytes)) = some (some (.agg #[.int .i64 0, .int .i64 0, .int .u8 0, .string ⟨#[]⟩, .slice none 0 0]), 5, 64) := by kernel_rfl
/-- The cells of a verb's item. -/
def phraseC (it : Itm) : Array Value := #[.int .i64 it.how, .int .i64 it.at_, .int .u8 it.fn, .string ⟨#[]⟩, .slice none 0 0]
theorem cells5 (w : World) (a b c d e : Value) (t : TypeId) {g : Nat} (hg : g = w.heap.size) : ∀ (j : Nat) (u : Value), [a, b, c, d, e][j]? = some u → (w.alloc (.cells #[a, b, c, d, e] t)).cell? ((⟨g, 0, none⟩ : Addr).add j) = some u := by
 subst hg
 intro j u hj
 rw [Addr.add_lit, Nat.zero_add, cell_of_row _ _ _ _ _ _ (heap_alloc_new w _)]
 simpa using hj
set_option maxHeartbeats 1000000 in
set_option maxRecDepth 100000 in
/-- The closure puts its item behind what has been read. -/
theorem done_any (B bo bit : Nat) (vo : Value) (it : Itm) (n : Nat) (cs : List Value) (w : World) (hB : B ≤ w.heap.size) (hob : Blk w bo 63 #[vo]) (hown : w.ownsRow B 71 5 vo n cs) (hit : Blk w bit 71 (phraseC it)) (hn : n ≤ 100000) :
  Calls Tryz.prog 54 #[.pointer (some ⟨bo, 0, none⟩), .pointer (some ⟨bit, 0, none⟩)] w fun e w' => e = .returned (.tuple #[]) ∧ ∃ g cap, Blk w' bo 63 #[.slice (some ⟨g, 0, none⟩) (n + 1) cap] ∧
   w'.ownsRow B 71 5 (.slice (some ⟨g, 0, none⟩) (n + 1) cap) (n + 1) (cs ++ (phraseC it).toList) ∧ Chg (fun k => k = bo ∨ vo.ownBlock = some k) w w' ∧ (vo.ownBlock = some g ∨ w.heap.size ≤ g) := by
 obtain ⟨i0, hi, hz0, hz1, hz2⟩ := info_parts Tryz.infoItem
 have hne := hob.own_ne hown (by decide)
 have c0 : w.cell? ⟨bo, 0, none⟩ = some vo := hob.cell 0
 have f0 := hob.froz 0
 have d0 : w.cell? ⟨bit, 0, none⟩ = some (.int .i64 it.how) := hit.cell 0
 have d1 : w.cell? ⟨bit, 1, none⟩ = some (.int .i64 it.at_) := hit.cell 1
 have d2 : w.cell? ⟨bit, 2, none⟩ = some (.int .u8 it.fn) := hit.cell 2
 have d3 : w.cell? ⟨bit, 3, none⟩ = some (.string ⟨#[]⟩) := hit.cell 3
 have d4 : w.cell? ⟨bit, 4, none⟩ = some (.slice none 0 0) := hit.cell 4
 have hlo := hob.lt
 obtain ⟨a, cap, rfl⟩ := own_form hown
 have HO := Lib.hid hob
 clear hit
 go_enter Tryz.func54, Tryz.ntmps54
 go_wp2_with (at_builtin; refine wpList_append_lies _ rfl (.tmp 2) (.tmp 4) 63 rfl B 71 i0 (.agg #[.int .i64 0, .int .i64 0, .int .u8 0, .string ⟨#[]⟩, .slice none 0 0]) 5 64 Tryz.underlying63 hi hz0 hz1 hz2 rfl (by decide) _ _ _ rfl (hown.alloc _) ⟨w.heap.size, 0, none⟩ 1 1 [.int .i64 it.how, .int .i64 it.at_, .int .u8 it.fn, .string ⟨#[]⟩, .slice none 0 0] rfl rfl ?c1 ?c2 (by decide) ?c3 ?c4 ?c5 _ rfl ?_)
 case c1 => exact cells5 _ _ _ _ _ _ _ rfl
 case c2 => intro u hu; simp at hu; rcases hu with rfl | rfl | rfl | rfl | rfl <;> rfl
 case c3 => unfold maxLen; omega
 case c4 => omega
 case c5 => simp; omega
 intro g cap' w2 hown2 hg2 hat hlt2
 have hob2 : Blk w2 bo 63 #[.slice a n cap] := (hg2.block bo (by simp; omega) (fun e => hne e.symm)).trans (HO.out.alloc _)
 have c2 : w2.cell? ⟨bo, 0, none⟩ = some (.slice a n cap) := hob2.cell 0
 have f2 := hob2.froz 0
 go_wp2
 go_end0
 refine ⟨rfl, g, cap', ?_, ?_, ?_, ?_⟩
 ·exact hob2.put _
 ·exact own_tag hown2 (KeepTag.set hob2 (by decide) _ _)
 ·refine ⟨hg2.os, hg2.tape, hg2.output, ?_, ?_⟩
  ·have := hg2.size
   simp [World.setCell] at this ⊢
   omega
  ·intro k hk h1
   rw [Below.heap_setCell _ _ _ _ (fun e => h1 (.inl e)), hg2.block k (by simp; omega) (fun e => h1 (.inr e.symm))]
   exact Below.heap_alloc _ _ _ hk
 ·rcases hat with h | h
  ·exact .inl h
  ·right
   rw [h]
   simp
end
end Go.Proofs.YtknnleiinhdklaaGreatDoor
