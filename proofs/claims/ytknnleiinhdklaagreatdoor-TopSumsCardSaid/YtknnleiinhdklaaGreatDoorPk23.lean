/-
  Walk of package show: expr, at items that may be shown. Condition: the items lie in memory; the library's variables are as they were laid.
-/
import Derived.Deep.RegionLaw
import Derived.Deep.DeepMust
import Derived.Test.YtknnleiinhdklaaGreatDoorPk22
namespace Go.Proofs.YtknnleiinhdklaaGreatDoor
open Go.RowKit Go.Shelf Go.Sort Go.Maps
/-- What a round of expr begins with. -/
structure ExAt (w wr : World) (v : Value) (us : List Value) (st : List Pc) (k : Nat) (rest : List Itm) (q : Pc) : Prop where
 pcs : PcsO wr w.heap.size v us st
 run : RunS rest st [q]
 sum : sumT st ≤ 3 * k
 len : st.length ≤ k
 fine : ∀ p ∈ st, p.fine
 bel : Below w.heap.size w wr
theorem wr_nat (n : Nat) (h : n ≤ 1000000) : wrap64 (n : Int) = (n : Int) ∧ IntKind.i64.wrap (n : Int) = (n : Int) := ⟨by unfold wrap64; omega, by rw [IntKind.wrap_i64]; omega⟩
theorem wr_pred (n : Nat) (h : n ≤ 1000000) : wrap64 ((n : Int) + 2 - 1) = (n : Int) + 1 ∧ IntKind.i64.wrap ((n : Int) + 2 - 1) = (n : Int) + 1 := ⟨by unfold wrap64; omega, by rw [IntKind.wrap_i64]; omega⟩
theorem wr_succ (n : Nat) (h : n ≤ 1000000) : wrap64 ((n : Int) + 1) = (n : Int) + 1 ∧ IntKind.i64.wrap ((n : Int) + 1) = (n : Int) + 1 := ⟨by unfold wrap64; omega, by rw [IntKind.wrap_i64]; omega⟩
theorem wr_sum (a b : Nat) (ha : a ≤ 1000000) (hb : b ≤ 1000000) : wrap64 ((a : Int) + 1 + (b : Int)) = (a : Int) + 1 + (b : Int) ∧ IntKind.i64.wrap ((a : Int) + 1 + (b : Int)) = (a : Int) + 1 + (b : Int) := ⟨by unfold wrap64; omega, by rw [IntKind.wrap_i64]; omega⟩
theorem wr_last {n k : Nat} (hk : n = k + 1) (h : n ≤ 1000000) : wrap64 ((n : Int) - 1) = (k : Int) ∧ IntKind.i64.wrap ((n : Int) - 1) = (k : Int) := ⟨by unfold wrap64; omega, by rw [IntKind.wrap_i64]; omega⟩
theorem wr_two (n : Nat) (h : n ≤ 1000000) : wrap64 ((n : Int) + 2) = (n : Int) + 2 ∧ IntKind.i64.wrap ((n : Int) + 2) = (n : Int) + 2 := ⟨by unfold wrap64; omega, by rw [IntKind.wrap_i64]; omega⟩
theorem wr_sum2 (a b : Nat) (ha : a ≤ 1000000) (hb : b ≤ 1000000) : wrap64 ((a : Int) + 1 + ((b : Int) + 2)) = (a : Int) + 1 + ((b : Int) + 2) ∧ IntKind.i64.wrap ((a : Int) + 1 + ((b : Int) + 2)) = (a : Int) + 1 + ((b : Int) + 2) := ⟨by unfold wrap64; omega, by rw [IntKind.wrap_i64]; omega⟩
theorem wr_add (a b : Nat) (ha : a ≤ 1000000) (hb : b ≤ 1000000) : wrap64 ((a : Int) + (b : Int)) = ((a + b : Nat) : Int) ∧ IntKind.i64.wrap ((a : Int) + (b : Int)) = ((a + b : Nat) : Int) := ⟨by unfold wrap64; omega, by rw [IntKind.wrap_i64]; omega⟩
theorem StrO.first {w : World} {B g n c : Nat} {l : List (List UInt8)} (h : StrO w B (.slice (Option.some ⟨g, 0, none⟩) n c) l) (hl : 0 < l.length) {x : List UInt8} (hx : x = l.getD 0 []) : w.cell? ⟨g, 0, none⟩ = Option.some (.string (mkS x)) := by
 have h1 := World.ownsRow.cells h (g := g) rfl 0 (.string (mkS x)) (strsC_get (by rw [hx, List.getD_eq_getElem?_getD, List.getElem?_eq_getElem hl]; rfl))
 exact h1
theorem StrO.froz {w : World} {B g n c : Nat} {l : List (List UInt8)} (h : StrO w B (.slice (Option.some ⟨g, 0, none⟩) n c) l) (hl : 0 < l.length) (j : Nat) : w.frozen? ⟨g, j, none⟩ = false := by
 obtain ⟨a, c', he⟩ := own_form h
 obtain ⟨g', cap, he2, _, _, _, _, _, hf⟩ := own_cells h (by omega)
 injection he2 with he2 _ _
 injection he2 with he2
 injection he2 with he2
 subst he2
 exact hf j
theorem StrO.lit (w1 : World) (b : Nat) (o : Obj) (hb : b ≤ w1.heap.size) (t : List UInt8) : StrO ((w1.alloc o).alloc (.cells #[.string (mkS t)] 9)) b (.slice (Option.some ⟨w1.heap.size + 1, 0, none⟩) 1 1) [t] :=
 StrO.one (w1.alloc o) b (by rw [World.size_alloc]; omega) t (by rw [World.size_alloc])
theorem below_two {B : Nat} {a w1 : World} (h : Below B a w1) (hb : B ≤ w1.heap.size) (o1 o2 : Obj) : Below B a ((w1.alloc o1).alloc o2) := (h.alloc hb o1).alloc (by rw [World.size_alloc]; omega) o2
theorem join_short (M : Nat) : ∀ l : List (List UInt8), (∀ s ∈ l, s.length ≤ M) → (Lib.join l [32]).length ≤ l.length * (M + 1)
 | [], _ => Nat.zero_le _
 | x :: r, h => by
  rw [Lib.join_cons, List.length_append]
  have h1 := h x (by simp)
  have key : ∀ l : List (List UInt8), (∀ s ∈ l, s.length ≤ M) → (Lib.joinTail [32] l).length ≤ l.length * (M + 1) := by
   intro l
   induction l with
   | nil => intro _; exact Nat.zero_le _
   | cons y l ih =>
    intro hl
    have h2 := hl y (by simp)
    have h3 := ih fun s hs => hl s (by simp [hs])
    unfold Lib.joinTail at h3 ⊢
    rw [List.map_cons, List.flatten_cons, List.length_append, List.length_append, show (y :: l).length = l.length + 1 from rfl, Nat.add_mul, List.length_singleton]
    omega
  have h2 := key r fun s hs => h s (by simp [hs])
  rw [List.length_cons, Nat.add_mul]
  omega
/-- Two pieces put together: the stack below them, the left one's row of texts, the right one's, and the right piece's box. -/
structure DyAt (w W : World) (b16 : Nat) (ur : List Value) (r : List Pc) (g8 rl c8 gl Ll cl : Nat) (ws : List (List UInt8)) (a2 : Value) (vs : List (List UInt8)) (pn pt : Int) : Prop where
 hv : W.ownsRow w.heap.size 194 4 (.slice (some ⟨g8, 0, none⟩) rl c8) rl (pcsC ur r)
 rows : RowsP W w.heap.size ur r
 left : StrO W w.heap.size (.slice (some ⟨gl, 0, none⟩) Ll cl) ws
 len : Ll = ws.length
 apart : ∀ x ∈ ur, x.ownBlock ≠ some gl
 right : StrO W w.heap.size a2 vs
 rne : a2.ownBlock ≠ some gl
 k16 : Blk W b16 194 #[a2, .int .i64 pn, .int .i64 pt, .bool false]
 bel : Below w.heap.size w W
 b16l : w.heap.size ≤ b16
 rlen : rl = r.length
 g8ne : g8 ≠ b16
theorem DyAt.below {w W W' : World} {b16 : Nat} {ur : List Value} {r : List Pc} {g8 rl c8 gl Ll cl : Nat} {ws : List (List UInt8)} {a2 : Value} {vs : List (List UInt8)} {pn pt : Int} (h : DyAt w W b16 ur r g8 rl c8 gl Ll cl ws a2 vs pn pt) (hb : Below W.heap.size W W') : DyAt w W' b16 ur r g8 rl c8 gl Ll cl ws a2 vs pn pt :=
 ⟨own_below h.hv hb, h.rows.below hb, h.left.below hb, h.len, h.apart, h.right.below hb, h.rne, h.k16.below hb, h.bel.trans (hb.mono h.bel.size), h.b16l, h.rlen, h.g8ne⟩
/-- What is left when both rows are one. -/
structure DyEnd (w W : World) (b16 : Nat) (ur : List Value) (r : List Pc) (g8 rl c8 : Nat) (u : Value) (us : List (List UInt8)) : Prop where
 hv : W.ownsRow w.heap.size 194 4 (.slice (some ⟨g8, 0, none⟩) rl c8) rl (pcsC ur r)
 rows : RowsP W w.heap.size ur r
 row : StrO W w.heap.size u us
 apart : ∀ x ∈ ur, x.ownBlock ≠ u.ownBlock
 bel : Below w.heap.size w W
 b16l : w.heap.size ≤ b16
 rlen : rl = r.length
 g8ne : g8 ≠ b16
theorem DyEnd.set {w W : World} {b16 : Nat} {ur : List Value} {r : List Pc} {g8 rl c8 : Nat} {u : Value} {us : List (List UInt8)} (h : DyEnd w W b16 ur r g8 rl c8 u us) {cs : Array Value} (hk : Blk W b16 194 cs) (o : Nat) (x : Value) : DyEnd w (W.setCell ⟨b16, o, none⟩ x) b16 ur r g8 rl c8 u us := by
 have hkt : KeepTag 9 W (W.setCell ⟨b16, o, none⟩ x) := KeepTag.set hk (by decide) o x
 refine ⟨?_, h.rows.tag hkt, h.row.tag hkt, h.apart, below_set h.bel h.b16l _, h.b16l, h.rlen, h.g8ne⟩
 refine ⟨h.hv.1, ?_⟩
 rcases h.hv.2 with h0 | ⟨g, cap, cur, he, hb, hg, rest⟩
 ·exact .inl h0
 ·have he0 := he
  injection he with he1 _ _
  injection he1 with he1
  injection he1 with he1
  exact .inr ⟨g, cap, cur, he0, hb, (Below.heap_setCell W ⟨b16, o, none⟩ x g (by rw [← he1]; exact h.g8ne)).trans hg, rest⟩
theorem DyAt.joined {w W w6 w7 : World} {b16 : Nat} {ur : List Value} {r : List Pc} {g8 rl c8 gl Ll cl n : Nat} {ws : List (List UInt8)} {a2 : Value} {vs : List (List UInt8)} {pn pt : Int} {a6 : Option Addr} {c6 : Nat} (h : DyAt w W b16 ur r g8 rl c8 gl Ll cl ws a2 vs pn pt) (hg : W.grownBy w6 (Value.slice (some ⟨gl, 0, none⟩) Ll cl).ownBlock) (ho : w6.ownsRow w.heap.size 9 1 (.slice a6 n c6) n (strsC ws ++ strsC vs))
  (hl : (Value.slice a6 n c6).ownBlock = (Value.slice (some ⟨gl, 0, none⟩) Ll cl).ownBlock ∨ (Value.slice a6 n c6).ownBlock = some W.heap.size) (h7 : w7 = w6.setCell ⟨b16, 0, none⟩ (.slice a6 n c6)) : DyEnd w w7 b16 ur r g8 rl c8 (.slice a6 n c6) (ws ++ vs) := by
 have hrow : StrO w6 w.heap.size (.slice a6 n c6) (ws ++ vs) := by
  have e : n = (ws ++ vs).length := by
   have := ho.1
   unfold strsC at this
   rw [List.length_append, List.length_map, List.length_map, Nat.mul_one] at this
   rw [List.length_append]
   exact this.symm
  unfold StrO strsC
  rw [List.map_append, ← e]
  exact ho
 have hk6 : Blk w6 b16 194 _ := h.k16.keep (KeepTag.own hg h.left (by decide))
 have hend : DyEnd w w6 b16 ur r g8 rl c8 (.slice a6 n c6) (ws ++ vs) := by
  refine ⟨own_tag h.hv (KeepTag.own hg h.left (by decide)), h.rows.keep hg (fun x hx => .inr (h.apart x hx)), hrow, fun x hx e => ?_, h.bel.grown hg h.bel.size (fun k hk => (h.left.lt k hk).1), h.b16l, h.rlen, h.g8ne⟩
  rcases hl with hl | hl
  ·exact h.apart x hx (e.trans hl)
  ·have := h.rows.lt x hx W.heap.size (e.trans hl)
   omega
 rw [h7]
 exact hend.set hk6 0 _
theorem DyAt.store {w W : World} {b16 : Nat} {ur : List Value} {r : List Pc} {g8 rl c8 gl Ll cl : Nat} {ws : List (List UInt8)} {a2 : Value} {vs : List (List UInt8)} {pn pt : Int} (h : DyAt w W b16 ur r g8 rl c8 gl Ll cl ws a2 vs pn pt) (i : Nat) (x : List UInt8) :
  DyAt w (W.setCell ⟨gl, i, none⟩ (.string (mkS x))) b16 ur r g8 rl c8 gl Ll cl (ws.set i x) a2 vs pn pt ∧ ∀ t, t ≠ 9 → KeepTag t W (W.setCell ⟨gl, i, none⟩ (.string (mkS x))) := by
 have hl := h.left
 unfold StrO at hl
 rw [← h.len] at hl
 obtain ⟨o2, g2⟩ := World.ownsRow.stored hl i (.string (mkS x))
 have hk : ∀ t, t ≠ 9 → KeepTag t W (W.setCell ⟨gl, i, none⟩ (.string (mkS x))) := fun t ht => KeepTag.own (v := .slice (some ⟨gl, 0, none⟩) Ll cl) g2 hl ht
 refine ⟨⟨own_tag h.hv (hk _ (by decide)), h.rows.keep g2 (fun y hy => .inr (h.apart y hy)), ?_, by rw [List.length_set]; exact h.len, h.apart, h.right.kept g2 (.inr h.rne), h.rne, h.k16.keep (hk _ (by decide)), h.bel.grown g2 h.bel.size (fun k hk => by injection hk with hk; subst hk; exact (hl.lt gl rfl).1), h.b16l, h.rlen, h.g8ne⟩, hk⟩
 unfold StrO strsC
 rw [List.length_set, ← h.len, List.map_set]
 exact o2
theorem StrO.nth {w : World} {B g n c : Nat} {l : List (List UInt8)} (h : StrO w B (.slice (Option.some ⟨g, 0, none⟩) n c) l) {i : Nat} (hl : i < l.length) {x : List UInt8} (hx : x = l.getD i []) : w.cell? ⟨g, i, none⟩ = Option.some (.string (mkS x)) := by
 have h1 := World.ownsRow.cells h (g := g) rfl i (.string (mkS x)) (strsC_get (by rw [hx, List.getD_eq_getElem?_getD, List.getElem?_eq_getElem hl]; rfl))
 rw [Addr.add_lit, Nat.zero_add] at h1
 exact h1
theorem DyAt.setbox {w W : World} {b16 b17 : Nat} {ur : List Value} {r : List Pc} {g8 rl c8 gl Ll cl : Nat} {ws : List (List UInt8)} {a2 : Value} {vs : List (List UInt8)} {pn pt : Int} (h : DyAt w W b16 ur r g8 rl c8 gl Ll cl ws a2 vs pn pt) {cs : Array Value} (hk : Blk W b17 194 cs) (hne : b16 ≠ b17) (hg : g8 ≠ b17) (hb : w.heap.size ≤ b17) (o : Nat) (x : Value) :
  DyAt w (W.setCell ⟨b17, o, none⟩ x) b16 ur r g8 rl c8 gl Ll cl ws a2 vs pn pt := by
 have hkt : KeepTag 9 W (W.setCell ⟨b17, o, none⟩ x) := KeepTag.set hk (by decide) o x
 refine ⟨⟨h.hv.1, ?_⟩, h.rows.tag hkt, h.left.tag hkt, h.len, h.apart, h.right.tag hkt, h.rne, h.k16.other hne o x, below_set h.bel hb _, h.b16l, h.rlen, h.g8ne⟩
 rcases h.hv.2 with h0 | ⟨g, cap, cur, he, hb, hg', rest⟩
 ·exact .inl h0
 ·have he0 := he
  injection he with he1 _ _
  injection he1 with he1
  injection he1 with he1
  exact .inr ⟨g, cap, cur, he0, hb, (Below.heap_setCell W ⟨b17, o, none⟩ x g (by rw [← he1]; exact hg)).trans hg', rest⟩
theorem DyAt.first {w wr w3 : World} {b16 : Nat} {ur : List Value} {r : List Pc} {g8 rl c8 gl Ll cl : Nat} {l p : Pc} {up a2 : Value} {t : List UInt8} {pn pt : Int} (hb : Below w.heap.size w wr) (hr : RowsP wr w.heap.size ur r)
  (hl : StrO wr w.heap.size (.slice (some ⟨gl, 0, none⟩) l.words.length cl) l.words) (hap : ∀ x ∈ ur, x.ownBlock ≠ (Value.slice (some ⟨gl, 0, none⟩) l.words.length cl).ownBlock)
  (hP : wr.ownsRow w.heap.size 194 4 (.slice (some ⟨g8, 0, none⟩) (r.length + 2) c8) (r.length + 2) (pcsC (ur ++ .slice (some ⟨gl, 0, none⟩) l.words.length cl :: [up]) (r ++ l :: [p]))) (hrl : rl = r.length) (hLl : Ll = l.words.length)
  (h3 : Below wr.heap.size wr w3) (h16 : Blk w3 b16 194 #[a2, .int .i64 pn, .int .i64 pt, .bool false]) (hs : wr.heap.size ≤ b16) (hU : StrO w3 wr.heap.size a2 (t :: p.words)) : DyAt w w3 b16 ur r g8 rl c8 gl Ll cl l.words a2 (t :: p.words) pn pt := by
 subst hrl hLl
 have hg8 := hP.lt g8 rfl
 have hgl := hl.lt gl rfl
 have hlen := hr.len
 have hsplit : pcsC (ur ++ .slice (some ⟨gl, 0, none⟩) l.words.length cl :: [up]) (r ++ l :: [p]) = pcsC ur r ++ (pcC (.slice (some ⟨gl, 0, none⟩) l.words.length cl) l ++ pcC up p) := by
  rw [show ur ++ Value.slice (some ⟨gl, 0, none⟩) l.words.length cl :: [up] = (ur ++ [Value.slice (some ⟨gl, 0, none⟩) l.words.length cl]) ++ [up] by simp, show r ++ l :: [p] = (r ++ [l]) ++ [p] by simp, pcsC_snoc _ _ (by simp [hlen]), pcsC_snoc _ _ hlen, List.append_assoc]
 rw [hsplit] at hP
 exact ⟨own_below (own_less hP (by rw [pcsC_len _ _ hlen]) (by omega) (by simp)) h3, hr.below h3, hl.below h3, rfl, hap, hU.base hb.size, fun e => by have := (hU.lt gl e).1; omega, h16, hb.trans (h3.mono hb.size), Nat.le_trans hb.size hs, rfl, by omega⟩
def ShExPost (w : World) (e : Ending) (w' : World) : Prop := ∃ s : ByteArray, e = .returned (.tuple #[.string s, .bool true]) ∧ s.size ≤ 1000000 ∧ Below w.heap.size w w'
theorem ExAt.next {w wr w2 : World} {v v2 : Value} {us us2 : List Value} {st st2 : List Pc} {k : Nat} {it : Itm} {rest : List Itm} {q : Pc} (h : ExAt w wr v us st k (it :: rest) q) (hs : StS it st st2) (hr : RunS rest st2 [q]) (hp : PcsO w2 w.heap.size v2 us2 st2) (hb : Below w.heap.size w w2) : ExAt w w2 v2 us2 st2 (k + 1) rest q := by
 have h1 := hs.sum
 exact ⟨hp, hr, by have := h.sum; omega, by have := h.len; omega, hs.fine h.fine, hb⟩
set_option maxHeartbeats 8000000 in
set_option maxRecDepth 100000 in
theorem expr_show (B ks k1 k2 m : Nat) (vi : Value) (items : List Itm) (most : Nat) (w : World) (hS : ShowAt w B ks k1 k2 m) (hV : ItsV w vi items) (hok : ExprOk items most) (hm : most ≤ 255) (hE : Env w) (hfn : ∀ it ∈ items, it.fn ≤ 255) :
  Calls Tryz.prog 101 #[.pointer (some ⟨ks, 0, none⟩), vi, .int .i64 most] w (ShExPost w) := by
 obtain ⟨j0, pi, pz0, pz1, pz2⟩ := info_parts Tryz.infoPiece
 obtain ⟨i0, hi, hz0, hz1, hz2⟩ := info_parts Tryz.infoStr
 obtain ⟨hN, q, hrun, hq1, hq2⟩ := hok
 have HS := Lib.hid hS
 have HV := Lib.hid hV
 have HE := Lib.hid hE
 have HFn := Lib.hid hfn
 have HRun := Lib.hid hrun
 obtain ⟨N, hNl⟩ : ∃ N, N = items.length := ⟨_, rfl⟩
 have HN := Lib.hid hNl
 obtain ⟨ai, ci, rfl⟩ := hV.form
 rw [← hNl] at hN ⊢
 clear hS hV hE hfn hrun hNl
 have n0 : ¬ ((most : Int) < (N : Int)) := by omega
 have HQ := Lib.hid (And.intro hq1 hq2)
 clear hq1 hq2
 go_enter Tryz.func101, Tryz.ntmps101
 go_wp2_with fail
 go_loopw [8, 10, 11, 12, 13, 14, 15, 16, 17, 24] (fun v8 _ _ _ _ _ _ _ _ v24 wr => ∃ (k : Nat) (us : List Value) (st : List Pc), k ≤ N ∧ v24 = .int .i64 k ∧ Hid (ExAt w wr v8 us st k (items.drop k) q)) (fun _ _ _ _ _ _ _ _ _ v24 _ => N - (intOf v24).toNat)
 case atStart => exact ⟨0, [], [], Nat.zero_le _, rfl, Lib.hid ⟨PcsO.nil _ _, HRun.out, by simp [sumT], Nat.le_refl _, fun p h => (by cases h), Below.refl _ _⟩⟩
 case round =>
  obtain ⟨k, us, st, hk, rfl, hA⟩ := hrel
  obtain ⟨a8, c8, hf8⟩ := hA.out.pcs.form
  subst hf8
  by_cases hlt : k < N
  ·obtain ⟨it, hit⟩ : ∃ it, items[k]? = some it := ⟨items[k]'(by have := HN.out; omega), List.getElem?_eq_getElem _⟩
   obtain ⟨g, cap, hvi, hg1, hg2, hg3, hg4⟩ := HV.out.at (by have := HN.out; omega)
   rw [← HN.out] at hvi hg1
   injection hvi with hvi1 hvi2 hvi3
   subst hvi1 hvi3
   obtain ⟨vn, hnum, d0, d1, d2, d3, d4⟩ := hg4 k it hit
   have hdr : items.drop k = it :: items.drop (k + 1) := List.drop_eq_getElem_cons (by have := HN.out; omega) |>.trans (by rw [show items[k]'(by have := HN.out; omega) = it from Option.some.inj ((List.getElem?_eq_getElem (by have := HN.out; omega)).symm.trans hit)])
   rw [hdr] at hA
   obtain ⟨st2, hst, hr2⟩ := hA.out.run
   have HSt := Lib.hid hst
   have HR2 := Lib.hid hr2
   have hfn := HFn.out it (List.mem_of_getElem? hit)
   have bc : ∀ j v, w.cell? ⟨g, j, none⟩ = some v → wr.cell? ⟨g, j, none⟩ = some v := fun j v h => (hA.out.bel.cell (p := ⟨g, j, none⟩) hg3).trans h
   have b0 := bc _ _ d0
   have b1 := bc _ _ d1
   have b2 := bc _ _ d2
   have b3 := bc _ _ d3
   have b4 := bc _ _ d4
   have hnum2 : NumS wr vn it.nums := own_below hnum hA.out.bel
   have kI : (k : Int) < N := by omega
   have kI0 : (0 : Int) ≤ k := by omega
   have HLt := Lib.hid hlt
   have HG := Lib.hid hg3
   clear hnum d0 d1 d2 d3 d4
   obtain ⟨how, ia, fn, nm, nums⟩ := it
   dsimp only at b0 b1 b2 b3 b4 hnum2 hfn
   have hcapS : st.length + 1 ≤ maxLen := by have := hA.out.len; unfold maxLen; omega
   have hbyS : (st.length + 1) * 48 ≤ 140737488355328 := by have := hA.out.len; omega
   clear hit hg4 hdr hst hr2 bc hg1 hg2 hg3
   rcases HSt.out with ⟨e1, e2, e3, x, hx, e4, rfl⟩ | ⟨e1, e2, e3, e4, e5, rfl⟩ | ⟨e1, e2, e3, t, n, p, r, hv, e4, rfl⟩ | ⟨e1, e2, e3, t, n, p, l, r, hv, e4, rfl⟩
   ·dsimp only at e1 e2 e3 e4
    subst e1 e2 e3 e4
    obtain ⟨an, cn, hfn1⟩ : ∃ a c, vn = .slice a 1 c := own_form hnum2
    subst hfn1
    have HOp : Hid (∀ W, Below wr.heap.size wr W → Calls Tryz.prog 117 #[.agg #[.int .i64 1, .int .i64 ia, .int .u8 0, .string (mkS []), .slice an 1 cn]] W fun e w' => ∃ u, e = .returned (.tuple #[.agg #[u, .int .i64 0, .int .i64 1, .bool true], .bool true]) ∧ StrO w' W.heap.size u [spelt x] ∧ Below W.heap.size W w') := Lib.hid (fun W hb => operand_num ia x _ W hx (hnum2.keep (KeepTag.below hb)) (HE.out.kept (hA.out.bel.trans (hb.mono hA.out.bel.size))))
    have HB0 := Lib.hid ((Below.refl _ wr).alloc (Nat.le_refl _) (.cells #[.int .i64 1, .int .i64 ia, .int .u8 0, .string (mkS []), .slice an 1 cn] 71))
    obtain ⟨sl, hsl⟩ : ∃ sl, sl = st.length := ⟨_, rfl⟩
    have HSl := Lib.hid hsl
    rw [← hsl] at hcapS hbyS
    have HA8 : Hid (PcsO wr w.heap.size (.slice a8 sl c8) us st) := Lib.hid (by rw [hsl]; exact hA.out.pcs)
    rw [← hsl]
    clear hnum2 hsl hfn
    go_wp2_with (first
     | (go_at_call 117; refine (HOp.out _ HB0.out).mono ?_; rintro _ w1 ⟨u, rfl, hu, hb1⟩; obtain ⟨au, cu, hfu⟩ : ∃ a c, u = .slice a 1 c := own_form hu; subst hfu; have HU := Lib.hid hu; have HB1 := Lib.hid (HB0.out.trans (hb1.mono HB0.out.size)); clear hu hb1)
     | (at_builtin; go_must (refine wpList_append_own_at _ rfl (.tmp 43) (.tmp 45) 192 rfl w.heap.size 194 j0 _ 4 48 Tryz.underlying192 pi pz0 pz1 pz2 rfl (by decide) _ sl (pcsC us st) rfl (by have h := (own_below HA8.out.1 ((HB1.out.alloc (HB1.out.size) (.cells #[.slice au 1 cu, .int .i64 0, .int .i64 1, .bool true] 194)).alloc (by simp; have := HB1.out.size; omega) (.cells #[.slice au 1 cu, .int .i64 0, .int .i64 1, .bool true] 194))); rw [← HSl.out] at h; exact h) ⟨w1.heap.size + 1, 0, none⟩ 1 1 [.slice au 1 cu, .int .i64 0, .int .i64 1, .bool true] rfl rfl (World.news_of_block (cs := #[.slice au 1 cu, .int .i64 0, .int .i64 1, .bool true]) (t := 194) (fr := (0, 0)) (by have h := heap_alloc_new (w1.alloc (.cells #[.slice au 1 cu, .int .i64 0, .int .i64 1, .bool true] 194)) (.cells #[.slice au 1 cu, .int .i64 0, .int .i64 1, .bool true] 194); rwa [World.size_alloc] at h)) (by simp [Value.oneCell']) hcapS hbyS (by have := HB1.out.size; have := hA.out.bel.size; simp; omega) ?_; intro v2 w2 ho2 hg2 _ _; have HO2 := Lib.hid ho2; have HG2 := Lib.hid hg2; clear ho2 hg2)))
    go_roundw
    case rel =>
     have q1 : Below wr.heap.size wr ((w1.alloc (.cells #[.slice au 1 cu, .int .i64 0, .int .i64 1, .bool true] 194)).alloc (.cells #[.slice au 1 cu, .int .i64 0, .int .i64 1, .bool true] 194)) := (HB1.out.alloc HB1.out.size _).alloc (by have := HB1.out.size; simp; omega) _
     have q2 := HU.out.below (((Below.refl _ w1).alloc (Nat.le_refl _) (.cells #[.slice au 1 cu, .int .i64 0, .int .i64 1, .bool true] 194)).alloc (by simp) (.cells #[.slice au 1 cu, .int .i64 0, .int .i64 1, .bool true] 194))
     have q3 : wr.heap.size ≤ (wr.alloc (.cells #[.int .i64 1, .int .i64 ia, .int .u8 0, .string (mkS []), .slice an 1 cn] 71)).heap.size := by simp
     have q4 := HO2.out
     rw [HSl.out] at q4
     have q5 := PcsO.push (p := ⟨[spelt x], 0, 1, true⟩) HA8.out q1 q2 q3 (Nat.le_trans hA.out.bel.size q3) (List.cons_ne_nil _ _) q4 HG2.out
     have q6 : Below w.heap.size w w2 := (hA.out.bel.trans (q1.mono hA.out.bel.size)).grown HG2.out (by have := q1.size; have := hA.out.bel.size; omega) (fun j hj => (HA8.out.1.lt j hj).1)
     exact ⟨k + 1, _, _, HLt.out, by go_num, Lib.hid (hA.out.next HSt.out HR2.out q5 q6)⟩
    case measure => have := HLt.out; simp [intOf]; omega
   ·dsimp only at e1 e2 e3 e4 e5
    subst e1 e2 e3
    obtain ⟨an, cn, rfl⟩ := own_form hnum2
    have HOp : Hid (∀ W, Below wr.heap.size wr W → Calls Tryz.prog 117 #[.agg #[.int .i64 2, .int .i64 ia, .int .u8 0, .string (mkS nm), .slice an 0 cn]] W fun e w' => ∃ u, e = .returned (.tuple #[.agg #[u, .int .i64 0, .int .i64 1, .bool true], .bool true]) ∧ StrO w' W.heap.size u [nm] ∧ Below W.heap.size W w') := Lib.hid (fun W hb => operand_name ia nm an cn W e4 e5 (HE.out.kept (hA.out.bel.trans (hb.mono hA.out.bel.size))).err)
    have HB0 := Lib.hid ((Below.refl _ wr).alloc (Nat.le_refl _) (.cells #[.int .i64 2, .int .i64 ia, .int .u8 0, .string (mkS nm), .slice an 0 cn] 71))
    obtain ⟨sl, hsl⟩ : ∃ sl, sl = st.length := ⟨_, rfl⟩
    have HSl := Lib.hid hsl
    rw [← hsl] at hcapS hbyS
    have HA8 : Hid (PcsO wr w.heap.size (.slice a8 sl c8) us st) := Lib.hid (by rw [hsl]; exact hA.out.pcs)
    rw [← hsl]
    clear hnum2 hsl hfn
    go_wp2_with (first
     | (go_at_call 117; refine (HOp.out _ HB0.out).mono ?_; rintro _ w1 ⟨u, rfl, hu, hb1⟩; obtain ⟨au, cu, hfu⟩ : ∃ a c, u = .slice a 1 c := own_form hu; subst hfu; have HU := Lib.hid hu; have HB1 := Lib.hid (HB0.out.trans (hb1.mono HB0.out.size)); clear hu hb1)
     | (at_builtin; go_must (refine wpList_append_own_at _ rfl (.tmp 43) (.tmp 45) 192 rfl w.heap.size 194 j0 _ 4 48 Tryz.underlying192 pi pz0 pz1 pz2 rfl (by decide) _ sl (pcsC us st) rfl (by have h := (own_below HA8.out.1 ((HB1.out.alloc (HB1.out.size) (.cells #[.slice au 1 cu, .int .i64 0, .int .i64 1, .bool true] 194)).alloc (by simp; have := HB1.out.size; omega) (.cells #[.slice au 1 cu, .int .i64 0, .int .i64 1, .bool true] 194))); rw [← HSl.out] at h; exact h) ⟨w1.heap.size + 1, 0, none⟩ 1 1 [.slice au 1 cu, .int .i64 0, .int .i64 1, .bool true] rfl rfl (World.news_of_block (cs := #[.slice au 1 cu, .int .i64 0, .int .i64 1, .bool true]) (t := 194) (fr := (0, 0)) (by have h := heap_alloc_new (w1.alloc (.cells #[.slice au 1 cu, .int .i64 0, .int .i64 1, .bool true] 194)) (.cells #[.slice au 1 cu, .int .i64 0, .int .i64 1, .bool true] 194); rwa [World.size_alloc] at h)) (by simp [Value.oneCell']) hcapS hbyS (by have := HB1.out.size; have := hA.out.bel.size; simp; omega) ?_; intro v2 w2 ho2 hg2 _ _; have HO2 := Lib.hid ho2; have HG2 := Lib.hid hg2; clear ho2 hg2)))
    go_roundw
    case rel =>
     have q1 : Below wr.heap.size wr ((w1.alloc (.cells #[.slice au 1 cu, .int .i64 0, .int .i64 1, .bool true] 194)).alloc (.cells #[.slice au 1 cu, .int .i64 0, .int .i64 1, .bool true] 194)) := (HB1.out.alloc HB1.out.size _).alloc (by have := HB1.out.size; simp; omega) _
     have q2 := HU.out.below (((Below.refl _ w1).alloc (Nat.le_refl _) (.cells #[.slice au 1 cu, .int .i64 0, .int .i64 1, .bool true] 194)).alloc (by simp) (.cells #[.slice au 1 cu, .int .i64 0, .int .i64 1, .bool true] 194))
     have q3 : wr.heap.size ≤ (wr.alloc (.cells #[.int .i64 2, .int .i64 ia, .int .u8 0, .string (mkS nm), .slice an 0 cn] 71)).heap.size := by simp
     have q4 := HO2.out
     rw [HSl.out] at q4
     have q5 := PcsO.push (p := ⟨[nm], 0, 1, true⟩) HA8.out q1 q2 q3 (Nat.le_trans hA.out.bel.size q3) (List.cons_ne_nil _ _) q4 HG2.out
     have q6 : Below w.heap.size w w2 := (hA.out.bel.trans (q1.mono hA.out.bel.size)).grown HG2.out (by have := q1.size; have := hA.out.bel.size; omega) (fun j hj => (HA8.out.1.lt j hj).1)
     exact ⟨k + 1, _, _, HLt.out, by go_num, Lib.hid (hA.out.next HSt.out HR2.out q5 q6)⟩
    case measure => have := HLt.out; simp [intOf]; omega
   ·dsimp only at e1 e2 e3
    subst e1 e2 e4
    obtain ⟨an, cn, hfn1⟩ : ∃ a c, vn = .slice a 0 c := own_form hnum2
    subst hfn1
    have hh : how = 3 ∨ how = 5 := by
     rcases hv.2.2 with ⟨h, _⟩ | ⟨h, _⟩ | ⟨h, _⟩
     ·exact .inl h
     ·exact absurd h e3
     ·exact .inr h
    have x1 : (how == 1) = false := by rw [beq_eq_false_iff_ne]; omega
    have x2 : (how == 2) = false := by rw [beq_eq_false_iff_ne]; omega
    have x4 : (how == 4) = false := by rw [beq_eq_false_iff_ne]; omega
    have x7 : (how == 7) = false := by rw [beq_eq_false_iff_ne]; omega
    have x3 : ¬ how < 3 := by omega
    have x8 : ¬ 7 < how := by omega
    have hem : (mkS []).toList = [] := by rw [ByteArray.toList_eq, mkS_toList]
    have hne : ((mkS t).toList == []) = false := by rw [beq_eq_false_iff_ne, ByteArray.toList_eq, mkS_toList]; exact hv.1
    have HVb : Hid (∀ W, Below wr.heap.size wr W → Calls Tryz.prog 118 #[.pointer (some ⟨ks, 0, none⟩), .agg #[.int .i64 how, .int .i64 ia, .int .u8 fn, .string (mkS []), .slice an 0 cn]] W fun e w' => e = .returned (.tuple #[.string (mkS t), .int .i64 n]) ∧ Below W.heap.size W w') := Lib.hid (fun W hb => sverb_any B ks k1 k2 m how ia fn [] t n _ W (HS.out.below (hA.out.bel.trans (hb.mono hA.out.bel.size))) hv hfn)
    obtain ⟨ur, up, rfl, hR1, hR2, hR3⟩ := hA.out.pcs.2.init
    have HR := Lib.hid (And.intro hR1 (And.intro hR2 hR3))
    obtain ⟨g8, cap8, he8, h81, h82, h83, h84, c0, c1, c2, c3⟩ := own_piece (us := ur) (ps := r) (ur := []) (pr := []) hA.out.pcs.1 hR1.len (by simp)
    injection he8 with he1 he2 he3
    subst he1 he3
    have hpf := hA.out.fine p (by simp)
    have hps := hA.out.sum
    rw [sumT_append, sumT_one] at hps
    obtain ⟨gw, cw, rfl, hw1, hw2, hw3, hw4, hw5, _⟩ := own_cells hR2 (by have := List.length_pos_iff.2 hpf.1; omega)
    obtain ⟨rl, hrl⟩ : ∃ rl, rl = r.length := ⟨_, rfl⟩
    have HRl := Lib.hid hrl
    have e8 : (r ++ [p]).length = rl + 1 := by rw [List.length_append, ← hrl]; rfl
    have HO8 : Hid (wr.ownsRow w.heap.size 194 4 (.slice (some ⟨g8, 0, none⟩) (rl + 1) c8) (rl + 1) (pcsC ur r ++ pcC (.slice (some ⟨gw, 0, none⟩) p.words.length cw) p)) := Lib.hid (by have h := hA.out.pcs.1; rw [pcsC_snoc ur r hR1.len, e8] at h; exact h)
    have HW5 : Hid (∀ j u, (strsC p.words)[j]? = some u → wr.cell? ⟨gw, j, none⟩ = some u) := Lib.hid (fun j u h => by
     have hj := (List.getElem?_eq_some_iff.1 h).1
     unfold strsC at hj
     rw [List.length_map] at hj
     exact (hw5 j (by omega)).trans h)
    have hrl2 : rl ≤ 255 := by have := hA.out.len; omega
    rw [e8] at hcapS hbyS h81 ⊢
    rw [← hrl] at c0 c1 c2 c3
    obtain ⟨Lw, hLw⟩ : ∃ L, L = p.words.length := ⟨_, rfl⟩
    have HLw := Lib.hid hLw
    rw [← hLw] at c0 hw3 HO8
    obtain ⟨pt, hpt⟩ : ∃ x, x = p.tokens := ⟨_, rfl⟩
    obtain ⟨pn, hpn⟩ : ∃ x, x = p.nest := ⟨_, rfl⟩
    have HPt := Lib.hid (And.intro hpt hpn)
    have hLw2 : Lw ≤ pt := by have := hpf.2.1; omega
    rw [← hpt] at c2 hps
    rw [← hpn] at c1
    have hv2 := hv.two
    have HVt := Lib.hid hv
    have hpt2 : pt ≤ 765 := Nat.le_trans (Nat.le_trans (Nat.le_add_left _ _) hps) (Nat.mul_le_mul_left 3 (Nat.le_trans hk (Nat.le_trans hN hm)))
    obtain ⟨hwr1, hwr2⟩ := wr_nat rl (Nat.le_trans hrl2 (by decide))
    obtain ⟨hwt1, hwt2⟩ := wr_add pt n (Nat.le_trans hpt2 (by decide)) (Nat.le_trans hv2.2.1 (by decide))
    have rI : (rl : Int) < (rl : Int) + 1 := Int.lt_add_one_of_le (Int.le_refl _)
    have rI0 : (0 : Int) ≤ (rl : Int) := Int.natCast_nonneg rl
    have HB0 := Lib.hid ((Below.refl _ wr).alloc (Nat.le_refl _) (.cells #[.int .i64 how, .int .i64 ia, .int .u8 fn, .string (mkS []), .slice an 0 cn] 71))
    have rC : (rl : Int) ≤ (c8 : Int) := Int.ofNat_le.2 (Nat.le_of_succ_le h81)
    have HNw : Hid (∀ W, Below wr.heap.size wr W → ∀ (j : Nat) (u : Value), (strsC p.words)[j]? = some u → W.cell? ((⟨gw, 0, none⟩ : Addr).add j) = some u) := Lib.hid (fun W hb j u h => by
     rw [Addr.add_lit, Nat.zero_add]
     exact (hb.cell (p := ⟨gw, j, none⟩) hw2).trans (HW5.out j u h))
    have HC := Lib.hid (And.intro h84 (And.intro c0 (And.intro c1 (And.intro c2 c3))))
    clear hnum2 hfn hR1 hR2 hR3 hpf hw5 hrl e8 hLw hpt hpn hv c0 c1 c2 c3 h83 hw1 hw4 e3 hh he2 hcapS hbyS hps hv2
    go_upto_region 23 with (go_at_call 118; refine (HVb.out _ HB0.out).mono ?_; rintro _ w1 ⟨rfl, hb1⟩; have hb2 := HB0.out.trans (hb1.mono HB0.out.size); have c0 := (hb2.cell (p := ⟨g8, _, none⟩) HC.out.1).trans HC.out.2.1; have c1 := (hb2.cell (p := ⟨g8, _, none⟩) HC.out.1).trans HC.out.2.2.1; have c2 := (hb2.cell (p := ⟨g8, _, none⟩) HC.out.1).trans HC.out.2.2.2.1; have c3 := (hb2.cell (p := ⟨g8, _, none⟩) HC.out.1).trans HC.out.2.2.2.2; have HB1 := Lib.hid hb2; clear hb1 hb2)
    have hs1 := HB1.out.size
    have HLit := Lib.hid (StrO.lit w1 wr.heap.size (.cells #[.slice (some ⟨gw, 0, none⟩) Lw cw, .int .i64 pn, .int .i64 ((pt : Int) + (n : Int)), .bool false] 194) hs1 t)
    have HB2 := Lib.hid (below_two HB1.out hs1 (.cells #[.slice (some ⟨gw, 0, none⟩) Lw cw, .int .i64 pn, .int .i64 ((pt : Int) + (n : Int)), .bool false] 194) (.cells #[.string (mkS t)] 9))
    have HNw2 := Lib.hid (HNw.out _ HB2.out)
    have HBx := Lib.hid ((Blk.new w1 194 #[.slice (some ⟨gw, 0, none⟩) Lw cw, .int .i64 pn, .int .i64 ((pt : Int) + (n : Int)), .bool false] rfl).alloc (.cells #[.string (mkS t)] 9))
    have HSl : Hid ((strsC p.words).length = Lw * 1 ∧ (∀ u ∈ strsC p.words, u.oneCell' = true) ∧ 1 + Lw ≤ maxLen ∧ (1 + Lw) * 16 ≤ 140737488355328) := Lib.hid ⟨by unfold strsC; rw [List.length_map, HLw.out, Nat.mul_one], fun u hu => by unfold strsC at hu; obtain ⟨x, _, rfl⟩ := List.mem_map.1 hu; rfl, by clear hwt1 hwt2 hwr1 hwr2; unfold maxLen; omega, by clear hwt1 hwt2 hwr1 hwr2; omega⟩
    have HB2s : Hid (wr.heap.size ≤ ((w1.alloc (.cells #[.slice (some ⟨gw, 0, none⟩) Lw cw, .int .i64 pn, .int .i64 ((pt : Int) + (n : Int)), .bool false] 194)).alloc (.cells #[.string (mkS t)] 9)).heap.size) := Lib.hid HB2.out.size
    clear c0 c1 c2 c3 hs1
    go_upto_region 34 with (at_builtin; go_must (refine wpList_append_own_at _ rfl (.tmp 101) (.tmp 103) 49 rfl wr.heap.size 9 i0 (.string ⟨#[]⟩) 1 16 Tryz.underlying49 hi hz0 hz1 hz2 rfl (by decide) _ 1 [.string (mkS t)] rfl HLit.out ⟨gw, 0, none⟩ Lw cw (strsC p.words) rfl HSl.out.1 HNw2.out HSl.out.2.1 HSl.out.2.2.1 HSl.out.2.2.2 HB2s.out ?_; intro v2 w2 ho2 hg2 _ hl2; obtain ⟨a2, c2, hf2⟩ := own_form ho2; subst hf2; have hb16 := HBx.out.keep (KeepTag.own hg2 HLit.out (by decide)); have y0 := (hb16.cell 0).trans (show _ = some (Value.slice (some ⟨gw, 0, none⟩) Lw cw) from rfl); have yf := Blk.froz hb16; have HO2 := Lib.hid ho2; have HG2 := Lib.hid hg2; have HB16 := Lib.hid hb16; clear ho2 hg2 hl2 hb16))
    have HB3a : Hid (Below wr.heap.size wr w2) := Lib.hid (HB2.out.grown HG2.out HB2s.out (fun j hj => (HLit.out.lt j hj).1))
    obtain ⟨w3, hw3⟩ : ∃ W, W = w2.setCell ⟨w1.heap.size, 0, none⟩ (.slice a2 (1 + Lw) c2) := ⟨_, rfl⟩
    rw [← hw3]
    have HB3 : Hid (Below wr.heap.size wr w3) := Lib.hid (by rw [hw3]; exact below_set HB3a.out HB1.out.size _)
    have HB16b : Hid (Blk w3 w1.heap.size 194 #[.slice a2 (1 + Lw) c2, .int .i64 pn, .int .i64 ((pt : Int) + (n : Int)), .bool false]) := Lib.hid (by rw [hw3]; exact HB16.out.set40 _)
    have HU : Hid (StrO w3 wr.heap.size (.slice a2 (1 + Lw) c2) (monP t n p).words) := Lib.hid (by
     have h := HO2.out
     rw [hw3]
     refine StrO.tag ?_ (KeepTag.set HB16.out (by decide) 0 _)
     unfold StrO
     show World.ownsRow w2 wr.heap.size 9 1 _ (p.words.length + 1) (.string (mkS t) :: strsC p.words)
     rw [← HLw.out, Nat.add_comm Lw 1]
     exact h)
    have y0 := (HB16b.out.cell 0).trans (show _ = some (Value.slice a2 (1 + Lw) c2) from rfl)
    have y1 := (HB16b.out.cell 1).trans (show _ = some (Value.int .i64 pn) from rfl)
    have y2 := (HB16b.out.cell 2).trans (show _ = some (Value.int .i64 ((pt : Int) + (n : Int))) from rfl)
    have y3 := (HB16b.out.cell 3).trans (show _ = some (Value.bool false) from rfl)
    have HPr : Hid (PcsO wr w.heap.size (.slice (some ⟨g8, 0, none⟩) rl c8) ur r) := Lib.hid ⟨by rw [← HRl.out]; exact own_less HO8.out (by rw [pcsC_len _ _ HR.out.1.len, HRl.out]) (Nat.le_succ _) (by simp), HR.out.1⟩
    have HOl : Hid (((w3.alloc (.cells #[.slice a2 (1 + Lw) c2, .int .i64 pn, .int .i64 ((pt : Int) + (n : Int)), .bool false] 194)).drew).ownsRow w.heap.size 194 4 (.slice (some ⟨g8, 0, none⟩) rl c8) rl (pcsC ur r)) := Lib.hid (by
     have h := (HPr.out.below HB3.out).1
     rw [← HRl.out] at h
     exact (h.alloc _).drew)
    have HBl : Hid (Below wr.heap.size wr ((w3.alloc (.cells #[.slice a2 (1 + Lw) c2, .int .i64 pn, .int .i64 ((pt : Int) + (n : Int)), .bool false] 194)).drew)) := Lib.hid (HB3.out.alloc HB3.out.size _).drew
    have HSz : Hid (w.heap.size ≤ ((w3.alloc (.cells #[.slice a2 (1 + Lw) c2, .int .i64 pn, .int .i64 ((pt : Int) + (n : Int)), .bool false] 194)).drew).heap.size ∧ rl + 1 ≤ maxLen ∧ (rl + 1) * 48 ≤ 140737488355328) := Lib.hid ⟨Nat.le_trans hA.out.bel.size HBl.out.size, by clear hwt1 hwt2 hwr1 hwr2; unfold maxLen; omega, by clear hwt1 hwt2 hwr1 hwr2; omega⟩
    clear yf hw3
    go_region_law (refine step_append_lies _ (by rfl) _ _ _ (by rfl) w.heap.size 194 j0 _ 4 48 Tryz.underlying192 pi pz0 pz1 pz2 rfl (by decide) (.slice (some ⟨g8, 0, none⟩) rl c8) rl (pcsC ur r) (by rfl) HOl.out ⟨w3.heap.size, 0, none⟩ 1 1 [.slice a2 (1 + Lw) c2, .int .i64 pn, .int .i64 ((pt : Int) + (n : Int)), .bool false] (by rfl) (by rfl) (World.news_of_block (cs := #[.slice a2 (1 + Lw) c2, .int .i64 pn, .int .i64 ((pt : Int) + (n : Int)), .bool false]) (t := 194) (fr := (0, 0)) (heap_alloc_new w3 _)) (by simp [Value.oneCell']) (by decide) HSz.out.2.1 HSz.out.2.2 HSz.out.1 (w3.heap.size + 1) (by simp) ?_; intro g9 cap9 w9 hown9 hg9 hat9 hlt9; have HO9 := Lib.hid hown9; have HG9 := Lib.hid hg9; clear hown9 hg9 hat9 hlt9)
    go_wp2
    go_roundw
    case rel =>
     have q2 : StrO ((w3.alloc (.cells #[.slice a2 (1 + Lw) c2, .int .i64 pn, .int .i64 ((pt : Int) + (n : Int)), .bool false] 194)).drew) wr.heap.size (.slice a2 (1 + Lw) c2) (monP t n p).words := HU.out.below ((Below.refl _ w3).alloc (Nat.le_refl _) _).drew
     have q4 : w9.ownsRow w.heap.size 194 4 (.slice (some ⟨g9, 0, none⟩) (rl + 1) cap9) (r.length + 1) (pcsC ur r ++ pcC (.slice a2 (1 + Lw) c2) (monP t n p)) := by
      have h := HO9.out
      unfold pcC monP
      dsimp only
      rw [← HRl.out, ← HPt.out.1, ← HPt.out.2, Int.natCast_add]
      exact h
     have q5 := PcsO.push HPr.out HBl.out q2 (Nat.le_refl _) hA.out.bel.size (List.cons_ne_nil _ _) q4 HG9.out
     have q6 : Below w.heap.size w w9 := (hA.out.bel.trans (HBl.out.mono hA.out.bel.size)).grown HG9.out (Nat.le_trans hA.out.bel.size HBl.out.size) (fun j hj => (HPr.out.1.lt j hj).1)
     exact ⟨k + 1, _, _, HLt.out, by go_num, Lib.hid (hA.out.next HSt.out HR2.out q5 q6)⟩
    case measure => have := HLt.out; clear hwt1 hwt2 hwr1 hwr2; simp [intOf]; omega
   ·dsimp only at e1 e2 e3
    subst e1 e2 e3 e4
    obtain ⟨an, cn, hfn1⟩ : ∃ a c, vn = .slice a 0 c := own_form hnum2
    subst hfn1
    have hem : (mkS []).toList = [] := by rw [ByteArray.toList_eq, mkS_toList]
    have hne : ((mkS t).toList == []) = false := by rw [beq_eq_false_iff_ne, ByteArray.toList_eq, mkS_toList]; exact hv.1
    have HVb : Hid (∀ W, Below wr.heap.size wr W → Calls Tryz.prog 118 #[.pointer (some ⟨ks, 0, none⟩), .agg #[.int .i64 4, .int .i64 ia, .int .u8 fn, .string (mkS []), .slice an 0 cn]] W fun e w' => e = .returned (.tuple #[.string (mkS t), .int .i64 n]) ∧ Below W.heap.size W w') := Lib.hid (fun W hb => sverb_any B ks k1 k2 m 4 ia fn [] t n _ W (HS.out.below (hA.out.bel.trans (hb.mono hA.out.bel.size))) hv hfn)
    have hP := hA.out.pcs
    have e8 : (r ++ [l, p]).length = r.length + 2 := by rw [List.length_append]; rfl
    rw [e8] at hP hcapS hbyS ⊢
    rw [show r ++ [l, p] = (r ++ [l]) ++ [p] by simp] at hP
    have hpf := hA.out.fine p (by simp)
    have hlf := bracket_fine (hA.out.fine l (by simp))
    have hlf0 := hA.out.fine l (by simp)
    have hps := hA.out.sum
    rw [sumT_append, sumT_two] at hps
    have hrl2 : r.length ≤ 255 := by have := hA.out.len; rw [e8] at this; omega
    obtain ⟨us1, up, rfl, hR1, hR2, hR3⟩ := hP.2.init
    obtain ⟨ur, ul, rfl, hQ1, hQ2, hQ3⟩ := hR1.init
    have hP1 : wr.ownsRow w.heap.size 194 4 (.slice a8 (r.length + 2) c8) (r.length + 2) (pcsC (ur ++ ul :: [up]) (r ++ l :: [p])) := by
     have h := hP.1
     rw [List.append_assoc, List.append_assoc, List.length_append] at h
     exact h
    obtain ⟨g8, cap8, he8, h81, h82, h83, h84, c0, c1, c2, c3⟩ := own_piece (us := ur) (ps := r) (ur := [up]) (pr := [p]) hP1 hQ1.len (by omega)
    injection he8 with he1 he2 he3
    subst he1 he3
    have hP2 : wr.ownsRow w.heap.size 194 4 (.slice (some ⟨g8, 0, none⟩) (r.length + 2) c8) (r.length + 2) (pcsC ((ur ++ [ul]) ++ up :: []) ((r ++ [l]) ++ p :: [])) := by
     have h := hP1
     rw [List.append_assoc, List.append_assoc]
     exact h
    obtain ⟨g9, cap9, he8, _, _, _, _, d0, d1, d2, d3⟩ := own_piece (us := ur ++ [ul]) (ps := r ++ [l]) (ur := []) (pr := []) hP2 hR1.len (by rw [List.length_append]; show r.length + 1 < _; omega)
    injection he8 with he1 he2 he3
    injection he1 with he1
    injection he1 with he1
    subst he1
    rw [List.length_append, List.length_singleton] at d0 d1 d2 d3
    obtain ⟨gw, cw, rfl, hw1, hw2, hw3, hw4, hw5, _⟩ := own_cells hR2 (by have := List.length_pos_iff.2 hpf.1; omega)
    obtain ⟨gl, cl, rfl, hl1, hl2, hl3, hl4, hl5, _⟩ := own_cells hQ2 (by have := List.length_pos_iff.2 hlf0.1; omega)
    have hgne : gl ≠ gw := fun e => hR3 _ (List.mem_append_right _ (List.mem_singleton.2 rfl)) (by rw [e]; rfl)
    have HR := Lib.hid (And.intro hQ1 (And.intro hQ2 (And.intro hQ3 (And.intro hR2 hP1))))
    have HGne := Lib.hid hgne
    have HW5 : Hid (∀ j u, (strsC p.words)[j]? = some u → wr.cell? ⟨gw, j, none⟩ = some u) := Lib.hid (fun j u h => by
     have hj := (List.getElem?_eq_some_iff.1 h).1
     unfold strsC at hj
     rw [List.length_map] at hj
     exact (hw5 j (by omega)).trans h)
    obtain ⟨rl, hrl⟩ : ∃ rl, rl = r.length := ⟨_, rfl⟩
    have HRl := Lib.hid hrl
    rw [← hrl] at c0 c1 c2 c3 d0 d1 d2 d3 h81 hcapS hbyS hrl2 ⊢
    obtain ⟨Lw, hLw⟩ : ∃ L, L = p.words.length := ⟨_, rfl⟩
    have HLw := Lib.hid hLw
    rw [← hLw] at d0 hw3
    obtain ⟨Ll, hLl⟩ : ∃ L, L = l.words.length := ⟨_, rfl⟩
    have HLl := Lib.hid hLl
    rw [← hLl] at c0 hl3
    obtain ⟨pt, hpt⟩ : ∃ x, x = p.tokens := ⟨_, rfl⟩
    obtain ⟨pn, hpn⟩ : ∃ x, x = p.nest := ⟨_, rfl⟩
    obtain ⟨lt, hlt0⟩ : ∃ x, x = l.tokens := ⟨_, rfl⟩
    obtain ⟨ln, hln0⟩ : ∃ x, x = l.nest := ⟨_, rfl⟩
    obtain ⟨lp, hlp0⟩ : ∃ x, x = l.plain := ⟨_, rfl⟩
    have HPt := Lib.hid (And.intro hpt (And.intro hpn (And.intro hlt0 (And.intro hln0 hlp0))))
    have hLw2 : Lw ≤ pt := by have := hpf.2.1; rw [hLw, hpt]; exact this
    have hLl2 : Ll ≤ lt := by have := hlf0.2.1; rw [hLl, hlt0]; exact this
    rw [← hpt, ← hlt0] at hps
    rw [← hpt] at d2
    rw [← hpn] at d1
    rw [← hlt0] at c2
    rw [← hln0] at c1
    rw [← hlp0] at c3
    have hv2 := hv.two
    have hn1 : n = 1 := hv2.2.2 rfl
    subst hn1
    have hall : sumT r + (lt + pt) ≤ 765 := Nat.le_trans hps (Nat.mul_le_mul_left 3 (Nat.le_trans hk (Nat.le_trans hN hm)))
    have hpt2 : pt ≤ 765 := Nat.le_trans (Nat.le_trans (Nat.le_add_left _ _) (Nat.le_add_left _ _)) hall
    have hlt2 : lt ≤ 765 := Nat.le_trans (Nat.le_trans (Nat.le_add_right _ _) (Nat.le_add_left _ _)) hall
    have HFi := Lib.hid (And.intro hpf (And.intro hlf hlf0))
    obtain ⟨hwr1, hwr2⟩ := wr_nat rl (Nat.le_trans hrl2 (by decide))
    obtain ⟨hwq1, hwq2⟩ := wr_pred rl (Nat.le_trans hrl2 (by decide))
    obtain ⟨hwt1, hwt2⟩ := wr_succ pt (Nat.le_trans hpt2 (by decide))
    have rI : (rl : Int) < (rl : Int) + 2 := by clear hwr1 hwr2 hwq1 hwq2 hwt1 hwt2; omega
    have rI2 : (rl : Int) + 1 < (rl : Int) + 2 := by clear hwr1 hwr2 hwq1 hwq2 hwt1 hwt2; omega
    have rI0 : (0 : Int) ≤ (rl : Int) := Int.natCast_nonneg rl
    have rI1 : (0 : Int) ≤ (rl : Int) + 1 := Int.le_add_one rI0
    have rT : ¬ (rl : Int) + 2 < 2 := by clear hwr1 hwr2 hwq1 hwq2 hwt1 hwt2; omega
    have HB0 := Lib.hid ((Below.refl _ wr).alloc (Nat.le_refl _) (.cells #[.int .i64 4, .int .i64 ia, .int .u8 fn, .string (mkS []), .slice an 0 cn] 71))
    have rC : (rl : Int) ≤ (c8 : Int) := Int.ofNat_le.2 (Nat.le_trans (Nat.le_add_right _ 2) h81)
    have HNw : Hid (∀ W, Below wr.heap.size wr W → ∀ (j : Nat) (u : Value), (strsC p.words)[j]? = some u → W.cell? ((⟨gw, 0, none⟩ : Addr).add j) = some u) := Lib.hid (fun W hb j u h => by
     rw [Addr.add_lit, Nat.zero_add]
     exact (hb.cell (p := ⟨gw, j, none⟩) hw2).trans (HW5.out j u h))
    have HC := Lib.hid (And.intro h84 (And.intro d0 (And.intro d1 (And.intro d2 d3))))
    have HCl := Lib.hid (And.intro h84 (And.intro c0 (And.intro c1 (And.intro c2 c3))))
    clear hnum2 hfn hR1 hR2 hR3 hQ1 hQ2 hQ3 hpf hlf hlf0 hw5 hl5 hrl e8 hLw hLl hpt hpn hlt0 hln0 hlp0 c0 c1 c2 c3 d0 d1 d2 d3 h83 hw1 hw4 hl1 hl4 hcapS hbyS hps hv2 hP hP1 hP2 he2 he3 hv hgne h82 hall
    go_upto_region 23 with (go_at_call 118; refine (HVb.out _ HB0.out).mono ?_; rintro _ w1 ⟨rfl, hb1⟩; have hb2 := HB0.out.trans (hb1.mono HB0.out.size); have d0 := (hb2.cell (p := ⟨g8, _, none⟩) HC.out.1).trans HC.out.2.1; have d1 := (hb2.cell (p := ⟨g8, _, none⟩) HC.out.1).trans HC.out.2.2.1; have d2 := (hb2.cell (p := ⟨g8, _, none⟩) HC.out.1).trans HC.out.2.2.2.1; have d3 := (hb2.cell (p := ⟨g8, _, none⟩) HC.out.1).trans HC.out.2.2.2.2; have HB1 := Lib.hid hb2; clear hb1 hb2)
    have hs1 := HB1.out.size
    have HLit := Lib.hid (StrO.lit w1 wr.heap.size (.cells #[.slice (some ⟨gw, 0, none⟩) Lw cw, .int .i64 pn, .int .i64 ((pt : Int) + 1), .bool false] 194) hs1 t)
    have HB2 := Lib.hid (below_two HB1.out hs1 (.cells #[.slice (some ⟨gw, 0, none⟩) Lw cw, .int .i64 pn, .int .i64 ((pt : Int) + 1), .bool false] 194) (.cells #[.string (mkS t)] 9))
    have HNw2 := Lib.hid (HNw.out _ HB2.out)
    have HBx := Lib.hid ((Blk.new w1 194 #[.slice (some ⟨gw, 0, none⟩) Lw cw, .int .i64 pn, .int .i64 ((pt : Int) + 1), .bool false] rfl).alloc (.cells #[.string (mkS t)] 9))
    have HSl : Hid ((strsC p.words).length = Lw * 1 ∧ (∀ u ∈ strsC p.words, u.oneCell' = true) ∧ 1 + Lw ≤ maxLen ∧ (1 + Lw) * 16 ≤ 140737488355328) := Lib.hid ⟨by unfold strsC; rw [List.length_map, HLw.out, Nat.mul_one], fun u hu => by unfold strsC at hu; obtain ⟨x, _, rfl⟩ := List.mem_map.1 hu; rfl, by clear hwt1 hwt2 hwr1 hwr2 hwq1 hwq2; unfold maxLen; omega, by clear hwt1 hwt2 hwr1 hwr2 hwq1 hwq2; omega⟩
    have HB2s : Hid (wr.heap.size ≤ ((w1.alloc (.cells #[.slice (some ⟨gw, 0, none⟩) Lw cw, .int .i64 pn, .int .i64 ((pt : Int) + 1), .bool false] 194)).alloc (.cells #[.string (mkS t)] 9)).heap.size) := Lib.hid HB2.out.size
    clear d0 d1 d2 d3 hs1
    go_upto_region 25 with (at_builtin; go_must (refine wpList_append_own_at _ rfl (.tmp 101) (.tmp 103) 49 rfl wr.heap.size 9 i0 (.string ⟨#[]⟩) 1 16 Tryz.underlying49 hi hz0 hz1 hz2 rfl (by decide) _ 1 [.string (mkS t)] rfl HLit.out ⟨gw, 0, none⟩ Lw cw (strsC p.words) rfl HSl.out.1 HNw2.out HSl.out.2.1 HSl.out.2.2.1 HSl.out.2.2.2 HB2s.out ?_; intro v2 w2 ho2 hg2 _ hl2; obtain ⟨a2, c2, hf2⟩ := own_form ho2; subst hf2; have hb16 := HBx.out.keep (KeepTag.own hg2 HLit.out (by decide)); have y0 := (hb16.cell 0).trans (show _ = some (Value.slice (some ⟨gw, 0, none⟩) Lw cw) from rfl); have yf := Blk.froz hb16; have HO2 := Lib.hid ho2; have HG2 := Lib.hid hg2; have HB16 := Lib.hid hb16; clear ho2 hg2 hl2 hb16))
    have HB3a : Hid (Below wr.heap.size wr w2) := Lib.hid (HB2.out.grown HG2.out HB2s.out (fun j hj => (HLit.out.lt j hj).1))
    obtain ⟨w3, hw3⟩ : ∃ W, W = w2.setCell ⟨w1.heap.size, 0, none⟩ (.slice a2 (1 + Lw) c2) := ⟨_, rfl⟩
    rw [← hw3]
    have HB3 : Hid (Below wr.heap.size wr w3) := Lib.hid (by rw [hw3]; exact below_set HB3a.out HB1.out.size _)
    have HB16b : Hid (Blk w3 w1.heap.size 194 #[.slice a2 (1 + Lw) c2, .int .i64 pn, .int .i64 ((pt : Int) + 1), .bool false]) := Lib.hid (by rw [hw3]; exact HB16.out.set40 _)
    have HU : Hid (StrO w3 wr.heap.size (.slice a2 (1 + Lw) c2) (t :: p.words)) := Lib.hid (by
     have h := HO2.out
     rw [hw3]
     refine StrO.tag ?_ (KeepTag.set HB16.out (by decide) 0 _)
     unfold StrO
     show World.ownsRow w2 wr.heap.size 9 1 _ (p.words.length + 1) (.string (mkS t) :: strsC p.words)
     rw [← HLw.out, Nat.add_comm Lw 1]
     exact h)
    obtain ⟨g2, cq2, hq2, hg2a, hg2b⟩ := World.ownsRow.form HU.out (by simp)
    injection hq2 with hq2 hq2b hq2c
    subst hq2
    clear hg2a hg2b hq2b hq2c
    have HB16s : Hid (w1.heap.size < w3.heap.size) := Lib.hid HB16b.out.lt
    have HD0 : Hid (DyAt w w3 w1.heap.size ur r g8 rl c8 gl Ll cl l.words (.slice (some ⟨g2, 0, none⟩) (1 + Lw) c2) (t :: p.words) pn ((pt : Int) + 1)) := Lib.hid (DyAt.first hA.out.bel HR.out.1 HR.out.2.1 HR.out.2.2.1 HR.out.2.2.2.2 HRl.out HLl.out HB3.out HB16b.out HB1.out.size HU.out)
    have c0 := (HB3.out.cell (p := ⟨g8, _, none⟩) HCl.out.1).trans HCl.out.2.1
    have c1 := (HB3.out.cell (p := ⟨g8, _, none⟩) HCl.out.1).trans HCl.out.2.2.1
    have c2' := (HB3.out.cell (p := ⟨g8, _, none⟩) HCl.out.1).trans HCl.out.2.2.2.1
    have c3 := (HB3.out.cell (p := ⟨g8, _, none⟩) HCl.out.1).trans HCl.out.2.2.2.2
    clear yf y0 hw3
    go_upto_region 26 with fail
    cases lp with
    | true =>
     go_upto_region 31 with fail
     obtain ⟨w5, hw5⟩ : ∃ W, W = w3.alloc (.cells #[.slice (some ⟨gl, 0, none⟩) Ll cl, .int .i64 ln, .int .i64 lt, .bool true] 194) := ⟨_, rfl⟩
     rw [← hw5]
     have hbr : bracket l = l := by unfold bracket; rw [← HPt.out.2.2.2.2]; rfl
     have HD : Hid (DyAt w w5 w1.heap.size ur r g8 rl c8 gl Ll cl (bracket l).words (.slice (some ⟨g2, 0, none⟩) (1 + Lw) c2) (t :: p.words) pn ((pt : Int) + 1)) := Lib.hid (by rw [hbr, hw5]; exact HD0.out.below ((Below.refl _ _).alloc (Nat.le_refl _) _))
     have HK17 : Hid (Blk w5 w3.heap.size 194 #[.slice (some ⟨gl, 0, none⟩) Ll cl, .int .i64 ln, .int .i64 lt, .bool true]) := Lib.hid (by rw [hw5]; exact Blk.new w3 _ _ rfl)
     have HBr : Hid ((bracket l).nest = ln ∧ (bracket l).tokens = lt) := Lib.hid (by rw [hbr]; exact ⟨HPt.out.2.2.2.1.symm, HPt.out.2.2.1.symm⟩)
     obtain ⟨hwu1, hwu2⟩ := wr_sum pt lt (Nat.le_trans hpt2 (by decide)) (Nat.le_trans hlt2 (by decide))
     clear hw5 hbr c0 c1 c2' c3
     have x16 := (HD.out.k16.cell 0).trans (show _ = some (Value.slice (some ⟨g2, 0, none⟩) (1 + Lw) c2) from rfl)
     have x17 := (HK17.out.cell 0).trans (show _ = some (Value.slice (some ⟨gl, 0, none⟩) Ll cl) from rfl)
     have HOL : Hid (w5.ownsRow w.heap.size 9 1 (.slice (some ⟨gl, 0, none⟩) Ll cl) Ll (strsC (bracket l).words)) := Lib.hid (by have h := HD.out.left; unfold StrO at h; rw [← HD.out.len] at h; exact h)
     have HNr : Hid (∀ (j : Nat) (u : Value), (strsC (t :: p.words))[j]? = some u → w5.cell? ((⟨g2, 0, none⟩ : Addr).add j) = some u) := Lib.hid (HD.out.right.cells rfl)
     have HSr : Hid ((strsC (t :: p.words)).length = (1 + Lw) * 1 ∧ (∀ u ∈ strsC (t :: p.words), u.oneCell' = true) ∧ Ll + (1 + Lw) ≤ maxLen ∧ (Ll + (1 + Lw)) * 16 ≤ 140737488355328 ∧ w.heap.size ≤ w5.heap.size) := Lib.hid ⟨by unfold strsC; rw [List.length_map, List.length_cons, ← HLw.out]; exact (Nat.add_comm _ _).trans (Nat.mul_one _).symm, fun u hu => by unfold strsC at hu; obtain ⟨x, _, rfl⟩ := List.mem_map.1 hu; rfl, by clear hwt1 hwt2 hwr1 hwr2 hwq1 hwq2 hwu1 hwu2; unfold maxLen; omega, by clear hwt1 hwt2 hwr1 hwr2 hwq1 hwq2 hwu1 hwu2; omega, HD.out.bel.size⟩
     go_upto_region 32 with (at_builtin; go_must (refine wpList_append_own_at _ rfl (.tmp 144) (.tmp 146) 49 rfl w.heap.size 9 i0 (.string ⟨#[]⟩) 1 16 Tryz.underlying49 hi hz0 hz1 hz2 rfl (by decide) _ Ll (strsC (bracket l).words) rfl HOL.out ⟨g2, 0, none⟩ (1 + Lw) c2 (strsC (t :: p.words)) rfl HSr.out.1 HNr.out HSr.out.2.1 HSr.out.2.2.1 HSr.out.2.2.2.1 HSr.out.2.2.2.2 ?_; intro v6 w6 ho6 hg6 _ hl6; obtain ⟨a6, c6, hf6⟩ := own_form ho6; subst hf6; have hb16 := HD.out.k16.keep (KeepTag.own hg6 HOL.out (by decide)); have hb17 := HK17.out.keep (KeepTag.own hg6 HOL.out (by decide)); have y16 := (hb16.cell 0).trans (show _ = some (Value.slice (some ⟨g2, 0, none⟩) (1 + Lw) c2) from rfl); have y16f := Blk.froz hb16; have HO6 := Lib.hid ho6; have HG6 := Lib.hid hg6; have HL6 := Lib.hid hl6; have HB6 := Lib.hid (And.intro hb16 hb17); clear ho6 hg6 hl6 hb16 hb17))
     obtain ⟨w7, hw7⟩ : ∃ W, W = w6.setCell ⟨w1.heap.size, 0, none⟩ (.slice a6 (Ll + (1 + Lw)) c6) := ⟨_, rfl⟩
     rw [← hw7]
     have HK7 : Hid (Blk w7 w1.heap.size 194 #[.slice a6 (Ll + (1 + Lw)) c6, .int .i64 pn, .int .i64 ((pt : Int) + 1), .bool false] ∧ Blk w7 w3.heap.size 194 #[.slice (some ⟨gl, 0, none⟩) Ll cl, .int .i64 ((ln : Int)), .int .i64 ((lt : Int)), .bool true]) := Lib.hid (by rw [hw7]; exact ⟨HB6.out.1.set40 _, HB6.out.2.other (Nat.ne_of_gt HB16s.out) _ _⟩)
     have HD7 := Lib.hid (HD.out.joined HG6.out HO6.out HL6.out hw7)
     have z1 := (HK7.out.1.cell 1).trans (show _ = some (Value.int .i64 pn) from rfl)
     have z2 := (HK7.out.1.cell 2).trans (show _ = some (Value.int .i64 ((pt : Int) + 1)) from rfl)
     have zf := Blk.froz HK7.out.1
     have u1 := (HK7.out.2.cell 1).trans (show _ = some (Value.int .i64 ((ln : Int))) from rfl)
     have u2 := (HK7.out.2.cell 2).trans (show _ = some (Value.int .i64 ((lt : Int))) from rfl)
     clear x16 x17 y16 y16f hw7
     go_upto_region 34 with fail
     obtain ⟨w8, hw8⟩ : ∃ W, W = (w7.setCell ⟨w1.heap.size, 2, none⟩ (.int .i64 ((pt : Int) + 1 + ((lt : Int))))).setCell ⟨w1.heap.size, 1, none⟩ (.int .i64 (max (pn : Int) ((ln : Int)))) := ⟨_, rfl⟩
     rw [← hw8]
     have HK8 : Hid (Blk w8 w1.heap.size 194 #[.slice a6 (Ll + (1 + Lw)) c6, .int .i64 (max (pn : Int) ((ln : Int))), .int .i64 ((pt : Int) + 1 + ((lt : Int))), .bool false]) := Lib.hid (by rw [hw8]; exact (HK7.out.1.set42 _).set41 _)
     have HD8 : Hid (DyEnd w w8 w1.heap.size ur r g8 rl c8 (.slice a6 (Ll + (1 + Lw)) c6) ((bracket l).words ++ (t :: p.words))) := Lib.hid (by rw [hw8]; exact (HD7.out.set HK7.out.1 2 _).set (HK7.out.1.set42 _) 1 _)
     have y0 := (HK8.out.cell 0).trans (show _ = some (Value.slice a6 (Ll + (1 + Lw)) c6) from rfl)
     have y1 := (HK8.out.cell 1).trans (show _ = some (Value.int .i64 (max (pn : Int) ((ln : Int)))) from rfl)
     have y2 := (HK8.out.cell 2).trans (show _ = some (Value.int .i64 ((pt : Int) + 1 + ((lt : Int)))) from rfl)
     have y3 := (HK8.out.cell 3).trans (show _ = some (Value.bool false) from rfl)
     have HOl : Hid (((w8.alloc (.cells #[.slice a6 (Ll + (1 + Lw)) c6, .int .i64 (max (pn : Int) ((ln : Int))), .int .i64 ((pt : Int) + 1 + ((lt : Int))), .bool false] 194)).drew).ownsRow w.heap.size 194 4 (.slice (some ⟨g8, 0, none⟩) rl c8) rl (pcsC ur r)) := Lib.hid ((HD8.out.hv.alloc _).drew)
     have HBl : Hid (Below w.heap.size w ((w8.alloc (.cells #[.slice a6 (Ll + (1 + Lw)) c6, .int .i64 (max (pn : Int) ((ln : Int))), .int .i64 ((pt : Int) + 1 + ((lt : Int))), .bool false] 194)).drew)) := Lib.hid (HD8.out.bel.alloc HD8.out.bel.size _).drew
     have HSz : Hid (w.heap.size ≤ ((w8.alloc (.cells #[.slice a6 (Ll + (1 + Lw)) c6, .int .i64 (max (pn : Int) ((ln : Int))), .int .i64 ((pt : Int) + 1 + ((lt : Int))), .bool false] 194)).drew).heap.size ∧ rl + 1 ≤ maxLen ∧ (rl + 1) * 48 ≤ 140737488355328) := Lib.hid ⟨HBl.out.size, by clear hwt1 hwt2 hwr1 hwr2 hwq1 hwq2 hwu1 hwu2; unfold maxLen; omega, by clear hwt1 hwt2 hwr1 hwr2 hwq1 hwq2 hwu1 hwu2; omega⟩
     clear hw8 z1 z2 zf u1 u2
     go_region_law (refine step_append_lies _ (by rfl) _ _ _ (by rfl) w.heap.size 194 j0 _ 4 48 Tryz.underlying192 pi pz0 pz1 pz2 rfl (by decide) (.slice (some ⟨g8, 0, none⟩) rl c8) rl (pcsC ur r) (by rfl) HOl.out ⟨w8.heap.size, 0, none⟩ 1 1 [.slice a6 (Ll + (1 + Lw)) c6, .int .i64 (max (pn : Int) ((ln : Int))), .int .i64 ((pt : Int) + 1 + ((lt : Int))), .bool false] (by rfl) (by rfl) (World.news_of_block (cs := #[.slice a6 (Ll + (1 + Lw)) c6, .int .i64 (max (pn : Int) ((ln : Int))), .int .i64 ((pt : Int) + 1 + ((lt : Int))), .bool false]) (t := 194) (fr := (0, 0)) (heap_alloc_new w8 _)) (by simp [Value.oneCell']) (by decide) HSz.out.2.1 HSz.out.2.2 HSz.out.1 (w8.heap.size + 1) (by simp) ?_; intro g9 cap9 w9 hown9 hg9 hat9 hlt9; have HO9 := Lib.hid hown9; have HG9 := Lib.hid hg9; clear hown9 hg9 hat9 hlt9)
     go_wp2
     go_roundw
     case rel =>
      have q2 : StrO ((w8.alloc (.cells #[.slice a6 (Ll + (1 + Lw)) c6, .int .i64 (max (pn : Int) ((ln : Int))), .int .i64 ((pt : Int) + 1 + ((lt : Int))), .bool false] 194)).drew) w.heap.size (.slice a6 (Ll + (1 + Lw)) c6) (dyP t 1 p (bracket l)).words := HD8.out.row.below ((Below.refl _ w8).alloc (Nat.le_refl _) _).drew
      have q4 : w9.ownsRow w.heap.size 194 4 (.slice (some ⟨g9, 0, none⟩) (rl + 1) cap9) (r.length + 1) (pcsC ur r ++ pcC (.slice a6 (Ll + (1 + Lw)) c6) (dyP t 1 p (bracket l))) := by
       have h := HO9.out
       have e1 : (((dyP t 1 p (bracket l)).nest : Nat) : Int) = max (pn : Int) ((ln : Int)) := by
        show (((max p.nest (bracket l).nest : Nat)) : Int) = _
        rw [← HPt.out.2.1, HBr.out.1]
        clear hwt1 hwt2 hwr1 hwr2 hwq1 hwq2 hwu1 hwu2
        omega
       have e2 : (((dyP t 1 p (bracket l)).tokens : Nat) : Int) = (pt : Int) + 1 + ((lt : Int)) := by
        show ((p.tokens + 1 + (bracket l).tokens : Nat) : Int) = _
        rw [← HPt.out.1, HBr.out.2]
        clear hwt1 hwt2 hwr1 hwr2 hwq1 hwq2 hwu1 hwu2
        omega
       have e3 : pcC (.slice a6 (Ll + (1 + Lw)) c6) (dyP t 1 p (bracket l)) = [.slice a6 (Ll + (1 + Lw)) c6, .int .i64 (max (pn : Int) ((ln : Int))), .int .i64 ((pt : Int) + 1 + ((lt : Int))), .bool false] := by
        unfold pcC
        rw [e1, e2]
        rfl
       rw [e3, ← HRl.out]
       exact h
      have q3 : PcsO w8 w.heap.size (.slice (some ⟨g8, 0, none⟩) rl c8) ur r := ⟨by rw [← HRl.out]; exact HD8.out.hv, HD8.out.rows⟩
      have q5 := PcsO.push2 q3 ((Below.refl _ w8).alloc (Nat.le_refl _) _).drew q2 HD8.out.apart q4 HG9.out
      have q6 : Below w.heap.size w w9 := HBl.out.grown HG9.out HBl.out.size (fun j hj => (q3.1.lt j hj).1)
      exact ⟨k + 1, _, _, HLt.out, by go_num, Lib.hid (hA.out.next HSt.out HR2.out q5 q6)⟩
     case measure => have := HLt.out; clear hwt1 hwt2 hwr1 hwr2 hwq1 hwq2 hwu1 hwu2; simp [intOf]; omega
    | false =>
     obtain ⟨w0, hw0⟩ : ∃ x, x = l.words.getD 0 [] := ⟨_, rfl⟩
     have hLp : 0 < Ll := by rw [HLl.out]; exact List.length_pos_iff.2 HFi.out.2.2.1
     have HLp := Lib.hid hLp
     have hw0l : w0.length ≤ 2000 := by
      have h1 := HFi.out.2.2.2.2.1 w0 (by rw [hw0]; exact getD_mem (by rw [← HLl.out]; exact hLp))
      rw [← HPt.out.2.2.1] at h1
      exact Nat.le_trans h1 (Nat.le_trans (Nat.add_le_add_left hlt2 100) (by decide))
     have HDa := Lib.hid (fun o => HD0.out.below ((Below.refl _ w3).alloc (Nat.le_refl _) o))
     have cl0 : ∀ o, (w3.alloc o).cell? ⟨gl, 0, none⟩ = some (.string (mkS w0)) := fun o => (HDa.out o).left.first (by rw [← HLl.out]; exact hLp) hw0
     have clf : ∀ o j, (w3.alloc o).frozen? ⟨gl, j, none⟩ = false := fun o j => (HDa.out o).left.froz (by rw [← HLl.out]; exact hLp) j
     have lI : (0 : Int) < (Ll : Int) := Int.ofNat_lt.2 hLp
     have HW0 := Lib.hid hw0
     clear hw0 hLp c0 c1 c2' c3
     go_upto_region 27 with fail
     go_region
     obtain ⟨w4, hw4⟩ : ∃ W, W = ((w3.alloc (.cells #[.slice (some ⟨gl, 0, none⟩) Ll cl, .int .i64 ln, .int .i64 lt, .bool false] 194)).setCell ⟨gl, 0, none⟩ (.string (⟨#[40]⟩ ++ mkS w0))).drew := ⟨_, rfl⟩
     rw [← hw4]
     have e40 : (⟨#[40]⟩ : ByteArray) ++ mkS w0 = mkS (40 :: w0) := smk_append [40] w0
     have HD4 : Hid (DyAt w w4 w1.heap.size ur r g8 rl c8 gl Ll cl (br1 l.words) (.slice (some ⟨g2, 0, none⟩) (1 + Lw) c2) (t :: p.words) pn ((pt : Int) + 1)) := Lib.hid (by
      rw [hw4, e40]
      have h := ((HDa.out (.cells #[.slice (some ⟨gl, 0, none⟩) Ll cl, .int .i64 ln, .int .i64 lt, .bool false] 194)).store 0 (40 :: w0)).1
      rw [HW0.out] at h
      rw [HW0.out]
      exact h.below (Below.drew (Below.refl _ _)))
     have HK4 : Hid (Blk w4 w3.heap.size 194 #[.slice (some ⟨gl, 0, none⟩) Ll cl, .int .i64 ln, .int .i64 lt, .bool false]) := Lib.hid (by
      rw [hw4, e40]
      exact (((HDa.out (.cells #[.slice (some ⟨gl, 0, none⟩) Ll cl, .int .i64 ln, .int .i64 lt, .bool false] 194)).store 0 (40 :: w0)).2 194 (by decide)) _ _ (Blk.new w3 _ _ rfl))
     obtain ⟨L1, hL1⟩ : ∃ L1, Ll = L1 + 1 := ⟨Ll - 1, (Nat.succ_pred_eq_of_pos HLp.out).symm⟩
     have HL1 := Lib.hid hL1
     have hLb : (br1 l.words).length = Ll := by unfold br1; rw [List.length_set, HLl.out]
     obtain ⟨w9, hw9⟩ : ∃ x, x = (br1 l.words).getD L1 [] := ⟨_, rfl⟩
     have hL1lt : L1 < (br1 l.words).length := by rw [hLb, hL1]; exact Nat.lt_succ_self _
     have hw9l : w9.length ≤ 3000 := by
      have h0 := mem_set_or (show w9 ∈ br1 l.words by rw [hw9]; exact getD_mem hL1lt)
      rcases h0 with h0 | h0
      ·have h1 := HFi.out.2.2.2.2.1 w9 h0
       rw [← HPt.out.2.2.1] at h1
       exact Nat.le_trans h1 (Nat.le_trans (Nat.add_le_add_left hlt2 100) (by decide))
      ·rw [h0, List.length_cons, ← HW0.out]
       exact Nat.le_trans (Nat.succ_le_succ hw0l) (by decide)
     have x0 := (HK4.out.cell 0).trans (show _ = some (Value.slice (some ⟨gl, 0, none⟩) Ll cl) from rfl)
     have x1 := (HK4.out.cell 1).trans (show _ = some (Value.int .i64 ln) from rfl)
     have x2 := (HK4.out.cell 2).trans (show _ = some (Value.int .i64 lt) from rfl)
     have xf := Blk.froz HK4.out
     have cl1 := HD4.out.left.nth hL1lt hw9
     have clf1 := HD4.out.left.froz (Nat.lt_of_le_of_lt (Nat.zero_le _) hL1lt)
     obtain ⟨hws1, hws2⟩ := wr_last hL1 (Nat.le_trans hLl2 (Nat.le_trans hlt2 (by decide)))
     have lI1 : (L1 : Int) < (Ll : Int) := Int.ofNat_lt.2 (by rw [hL1]; exact Nat.lt_succ_self _)
     have lI2 : (0 : Int) ≤ (L1 : Int) := Int.natCast_nonneg L1
     have HW9 := Lib.hid hw9
     have HLb := Lib.hid hLb
     clear hw4 hw9 hLb hL1 hL1lt cl0 clf hw0l e40
     go_upto_region 29 with fail
     obtain ⟨w4b, hw4b⟩ : ∃ W, W = w4.setCell ⟨gl, L1, none⟩ (.string (mkS w9 ++ ⟨#[41]⟩)) := ⟨_, rfl⟩
     rw [← hw4b]
     have e41 : mkS w9 ++ (⟨#[41]⟩ : ByteArray) = mkS (w9 ++ [41]) := smk_append w9 [41]
     have hbr : (bracket l).words = br2 (br1 l.words) ∧ (bracket l).nest = ln + 1 ∧ (bracket l).tokens = lt + 2 := by
      have hp : l.plain = false := HPt.out.2.2.2.2.symm
      unfold bracket
      rw [hp]
      exact ⟨rfl, by rw [HPt.out.2.2.2.1]; rfl, by rw [HPt.out.2.2.1]; rfl⟩
     have HD4b : Hid (DyAt w w4b w1.heap.size ur r g8 rl c8 gl Ll cl (bracket l).words (.slice (some ⟨g2, 0, none⟩) (1 + Lw) c2) (t :: p.words) pn ((pt : Int) + 1)) := Lib.hid (by
      rw [hw4b, e41, hbr.1]
      have h := (HD4.out.store L1 (w9 ++ [41])).1
      have e : br2 (br1 l.words) = (br1 l.words).set L1 (w9 ++ [41]) := by
       unfold br2
       rw [HLb.out, HL1.out, Nat.add_sub_cancel, HW9.out]
      rw [e]
      exact h)
     have HK4b : Hid (Blk w4b w3.heap.size 194 #[.slice (some ⟨gl, 0, none⟩) Ll cl, .int .i64 ln, .int .i64 lt, .bool false]) := Lib.hid (by
      rw [hw4b, e41]
      exact (HD4.out.store L1 (w9 ++ [41])).2 _ (by decide) _ _ HK4.out)
     have HBr : Hid ((bracket l).nest = ln + 1 ∧ (bracket l).tokens = lt + 2) := Lib.hid hbr.2
     have hln2 : ln ≤ lt := by have := HFi.out.2.2.2.2.2; rw [← HPt.out.2.2.2.1, ← HPt.out.2.2.1] at this; exact this
     clear x0 x1 x2 xf cl1 clf1 hws1 hws2 lI1 lI2 lI hw4b e41 hbr hw9l
     have x1 := (HK4b.out.cell 1).trans (show _ = some (Value.int .i64 ln) from rfl)
     have x2 := (HK4b.out.cell 2).trans (show _ = some (Value.int .i64 lt) from rfl)
     have xf := Blk.froz HK4b.out
     obtain ⟨hws1, hws2⟩ := wr_succ ln (Nat.le_trans hln2 (Nat.le_trans hlt2 (by decide)))
     obtain ⟨hws3, hws4⟩ := wr_two lt (Nat.le_trans hlt2 (by decide))
     go_upto_region 31 with fail
     obtain ⟨w5, hw5⟩ : ∃ W, W = (w4b.setCell ⟨w3.heap.size, 1, none⟩ (.int .i64 ((ln : Int) + 1))).setCell ⟨w3.heap.size, 2, none⟩ (.int .i64 ((lt : Int) + 2)) := ⟨_, rfl⟩
     rw [← hw5]
     have hg83 : g8 ≠ w3.heap.size := fun e => Nat.lt_irrefl _ (Nat.lt_of_lt_of_le (e ▸ HC.out.1) HB3.out.size)
     have hb3 : w.heap.size ≤ w3.heap.size := HD0.out.bel.size
     have HD : Hid (DyAt w w5 w1.heap.size ur r g8 rl c8 gl Ll cl (bracket l).words (.slice (some ⟨g2, 0, none⟩) (1 + Lw) c2) (t :: p.words) pn ((pt : Int) + 1)) := Lib.hid (by
      rw [hw5]
      exact (HD4b.out.setbox HK4b.out (Nat.ne_of_lt HB16s.out) hg83 hb3 1 _).setbox (HK4b.out.set41 _) (Nat.ne_of_lt HB16s.out) hg83 hb3 2 _)
     have HK17 : Hid (Blk w5 w3.heap.size 194 #[.slice (some ⟨gl, 0, none⟩) Ll cl, .int .i64 ((ln : Int) + 1), .int .i64 ((lt : Int) + 2), .bool false]) := Lib.hid (by rw [hw5]; exact (HK4b.out.set41 _).set42 _)
     clear hws1 hws2 hws3 hws4 x1 x2 xf hw5 hg83 hb3
     obtain ⟨hwu1, hwu2⟩ := wr_sum2 pt lt (Nat.le_trans hpt2 (by decide)) (Nat.le_trans hlt2 (by decide))
     have x16 := (HD.out.k16.cell 0).trans (show _ = some (Value.slice (some ⟨g2, 0, none⟩) (1 + Lw) c2) from rfl)
     have x17 := (HK17.out.cell 0).trans (show _ = some (Value.slice (some ⟨gl, 0, none⟩) Ll cl) from rfl)
     have HOL : Hid (w5.ownsRow w.heap.size 9 1 (.slice (some ⟨gl, 0, none⟩) Ll cl) Ll (strsC (bracket l).words)) := Lib.hid (by have h := HD.out.left; unfold StrO at h; rw [← HD.out.len] at h; exact h)
     have HNr : Hid (∀ (j : Nat) (u : Value), (strsC (t :: p.words))[j]? = some u → w5.cell? ((⟨g2, 0, none⟩ : Addr).add j) = some u) := Lib.hid (HD.out.right.cells rfl)
     have HSr : Hid ((strsC (t :: p.words)).length = (1 + Lw) * 1 ∧ (∀ u ∈ strsC (t :: p.words), u.oneCell' = true) ∧ Ll + (1 + Lw) ≤ maxLen ∧ (Ll + (1 + Lw)) * 16 ≤ 140737488355328 ∧ w.heap.size ≤ w5.heap.size) := Lib.hid ⟨by unfold strsC; rw [List.length_map, List.length_cons, ← HLw.out]; exact (Nat.add_comm _ _).trans (Nat.mul_one _).symm, fun u hu => by unfold strsC at hu; obtain ⟨x, _, rfl⟩ := List.mem_map.1 hu; rfl, by clear hwt1 hwt2 hwr1 hwr2 hwq1 hwq2 hwu1 hwu2; unfold maxLen; omega, by clear hwt1 hwt2 hwr1 hwr2 hwq1 hwq2 hwu1 hwu2; omega, HD.out.bel.size⟩
     go_upto_region 32 with (at_builtin; go_must (refine wpList_append_own_at _ rfl (.tmp 144) (.tmp 146) 49 rfl w.heap.size 9 i0 (.string ⟨#[]⟩) 1 16 Tryz.underlying49 hi hz0 hz1 hz2 rfl (by decide) _ Ll (strsC (bracket l).words) rfl HOL.out ⟨g2, 0, none⟩ (1 + Lw) c2 (strsC (t :: p.words)) rfl HSr.out.1 HNr.out HSr.out.2.1 HSr.out.2.2.1 HSr.out.2.2.2.1 HSr.out.2.2.2.2 ?_; intro v6 w6 ho6 hg6 _ hl6; obtain ⟨a6, c6, hf6⟩ := own_form ho6; subst hf6; have hb16 := HD.out.k16.keep (KeepTag.own hg6 HOL.out (by decide)); have hb17 := HK17.out.keep (KeepTag.own hg6 HOL.out (by decide)); have y16 := (hb16.cell 0).trans (show _ = some (Value.slice (some ⟨g2, 0, none⟩) (1 + Lw) c2) from rfl); have y16f := Blk.froz hb16; have HO6 := Lib.hid ho6; have HG6 := Lib.hid hg6; have HL6 := Lib.hid hl6; have HB6 := Lib.hid (And.intro hb16 hb17); clear ho6 hg6 hl6 hb16 hb17))
     obtain ⟨w7, hw7⟩ : ∃ W, W = w6.setCell ⟨w1.heap.size, 0, none⟩ (.slice a6 (Ll + (1 + Lw)) c6) := ⟨_, rfl⟩
     rw [← hw7]
     have HK7 : Hid (Blk w7 w1.heap.size 194 #[.slice a6 (Ll + (1 + Lw)) c6, .int .i64 pn, .int .i64 ((pt : Int) + 1), .bool false] ∧ Blk w7 w3.heap.size 194 #[.slice (some ⟨gl, 0, none⟩) Ll cl, .int .i64 ((ln : Int) + 1), .int .i64 ((lt : Int) + 2), .bool false]) := Lib.hid (by rw [hw7]; exact ⟨HB6.out.1.set40 _, HB6.out.2.other (Nat.ne_of_gt HB16s.out) _ _⟩)
     have HD7 := Lib.hid (HD.out.joined HG6.out HO6.out HL6.out hw7)
     have z1 := (HK7.out.1.cell 1).trans (show _ = some (Value.int .i64 pn) from rfl)
     have z2 := (HK7.out.1.cell 2).trans (show _ = some (Value.int .i64 ((pt : Int) + 1)) from rfl)
     have zf := Blk.froz HK7.out.1
     have u1 := (HK7.out.2.cell 1).trans (show _ = some (Value.int .i64 ((ln : Int) + 1)) from rfl)
     have u2 := (HK7.out.2.cell 2).trans (show _ = some (Value.int .i64 ((lt : Int) + 2)) from rfl)
     clear x16 x17 y16 y16f hw7
     go_upto_region 34 with fail
     obtain ⟨w8, hw8⟩ : ∃ W, W = (w7.setCell ⟨w1.heap.size, 2, none⟩ (.int .i64 ((pt : Int) + 1 + ((lt : Int) + 2)))).setCell ⟨w1.heap.size, 1, none⟩ (.int .i64 (max (pn : Int) ((ln : Int) + 1))) := ⟨_, rfl⟩
     rw [← hw8]
     have HK8 : Hid (Blk w8 w1.heap.size 194 #[.slice a6 (Ll + (1 + Lw)) c6, .int .i64 (max (pn : Int) ((ln : Int) + 1)), .int .i64 ((pt : Int) + 1 + ((lt : Int) + 2)), .bool false]) := Lib.hid (by rw [hw8]; exact (HK7.out.1.set42 _).set41 _)
     have HD8 : Hid (DyEnd w w8 w1.heap.size ur r g8 rl c8 (.slice a6 (Ll + (1 + Lw)) c6) ((bracket l).words ++ (t :: p.words))) := Lib.hid (by rw [hw8]; exact (HD7.out.set HK7.out.1 2 _).set (HK7.out.1.set42 _) 1 _)
     have y0 := (HK8.out.cell 0).trans (show _ = some (Value.slice a6 (Ll + (1 + Lw)) c6) from rfl)
     have y1 := (HK8.out.cell 1).trans (show _ = some (Value.int .i64 (max (pn : Int) ((ln : Int) + 1))) from rfl)
     have y2 := (HK8.out.cell 2).trans (show _ = some (Value.int .i64 ((pt : Int) + 1 + ((lt : Int) + 2))) from rfl)
     have y3 := (HK8.out.cell 3).trans (show _ = some (Value.bool false) from rfl)
     have HOl : Hid (((w8.alloc (.cells #[.slice a6 (Ll + (1 + Lw)) c6, .int .i64 (max (pn : Int) ((ln : Int) + 1)), .int .i64 ((pt : Int) + 1 + ((lt : Int) + 2)), .bool false] 194)).drew).ownsRow w.heap.size 194 4 (.slice (some ⟨g8, 0, none⟩) rl c8) rl (pcsC ur r)) := Lib.hid ((HD8.out.hv.alloc _).drew)
     have HBl : Hid (Below w.heap.size w ((w8.alloc (.cells #[.slice a6 (Ll + (1 + Lw)) c6, .int .i64 (max (pn : Int) ((ln : Int) + 1)), .int .i64 ((pt : Int) + 1 + ((lt : Int) + 2)), .bool false] 194)).drew)) := Lib.hid (HD8.out.bel.alloc HD8.out.bel.size _).drew
     have HSz : Hid (w.heap.size ≤ ((w8.alloc (.cells #[.slice a6 (Ll + (1 + Lw)) c6, .int .i64 (max (pn : Int) ((ln : Int) + 1)), .int .i64 ((pt : Int) + 1 + ((lt : Int) + 2)), .bool false] 194)).drew).heap.size ∧ rl + 1 ≤ maxLen ∧ (rl + 1) * 48 ≤ 140737488355328) := Lib.hid ⟨HBl.out.size, by clear hwt1 hwt2 hwr1 hwr2 hwq1 hwq2 hwu1 hwu2; unfold maxLen; omega, by clear hwt1 hwt2 hwr1 hwr2 hwq1 hwq2 hwu1 hwu2; omega⟩
     clear hw8 z1 z2 zf u1 u2
     go_region_law (refine step_append_lies _ (by rfl) _ _ _ (by rfl) w.heap.size 194 j0 _ 4 48 Tryz.underlying192 pi pz0 pz1 pz2 rfl (by decide) (.slice (some ⟨g8, 0, none⟩) rl c8) rl (pcsC ur r) (by rfl) HOl.out ⟨w8.heap.size, 0, none⟩ 1 1 [.slice a6 (Ll + (1 + Lw)) c6, .int .i64 (max (pn : Int) ((ln : Int) + 1)), .int .i64 ((pt : Int) + 1 + ((lt : Int) + 2)), .bool false] (by rfl) (by rfl) (World.news_of_block (cs := #[.slice a6 (Ll + (1 + Lw)) c6, .int .i64 (max (pn : Int) ((ln : Int) + 1)), .int .i64 ((pt : Int) + 1 + ((lt : Int) + 2)), .bool false]) (t := 194) (fr := (0, 0)) (heap_alloc_new w8 _)) (by simp [Value.oneCell']) (by decide) HSz.out.2.1 HSz.out.2.2 HSz.out.1 (w8.heap.size + 1) (by simp) ?_; intro g9 cap9 w9 hown9 hg9 hat9 hlt9; have HO9 := Lib.hid hown9; have HG9 := Lib.hid hg9; clear hown9 hg9 hat9 hlt9)
     go_wp2
     go_roundw
     case rel =>
      have q2 : StrO ((w8.alloc (.cells #[.slice a6 (Ll + (1 + Lw)) c6, .int .i64 (max (pn : Int) ((ln : Int) + 1)), .int .i64 ((pt : Int) + 1 + ((lt : Int) + 2)), .bool false] 194)).drew) w.heap.size (.slice a6 (Ll + (1 + Lw)) c6) (dyP t 1 p (bracket l)).words := HD8.out.row.below ((Below.refl _ w8).alloc (Nat.le_refl _) _).drew
      have q4 : w9.ownsRow w.heap.size 194 4 (.slice (some ⟨g9, 0, none⟩) (rl + 1) cap9) (r.length + 1) (pcsC ur r ++ pcC (.slice a6 (Ll + (1 + Lw)) c6) (dyP t 1 p (bracket l))) := by
       have h := HO9.out
       have e1 : (((dyP t 1 p (bracket l)).nest : Nat) : Int) = max (pn : Int) ((ln : Int) + 1) := by
        show (((max p.nest (bracket l).nest : Nat)) : Int) = _
        rw [← HPt.out.2.1, HBr.out.1]
        clear hwt1 hwt2 hwr1 hwr2 hwq1 hwq2 hwu1 hwu2
        omega
       have e2 : (((dyP t 1 p (bracket l)).tokens : Nat) : Int) = (pt : Int) + 1 + ((lt : Int) + 2) := by
        show ((p.tokens + 1 + (bracket l).tokens : Nat) : Int) = _
        rw [← HPt.out.1, HBr.out.2]
        clear hwt1 hwt2 hwr1 hwr2 hwq1 hwq2 hwu1 hwu2
        omega
       have e3 : pcC (.slice a6 (Ll + (1 + Lw)) c6) (dyP t 1 p (bracket l)) = [.slice a6 (Ll + (1 + Lw)) c6, .int .i64 (max (pn : Int) ((ln : Int) + 1)), .int .i64 ((pt : Int) + 1 + ((lt : Int) + 2)), .bool false] := by
        unfold pcC
        rw [e1, e2]
        rfl
       rw [e3, ← HRl.out]
       exact h
      have q3 : PcsO w8 w.heap.size (.slice (some ⟨g8, 0, none⟩) rl c8) ur r := ⟨by rw [← HRl.out]; exact HD8.out.hv, HD8.out.rows⟩
      have q5 := PcsO.push2 q3 ((Below.refl _ w8).alloc (Nat.le_refl _) _).drew q2 HD8.out.apart q4 HG9.out
      have q6 : Below w.heap.size w w9 := HBl.out.grown HG9.out HBl.out.size (fun j hj => (q3.1.lt j hj).1)
      exact ⟨k + 1, _, _, HLt.out, by go_num, Lib.hid (hA.out.next HSt.out HR2.out q5 q6)⟩
     case measure => have := HLt.out; clear hwt1 hwt2 hwr1 hwr2 hwq1 hwq2 hwu1 hwu2; simp [intOf]; omega
  ·obtain rfl : k = N := by omega
   have hdr : items.drop k = [] := List.drop_of_length_le (by have := HN.out; omega)
   rw [hdr] at hA
   have hrun : [q] = st := hA.out.run
   subst hrun
   have hr := hA.out.pcs.2
   obtain ⟨u, hu⟩ : ∃ u, us = [u] := by
    have := hr.len
    match us, this with
    | [u], _ => exact ⟨u, rfl⟩
   subst hu
   have hu := hr.row 0 u q rfl rfl
   have hqf := hA.out.fine q (by simp)
   obtain ⟨g8, cap8, he8, h81, h82, h83, h84, c0, c1, c2, c3⟩ := own_piece (us := []) (ps := []) (ur := []) (pr := []) hA.out.pcs.1 rfl (by simp)
   injection he8 with he1 he2 he3
   subst he1 he3
   obtain ⟨gw, cw, rfl, hw1, hw2, hw3, hw4, hw5, _⟩ := own_cells hu (by have := List.length_pos_iff.2 hqf.1; omega)
   simp only [List.length_nil, Nat.zero_mul, Nat.zero_add, List.length_cons] at c0 c1 c2 c3 h81 ⊢
   have hL := hqf.2.1
   have t1 : ¬ (most : Int) < (q.tokens : Int) := by have := HQ.out.1; omega
   have t2 : ¬ (32 : Int) < (q.nest : Int) := by have := HQ.out.2; omega
   have HJ := Lib.hid (Tryz.strings_Join gw 0 cw (q.words.map mkS) ⟨#[32]⟩ wr (fun j x hj => by
    rw [List.getElem?_map] at hj
    obtain ⟨y, hy, rfl⟩ := Option.map_eq_some_iff.1 hj
    have hlt := (List.getElem?_eq_some_iff.1 hy).1
    rw [Nat.zero_add, hw5 j (by omega)]
    exact strsC_get hy) hw2 (by rw [List.length_map]; have := HQ.out.1; omega) (by rw [List.length_map]; exact hw3) (by
     rw [List.map_map, show ((fun x : ByteArray => x.data.toList) ∘ mkS) = id from funext fun s => mkS_toList s, List.map_id]
     have h1 := join_short (100 + q.tokens) q.words hqf.2.2.1
     have h2 : q.words.length * (100 + q.tokens + 1) ≤ 255 * 356 := Nat.mul_le_mul (by have := HQ.out.1; omega) (by have := HQ.out.1; omega)
     have e : (⟨#[32]⟩ : ByteArray).data.toList = [32] := rfl
     rw [e]
     omega))
   have HJl : Hid ((Lib.join (List.map (fun x => x.data.toList) (List.map mkS q.words)) (⟨#[32]⟩ : ByteArray).data.toList).length ≤ 1000000) := Lib.hid (by
     rw [List.map_map, show ((fun x : ByteArray => x.data.toList) ∘ mkS) = id from funext fun s => mkS_toList s, List.map_id]
     have h1 := join_short (100 + q.tokens) q.words hqf.2.2.1
     have h2 : q.words.length * (100 + q.tokens + 1) ≤ 255 * 356 := Nat.mul_le_mul (by have := HQ.out.1; omega) (by have := HQ.out.1; omega)
     have e : (⟨#[32]⟩ : ByteArray).data.toList = [32] := rfl
     rw [e]
     omega)
   rw [List.length_map] at HJ
   have HBw := Lib.hid hA.out.bel
   generalize (Lib.join (List.map (fun x => x.data.toList) (List.map mkS q.words)) (⟨#[32]⟩ : ByteArray).data.toList) = J at *
   generalize q.words.length = L at *
   clear hr hu hqf hA hw5 hdr hL
   go_wp2_with (go_at_call 119; refine HJ.out.mono ?_; rintro _ w1 ⟨rfl, hb1⟩; have HB1 := Lib.hid hb1; clear hb1)
   exact bodyPost_ret (v := .tuple #[.string ⟨J.toArray⟩, .bool true]) (by simp [results, Tryz.results101, go_sem]) rfl ⟨_, rfl, by show J.toArray.size ≤ _; rw [List.size_toArray]; exact HJl.out, HBw.out.trans (HB1.out.mono HBw.out.size)⟩
end Go.Proofs.YtknnleiinhdklaaGreatDoor
