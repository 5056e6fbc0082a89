/-
  Walk of prim.Fold at + * min max. Condition: the value reads as an array; the sides that are left are an array's.
-/
import Derived.Test.YtknnleiinhdklaaGreatDoorPk33
namespace Go.Proofs.YtknnleiinhdklaaGreatDoor
open Go.RowKit Go.Shelf Go.Sort
theorem piece_step (d : List Int) (n c : Nat) : (upF (fun j => pieceL d (j * n, n)) (c + 1)) = d.take n :: upF (fun j => pieceL (d.drop n) (j * n, n)) c := by
 unfold upF
 rw [List.range_succ_eq_map, List.map_cons, List.map_map]
 congr 1
 ·unfold pieceL; rw [Nat.zero_mul, List.drop_zero]
 ·apply List.map_congr_left
  intro j _
  unfold pieceL
  show (d.drop ((j + 1) * n)).take n = ((d.drop n).drop (j * n)).take n
  rw [List.drop_drop, Nat.succ_mul, Nat.add_comm n]
theorem fold_pieces {op : Int → Int → Int} {n : Nat} (hn : 0 < n) : ∀ (c f : Nat) (d : List Int), d.length = c * n → d.length ≤ f → foldG op n f d = (upF (fun j => pieceL d (j * n, n)) c).map (tot op)
 | 0, f, d, h, _ => by
  have h0 : d = [] := List.eq_nil_of_length_eq_zero (by rw [h, Nat.zero_mul])
  subst h0
  cases f with
  | zero => rfl
  | succ f => rw [foldG, if_pos rfl]; rfl
 | c + 1, f, d, h, hf => by
  have hl : n ≤ d.length := by rw [h, Nat.succ_mul]; omega
  obtain ⟨g, rfl⟩ : ∃ g, f = g + 1 := ⟨f - 1, by omega⟩
  have h0 : d ≠ [] := fun e => by rw [e] at hl; simp at hl; omega
  rw [foldG, if_neg h0, piece_step, List.map_cons, fold_pieces hn c g (d.drop n) (by rw [List.length_drop, h, Nat.succ_mul]; omega) (by rw [List.length_drop]; omega)]
theorem rev_pieces {n : Nat} (hn : 0 < n) : ∀ (c f : Nat) (d : List Int), d.length = c * n → d.length ≤ f → revG n f d = ((upF (fun j => pieceL d (j * n, n)) c).map List.reverse).flatten
 | 0, f, d, h, _ => by
  have h0 : d = [] := List.eq_nil_of_length_eq_zero (by rw [h, Nat.zero_mul])
  subst h0
  rw [revG_nil]
  rfl
 | c + 1, f, d, h, hf => by
  have hl : n ≤ d.length := by rw [h, Nat.succ_mul]; omega
  obtain ⟨g, rfl⟩ : ∃ g, f = g + 1 := ⟨f - 1, by omega⟩
  have h0 : d ≠ [] := fun e => by rw [e] at hl; simp at hl; omega
  rw [revG, if_neg h0, piece_step, List.map_cons, List.flatten_cons, rev_pieces hn c g (d.drop n) (by rw [List.length_drop, h, Nat.succ_mul]; omega) (by rw [List.length_drop]; omega)]
theorem lanes_fold {op : Int → Int → Int} {x : Arr} (hx : ArrOk x) (hn : 0 < lastN x.sides) : foldG op (lastN x.sides) x.data.length x.data = (lanesL x).map (tot op) := by
 unfold lanesL
 by_cases h0 : x.data = []
 ·rw [if_pos h0, h0]; rfl
 ·rw [if_neg h0]
  exact fold_pieces hn _ _ _ (last_div hx h0).2.1 (Nat.le_refl _)
theorem lanes_rev {x : Arr} (hx : ArrOk x) (hn : 0 < lastN x.sides) : revL (lastN x.sides) x.data = ((lanesL x).map List.reverse).flatten := by
 unfold lanesL revL
 by_cases h0 : x.data = []
 ·rw [if_pos h0, h0]; rfl
 ·rw [if_neg h0]
  exact rev_pieces hn _ _ _ (last_div hx h0).2.1 (Nat.le_refl _)
theorem rev_take {s : List Nat} {n : Nat} {r : List Nat} (h : s.reverse = n :: r) : r.reverse = s.take (s.length - 1) ∧ lastN s = n := by
 have e : s = r.reverse ++ [n] := by
  have := congrArg List.reverse h
  rwa [List.reverse_reverse, List.reverse_cons] at this
 refine ⟨?_, by unfold lastN; rw [h]; rfl⟩
 rw [e]
 simp
theorem foldA_eq {op : Int → Int → Int} (u : Int) {x : Arr} (hx : ArrOk x) (hs : x.sides ≠ []) :
  foldA op u x = ⟨x.sides.take (x.sides.length - 1), if lastN x.sides = 0 then List.replicate (prodN (x.sides.take (x.sides.length - 1))) u else (lanesL x).map (tot op)⟩ := by
 unfold foldA
 cases hr : x.sides.reverse with
 | nil =>
  have := congrArg List.reverse hr
  rw [List.reverse_reverse] at this
  exact absurd this hs
 | cons n r =>
  obtain ⟨h1, h2⟩ := rev_take hr
  dsimp only
  rw [← h1, h2]
  congr 1
  by_cases h0 : n = 0
  ·rw [if_pos h0, if_pos h0, prodN_R, prodR_reverse]
  ·rw [if_neg h0, if_neg h0]
   have := lanes_fold (op := op) hx (by rw [h2]; omega)
   rwa [h2] at this
theorem foldA_nil {op : Int → Int → Int} (u : Int) {x : Arr} (hs : x.sides = []) : foldA op u x = x := by
 unfold foldA
 rw [hs]
 rfl
/-- The array's box and the result's cell. -/
structure F2 (w W : World) (a b : Value) : Prop where
 bel : Below w.heap.size w W
 k0 : Blk W w.heap.size 24 #[a, b]
 k1 : Blk W (w.heap.size + 1) 24 #[.slice none 0 0, .slice none 0 0]
theorem F2.new (w : World) (a b : Value) : F2 w ((w.alloc (.cells #[a, b] 24)).alloc (.cells #[.slice none 0 0, .slice none 0 0] 24)) a b :=
 ⟨((Below.refl _ w).alloc (Nat.le_refl _) _).alloc (by simp) _, (Blk.new w _ _ rfl).alloc _, Blk.new _ _ _ (by simp)⟩
theorem F2.next {w W W' : World} {a b : Value} (h : F2 w W a b) (hb : Below W.heap.size W W') : F2 w W' a b := ⟨h.bel.trans (hb.mono h.bel.size), h.k0.below hb, h.k1.below hb⟩
theorem F2.at0 {w W : World} {a b : Value} (h : F2 w W a b) : W.cell? ⟨w.heap.size, 0, none⟩ = some a := (h.k0.cell 0).trans rfl
theorem F2.at1 {w W : World} {a b : Value} (h : F2 w W a b) : W.cell? ⟨w.heap.size, 1, none⟩ = some b := (h.k0.cell 1).trans rfl
theorem F2.r0 {w W : World} {a b : Value} (h : F2 w W a b) : W.cell? ⟨w.heap.size + 1, 0, none⟩ = some (.slice none 0 0) := (h.k1.cell 0).trans rfl
theorem F2.r1 {w W : World} {a b : Value} (h : F2 w W a b) : W.cell? ⟨w.heap.size + 1, 1, none⟩ = some (.slice none 0 0) := (h.k1.cell 1).trans rfl
theorem F2.rf {w W : World} {a b : Value} (h : F2 w W a b) (o : Nat) : W.frozen? ⟨w.heap.size + 1, o, none⟩ = false := Blk.froz h.k1 o
/-- The result stored. -/
theorem F2.done {w W : World} {a b : Value} (h : F2 w W a b) (u v : Value) : let W' := (W.setCell ⟨w.heap.size + 1, 0, none⟩ u).setCell ⟨w.heap.size + 1, 1, none⟩ v
  W'.cell? ⟨w.heap.size + 1, 0, none⟩ = some u ∧ W'.cell? ⟨w.heap.size + 1, 1, none⟩ = some v ∧ Below w.heap.size w W' ∧ KeepTag 2 W W' := by
 have hb := Blk.put2 h.k1 u v
 refine ⟨(hb.cell 0).trans rfl, (hb.cell 1).trans rfl, below_set (below_set h.bel (by omega) _) (by omega) _, ?_⟩
 exact KeepTag.trans (KeepTag.set h.k1 (by decide) 0 u) (KeepTag.set (Blk.put0 h.k1 u) (by decide) 1 v)
theorem IntsO.tag {w w' : World} {b : Nat} {v : Value} {l : List Int} (h : IntsO w b v l) (hk : KeepTag 2 w w') : IntsO w' b v l := own_tag h hk
set_option maxHeartbeats 2000000 in
set_option maxRecDepth 100000 in
theorem fold0_any {f : Int} {op : Int → Int → Int} {u : Int} (hf : OpF f op u) (v : Value) (x : Arr) (w : World) (hv : ArrV w v x) (hx : ArrOk x) (h0 : x.sides = []) :
  Calls Tryz.prog 40 #[.int .u8 f, v] w (PrimPost x w) := by
 have HR := Lib.hid (fun W (hb : Below w.heap.size w W) => right_ok v x W (hv.below hb) hx)
 have HT := Lib.hid (fun W => takes_op hf W)
 obtain ⟨vs, vd, rfl, hs, hd⟩ := hv
 obtain ⟨a1, c1, rfl⟩ := hs.form
 obtain ⟨a2, c2, rfl⟩ := hd.form
 have HX := Lib.hid hx
 have HC := Lib.hid (fun W (hb : Below w.heap.size w W) => clone_any (.slice a2 x.data.length c2) x.data W (hd.below hb) (Nat.le_trans hx.le (by decide)))
 have HG := Lib.hid (fun W vd l ha => good_any (.slice none 0 0) vd [] l W (IntsO.nil W 0).s (by decide) ha)
 obtain ⟨sides, d⟩ := x
 dsimp only at *
 subst h0
 clear hs hd hx
 generalize hm : d.length = m at *
 have HM := Lib.hid hm
 clear hm
 simp only [ofN, List.map_nil, List.length_nil] at *
 have HF := Lib.hid (F2.new w (.slice a1 0 c1) (.slice a2 m c2))
 have c0 := HF.out.at0
 have c00 := HF.out.at1
 go_enter Tryz.func40, Tryz.ntmps40
 go_wp2_with (first | (go_at_call 38; refine (HR.out _ HF.out.bel).mono ?_; rintro _ w1 ⟨rfl, hb⟩; have HF1 := Lib.hid (HF.out.next hb); have e0 := HF1.out.at0; have e1 := HF1.out.at1; clear hb c0 c00) | (go_at_call 65; refine (HT.out _).mono ?_; rintro _ _ ⟨rfl, rfl⟩) | (go_at_call 23; refine (HC.out _ HF1.out.bel).mono ?_; rintro _ w2 ⟨u2, rfl, hu, hb⟩; have HU2 := Lib.hid hu; have HF2 := Lib.hid (HF1.out.next hb); have hfm := hu.form; rw [HM.out] at hfm; obtain ⟨a3, c3, rfl⟩ := hfm; clear hb hu) | (go_at_call 60; refine (HG.out _ _ d ⟨a3, c3, by rw [HM.out]⟩).mono ?_; rintro _ w3 ⟨u3, rfl, hu, hb⟩; have HU3 := Lib.hid (And.intro hu hb); have HF3 := Lib.hid (HF2.out.next hb); obtain ⟨a4, c4, rfl⟩ := hu.form; have g0 := HF3.out.r0; have g1 := HF3.out.r1; have gf := HF3.out.rf; clear hb hu))
 obtain ⟨z0, z1, z2, z3⟩ := HF3.out.done (.slice a4 0 c4) (.slice a3 m c3)
 refine bodyPost_ret (v := .tuple #[.agg #[.slice a4 0 c4, .slice a3 m c3], .int .i64 0]) (by simp [results, Tryz.results40, go_sem, z0, z1]) rfl ⟨_, rfl, ⟨_, _, rfl, ?_, ?_⟩, z2⟩
 ·exact (HU3.out.1.base (HF2.out.bel.size)).tag z3
 ·exact (((HU2.out.base HF1.out.bel.size).below HU3.out.2)).tag z3
theorem set_mid {l1 : List Int} {p k : Nat} (h1 : l1.length = k) (hk : k < p) (x : Int) : (l1 ++ List.replicate (p - k) 0).set k x = (l1 ++ [x]) ++ List.replicate (p - (k + 1)) 0 := by
 rw [show p - k = (p - (k + 1)) + 1 by omega, List.replicate_succ, List.set_append_right _ _ (by omega), h1, Nat.sub_self, List.set_cons_zero, List.append_assoc]
 rfl
theorem set_acc {l1 : List Int} {p k : Nat} (h1 : l1.length = k) (a x : Int) : ((l1 ++ [a]) ++ List.replicate p 0).set k x = (l1 ++ [x]) ++ List.replicate p 0 := by
 rw [List.append_assoc, List.append_assoc, List.set_append_right _ _ (by omega), h1, Nat.sub_self]
 rfl
theorem IntsS.take {w : World} {a : Option Addr} {n c : Nat} {l : List Int} (h : IntsS w (.slice a n c) l) {k : Nat} (hk : k ≤ l.length) : IntsS w (.slice a k c) (l.take k) := by
 obtain ⟨a', c', he, h1, h2, h3⟩ := h
 injection he with e1 e2 e3
 subst e1 e3
 have hl : (l.take k).length = k := by rw [List.length_take]; omega
 refine ⟨a, c, by rw [hl], by omega, h2, fun h0 => ?_⟩
 obtain ⟨g, o, k1, k2, k3⟩ := h3 (by omega)
 refine ⟨g, o, k1, k2, fun i x hi => k3 i x ?_⟩
 rw [List.getElem?_take] at hi
 split at hi
 ·exact hi
 ·cases hi
theorem own_past {w w' : World} {g base e size n : Nat} {v : Value} {xs : List Value} (h : w.ownsRow base e size v n xs) (hg : w.grownBy w' (some g)) (hlt : g < base) : w'.ownsRow base e size v n xs := by
 refine ⟨h.1, ?_⟩
 rcases h.2 with h0 | ⟨g', cap, cur, hv, hb, hgg, rest⟩
 ·exact .inl h0
 ·exact .inr ⟨g', cap, cur, hv, hb, (hg.block g' (Array.getElem?_eq_some_iff.1 hgg).1 (fun e => by injection e with e; omega)).trans hgg, rest⟩
theorem LanesS.past {w w' : World} {g base : Nat} {v : Value} {ls : List (List Int)} (h : LanesS w base v ls) (hg : w.grownBy w' (some g)) (hlt : g < base) : LanesS w' base v ls := by
 obtain ⟨vs, h1, h2, h3⟩ := h
 exact ⟨vs, own_past h1 hg hlt, fun i l hi => let ⟨u, a, b⟩ := h2 i l hi; ⟨u, a, own_past b hg hlt⟩, h3⟩
/-- What Fold keeps: the two blocks, the pair, the sides, the row that is filled. -/
structure FoldAt (w W : World) (a b : Value) (f : Int) (pb g p : Nat) (v7 : Value) (s7 l : List Int) : Prop where
 f2 : F2 w W a b
 pa : PairAt W pb f
 sd : IntsO W w.heap.size v7 s7
 ne : v7.ownBlock ≠ some g
 out : IntsO W w.heap.size (.slice (some ⟨g, 0, none⟩) p p) l
 len : l.length = p
theorem FoldAt.below {w W W' : World} {a b : Value} {f : Int} {pb g p : Nat} {v7 : Value} {s7 l : List Int} (h : FoldAt w W a b f pb g p v7 s7 l) (hb : Below W.heap.size W W') : FoldAt w W' a b f pb g p v7 s7 l :=
 ⟨h.f2.next hb, h.pa.kept (hb.block _ (by have := h.pa.lt; omega)) (hb.block _ h.pa.lt), h.sd.below hb, h.ne, h.out.below hb, h.len⟩
theorem FoldAt.glt {w W : World} {a b : Value} {f : Int} {pb g p : Nat} {v7 : Value} {s7 l : List Int} (h : FoldAt w W a b f pb g p v7 s7 l) : w.heap.size ≤ g ∧ g < W.heap.size := h.out.lt g rfl
theorem FoldAt.store {w W : World} {a b : Value} {f : Int} {pb g p : Nat} {v7 : Value} {s7 l : List Int} (h : FoldAt w W a b f pb g p v7 s7 l) (i : Nat) (x : Int) :
  FoldAt w (W.setCell ⟨g, i, none⟩ (.int .i64 x)) a b f pb g p v7 s7 (l.set i x) ∧ W.grownBy (W.setCell ⟨g, i, none⟩ (.int .i64 x)) (some g) := by
 have o1 : W.ownsRow w.heap.size 2 1 (.slice (some ⟨g, 0, none⟩) p p) p (l.map (Value.int .i64)) := by
  have := h.out
  unfold IntsO at this
  rwa [h.len] at this
 obtain ⟨o2, g2⟩ := o1.stored i (.int .i64 x)
 obtain ⟨g0, cp, cur, he, hb0, hgg, hcur⟩ : ∃ (g0 cp : Nat) (cur : Array Value), Value.slice (some ⟨g, 0, none⟩) p p = .slice (some ⟨g0, 0, none⟩) p cp ∧ w.heap.size ≤ g0 ∧ W.heap[g0]? = some (.cells cur 2 (0, 0)) ∧ True := by
  rcases o1.2 with ⟨he, _⟩ | ⟨g0, cp, cur, he, hb, hg, _⟩
  ·cases he
  ·exact ⟨g0, cp, cur, he, hb, hg, trivial⟩
 simp only [Value.slice.injEq, Option.some.injEq, Addr.mk.injEq] at he
 obtain ⟨⟨rfl, _⟩, _, rfl⟩ := he
 have hkt : ∀ t, t ≠ 2 → KeepTag t W (W.setCell ⟨g, i, none⟩ (.int .i64 x)) := fun t ht => KeepTag.set hgg ht i _
 refine ⟨⟨⟨below_set h.f2.bel hb0 _, h.f2.k0.keep (hkt _ (by decide)), h.f2.k1.keep (hkt _ (by decide))⟩, ⟨hkt _ (by decide) _ _ h.pa.1, hkt _ (by decide) _ _ h.pa.2⟩, ?_, h.ne, ?_, by rw [List.length_set]; exact h.len⟩, g2⟩
 ·refine ⟨h.sd.1, ?_⟩
  rcases h.sd.2 with h0 | ⟨g', cap, cur', hv, hb, hgg', rest⟩
  ·exact .inl h0
  ·exact .inr ⟨g', cap, cur', hv, hb, (g2.block g' (Array.getElem?_eq_some_iff.1 hgg').1 (fun e => h.ne (by rw [hv]; exact e))).trans hgg', rest⟩
 ·unfold IntsO
  rw [List.length_set, h.len, map_set]
  exact o2
theorem FoldAt.get {w W : World} {a b : Value} {f : Int} {pb g p : Nat} {v7 : Value} {s7 l : List Int} (h : FoldAt w W a b f pb g p v7 s7 l) {i : Nat} {x : Int} (hi : l[i]? = some x) : W.cell? ⟨g, i, none⟩ = some (.int .i64 x) := by
 have o1 : W.ownsRow w.heap.size 2 1 (.slice (some ⟨g, 0, none⟩) p p) p (l.map (Value.int .i64)) := by
  have := h.out
  unfold IntsO at this
  rwa [h.len] at this
 have hlt := (List.getElem?_eq_some_iff.1 hi).1
 rw [o1.cellAt i (by have := h.len; omega), List.getElem?_map, hi]
 rfl
theorem FoldAt.froz {w W : World} {a b : Value} {f : Int} {pb g p : Nat} {v7 : Value} {s7 l : List Int} (h : FoldAt w W a b f pb g p v7 s7 l) (o : Nat) : W.frozen? ⟨g, o, none⟩ = false := by
 have o1 : W.ownsRow w.heap.size 2 1 (.slice (some ⟨g, 0, none⟩) p p) p (l.map (Value.int .i64)) := by
  have := h.out
  unfold IntsO at this
  rwa [h.len] at this
 exact o1.frozenAt o
theorem FoldAt.drew {w W : World} {a b : Value} {f : Int} {pb g p : Nat} {v7 : Value} {s7 l : List Int} (h : FoldAt w W a b f pb g p v7 s7 l) (n : Nat) : FoldAt w (W.drewN n) a b f pb g p v7 s7 l := h.below (below_drewI (Below.refl _ _) n)
end Go.Proofs.YtknnleiinhdklaaGreatDoor
