/-
  A program's rows in memory, read cell by cell. No condition.   Walk of package show: operand, at a name, at one number. Condition: the library's variables are as they were laid.
-/
import Derived.Deep.RegionHeld3
import Derived.Deep.RegionWith
import Derived.Deep.CutRange
import Derived.Deep.AppendLies
import Derived.Deep.RegionLaw
import Derived.LoopN
import Derived.Test.YtknnleiinhdklaaGreatDoorPk10
import Derived.Test.YtknnleiinhdklaaGreatDoorPk12
import Derived.Test.YtknnleiinhdklaaGreatDoorPk17
import Derived.Test.YtknnleiinhdklaaGreatDoorPk20
namespace Go.Proofs.YtknnleiinhdklaaGreatDoor
section
open Go.RowKit Go.Shelf Go.Sort
/-- Items in memory. -/
def ItsV (w : World) (v : Value) (l : List Itm) : Prop := ∃ cs, w.ownsRow 0 71 5 v l.length cs ∧ ItsC w l cs
theorem ItsV.at {w : World} {v : Value} {l : List Itm} (h : ItsV w v l) (hl : 0 < l.length) : ∃ g cap, v = .slice (some ⟨g, 0, none⟩) l.length cap ∧ l.length ≤ cap ∧ cap ≤ maxLen ∧ g < w.heap.size ∧ ∀ (i : Nat) (x : Itm), l[i]? = some x → ∃ vn, NumS w vn x.nums ∧
  w.cell? ⟨g, i * 5, none⟩ = some (.int .i64 x.how) ∧ w.cell? ⟨g, i * 5 + 1, none⟩ = some (.int .i64 x.at_) ∧ w.cell? ⟨g, i * 5 + 2, none⟩ = some (.int .u8 x.fn) ∧ w.cell? ⟨g, i * 5 + 3, none⟩ = some (.string (mkS x.name)) ∧ w.cell? ⟨g, i * 5 + 4, none⟩ = some vn := by
 obtain ⟨cs, h1, h2⟩ := h
 obtain ⟨g, cap, rfl, _, hg, hc, hm, hcell, _⟩ := own_cells h1 (by omega)
 refine ⟨g, cap, rfl, hc, hm, hg, fun i x hx => ?_⟩
 obtain ⟨vn, hn, hj⟩ := h2.2 i x hx
 have hi := (List.getElem?_eq_some_iff.1 hx).1
 exact ⟨vn, hn, (hcell _ (by omega)).trans (hj 0 _ rfl), (hcell _ (by omega)).trans (hj 1 _ rfl), (hcell _ (by omega)).trans (hj 2 _ rfl), (hcell _ (by omega)).trans (hj 3 _ rfl), (hcell _ (by omega)).trans (hj 4 _ rfl)⟩
theorem ItsV.form {w : World} {v : Value} {l : List Itm} (h : ItsV w v l) : ∃ a cap, v = .slice a l.length cap := by
 obtain ⟨cs, h1, _⟩ := h
 exact own_form h1
theorem NumS.at {w : World} {v : Value} {l : List Int} (h : NumS w v l) (hl : 0 < l.length) : ∃ g cap, v = .slice (some ⟨g, 0, none⟩) l.length cap ∧ l.length ≤ cap ∧ cap ≤ maxLen ∧ ∀ (i : Nat) (x : Int), l[i]? = some x → w.cell? ⟨g, i, none⟩ = some (.int .i64 x) := by
 obtain ⟨g, cap, rfl, _, hg, hc, hm, hcell, _⟩ := own_cells h (by omega)
 refine ⟨g, cap, rfl, hc, hm, fun i x hx => ?_⟩
 have hi := (List.getElem?_eq_some_iff.1 hx).1
 rw [hcell i (by omega), List.getElem?_map, hx]
 rfl
theorem ItsV.keep {w w' : World} {v : Value} {l : List Itm} (h : ItsV w v l) (hk : ∀ t, KeepTag t w w') : ItsV w' v l := let ⟨cs, h1, h2⟩ := h; ⟨cs, own_tag h1 (hk _), h2.keep (hk _)⟩
theorem PrgV.forms {w : World} {b : Nat} {vi vl : Value} {p : Prg} (h : PrgV w b vi vl p) : (∃ a c, vi = .slice a p.inputs.length c) ∧ (∃ a c, vl = .slice a p.lines.length c) := by
 obtain ⟨ci, cl, o1, _, o3, _⟩ := h
 exact ⟨own_form o1, own_form o3⟩
theorem PrgV.line_at {w : World} {b : Nat} {vi vl : Value} {p : Prg} (h : PrgV w b vi vl p) (hl : 0 < p.lines.length) :
  ∃ g cap, vl = .slice (some ⟨g, 0, none⟩) p.lines.length cap ∧ p.lines.length ≤ cap ∧ cap ≤ maxLen ∧ b ≤ g ∧ g < w.heap.size ∧ ∀ (i : Nat) (x : Lin), p.lines[i]? = some x → ∃ v, ItsV w v x.items ∧
   w.cell? ⟨g, i * 3, none⟩ = some (.string (mkS x.name)) ∧ w.cell? ⟨g, i * 3 + 1, none⟩ = some (.int .i64 x.at_) ∧ w.cell? ⟨g, i * 3 + 2, none⟩ = some v := by
 obtain ⟨ci, cl, _, _, o3, o4⟩ := h
 obtain ⟨g, cap, rfl, hb, hg, hc, hm, hcell, _⟩ := own_cells o3 (by omega)
 refine ⟨g, cap, rfl, hc, hm, hb, hg, fun i x hx => ?_⟩
 obtain ⟨c, hcl, ⟨v, cs, rfl, hox, hix⟩, hj⟩ := o4.2 i x hx
 have hi := (List.getElem?_eq_some_iff.1 hx).1
 exact ⟨v, ⟨cs, hox, hix⟩, (hcell _ (by omega)).trans (hj 0 _ rfl), (hcell _ (by omega)).trans (hj 1 _ rfl), (hcell _ (by omega)).trans (hj 2 _ rfl)⟩
theorem PrgV.input_at {w : World} {b : Nat} {vi vl : Value} {p : Prg} (h : PrgV w b vi vl p) (hl : 0 < p.inputs.length) :
  ∃ g cap, vi = .slice (some ⟨g, 0, none⟩) p.inputs.length cap ∧ p.inputs.length ≤ cap ∧ cap ≤ maxLen ∧ b ≤ g ∧ g < w.heap.size ∧ ∀ (i : Nat) (x : Inp), p.inputs[i]? = some x → ∃ v, w.ownsRow 0 96 2 v x.sides.length (sideCells x.sides) ∧
   w.cell? ⟨g, i * 3, none⟩ = some (.string (mkS x.name)) ∧ w.cell? ⟨g, i * 3 + 1, none⟩ = some (.int .i64 x.at_) ∧ w.cell? ⟨g, i * 3 + 2, none⟩ = some v := by
 obtain ⟨ci, cl, o1, o2, _, _⟩ := h
 obtain ⟨g, cap, rfl, hb, hg, hc, hm, hcell, _⟩ := own_cells o1 (by omega)
 refine ⟨g, cap, rfl, hc, hm, hb, hg, fun i x hx => ?_⟩
 obtain ⟨c, hcl, ⟨v, rfl, hox⟩, hj⟩ := o2.2 i x hx
 have hi := (List.getElem?_eq_some_iff.1 hx).1
 exact ⟨v, hox, (hcell _ (by omega)).trans (hj 0 _ rfl), (hcell _ (by omega)).trans (hj 1 _ rfl), (hcell _ (by omega)).trans (hj 2 _ rfl)⟩
theorem PrgV.all {w w' : World} {b : Nat} {vi vl : Value} {p : Prg} (h : PrgV w b vi vl p) (hk : ∀ t, KeepTag t w w') : PrgV w' b vi vl p := h.keep (fun t _ _ _ _ => hk t)
end
section
open Go.RowKit Go.Shelf Go.Sort Go.Maps
def strsC (l : List (List UInt8)) : List Value := l.map fun s => .string (mkS s)
/-- A row of texts that the call made. -/
def StrO (w : World) (base : Nat) (v : Value) (l : List (List UInt8)) : Prop := w.ownsRow base 9 1 v l.length (strsC l)
theorem strsC_get {l : List (List UInt8)} {i : Nat} {s : List UInt8} (h : l[i]? = some s) : (strsC l)[i]? = some (.string (mkS s)) := by unfold strsC; rw [List.getElem?_map, h]; rfl
theorem StrO.below {w w' : World} {b : Nat} {v : Value} {l : List (List UInt8)} (h : StrO w b v l) (hb : Below w.heap.size w w') : StrO w' b v l := own_below h hb
theorem StrO.base {w : World} {b b' : Nat} {v : Value} {l : List (List UInt8)} (h : StrO w b v l) (hb : b' ≤ b) : StrO w b' v l := own_base h hb
theorem StrO.tag {w w' : World} {b : Nat} {v : Value} {l : List (List UInt8)} (h : StrO w b v l) (hk : KeepTag 9 w w') : StrO w' b v l := own_tag h hk
/-- A piece's value, by its row of texts. -/
def pcV (u : Value) (p : Pc) : Value := .agg #[u, .int .i64 p.nest, .int .i64 p.tokens, .bool p.plain]
theorem StrO.one (W : World) (base : Nat) (hb : base ≤ W.heap.size) (s : List UInt8) {g : Nat} (hg : g = W.heap.size) : StrO (W.alloc (.cells #[.string (mkS s)] 9)) base (.slice (some ⟨g, 0, none⟩) 1 1) [s] := by
 subst hg
 exact ⟨rfl, .inr ⟨W.heap.size, 1, #[.string (mkS s)], rfl, hb, heap_alloc_new W _, Nat.le_refl _, by unfold maxLen; omega, rfl, rfl⟩⟩
theorem below_undrew {B : Nat} {a w : World} (h : Below B a.drew w) : Below B a w := ⟨h.os, h.tape, h.output, h.size, h.block⟩
/-- A piece's block, its four cells stored. -/
theorem pc_sets {w0 w : World} {b : Nat} {x0 x1 x2 x3 : Value} (h : Blk w b 194 #[x0, x1, x2, x3]) (hb : Below w0.heap.size w0 w) (hlt : w0.heap.size ≤ b) (y0 y1 y2 y3 : Value) :
  let W := (((w.setCell ⟨b, 0, none⟩ y0).setCell ⟨b, 1, none⟩ y1).setCell ⟨b, 2, none⟩ y2).setCell ⟨b, 3, none⟩ y3
  W.cell? ⟨b, 0, none⟩ = some y0 ∧ W.cell? ⟨b, 1, none⟩ = some y1 ∧ W.cell? ⟨b, 2, none⟩ = some y2 ∧ W.cell? ⟨b, 3, none⟩ = some y3 ∧ KeepTag 9 w W ∧ Below w0.heap.size w0 W := by
 have h0 := h.set40 y0
 have h1 := h0.set41 y1
 have h2 := h1.set42 y2
 have h3 := h2.set43 y3
 exact ⟨(h3.cell 0).trans rfl, (h3.cell 1).trans rfl, (h3.cell 2).trans rfl, (h3.cell 3).trans rfl, (((KeepTag.set h (by decide) 0 y0).trans (KeepTag.set h0 (by decide) 1 y1)).trans (KeepTag.set h1 (by decide) 2 y2)).trans (KeepTag.set h2 (by decide) 3 y3),
  below_set (below_set (below_set (below_set hb hlt _) hlt _) hlt _) hlt _⟩
/-- What a walk reads of two blocks, whatever block is new. -/
def OperK1 (n : Nat) (W : World) (s : List UInt8) (ad : Option Addr) (c : Nat) : Prop :=
 W.cell? ⟨n, 2, none⟩ = some (.int .u8 0) ∧ W.cell? ⟨n, 3, none⟩ = some (.string (mkS s)) ∧ W.cell? ⟨n, 4, none⟩ = some (.slice ad 0 c) ∧
 W.cell? ⟨n + 1, 0, none⟩ = some (.slice none 0 0) ∧ W.cell? ⟨n + 1, 1, none⟩ = some (.int .i64 0) ∧ W.cell? ⟨n + 1, 2, none⟩ = some (.int .i64 0) ∧ W.cell? ⟨n + 1, 3, none⟩ = some (.bool false) ∧ (∀ o, W.frozen? ⟨n + 1, o, none⟩ = false)
theorem OperK1.of {n : Nat} {W : World} {s : List UInt8} {ad : Option Addr} {c : Nat} {x y : Value} (h1 : Blk W n 71 #[x, y, .int .u8 0, .string (mkS s), .slice ad 0 c]) (h2 : Blk W (n + 1) 194 #[.slice none 0 0, .int .i64 0, .int .i64 0, .bool false]) : OperK1 n W s ad c :=
 ⟨(h1.cell 2).trans rfl, (h1.cell 3).trans rfl, (h1.cell 4).trans rfl, (h2.cell 0).trans rfl, (h2.cell 1).trans rfl, (h2.cell 2).trans rfl, (h2.cell 3).trans rfl, Blk.froz h2⟩
def OperPost (p : Pc) (w : World) (e : Ending) (w' : World) : Prop := ∃ u, e = .returned (.tuple #[pcV u p, .bool true]) ∧ StrO w' w.heap.size u p.words ∧ Below w.heap.size w w'
set_option maxHeartbeats 4000000 in
set_option maxRecDepth 100000 in
theorem operand_name (a : Int) (s : List UInt8) (ad : Option Addr) (c : Nat) (w : World) (hs : nameB s = true) (hl : s.length ≤ 100) (hE : ErrIs w) :
  Calls Tryz.prog 117 #[itemV 2 a 0 s (.slice ad 0 c)] w (OperPost ⟨[s], 0, 1, true⟩ w) := by
 have HN := Lib.hid (fun W (h : Below w.heap.size w W) => Name_any (mkS s) W (by rw [mkS_size]; unfold maxLen; omega) (hE.kept h))
 rw [mkS_toList, hs] at HN
 unfold itemV
 have HK : Hid (∀ W, Below (w.heap.size + 2) ((w.alloc (.cells #[.int .i64 2, .int .i64 a, .int .u8 0, .string (mkS s), .slice ad 0 c] 71)).alloc (.cells #[.slice none 0 0, .int .i64 0, .int .i64 0, .bool false] 194)) W → Blk W w.heap.size 71 #[.int .i64 2, .int .i64 a, .int .u8 0, .string (mkS s), .slice ad 0 c] ∧ Blk W (w.heap.size + 1) 194 #[.slice none 0 0, .int .i64 0, .int .i64 0, .bool false] ∧ Below w.heap.size w W ∧ w.heap.size + 2 ≤ W.heap.size ∧ OperK1 w.heap.size W s ad c ∧ ∀ o, OperK1 w.heap.size (W.alloc o) s ad c) := Lib.hid fun W hb => by
  have e : ((w.alloc (.cells #[.int .i64 2, .int .i64 a, .int .u8 0, .string (mkS s), .slice ad 0 c] 71)).alloc (.cells #[.slice none 0 0, .int .i64 0, .int .i64 0, .bool false] 194)).heap.size = w.heap.size + 2 := by simp
  rw [← e] at hb
  have h1 := ((Blk.new w 71 #[.int .i64 2, .int .i64 a, .int .u8 0, .string (mkS s), .slice ad 0 c] rfl).alloc (.cells #[.slice none 0 0, .int .i64 0, .int .i64 0, .bool false] 194)).below hb
  have h2 := (Blk.new (w.alloc (.cells #[.int .i64 2, .int .i64 a, .int .u8 0, .string (mkS s), .slice ad 0 c] 71)) 194 #[.slice none 0 0, .int .i64 0, .int .i64 0, .bool false] (b := w.heap.size + 1) (by simp)).below hb
  have h3 := hb.size
  rw [e] at h3
  exact ⟨h1, h2, (((Below.refl _ w).alloc (Nat.le_refl _) _).alloc (by simp) _).trans (hb.mono (by simp; omega)), h3, OperK1.of h1 h2, fun o => OperK1.of (h1.alloc o) (h2.alloc o)⟩
 go_enter Tryz.func117, Tryz.ntmps117
 go_wp2_with fail
 go_region_held3 (fun wy => wy.cell? ⟨w.heap.size, 2, none⟩ = some (.int .u8 0) ∧ wy.cell? ⟨w.heap.size, 3, none⟩ = some (.string (mkS s)) ∧ wy.cell? ⟨w.heap.size, 4, none⟩ = some (.slice ad 0 c))
  (first | go_keep)
  (first | (go_at_call 30; refine (HN.out _ (HK.out _ (by repeat (first | with_reducible exact Below.refl _ _ | refine Below.drew ?_ | refine Below.alloc ?_ (by simp <;> omega) _))).2.2.1).mono ?_; rintro _ w9 ⟨rfl, hb9⟩; have hk9 := HK.out w9 (Below.trans (by repeat (first | with_reducible exact Below.refl _ _ | refine Below.drew ?_ | refine Below.alloc ?_ (by simp <;> omega) _)) (hb9.mono (by simp <;> omega))); obtain ⟨hq1, hq2, hq3, hq4, ⟨b0, b1, b2, e0, e1, e2, e3, ef⟩, hq5⟩ := hk9; have g0 := fun o => (hq5 o).1; have g1 := fun o => (hq5 o).2.1; have g2 := fun o => (hq5 o).2.2.1; have g3 := fun o => (hq5 o).2.2.2.1; have g4 := fun o => (hq5 o).2.2.2.2.1; have g5 := fun o => (hq5 o).2.2.2.2.2.1; have g6 := fun o => (hq5 o).2.2.2.2.2.2.1; have g7 := fun o => (hq5 o).2.2.2.2.2.2.2; have HK9 := Lib.hid (And.intro hq1 (And.intro hq2 (And.intro hq3 hq4))); have HBb := Lib.hid hb9; clear hb9 hq1 hq2 hq3 hq4 hq5))
 ·go_wp2
  have e2 : ((w.alloc (.cells #[.int .i64 2, .int .i64 a, .int .u8 0, .string (mkS s), .slice ad 0 c] 71)).alloc (.cells #[.slice none 0 0, .int .i64 0, .int .i64 0, .bool false] 194)).heap.size = w.heap.size + 1 + 1 := by simp
  have hS := (StrO.one _ w.heap.size (by rw [e2]; omega) s e2.symm).below (below_undrew HBb.out)
  obtain ⟨q0, q1, q2, q3, qk, qb⟩ := pc_sets HK9.out.2.1 HK9.out.2.2.1 (by omega) (.slice (some ⟨w.heap.size + 1 + 1, 0, none⟩) 1 1) (.int .i64 0) (.int .i64 1) (.bool true)
  exact bodyPost_ret (v := .tuple #[.agg #[.slice (some ⟨w.heap.size + 1 + 1, 0, none⟩) 1 1, .int .i64 0, .int .i64 1, .bool true], .bool true]) (by simp [results, Tryz.results117, go_sem, q0, q1, q2, q3]) rfl ⟨_, rfl, hS.tag qk, qb⟩
 ·go_wp2
  have hS := StrO.one w9 w.heap.size (by have := HK9.out.2.2.2; omega) s rfl
  obtain ⟨q0, q1, q2, q3, qk, qb⟩ := pc_sets (HK9.out.2.1.alloc (.cells #[.string (mkS s)] 9)) (HK9.out.2.2.1.alloc (by have := HK9.out.2.2.2; omega) _) (by omega) (.slice (some ⟨w9.heap.size, 0, none⟩) 1 1) (.int .i64 0) (.int .i64 1) (.bool true)
  exact bodyPost_ret (v := .tuple #[.agg #[.slice (some ⟨w9.heap.size, 0, none⟩) 1 1, .int .i64 0, .int .i64 1, .bool true], .bool true]) (by simp [results, Tryz.results117, go_sem, q0, q1, q2, q3]) rfl ⟨_, rfl, hS.tag qk, qb⟩
theorem KeepTag.gb0 {t : TypeId} {w w' : World} (hg : w.grownBy w' none) : KeepTag t w w' := fun b cur h => (hg.block b (Array.getElem?_eq_some_iff.1 h).1 (by simp)).trans h
/-- The two pieces' blocks of operand, at numbers. -/
structure OperN (w W : World) (u : Value) : Prop where
 b1 : Blk W (w.heap.size + 1) 194 #[.slice none 0 0, .int .i64 0, .int .i64 0, .bool false]
 b2 : Blk W (w.heap.size + 2) 194 #[u, .int .i64 0, .int .i64 1, .bool true]
 bel : Below w.heap.size w W
 size : w.heap.size + 3 ≤ W.heap.size
theorem Tryz.infoStr : (Tryz.prog.info? 9).map (fun i => (i.zero, i.size, i.bytes)) = some (some (.string ⟨#[]⟩), 1, 16) := by kernel_rfl
set_option maxHeartbeats 4000000 in
set_option maxRecDepth 100000 in
theorem operand_num (a k : Int) (vn : Value) (w : World) (hk : in64 k) (hn : NumS w vn [k]) (hE : Env w) :
  Calls Tryz.prog 117 #[itemV 1 a 0 [] vn] w (OperPost ⟨[spelt k], 0, 1, true⟩ w) := by
 obtain ⟨i0, hi, hz0, hz1, hz2⟩ := info_parts Tryz.infoStr
 have HN := Lib.hid (fun W (h : Below w.heap.size w W) => snumber_any k W hk (hE.kept h))
 obtain ⟨g, c, rfl, hc1, hc2, hc3⟩ := hn.at (by simp)
 have hg := (hn.lt g rfl).2
 have q0 := hc3 0 k rfl
 unfold maxLen at hc2
 have HQ := Lib.hid (And.intro hg q0)
 simp only [List.length_cons, List.length_nil, Nat.zero_add] at hc1 ⊢
 clear hn hc3 hg q0
 unfold itemV
 have hem : (mkS []).toList = [] := by rw [ByteArray.toList_eq, mkS_toList]
 have HK : Hid (∀ W, Below (w.heap.size + 3) (((w.alloc (.cells #[.int .i64 1, .int .i64 a, .int .u8 0, .string (mkS []), .slice (some ⟨g, 0, none⟩) 1 c] 71)).alloc (.cells #[.slice none 0 0, .int .i64 0, .int .i64 0, .bool false] 194)).alloc (.cells #[.slice none 0 0, .int .i64 0, .int .i64 1, .bool true] 194)) W → OperN w W (.slice none 0 0)) := Lib.hid fun W hb => by
  have e : (((w.alloc (.cells #[.int .i64 1, .int .i64 a, .int .u8 0, .string (mkS []), .slice (some ⟨g, 0, none⟩) 1 c] 71)).alloc (.cells #[.slice none 0 0, .int .i64 0, .int .i64 0, .bool false] 194)).alloc (.cells #[.slice none 0 0, .int .i64 0, .int .i64 1, .bool true] 194)).heap.size = w.heap.size + 3 := by simp
  rw [← e] at hb
  have h0 : Blk W w.heap.size 71 _ := (((Blk.new w _ _ rfl).alloc (.cells #[.slice none 0 0, .int .i64 0, .int .i64 0, .bool false] 194)).alloc (.cells #[.slice none 0 0, .int .i64 0, .int .i64 1, .bool true] 194)).below hb
  have h1 : Blk W (w.heap.size + 1) 194 _ := ((Blk.new (w.alloc (.cells #[.int .i64 1, .int .i64 a, .int .u8 0, .string (mkS []), .slice (some ⟨g, 0, none⟩) 1 c] 71)) _ #[.slice none 0 0, .int .i64 0, .int .i64 0, .bool false] (by simp)).alloc (.cells #[.slice none 0 0, .int .i64 0, .int .i64 1, .bool true] 194)).below hb
  have h2 : Blk W (w.heap.size + 2) 194 _ := (Blk.new ((w.alloc (.cells #[.int .i64 1, .int .i64 a, .int .u8 0, .string (mkS []), .slice (some ⟨g, 0, none⟩) 1 c] 71)).alloc (.cells #[.slice none 0 0, .int .i64 0, .int .i64 0, .bool false] 194)) _ #[.slice none 0 0, .int .i64 0, .int .i64 1, .bool true] (by simp)).below hb
  have h3 := hb.size
  rw [e] at h3
  exact ⟨h1, h2, ((((Below.refl _ w).alloc (Nat.le_refl _) _).alloc (by simp) _).alloc (by simp; omega) _).trans (hb.mono (by simp; omega)), h3⟩
 have d0 := fun W (hb : Below w.heap.size w W) => (hb.cell (p := ⟨g, 0, none⟩) HQ.out.1).trans HQ.out.2
 have d1 := d0 _ (HK.out _ (Below.refl _ _)).bel
 clear d0
 go_enter Tryz.func117, Tryz.ntmps117
 go_wp2_with fail
 refine wp_loop_rounds 2 ?_
 rw [rounds_succ]
 go_upto_region 9 with fail
 go_region_law
  (first
   | (go_simp; go_at_call 99; refine (HN.out _ (HK.out _ (by repeat (first | with_reducible exact Below.refl _ _ | refine Below.drew ?_ | refine Below.alloc ?_ (by simp <;> omega) _))).bel).mono ?_; rintro _ w4 ⟨rfl, hb4⟩; have hk4 := HK.out w4 (Below.trans (by repeat (first | with_reducible exact Below.refl _ _ | refine Below.drew ?_ | refine Below.alloc ?_ (by simp <;> omega) _)) (hb4.mono (by simp <;> omega))); have t0 := (hk4.b2.cell 0).trans (show _ = some (Value.slice none 0 0) from rfl); have t1 := fun o => ((hk4.b2.alloc o).cell 0).trans (show _ = some (Value.slice none 0 0) from rfl); have HK4 := Lib.hid hk4; clear hb4 hk4)
   | (refine step_append_lies _ (by rfl) _ _ _ (by rfl) w.heap.size 9 i0 (.string ⟨#[]⟩) 1 16 Tryz.underlying49 hi hz0 hz1 hz2 rfl (by decide) (.slice none 0 0) 0 [] (by rfl) (World.ownsRow_nil _ _ _ _) ⟨w4.heap.size, 0, none⟩ 1 1 [.string (mkS (spelt k))] (by rfl) (by rfl) (World.news_of_block (cs := #[.string (mkS (spelt k))]) (t := 9) (fr := (0, 0)) (heap_alloc_new w4 _)) (by simp [Value.oneCell']) (by decide) (by unfold maxLen; omega) (by omega) (by have := HK4.out.size; simp; omega) (w4.heap.size + 1) (by simp) ?_; intro g2 cap2 w5 hown5 hgrow5 hat5 hlt5; have hk5 : ∀ t, t ≠ 9 → KeepTag t w4 w5 := (fun t h => (KeepTag.alloc _).trans (KeepTag.gb0 hgrow5)); have hB5 : OperN w w5 (.slice none 0 0) := ⟨HK4.out.b1.keep (hk5 _ (by decide)), HK4.out.b2.keep (hk5 _ (by decide)), (HK4.out.bel.alloc (by have := HK4.out.size; omega) _).grown hgrow5 (by have := HK4.out.size; simp; omega) (fun j hj => by cases hj), Nat.le_trans (Nat.le_trans HK4.out.size (by simp)) hgrow5.size⟩; have x5 := (hB5.b2.cell 0).trans (show _ = some (Value.slice none 0 0) from rfl); have x5f := hB5.b2.froz 0; have HB5 := Lib.hid hB5; have HS5 : Hid (StrO w5 w.heap.size (.slice (some ⟨g2, 0, none⟩) 1 cap2) [spelt k]) := Lib.hid hown5; clear hown5 hgrow5 hat5 hlt5 hk5 hB5))
 all_goals
  obtain ⟨W6, hW6⟩ : ∃ W, W = w5.setCell ⟨w.heap.size + 1 + 1, 0, none⟩ (.slice (some ⟨g2, 0, none⟩) 1 cap2) := ⟨_, rfl⟩
  rw [← hW6]
  have hB6 : OperN w W6 (.slice (some ⟨g2, 0, none⟩) 1 cap2) := by
   rw [hW6]
   exact ⟨HB5.out.b1.other (by omega) _ _, HB5.out.b2.set40 _, below_set HB5.out.bel (by omega) _, by rw [World.size_setCell]; exact HB5.out.size⟩
  have hS6 : StrO W6 w.heap.size (.slice (some ⟨g2, 0, none⟩) 1 cap2) [spelt k] := by
   rw [hW6]
   exact HS5.out.tag (KeepTag.set HB5.out.b2 (by decide) 0 _)
  have z0 := (hB6.b2.cell 0).trans (show _ = some (Value.slice (some ⟨g2, 0, none⟩) 1 cap2) from rfl)
  have z1 := (hB6.b2.cell 1).trans (show _ = some (Value.int .i64 0) from rfl)
  have z2 := (hB6.b2.cell 2).trans (show _ = some (Value.int .i64 1) from rfl)
  have z3 := (hB6.b2.cell 3).trans (show _ = some (Value.bool true) from rfl)
  have y0 := (hB6.b1.cell 0).trans (show _ = some (Value.slice none 0 0) from rfl)
  have y1 := (hB6.b1.cell 1).trans (show _ = some (Value.int .i64 0) from rfl)
  have y2 := (hB6.b1.cell 2).trans (show _ = some (Value.int .i64 0) from rfl)
  have y3 := (hB6.b1.cell 3).trans (show _ = some (Value.bool false) from rfl)
  have yf := hB6.b1.froz
  obtain ⟨q0, q1, q2, q3, qk, qb⟩ := pc_sets hB6.b1 hB6.bel (by omega) (.slice (some ⟨g2, 0, none⟩) 1 cap2) (.int .i64 0) (.int .i64 1) (.bool true)
  have HE6 := Lib.hid (And.intro (hS6.tag qk) qb)
  have HQs := Lib.hid (And.intro q0 (And.intro q1 (And.intro q2 q3)))
  clear hB6 hS6 hW6 q0 q1 q2 q3 qk qb x5 x5f
  go_wp2_with fail
  rw [rounds_succ]
  go_wp2_with fail
  obtain ⟨q0, q1, q2, q3⟩ := HQs.out
  exact bodyPost_ret (v := .tuple #[.agg #[.slice (some ⟨g2, 0, none⟩) 1 cap2, .int .i64 0, .int .i64 1, .bool true], .bool true]) (by simp [results, Tryz.results117, go_sem, q0, q1, q2, q3]) rfl ⟨_, rfl, HE6.out.1, HE6.out.2⟩
end
end Go.Proofs.YtknnleiinhdklaaGreatDoor
