/-
  Package mean: what Mean's loops keep. No condition.   Walk of package mean: item at each step that the programs take. Condition: the step is one of the plain ones; the values read as arrays.   Walks of package mean: begin's two closures, where the side has no name; slices.Index of no names.   Walks of package show: write, Right, at a program that may be shown. Condition: the program lies in memory; the library's variables are as they were laid.
-/
import Derived.Test.YtknnleiinhdklaaGreatDoorPk25
import Derived.Test.YtknnleiinhdklaaGreatDoorPk27
import Derived.Test.YtknnleiinhdklaaGreatDoorPk42
import Derived.Test.YtknnleiinhdklaaGreatDoorPk43
namespace Go.Proofs.YtknnleiinhdklaaGreatDoor
section
open Go.RowKit Go.Shelf Go.Sort Go.Maps
/-- What Mean's loops keep: the program's box, the fault, the run, its names, what came out so far. -/
structure MeAt (w wr : World) (vi vl : Value) (kr km nn work : Nat) (F : Lit → Option Value) (E : List UInt8 → Option Arr) (vo : Value) (uo : List (Value × Value)) (outs : List Arr) : Prop where
 bel : Below w.heap.size w wr
 box : Blk wr w.heap.size 41 #[vi, vl]
 flt : Blk wr (w.heap.size + 1) 44 #[.int .i64 0, .int .i64 0]
 run : Blk wr kr 76 #[.map (some km), .int .i64 work]
 map : MapV Tryz.prog 9 wr km nn F
 nam : ∀ nm x, E nm = some x → ∃ u, F (.string nm) = some u ∧ ArrK wr w.heap.size u x
 out : StkV wr w.heap.size vo uo outs
 far : w.heap.size + 2 ≤ kr ∧ w.heap.size + 2 ≤ km ∧ kr ≠ km
section
variable {w wr w' : World} {vi vl : Value} {kr km nn work : Nat} {F : Lit → Option Value} {E : List UInt8 → Option Arr} {vo : Value} {uo : List (Value × Value)} {outs : List Arr}
theorem MeAt.below (h : MeAt w wr vi vl kr km nn work F E vo uo outs) (hb : Below wr.heap.size wr w') : MeAt w w' vi vl kr km nn work F E vo uo outs := by
 have hf : FrI w.heap.size wr w' := FrI.below hb h.bel.size
 exact ⟨h.bel.trans (hb.mono h.bel.size), h.box.below hb, h.flt.below hb, h.run.below hb, h.map.below hb, fun nm x e => let ⟨u, a, b⟩ := h.nam nm x e; ⟨u, a, b.keep hf⟩, h.out.keep hf (KeepTag.below hb), h.far⟩
theorem MeAt.drew (h : MeAt w wr vi vl kr km nn work F E vo uo outs) : MeAt w wr.drew vi vl kr km nn work F E vo uo outs := h.below (Below.refl _ _).drew
theorem MeAt.draws (h : MeAt w wr vi vl kr km nn work F E vo uo outs) (m : Nat) : MeAt w (wr.drewN m) vi vl kr km nn work F E vo uo outs := h.below (below_drewN' (Below.refl _ _) _)
/-- Behind an item. -/
theorem MeAt.item {n : Nat} (h : MeAt w wr vi vl kr km nn work F E vo uo outs) (hg : wr.grownBy w' (some kr)) (hk : Blk w' kr 76 #[.map (some km), .int .i64 n]) : MeAt w w' vi vl kr km nn n F E vo uo outs ∧ FrI w.heap.size wr w' := by
 obtain ⟨f1, f2, f3⟩ := h.far
 have hf : FrI w.heap.size wr w' := FrI.gb hg h.run (by decide) (by omega)
 refine ⟨⟨h.bel.grown hg h.bel.size (fun j hj => by cases hj; omega), h.box.gb hg (by omega), h.flt.gb hg (by omega), hk, h.map.kept hg (fun e => f3 (by injection e with e; exact e.symm)), fun nm x e => let ⟨u, a, b⟩ := h.nam nm x e; ⟨u, a, b.keep hf⟩, h.out.keep hf (KeepTag.gb hg h.run (by decide)), h.far⟩, hf⟩
/-- A name more. -/
theorem MeAt.put {nm : List UInt8} {u : Value} {y : Arr} (h : MeAt w wr vi vl kr km nn work F E vo uo outs) (hg : wr.grownBy w' (some km)) (hm : MapV Tryz.prog 9 w' km (nn + 1) (putF F (.string nm) u)) (hu : ArrK wr w.heap.size u y) : MeAt w w' vi vl kr km (nn + 1) work (putF F (.string nm) u) (addE E nm y) vo uo outs ∧ FrI w.heap.size wr w' ∧ ∀ t, KeepTag t wr w' := by
 obtain ⟨f1, f2, f3⟩ := h.far
 obtain ⟨es, clock, hmap⟩ := h.map.is_map
 have hkt : ∀ t, KeepTag t wr w' := fun t b cur hb => (hg.block b (Array.getElem?_eq_some_iff.1 hb).1 (fun e => by injection e with e; rw [e, hmap] at hb; cases hb)).trans hb
 have hf : FrI w.heap.size wr w' := ⟨hg.size, fun k hk => hg.block k (by have := h.bel.size; omega) (fun e => by injection e with e; omega), hkt _⟩
 refine ⟨⟨h.bel.grown hg h.bel.size (fun j hj => by cases hj; omega), h.box.keep (hkt _), h.flt.keep (hkt _), h.run.keep (hkt _), hm, fun k x e => ?_, h.out.keep hf (hkt _), h.far⟩, hf, hkt⟩
 unfold addE at e
 by_cases hk : k = nm
 ·subst hk
  rw [if_pos rfl] at e
  injection e with e
  subst e
  exact ⟨u, putF_same F (kl := .string k) trivial u, hu.keep hf⟩
 ·rw [if_neg hk] at e
  obtain ⟨v, a, b⟩ := h.nam k x e
  exact ⟨v, (putF_other F (fun e => hk (by injection e)) u).trans a, b.keep hf⟩
/-- One more came out. -/
theorem MeAt.more {vo' : Value} {y : Arr} {u : Value × Value} (h : MeAt w wr vi vl kr km nn work F E vo uo outs) (hg : wr.grownBy w' vo.ownBlock) (ho : w'.ownsRow w.heap.size 24 2 vo' (outs.length + 1) (prs uo ++ [u.1, u.2])) (hu : ArrK wr w.heap.size (.agg #[u.1, u.2]) y) :
  MeAt w w' vi vl kr km nn work F E vo' (uo ++ [u]) (outs ++ [y]) := by
 have hkt : ∀ t, t ≠ 24 → KeepTag t wr w' := fun t ht => KeepTag.own hg h.out.row ht
 have hf : FrI w.heap.size wr w' := FrI.own hg h.out.row (by decide) (Nat.le_refl _) h.bel.size
 obtain ⟨es, clock, hmap⟩ := h.map.is_map
 have hne : some km ≠ vo.ownBlock := fun e => by
  rcases h.out.row.2 with ⟨rfl, _⟩ | ⟨g, cap, cur, rfl, _, hgg, _⟩
  ·cases e
  ·injection e with e
   rw [show km = g from e, hgg] at hmap
   cases hmap
 refine ⟨h.bel.grown hg h.bel.size (fun k hk => (h.out.row.lt k hk).1), h.box.keep (hkt _ (by decide)), h.flt.keep (hkt _ (by decide)), h.run.keep (hkt _ (by decide)), h.map.kept hg hne, fun nm x e => let ⟨u, a, b⟩ := h.nam nm x e; ⟨u, a, b.keep hf⟩, ⟨?_, ?_, fun i x v h1 h2 => ?_⟩, h.far⟩
 ·rw [List.length_append, List.length_append, h.out.len]; rfl
 ·rw [List.length_append, prs_append]
  exact ho
 ·by_cases hi : i < outs.length
  ·rw [List.getElem?_append_left hi] at h1
   rw [List.getElem?_append_left (by rw [h.out.len]; exact hi)] at h2
   exact (h.out.arr i x v h1 h2).keep hf
  ·rw [List.getElem?_append_right (by omega)] at h1
   rw [List.getElem?_append_right (by rw [h.out.len]; omega), h.out.len] at h2
   have : i - outs.length = 0 := by
    have := (List.getElem?_eq_some_iff.1 h1).1
    simp at this
    omega
   rw [this] at h1 h2
   injection h1 with h1
   injection h2 with h2
   subst h1 h2
   exact hu.keep hf
end
theorem StkV.cells_keep {w w' : World} {base g n c : Nat} {us : List (Value × Value)} {st : List Arr} (h : StkV w base (.slice (some ⟨g, 0, none⟩) n c) us st) (hk : KeepTag 24 w w') (o : Nat) : w'.cell? ⟨g, o, none⟩ = w.cell? ⟨g, o, none⟩ := by
 rcases h.row.2 with ⟨he, _⟩ | ⟨g', cap, cur, he, _, hg, _⟩
 ·cases he
 ·injection he with he _ _
  injection he with he
  injection he with he _
  subst he
  exact cell_same ((hk g cur hg).trans hg.symm) o
theorem ArrK.ints {w : World} {base : Nat} {a b : Value} {x : Arr} (h : ArrK w base (.agg #[a, b]) x) : IntsS w a (ofN x.sides) ∧ IntsS w b x.data := by
 obtain ⟨vs, vd, he, h1, h2⟩ := h
 simp only [Value.agg.injEq, Array.mk.injEq, List.cons.injEq, and_true] at he
 obtain ⟨rfl, rfl⟩ := he
 exact ⟨h1.s, h2.s⟩
/-- At the end: the fault is told to be none. -/
theorem MeAt.ended {w wr : World} {vi vl : Value} {kr km nn work : Nat} {F : Lit → Option Value} {E : List UInt8 → Option Arr} {vo : Value} {uo : List (Value × Value)} {outs : List Arr} (h : MeAt w wr vi vl kr km nn work F E vo uo outs) :
  let W' := (wr.setCell ⟨w.heap.size + 1, 0, none⟩ (.int .i64 0)).setCell ⟨w.heap.size + 1, 1, none⟩ (.int .i64 0)
  W'.cell? ⟨w.heap.size + 1, 0, none⟩ = some (.int .i64 0) ∧ W'.cell? ⟨w.heap.size + 1, 1, none⟩ = some (.int .i64 0) ∧ StkV W' w.heap.size vo uo outs ∧ Below w.heap.size w W' := by
 have hb := Blk.put2 h.flt (.int .i64 0) (.int .i64 0)
 refine ⟨(hb.cell 0).trans rfl, (hb.cell 1).trans rfl, ?_, below_set (below_set h.bel (by omega) _) (by omega) _⟩
 have h1 := FrI.gb (gb_set wr (w.heap.size + 1) 0 (.int .i64 0)) h.flt (by decide) (Nat.le_succ w.heap.size)
 have h2 := FrI.gb (gb_set (wr.setCell ⟨w.heap.size + 1, 0, none⟩ (.int .i64 0)) (w.heap.size + 1) 1 (.int .i64 0)) (Blk.put0 h.flt (.int .i64 0)) (by decide) (Nat.le_succ w.heap.size)
 exact h.out.keep (h1.trans h2) ((KeepTag.set h.flt (by decide) 0 _).trans (KeepTag.set (Blk.put0 h.flt (.int .i64 0)) (by decide) 1 _))
/-- Behind begin. -/
theorem MeAt.start {w w1 w2 : World} {vi vl : Value} {kr km : Nat} {x : Arr} {u : Value × Value} (h1 : w1 = (w.alloc (.cells #[vi, vl] 41)).alloc (.cells #[.int .i64 0, .int .i64 0] 44)) (hk : w1.heap.size ≤ kr) (hm : w1.heap.size ≤ km) (hne : kr ≠ km)
  (hr : Blk w2 kr 76 #[.map (some km), .int .i64 0]) (hM : MapV Tryz.prog 9 w2 km 1 (putF (fun _ => none) (.string [120]) (.agg #[u.1, u.2]))) (hb : Below w1.heap.size w1 w2) (hx : ArrV w (.agg #[u.1, u.2]) x) :
  MeAt w w2 vi vl kr km 1 0 (putF (fun _ => none) (.string [120]) (.agg #[u.1, u.2])) (envX x) (.slice none 0 0) [] [] := by
 subst h1
 have hs : ((w.alloc (.cells #[vi, vl] 41)).alloc (.cells #[.int .i64 0, .int .i64 0] 44)).heap.size = w.heap.size + 2 := by simp
 have hB : Below w.heap.size w w2 := (((Below.refl _ w).alloc (Nat.le_refl _) _).alloc (by simp) _).trans (hb.mono (by omega))
 rw [hs] at hk hm
 refine ⟨hB, ((Blk.new w _ _ rfl).alloc _).below hb, Blk.below (Blk.new _ _ _ (by simp)) hb, hr, hM, fun nm y e => ?_, StkV.nil _ _, hk, hm, hne⟩
 unfold envX addE at e
 by_cases h : nm = [120]
 ·subst h
  rw [if_pos rfl] at e
  injection e with e
  subst e
  exact ⟨_, putF_same _ (kl := .string [120]) trivial _, (ArrK.old hx (Nat.le_refl _)).keep (FrI.below hB (Nat.le_refl _))⟩
 ·rw [if_neg h] at e
  cases e
theorem StepR.len {E : List UInt8 → Option Arr} {it : Itm} {st st' : List Arr} (h : StepR E it st st') : st'.length ≤ st.length + 1 := by
 rcases h with ⟨_, k, _, rfl⟩ | ⟨_, _, x, _, _, rfl⟩ | ⟨_, r, x, y, _, _, _, rfl, rfl⟩ | ⟨_, r, x, y, _, _, _, rfl, rfl⟩ | ⟨_, r, x, y, z, _, _, _, _, rfl, rfl⟩
 all_goals simp only [List.length_append, List.length_cons, List.length_nil]; omega
end
section
open Go.RowKit Go.Shelf Go.Sort Go.Maps
theorem mon_prim {f : Nat} {x y : Arr} (h : MonR f x y) (hx : ArrOk x) (u : Value) (W : World) (hu : ArrV W u x) : Calls Tryz.prog 39 #[.int .u8 f, u] W (PrimPost y W) := by
 cases h
 ·exact shape_any u x W hu hx
 ·exact ravel_any u x W hu hx
 ·exact rev_any u x W hu hx
 ·exact mturn_any u x W hu hx
theorem fold_prim {f : Nat} {x y : Arr} (h : FoldR f x y) (hx : ArrOk x) (u : Value) (W : World) (hu : ArrV W u x) : Calls Tryz.prog 40 #[.int .u8 f, u] W (PrimPost y W) := by
 obtain ⟨op, e, hf, rfl, hs⟩ := h
 by_cases h0 : x.sides = []
 ·rw [foldA_nil e h0]
  exact fold0_any hf u x W hu hx h0
 ·exact fold_any hf u x W hu hx h0 (hs h0)
theorem dy_prim {f : Nat} {x y z : Arr} (h : DyR f x y z) (hx : ArrOk x) (hy : ArrOk y) (hz : ArrOk z) (u u' : Value) (W : World) (hu : ArrV W u x) (hu' : ArrV W u' y) : Calls Tryz.prog 42 #[.int .u8 f, u, u'] W (PrimPost z W) := by
 cases h with
 | rho _ _ s h1 h2 h3 h4 h5 => exact dyad_rho u u' x y s W hu hu' hx hy h1 h2 h3 h4 h5
 | take n all r d lo hi hp => exact dyad_part u u' n all r d true lo hi W hu hu' hx hy hp
 | drop n all r d lo hi hp => exact dyad_part u u' n all r d false lo hi W hu hu' hx hy hp
 | cat p q r d1 d2 => exact dyad_cat u u' p q r d1 d2 W hu hu' hx hy hz
theorem item_any {base kr km nn work : Nat} {F : Lit → Option Value} {E : List UInt8 → Option Arr} (w : World) (v vn : Value) (us : List (Value × Value)) (st st' : List Arr) (it : Itm) (hst : StepR E it st st')
  (hn : IntsS w vn it.nums) (hM : MapV Tryz.prog 9 w km nn F) (hE : ∀ nm x, E nm = some x → ∃ u, F (.string nm) = some u ∧ ArrK w base u x)
  (hK : Blk w kr 76 #[.map (some km), .int .i64 work]) (hwk : work ≤ 983040) (hb : base ≤ kr) (hS : StkV w base v us st) (hl : st.length ≤ 20) :
  Calls Tryz.prog 22 #[.pointer (some ⟨kr, 0, none⟩), .agg #[.int .i64 it.how, .int .i64 it.at_, .int .u8 it.fn, .string (mkS it.name), vn], v] w (ItemPost base kr km work st' w) := by
 obtain ⟨how, ia, fn, nm, nums⟩ := it
 rcases hst with ⟨e1, k, e2, rfl⟩ | ⟨e1, e2, x, e3, e4, rfl⟩ | ⟨e1, r, x, y, h1, h2, h3, rfl, rfl⟩ | ⟨e1, r, x, y, h1, h2, h3, rfl, rfl⟩ | ⟨e1, r, x, y, z, h1, h2, h3, h4, rfl, rfl⟩
 ·dsimp only at e1 e2 hn ⊢
  subst e1 e2
  rcases hS.row.2 with ⟨rfl, h0⟩ | ⟨g, c, cur, rfl, _, _, hc, _⟩
  ·obtain rfl : st = [] := List.eq_nil_of_length_eq_zero h0
   exact item_num0 w ia nm vn k hn hK hwk hb
  ·exact item_num1 w g st.length c us st ia nm vn k hn hK hwk hb hS rfl hl hc
 ·dsimp only at e1 e2 e3 ⊢
  subst e1
  obtain ⟨u, hF, hu⟩ := hE nm x e3
  rcases hS.row.2 with ⟨rfl, h0⟩ | ⟨g, c, cur, rfl, _, _, hc, _⟩
  ·obtain rfl : st = [] := List.eq_nil_of_length_eq_zero h0
   exact item_name0 w ia nm vn u x e2 hM hF hu e4.le hK hwk hb
  ·exact item_name1 w g st.length c us st ia nm vn u x e2 hM hF hu e4.le hK hwk hb hS rfl hl hc
 ·dsimp only at e1 h1 ⊢
  subst e1
  exact item_mon w v us r ia nm vn (fun u W hu => mon_prim h1 h2 u W hu) h3.le hK hwk hb hS (by rw [List.length_append] at hl; omega)
 ·dsimp only at e1 h1 ⊢
  subst e1
  exact item_fold w v us r ia nm vn (fun u W hu => fold_prim h1 h2 u W hu) h3.le hK hwk hb hS (by rw [List.length_append] at hl; omega)
 ·dsimp only at e1 h1 ⊢
  subst e1
  have hS2 : StkV w base v us (r ++ [x, y]) := by
   have := hS
   rw [List.append_assoc] at this
   exact this
  exact item_dyad w v us r ia nm vn (fun u u' W hu hu' => dy_prim h1 h2 h3 h4 u u' W hu hu') h4.le hK hwk hb hS2 (by rw [List.length_append, List.length_append] at hl; omega)
end
section
open Go.RowKit Go.Shelf Go.Sort Go.Maps
set_option maxHeartbeats 400000 in
theorem begin1_any : Tells 33 badB := by
 intro x w
 by_cases h1 : x < 0
 ·have h2 : Hid (badB x = true) := Lib.hid (by unfold badB; rw [decide_eq_true h1]; rfl)
  go_enter Tryz.func33, Tryz.ntmps33
  go_wp2_with fail
  go_ret
  exact ⟨by rw [h2.out]; rfl, rfl⟩
 ·have h2 : Hid (badB x = decide (65536 < x)) := Lib.hid (by unfold badB; rw [decide_eq_false h1]; rfl)
  have h3 : decide (x < 0) = false := decide_eq_false h1
  go_enter Tryz.func33, Tryz.ntmps33
  go_wp2_with fail
  go_ret
  exact ⟨by rw [h2.out]; rfl, rfl⟩
set_option maxHeartbeats 400000 in
theorem begin2_any (w : World) (n : Int) (p q : Value) : Calls Tryz.prog 37 #[.agg #[.string (mkS []), .int .i64 n], p, q] w fun e w' => e = .returned (.int .i64 n) ∧ Below w.heap.size w w' := by
 rw [show mkS [] = ⟨#[]⟩ from rfl]
 have HB := Lib.hid ((Below.refl _ w).alloc (Nat.le_refl _) (.cells #[.string ⟨#[]⟩, .int .i64 n] 96))
 go_enter Tryz.func37, Tryz.ntmps37
 go_wp2_with fail
 go_ret
 exact ⟨rfl, HB.out⟩
set_option maxHeartbeats 400000 in
theorem index_none (w : World) (s : Value) : Calls Tryz.prog 35 #[.slice none 0 0, s] w fun e w' => e = .returned (.int .i64 (-1)) ∧ w = w' := by
 go_enter Tryz.func35, Tryz.ntmps35
 go_wp2_with fail
 go_loopw [4, 8] (fun _ v8 wr => v8 = .int .i64 0 ∧ w = wr) (fun _ _ _ => 0)
 case atStart => exact ⟨rfl, rfl⟩
 case round =>
  obtain ⟨rfl, rfl⟩ := hrel
  go_wp2_with fail
  go_ret
  exact ⟨rfl, rfl⟩
end
section
open Go.RowKit Go.Shelf Go.Sort Go.Maps
theorem Blk.box2 (w : World) (k1 k2 : Nat) : Blk (w.alloc (.cells #[.map (some k1), .map (some k2), .pointer none, .slice none 0 0] 149)) w.heap.size 149 #[.map (some k1), .map (some k2), .pointer none, .slice none 0 0] := Blk.new w _ _ rfl
set_option maxHeartbeats 4000000 in
set_option maxRecDepth 100000 in
theorem swrite_any (w : World) (vi vl : Value) (p : Prg) (hE : Env w) (hP : PrgV w 0 vi vl p) (hok : ShowOk p) :
  Calls Tryz.prog 55 #[.agg #[vi, vl]] w fun e w' => (∃ s, e = .returned (.tuple #[.string s, .bool true])) ∧ Below w.heap.size w w' := by
 obtain ⟨⟨ai, ci, hi⟩, al, cl, hl⟩ := hP.forms
 subst hi hl
 generalize p.inputs.length = NI at *
 generalize p.lines.length = NL at *
 have HT := Lib.hid (fun two W (hb : Below w.heap.size w W) => texts_any two W (hE.kept hb))
 have HB0 := Lib.hid ((Below.refl _ w).alloc (Nat.le_refl _) (.cells #[.slice ai NI ci, .slice al NL cl] 41))
 have HX := Lib.hid (Blk.new w 41 #[.slice ai NI ci, .slice al NL cl] rfl)
 have HPr := Lib.hid (fun W ks k1 k2 (hb : Below w.heap.size w W) (hS : ShowAt W w.heap.size ks k1 k2 0) (hks : w.heap.size ≤ ks) => program_any w W ks k1 k2 _ _ p hE hb hS hks (hP.keepS (KeepS.below hb)) hok)
 clear hE hP hok
 unfold TextsPost at HT
 go_enter Tryz.func55, Tryz.ntmps55
 go_upto_region 2 with (first
  | (go_at_call 81; refine (HT.out true _ HB1.out).mono ?_; rintro _ w2 ⟨rfl, hm, hb⟩; have HM2 := Lib.hid hm; have HB2 := Lib.hid (HB1.out.trans (hb.mono HB1.out.size)); have HM1b := Lib.hid (HM1.out.below hb); have HX2 := Lib.hid (HX1.out.below hb); clear hm hb)
  | (go_at_call 81; refine (HT.out false _ HB0.out).mono ?_; rintro _ w1 ⟨rfl, hm, hb⟩; rw [World.size_alloc] at hm; have HM1 := Lib.hid hm; have HB1 := Lib.hid (HB0.out.trans (hb.mono HB0.out.size)); have HX1 := Lib.hid (HX.out.below hb); have HBb := Lib.hid hb; clear hm hb HX))
 have HSh : Hid (ShowAt (w2.alloc (.cells #[.map (some (w.heap.size + 1)), .map (some w1.heap.size), .pointer none, .slice none 0 0] 149)) w.heap.size w2.heap.size (w.heap.size + 1) w1.heap.size 0) := Lib.hid ⟨_, _, [], rfl, Blk.box2 w2 _ _, .inl rfl, World.ownsRow_nil _ _ _ _, HM1b.out.below ((Below.refl _ _).alloc (Nat.le_refl _) _), HM2.out.below ((Below.refl _ _).alloc (Nat.le_refl _) _)⟩
 have HB3 : Hid (Below w.heap.size w (w2.alloc (.cells #[.map (some (w.heap.size + 1)), .map (some w1.heap.size), .pointer none, .slice none 0 0] 149))) := Lib.hid (HB2.out.alloc HB2.out.size _)
 have HPc := Lib.hid (HPr.out _ _ _ _ HB3.out HSh.out HB2.out.size)
 have x0 := (HX2.out.alloc (.cells #[.map (some (w.heap.size + 1)), .map (some w1.heap.size), .pointer none, .slice none 0 0] 149)).cell 0 |>.trans (show _ = some (Value.slice ai NI ci) from rfl)
 have x1 := (HX2.out.alloc (.cells #[.map (some (w.heap.size + 1)), .map (some w1.heap.size), .pointer none, .slice none 0 0] 149)).cell 1 |>.trans (show _ = some (Value.slice al NL cl) from rfl)
 go_wp2_with (first
  | (go_at_call 82; refine HPc.out.mono ?_; rintro _ w3 ⟨rfl, ⟨m, hs, hm⟩, hb⟩; have HSt := Lib.hid (string_any w.heap.size w2.heap.size (w.heap.size + 1) w1.heap.size m w3 hs hm); have HB4 := Lib.hid hb; clear hs hm hb)
  | (go_at_call 83; refine HSt.out.mono ?_; rintro _ w4 ⟨⟨s, rfl⟩, hb⟩; have HB5 := Lib.hid (HB4.out.trans hb); clear hb))
 exact bodyPost_ret (v := .tuple #[.string s, .bool true]) (by simp [results, Tryz.results55, go_sem]) rfl ⟨⟨_, rfl⟩, HB5.out⟩
set_option maxHeartbeats 1000000 in
set_option maxRecDepth 100000 in
/-- A program that may be shown. -/
theorem sright_any (w : World) (vi vl : Value) (p : Prg) (hE : Env w) (hP : PrgV w 0 vi vl p) (hok : ShowOk p) :
  Calls Tryz.prog 32 #[.agg #[vi, vl]] w fun e w' => e = .returned (.bool true) ∧ Below w.heap.size w w' := by
 obtain ⟨⟨ai, ci, hi⟩, al, cl, hl⟩ := hP.forms
 subst hi hl
 have HB0 := Lib.hid ((Below.refl _ w).alloc (Nat.le_refl _) (.cells #[.slice ai p.inputs.length ci, .slice al p.lines.length cl] 41))
 have HW := Lib.hid (fun W (hb : Below w.heap.size w W) => swrite_any W _ _ p (hE.kept hb) (hP.keepS (KeepS.below hb)) hok)
 clear hE hP hok
 generalize p.inputs.length = NI at *
 generalize p.lines.length = NL at *
 go_enter Tryz.func32, Tryz.ntmps32
 go_wp2_with (go_at_call 55; refine (HW.out _ HB0.out).mono ?_; rintro _ w1 ⟨⟨s, rfl⟩, hb⟩; have HB1 := Lib.hid (HB0.out.trans (hb.mono HB0.out.size)); clear hb)
 go_ret
 exact ⟨rfl, HB1.out⟩
end
end Go.Proofs.YtknnleiinhdklaaGreatDoor
