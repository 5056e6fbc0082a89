/-
  Walk of array.Index. Condition: the slice reads as a list, the sides are an array's, the place lies in them.
-/
import Derived.Test.YtknnleiinhdklaaGreatDoorPk29
import Derived.Laws.CopyOwn
namespace Go.Proofs.YtknnleiinhdklaaGreatDoor
open Go.RowKit Go.Shelf Go.Sort
attribute [local go_sem] Oper.semAt_some
def quoR : List Nat → Nat → Nat → Nat
 | _, p, 0 => p
 | [], p, _ + 1 => p
 | s :: r, p, c + 1 => quoR r (p / s) c
theorem idxR_len : ∀ (r : List Nat) (p : Nat), (idxR r p).length = r.length
 | [], _ => rfl
 | s :: r, p => by
  show (idxR r (p / s)).length + 1 = _
  rw [idxR_len r]
  rfl
theorem idxR_get : ∀ (r : List Nat) (p c x : Nat), r[c]? = some x → (idxR r p)[c]? = some (quoR r p c % x) ∧ quoR r p (c + 1) = quoR r p c / x
 | s :: r, p, 0, x, h => by
  simp only [List.getElem?_cons_zero, Option.some.injEq] at h
  subst h
  exact ⟨rfl, by cases r <;> rfl⟩
 | s :: r, p, c + 1, x, h => by
  obtain ⟨h1, h2⟩ := idxR_get r (p / s) c x (by simpa using h)
  exact ⟨h1, h2⟩
 | [], _, _, _, h => by simp at h
def stepO (s : List Nat) (st : List Int × Nat) (x : Nat × Int) : List Int × Nat := (st.1.set x.1 ((st.2 % s.getD x.1 1 : Nat) : Int), st.2 / s.getD x.1 1)
theorem steps_back (s : List Nat) (p : Nat) : ∀ k, k ≤ s.length → ((upF (backF (ofN s)) k).foldl (stepO s) (ofN s, p)).1.length = s.length ∧
  (∀ i, s.length - k ≤ i → i < s.length → ((upF (backF (ofN s)) k).foldl (stepO s) (ofN s, p)).1[i]? = ((idxR s.reverse p)[s.length - 1 - i]?).map (fun n : Nat => (n : Int))) ∧
  ((upF (backF (ofN s)) k).foldl (stepO s) (ofN s, p)).2 = quoR s.reverse p k
 | 0, _ => ⟨by show (ofN s).length = _; exact ofN_len s, fun i h1 h2 => by omega, by show p = _; cases s.reverse <;> rfl⟩
 | k + 1, hk => by
  obtain ⟨h1, h2, h3⟩ := steps_back s p k (by omega)
  rw [upF_succ, List.foldl_append, List.foldl_cons, List.foldl_nil]
  generalize (upF (backF (ofN s)) k).foldl (stepO s) (ofN s, p) = st at *
  have hx : s.reverse[k]? = some (s.getD (s.length - 1 - k) 1) := by
   rw [List.getElem?_reverse (by omega), List.getD_eq_getElem?_getD, List.getElem?_eq_getElem (by omega)]
   rfl
  obtain ⟨g1, g2⟩ := idxR_get s.reverse p k _ hx
  have hb : (backF (ofN s) k).1 = s.length - 1 - k := by unfold backF; rw [ofN_len]
  unfold stepO
  rw [hb, h3]
  refine ⟨by rw [List.length_set]; exact h1, fun i hi1 hi2 => ?_, g2.symm⟩
  by_cases he : s.length - 1 - k = i
  ·subst he
   rw [List.getElem?_set_self (by omega), show s.length - 1 - (s.length - 1 - k) = k by omega, g1]
   rfl
  ·rw [List.getElem?_set_ne he]
   exact h2 i (by omega) hi2
theorem steps_all (s : List Nat) (p : Nat) : ((upF (backF (ofN s)) s.length).foldl (stepO s) (ofN s, p)).1 = ofN (idxR s.reverse p).reverse := by
 obtain ⟨h1, h2, _⟩ := steps_back s p s.length (Nat.le_refl _)
 have hl : (idxR s.reverse p).length = s.length := by rw [idxR_len, List.length_reverse]
 apply List.ext_getElem?
 intro i
 by_cases hi : i < s.length
 ·rw [h2 i (by omega) hi, ofN_get, List.getElem?_reverse (by omega), hl]
 ·rw [List.getElem?_eq_none (by omega), List.getElem?_eq_none (by rw [ofN_len, List.length_reverse]; omega)]
def IndexPost (s : List Nat) (p : Nat) (w : World) (e : Ending) (w' : World) : Prop := ∃ u, e = .returned (.tuple #[u, .int .i64 0]) ∧ IntsO w' w.heap.size u (ofN (idxR s.reverse p).reverse) ∧ Below w.heap.size w w'
/-- A row that is copied over whole. -/
theorem wpList_copy_row {P : Program} {w : World} {ops : Array Oper} {rest : List Oper} {o : Oper} {a : Act} {Q : Exit → Act → World → Prop} (hgd : o.guard = none) (d s : Operand) (dT sT : TypeId)
  (ho : o.op = .call { callee := .builtin .copy, args := #[d, s], argTypes := #[dT, sT] }) (elem : TypeId) (hu : P.underlying dT = some (.slice elem)) (hsz : (P.info? elem).map (·.size) = some 1)
  (g m dCap : Nat) (sp : Option Addr) (sCap : Nat) (hd : a.eval d = .slice (some ⟨g, 0, none⟩) m dCap) (hs : a.eval s = .slice sp m sCap)
  (cur : Array Value) (t : TypeId) (hg : w.heap[g]? = some (.cells cur t (0, 0))) (cs : List Value) (hn : cs.length = m) (hcur : cur.size = m)
  (hsrc : 0 < m → ∃ ad, sp = some ad ∧ ∀ j v, cs[j]? = some v → w.cell? (ad.add j) = some v) (h1 : ∀ v ∈ cs, v.oneCell' = true)
  (h : ∀ w', w'.heap[g]? = some (.cells cs.toArray t (0, 0)) → w.grownBy w' (some g) → wpList P ops Q rest (a.put o.dst (goInt m)) w') :
  wpList P ops Q (o :: rest) a w := by
 by_cases h0 : m = 0
 ·subst h0
  obtain rfl : cs = [] := List.eq_nil_of_length_eq_zero hn
  obtain rfl : cur = #[] := Array.eq_empty_of_size_eq_zero hcur
  exact wpList_copy_nothing hgd d s dT sT ho elem hu hsz _ sp 0 dCap 0 sCap hd hs rfl (h w hg (World.grownBy.refl _ _))
 ·obtain ⟨ad, rfl, hc⟩ := hsrc (by omega)
  refine wpList_copy_own hgd d s dT sT ho elem hu hsz g 0 m dCap ad m sCap hd hs cur t hg cs (by rw [hn]; exact (Nat.min_self m).symm) hc (by omega) h1 ?_
  rw [hn]
  refine h _ ?_ ⟨rfl, rfl, rfl, by simp [World.setRow], fun k _ hk => setRow_other w g k _ (fun e => hk (by rw [e]))⟩
  have e : (cur.toList.take 0 ++ (cs ++ cur.toList.drop (0 + m))).toArray = cs.toArray := by
   rw [List.take_zero, List.nil_append, Nat.zero_add, List.drop_of_length_le (by rw [Array.length_toList]; omega), List.append_nil]
  rw [e]
  exact setRow_heap w g _ _ t _ hg
/-- The worlds of a round: the row's number stored, or not; the place, too. -/
def ixW (W : World) (h i : Nat) (r r2 : Value) (x y : Bool) : World :=
 if y then (if x then W.drew.setCell ⟨h + 1, i, none⟩ r else W.drew).setCell ⟨h, 0, none⟩ r2 else (if x then W.drew.setCell ⟨h + 1, i, none⟩ r else W.drew)
theorem ixW_cell (W : World) (h i : Nat) (r r2 : Value) (x y : Bool) {b o : Nat} (h1 : b ≠ h + 1) (h2 : b ≠ h) : (ixW W h i r r2 x y).cell? ⟨b, o, none⟩ = W.cell? ⟨b, o, none⟩ := by
 have e : ∀ (V : World) (c j : Nat) (u : Value), b ≠ c → (V.setCell ⟨c, j, none⟩ u).cell? ⟨b, o, none⟩ = V.cell? ⟨b, o, none⟩ := fun V c j u hne => World.cell?_of_block (a := ⟨b, o, none⟩) (Below.heap_setCell V ⟨c, j, none⟩ u b hne)
 unfold ixW
 cases x <;> cases y <;> simp only [if_true, if_false, Bool.false_eq_true]
 ·rfl
 ·exact e _ _ _ _ h2
 ·exact e _ _ _ _ h1
 ·exact (e _ _ _ _ h2).trans (e _ _ _ _ h1)
theorem ixW_place (W : World) (h i : Nat) (r r2 : Value) (x : Bool) : (ixW W h i r r2 x false).cell? ⟨h, 0, none⟩ = W.cell? ⟨h, 0, none⟩ := by
 unfold ixW
 cases x <;> simp only [if_true, if_false, Bool.false_eq_true]
 ·rfl
 ·exact World.cell?_of_block (a := ⟨h, 0, none⟩) (Below.heap_setCell _ ⟨h + 1, i, none⟩ r h (by show h ≠ h + 1; omega))
theorem ixW_froz (W : World) (h i : Nat) (r r2 : Value) (x : Bool) : (ixW W h i r r2 x false).frozen? ⟨h, 0, none⟩ = W.frozen? ⟨h, 0, none⟩ := by
 unfold ixW
 cases x <;> simp only [if_true, if_false, Bool.false_eq_true]
 ·rfl
 ·exact World.frozen?_of_block (a := ⟨h, 0, none⟩) (Below.heap_setCell _ ⟨h + 1, i, none⟩ r h (by show h ≠ h + 1; omega))
def depsB (ops : Array Oper) : Bool := (List.range ops.size).all fun i => match ops[i]? with
 | some o => o.after.all fun e => !Region.binds .any e || decide (e.on < i)
 | none => true
theorem deps_of {ops : Array Oper} (h : depsB ops = true) (i : Nat) (o : Oper) (ho : ops[i]? = some o) (e : Edge) (he : e ∈ o.after) (hb : Region.binds .any e = true) : e.on < i := by
 have h1 := (List.all_eq_true.1 h) i (List.mem_range.2 (Array.getElem?_eq_some_iff.1 ho).1)
 rw [ho] at h1
 have h2 := (Array.all_eq_true_iff_forall_mem.1 h1) e he
 rw [hb] at h2
 simpa using h2
theorem row_set {w : World} {g : Nat} {t : TypeId} {l : List Value} (h : w.heap[g]? = some (.cells l.toArray t (0, 0))) (i : Nat) (u : Value) : (w.setCell ⟨g, i, none⟩ u).heap[g]? = some (.cells (l.set i u).toArray t (0, 0)) := by
 simp [World.setCell, Array.getElem?_modify, h]
/-- Between two rounds: the row, the place, the boxes. -/
def IdxI (w : World) (b8 m : Nat) (a : Option Addr) (cap : Nat) (st : List Int × Nat) (W : World) : Prop :=
 W.heap[w.heap.size + 1 + 1]? = some (.cells (st.1.map (Value.int .i64)).toArray 2 (0, 0)) ∧ Boxed W b8 22 (.slice (some ⟨w.heap.size + 1 + 1, 0, none⟩) m m) ∧ Boxed W w.heap.size 22 (.slice a m cap) ∧ Boxed W (w.heap.size + 1) 2 (.int .i64 st.2) ∧ st.1.length = m ∧ st.2 ≤ 65536
theorem block_kept {W W' : World} {row : Option Nat} {k : Nat} {o : Obj} (h : W.heap[k]? = some o) (ho : o.isCells = true) (hg : W.grownBy W' row) (hr : ∀ r, row = some r → ∃ o : Obj, W.heap[r]? = some o ∧ o.isCells = false) : W'.heap[k]? = some o := by
 refine (hg.block k (Array.getElem?_eq_some_iff.1 h).1 (fun e => ?_)).trans h
 obtain ⟨o', h', hc⟩ := hr k e.symm
 rw [h] at h'
 cases h'
 rw [ho] at hc
 cases hc
theorem IdxI.own {β : Type} (w : World) (b8 m : Nat) (a : Option Addr) (cap : Nat) (f : β → List Int × Nat) : Own (fun s W => IdxI w b8 m a cap (f s) W) := by
 rintro s X Y row ⟨h1, h2, h3, h4, h5⟩ hg hr
 exact ⟨block_kept h1 rfl hg hr, block_kept h2 rfl hg hr, block_kept h3 rfl hg hr, block_kept h4 rfl hg hr, h5⟩
set_option maxHeartbeats 8000000 in
set_option maxRecDepth 100000 in
theorem index_any (v : Value) (s : List Nat) (p : Nat) (w : World) (hv : IntsS w v (ofN s)) (hok : SidesOk s) (hp : p < prodN s) :
  Calls Tryz.prog 88 #[v, .int .i64 p] w (IndexPost s p w) := by
 obtain ⟨i0, hi, hz0, hz1, hz2⟩ := info_parts Tryz.infoI64
 have HSz := Lib.hid (fun W (hb : Below w.heap.size w W) => size_any v s W (hv.below hb) hok)
 obtain ⟨m, hm⟩ : ∃ m, m = s.length := ⟨_, rfl⟩
 have HM := Lib.hid hm
 have HOk := Lib.hid hok
 have hpI : (p : Int) < ((prodN s : Nat) : Int) := by omega
 have hpN : decide ((prodN s : Int) ≤ (p : Int)) = false := by rw [decide_eq_false_iff_not]; omega
 have hp6 : p < 65536 := by have := hok.all; omega
 have HPos : Hid (∀ x ∈ s, 0 < x) := Lib.hid fun x hx => by
  rcases Nat.eq_zero_or_pos x with h0 | h0
  ·exfalso
   have : prodN s = 0 := prodN_zero (List.any_eq_true.2 ⟨x, hx, by rw [h0]; rfl⟩)
   omega
  ·exact h0
 have HV := Lib.hid hv
 obtain ⟨a, cap, rfl, hc1, hc2, hc3⟩ := hv
 have HC := Lib.hid hc3
 have hm4 : m ≤ 4 := by have := hok.len; omega
 unfold maxLen at hc2
 rw [ofN_len, ← hm] at hc1 HSz HV ⊢
 have HB0 := Lib.hid (((Below.refl _ w).alloc (Nat.le_refl _) (.cells #[.slice a m cap] 22)).alloc (by simp) (.cells #[.int .i64 (p : Int)] 2))
 clear hm hok hc3 hp
 have hp0 : decide ((p : Int) < 0) = false := by rw [decide_eq_false_iff_not]; omega
 refine (callsIn_wide (n := 9)).1 ?_
 refine callsIn_of_wp_marks Tryz.func88 rfl trivial ?_ rfl
 simp only [Tryz.ntmps88, List.size_toArray, List.length_cons, List.length_nil, Nat.reduceAdd, Nat.reduceSub, Array.replicate_succ, Array.replicate_zero, List.push_toArray, List.append_toArray, List.nil_append, List.cons_append]
 refine wpIn_wide.2 ?_
 go_wp2_with (first | (go_at_call 57; refine (HSz.out _ HB0.out).mono ?_; rintro _ _ ⟨rfl, rfl⟩) | (at_make; refine wpList_make_full _ rfl _ _ 22 rfl w.heap.size 2 i0 (.int .i64 0) 1 Tryz.underlying22 hi hz0 hz1 _ _ _ _ m rfl rfl rfl rfl (by rw [hz2]; omega) (by unfold maxLen; omega) (by simp; omega) ?_))
 intro w2 hown hgrow
 obtain ⟨cur, hrow, hcur⟩ : ∃ cur, w2.heap[w.heap.size + 1 + 1]? = some (.cells cur 2 (0, 0)) ∧ cur.size = m := by
  rcases hown.2 with ⟨he, _⟩ | ⟨g, cp, cur, he, _, h1, _, _, h2, _⟩
  ·cases he
  ·simp only [Value.slice.injEq, Option.some.injEq, Addr.mk.injEq] at he
   obtain ⟨⟨rfl, _⟩, _, rfl⟩ := he
   exact ⟨cur, h1, by omega⟩
 have hsz2 : w.heap.size + 1 + 1 < w2.heap.size := (Array.getElem?_eq_some_iff.1 hrow).1
 have q2 : Boxed w2 w.heap.size 22 (.slice a m cap) := ((Boxed.new w _ _).alloc _).kept hgrow (by simp)
 have q3 : Boxed w2 (w.heap.size + 1) 2 (.int .i64 p) := by
  have := Boxed.new (w.alloc (.cells #[.slice a m cap] 22)) 2 (.int .i64 p)
  rw [World.size_alloc] at this
  exact this.kept hgrow (by simp)
 have HB2 : Hid (Below w.heap.size w w2) := Lib.hid (HB0.out.grown hgrow (by simp; omega) (by simp))
 have d2 : ∀ o, (w2.alloc o).cell? ⟨w.heap.size, 0, none⟩ = some (.slice a m cap) := fun o => (q2.alloc o).cell
 have d8 : (w2.alloc (.cells #[.slice (some ⟨w.heap.size + 1 + 1, 0, none⟩) m m] 22)).cell? ⟨w2.heap.size, 0, none⟩ = some (.slice (some ⟨w.heap.size + 1 + 1, 0, none⟩) m m) := (Boxed.new w2 _ _).cell
 have HRow : Hid (w2.heap[w.heap.size + 1 + 1]? = some (.cells cur 2 (0, 0)) ∧ cur.size = m) := Lib.hid ⟨hrow, hcur⟩
 have HQ : Hid (Boxed w2 w.heap.size 22 (.slice a m cap) ∧ Boxed w2 (w.heap.size + 1) 2 (.int .i64 p)) := Lib.hid ⟨q2, q3⟩
 clear hown hgrow hrow hcur q2 q3 hp0 hpN
 go_wp2_with (with_reducible refine wpList_copy_row rfl (.tmp 28) (.tmp 29) 22 22 rfl 2 Tryz.underlying22 (by kernel_rfl) (w.heap.size + 1 + 1) m m a cap rfl rfl cur 2 ?hg ((ofN s).map (Value.int .i64)) ?hn ?hcur ?hsrc (ints_oneCell _ _) ?_)
 case hg => exact (heap_alloc_old _ _ _ hsz2).trans HRow.out.1
 case hn => rw [List.length_map, ofN_len, HM.out]
 case hcur => exact HRow.out.2
 case hsrc =>
  intro h0
  obtain ⟨g, o, rfl, hg, hcell⟩ := HC.out (by rw [ofN_len, ← HM.out]; exact h0)
  refine ⟨_, rfl, fun j u hj => ?_⟩
  rw [Addr.add_lit]
  rw [List.getElem?_map] at hj
  obtain ⟨x, hx, rfl⟩ := Option.map_eq_some_iff.1 hj
  exact ((HB2.out.alloc (by omega) (.cells #[.slice (some ⟨w.heap.size + 1 + 1, 0, none⟩) m m] 22)).cell (p := ⟨g, _, none⟩) hg).trans (hcell j x hx)
 intro w3 h3 g3
 have hsz3 : w2.heap.size < w3.heap.size := Nat.lt_of_lt_of_le (by simp) g3.size
 have b8 : Boxed w3 w2.heap.size 22 (.slice (some ⟨w.heap.size + 1 + 1, 0, none⟩) m m) := (Boxed.new w2 _ _).kept g3 (by simp; omega)
 have b2 : Boxed w3 w.heap.size 22 (.slice a m cap) := (HQ.out.1.alloc _).kept g3 (by intro e; injection e with e; omega)
 have b3 : Boxed w3 (w.heap.size + 1) 2 (.int .i64 p) := (HQ.out.2.alloc _).kept g3 (by intro e; injection e with e; omega)
 have HB3 : Hid (Below w.heap.size w w3) := Lib.hid ((HB2.out.alloc (by omega) _).grown g3 (by simp; omega) (by simp; omega))
 have HQ3 : Hid (w3.heap[w.heap.size + 1 + 1]? = some (.cells ((ofN s).map (Value.int .i64)).toArray 2 (0, 0)) ∧ Boxed w3 w2.heap.size 22 (.slice (some ⟨w.heap.size + 1 + 1, 0, none⟩) m m) ∧ Boxed w3 w.heap.size 22 (.slice a m cap) ∧ Boxed w3 (w.heap.size + 1) 2 (.int .i64 p)) := Lib.hid ⟨h3, b8, b2, b3⟩
 have d2' := b2.cell
 clear h3 g3 b8 b2 b3 HRow HQ d2 d8
 go_wp2_with (go_at_call 104; refine (callsIn_wide.1 (back_in Fence.wide 8 trivial rfl _ _ _ _)).mono ?_; rintro _ _ ⟨rfl, rfl⟩)
 obtain ⟨W4, hW4⟩ : ∃ W4, W4 = w3.alloc (.cells #[.slice a m cap] 22) := ⟨_, rfl⟩
 have hsz4 : W4.heap.size = w3.heap.size + 1 := by rw [hW4, World.size_alloc]
 have hB4 : Below w.heap.size w W4 := by rw [hW4]; exact HB3.out.alloc (by omega) _
 have hbk : Boxed W4 w3.heap.size 22 (.slice a m cap) := by rw [hW4]; exact Boxed.new w3 _ _
 have hI4 : IdxI w w2.heap.size m a cap (ofN s, p) W4 := by
  obtain ⟨h3, b8, b2, b3⟩ := HQ3.out
  rw [hW4]
  exact ⟨(heap_alloc_old _ _ _ (Array.getElem?_eq_some_iff.1 h3).1).trans h3, b8.alloc _, b2.alloc _, b3.alloc _, by rw [ofN_len, HM.out], by show p ≤ 65536; omega⟩
 rw [← hW4]
 clear hW4 HB3 HQ3 d2'
 refine (wpIn_wide (n := 9)).1 ?_
 refine wpIn_rangeFunc_ownG (α := BackI m) (Kp := KpB (fun b => b < w.heap.size ∨ b = w3.heap.size)) (S := BackS (ofN s) m) (Sp := fun pre => ∃ k, k ≤ m ∧ BackS (ofN s) k pre) (N := m) (w0 := W4) rfl (by decide) (gf := 120) (lb := #[.pointer (some ⟨w3.heap.size, 0, none⟩)]) rfl trivial (enters_of Tryz.func120 (by kernel_rfl) rfl)
  (encs := encB) ?hseq (fun h k => h.trans k) ?hKb (Below.refl _ _) (fun _ => rfl)
  (fun pre W => IdxI w w2.heap.size m a cap ((pre.map (·.1)).foldl (stepO s) (ofN s, p)) W ∧ Below w.heap.size w W)
  (fun _ _ _ => False)
  (OwnFrom.and (Own.from (IdxI.own w w2.heap.size m a cap (fun pre : List (BackI m) => (pre.map (·.1)).foldl (stepO s) (ofN s, p))) _) (ownFrom_below (Nat.le_refl _) (by omega)))
  (fun _ _ _ _ _ hs _ _ => hs)
  ⟨hI4, hB4⟩
  (fun x => { tmps := #[.slice a m cap, .int .i64 p, .pointer (some ⟨w.heap.size, 0, none⟩), .pointer (some ⟨w.heap.size + 1, 0, none⟩), .slice none 0 0, .int .i64 0, .int .i64 (prodN s), .int .i64 0, .pointer (some ⟨w2.heap.size, 0, none⟩), .int .i64 (x.1.1 : Int),
   .tuple #[.int .i64 (prodN s), .int .i64 0], .slice a m cap, .tuple #[.int .i64 (prodN s), .int .i64 0], .int .i64 (prodN s), .int .i64 0, .int .i64 0, .bool false, undef, .int .i64 p, .bool false, .bool false, .int .i64 p, .int .i64 (prodN s), .bool false, .bool false, .slice a m cap, .int .i64 m,
   .slice (some ⟨w.heap.size + 1 + 1, 0, none⟩) m m, .slice (some ⟨w.heap.size + 1 + 1, 0, none⟩) m m, .slice a m cap, .int .i64 m, .slice a m cap, .func (.func 120) #[] #[.pointer (some ⟨w3.heap.size, 0, none⟩)], .int .i64 (x.1.1 : Int), .int .i64 x.1.2,
   undef, undef, undef, undef, undef, undef, undef, undef, undef, undef, undef, undef, undef, undef, undef, undef], defers := [] }) ?assign ?body ?done ?stop
 case hseq =>
  intro l J Jx W hW _ _ hY h0
  refine back1_in Fence.wide 8 trivial rfl (by decide) l w3.heap.size (fun b => b < w.heap.size ∨ b = w3.heap.size) a cap m (ofN s) (by rw [ofN_len, HM.out]) (by omega) (.inr rfl) J Jx hY W ((hW.cell (p := ⟨w3.heap.size, 0, none⟩) (by show w3.heap.size < W4.heap.size; omega)).trans hbk.cell) hc1 ?_ h0
  intro h0
  obtain ⟨g, o, rfl, hg, hcell⟩ := HC.out (by rw [ofN_len, ← HM.out]; exact h0)
  exact ⟨g, o, rfl, .inl hg, fun i x hx => ((hB4.trans (hW.mono hB4.size)).cell (p := ⟨g, _, none⟩) hg).trans (hcell i x hx)⟩
 case hKb =>
  intro W l o o' hl ho hc hw b hb
  exact (grownBy_putObj' W l o').block b (by rcases hb with hb | hb <;> have := (Array.getElem?_eq_some_iff.1 ho).1 <;> omega) (by rcases hb with hb | hb <;> (intro e; injection e with e; omega))
 case assign =>
  intro l x W K hK
  simp only [encB]
  gi_wp2
  exact hK
 case stop =>
  rintro D c pre W _ _ h _
  exact h.elim
 case done =>
  rintro D ys W hD hys ⟨hI, hB⟩ hK
  have hfold : ((ys.map (·.1)).foldl (stepO s) (ofN s, p)).1 = ofN (idxR s.reverse p).reverse := by
   have h1 : ys.map (·.1) = upF (backF (ofN s)) m := hys
   rw [h1, HM.out]
   exact steps_all s p
  obtain ⟨i1, i2, i3, i4, i5, _⟩ := hI
  rw [hfold] at i1 i5
  have e2 := i2.cell
  have HO : Hid (IntsO W w.heap.size (.slice (some ⟨w.heap.size + 1 + 1, 0, none⟩) m m) (ofN (idxR s.reverse p).reverse)) := Lib.hid (by
   unfold IntsO
   rw [i5]
   refine ⟨by rw [List.length_map, i5, Nat.mul_one], .inr ⟨w.heap.size + 1 + 1, m, _, rfl, by omega, i1, Nat.le_refl _, by unfold maxLen; omega, by rw [List.size_toArray, List.length_map, i5, Nat.mul_one], ?_⟩⟩
   rw [Nat.mul_one]
   exact List.take_of_length_le (by rw [List.length_map, i5]; exact Nat.le_refl _))
  have HBelow := Lib.hid hB
  have HKd := Lib.hid hK
  have HDs := Lib.hid hD
  clear i1 i2 i3 i4 i5 hys hfold hB hK hD
  go_wp2_with fail
  refine ⟨by simp, .inl ⟨_, _, rfl, run_takeDeferred HKd.out, ?_⟩⟩
  refine ⟨.tuple #[.slice (some ⟨w.heap.size + 1 + 1, 0, none⟩) m m, .int .i64 0], ?_, ?_⟩
  ·simp [results, Tryz.f88, go_sem]
  ·exact ⟨_, rfl, ownsRow_putObj HO.out _ HKd.out rfl, HBelow.out.trans (belowK_b (w := w) (Nat.le_refl _) W D _ _ (by have := HDs.out; have := hB4.size; omega) HKd.out rfl rfl)⟩
 case body =>
  rintro l pre x W ⟨hI, hB⟩ hpl
  have hxm := x.2
  obtain ⟨st, hst⟩ : ∃ st, st = (pre.map (·.1)).foldl (stepO s) (ofN s, p) := ⟨_, rfl⟩
  have HSt : Hid (stepO s st x.1 = ((pre ++ [x]).map (·.1)).foldl (stepO s) (ofN s, p)) := Lib.hid (by rw [List.map_append, List.foldl_append, hst]; rfl)
  rw [← hst] at hI
  clear hst
  obtain ⟨⟨i, xv⟩, hxp⟩ := x
  dsimp only at hxm HSt ⊢
  obtain ⟨y, hy⟩ : ∃ y, s[i]? = some y := ⟨s[i]'(by have := HM.out; omega), List.getElem?_eq_getElem _⟩
  have hy0 : 0 < y := HPos.out y (List.mem_of_getElem? hy)
  have HGet : Hid (s.getD i 1 = y) := Lib.hid (by rw [List.getD_eq_getElem?_getD, hy]; rfl)
  obtain ⟨g, o, rfl, hg, hcell⟩ := HC.out (by rw [ofN_len, ← HM.out]; omega)
  have d1 := (hB.cell (p := ⟨g, _, none⟩) hg).trans (hcell i y (by rw [ofN_get, hy]; rfl))
  obtain ⟨l0, q⟩ := st
  obtain ⟨i1, i2, i3, i4, i5, i6⟩ := hI
  dsimp only at i1 i4 i5 i6
  have hqy : q / y ≤ q := Nat.div_le_self q y
  have e2 := i2.cell
  have e3 := i3.cell
  have e4 := i4.cell
  have f4 := i4.frozen
  have k0 : (0 : Int) ≤ i := by omega
  have k1 : (i : Int) < m := by omega
  have ydm : ¬ (y : Int) = 0 := by omega
  have ydn : ¬ y = 0 := by omega
  obtain ⟨rm, hrm⟩ : ∃ rm : Int, rm = ((q % y : Nat) : Int) := ⟨_, rfl⟩
  obtain ⟨rq, hrq⟩ : ∃ rq : Int, rq = ((q / y : Nat) : Int) := ⟨_, rfl⟩
  have hmod : (q : Int).tmod (y : Int) = rm := by rw [hrm, Int.tmod_eq_emod_of_nonneg (by omega)]; rfl
  have hdiv : (q : Int).tdiv (y : Int) = rq := by rw [hrq, Int.tdiv_eq_ediv_of_nonneg (by omega)]; rfl
  have hmod2 : (q : Int) % (y : Int) = rm := by rw [hrm]; rfl
  have hdiv2 : (q : Int) / (y : Int) = rq := by rw [hrq]; rfl
  have r0 : 0 ≤ rq ∧ rq ≤ 65536 := by
   rw [hrq]
   exact ⟨Int.natCast_nonneg _, Int.ofNat_le.2 (Nat.le_trans hqy i6)⟩
  have HRm := Lib.hid hrm
  have HRq := Lib.hid hrq
  clear hrm hrq
  have w1 : wrap64 rq = rq := by unfold wrap64; omega
  have w2' : IntKind.i64.wrap rq = rq := by rw [IntKind.wrap_i64]; omega
  clear r0
  have e1 : W.cell? ⟨w.heap.size + 1 + 1, i, none⟩ = some (.int .i64 (l0.getD i 0)) := by
   rw [cell_of_row _ _ _ _ _ _ i1, List.getElem?_toArray, List.getElem?_map, List.getD_eq_getElem?_getD, List.getElem?_eq_getElem (by omega)]
   rfl
  have f1 : W.frozen? ⟨w.heap.size + 1 + 1, i, none⟩ = false := frozen_of_row W _ _ _ _ i1
  generalize l0.getD i 0 = z at e1
  have HI := Lib.hid (And.intro i1 (And.intro i2 (And.intro i3 (And.intro i4 (And.intro i5 (And.intro i6 hqy))))))
  clear i1 i2 i3 i4 i5 i6 hqy hcell hy
  have hmx : Tryz.prog.follows .mixedOrders = true := by kernel_rfl
  gi_wp2
  refine region_inv (by kernel_rfl) (fun b a1 w1 => ∃ s35 s36 s37 s38 s39 s40 s41 s42 s43 s44 s45 s46 s47 s48 s49 : Value, a1 = { tmps := #[.slice (some ⟨g, o, none⟩) m cap, .int .i64 p, .pointer (some ⟨w.heap.size, 0, none⟩), .pointer (some ⟨w.heap.size + 1, 0, none⟩), .slice none 0 0, .int .i64 0, .int .i64 (prodN s), .int .i64 0, .pointer (some ⟨w2.heap.size, 0, none⟩), .int .i64 (i : Int), .tuple #[.int .i64 (prodN s), .int .i64 0], .slice (some ⟨g, o, none⟩) m cap, .tuple #[.int .i64 (prodN s), .int .i64 0], .int .i64 (prodN s), .int .i64 0, .int .i64 0, .bool false, undef, .int .i64 p, .bool false, .bool false, .int .i64 p, .int .i64 (prodN s), .bool false, .bool false, .slice (some ⟨g, o, none⟩) m cap, .int .i64 m, .slice (some ⟨w.heap.size + 1 + 1, 0, none⟩) m m, .slice (some ⟨w.heap.size + 1 + 1, 0, none⟩) m m, .slice (some ⟨g, o, none⟩) m cap, .int .i64 m, .slice (some ⟨g, o, none⟩) m cap, .func (.func 120) #[] #[.pointer (some ⟨w3.heap.size, 0, none⟩)], .int .i64 (i : Int), .int .i64 xv, s35, s36, s37, s38, s39, s40, s41, s42, s43, s44, s45, s46, s47, s48, s49, undef], defers := [] } ∧ (b 0 = true → s35 = .slice (some ⟨w.heap.size + 1 + 1, 0, none⟩) m m) ∧ (b 1 = true → s36 = .int .i64 (i : Int)) ∧ (b 2 = true → s37 = .int .i64 (q : Int)) ∧ (b 3 = true → s38 = .slice (some ⟨g, o, none⟩) m cap) ∧ (b 4 = true → s39 = .int .i64 (i : Int)) ∧ (b 5 = true → s40 = .pointer (some ⟨g, o + i, none⟩)) ∧ (b 6 = true → s41 = .int .i64 (y : Int)) ∧ (b 7 = true → s42 = .int .i64 rm) ∧ (b 8 = true → s43 = .int .i64 (q : Int)) ∧ (b 9 = true → s44 = .slice (some ⟨g, o, none⟩) m cap) ∧ (b 10 = true → s45 = .int .i64 (i : Int)) ∧ (b 11 = true → s46 = .pointer (some ⟨g, o + i, none⟩)) ∧ (b 12 = true → s47 = .int .i64 (y : Int)) ∧ (b 13 = true → s48 = .int .i64 rq) ∧ (b 14 = true → s49 = .pointer (some ⟨w.heap.size + 1 + 1, i, none⟩)) ∧ (b 16 = true → b 2 = true ∧ b 8 = true ∧ b 15 = true) ∧ w1 = ixW W (w.heap.size + 1) i (.int .i64 rm) (.int .i64 rq) (b 15) (b 16)) (deps_of (by kernel_rfl)) ?h0 ?hstep ?hQ
  case h0 => exact ⟨_, _, _, _, _, _, _, _, _, _, _, _, _, _, _, rfl, by simp, by simp, by simp, by simp, by simp, by simp, by simp, by simp, by simp, by simp, by simp, by simp, by simp, by simp, by simp, by simp, rfl⟩
  case hstep =>
   rintro b k op a1 w1 ⟨s35, s36, s37, s38, s39, s40, s41, s42, s43, s44, s45, s46, s47, s48, s49, rfl, h0, h1, h2, h3, h4, h5, h6, h7, h8, h9, h10, h11, h12, h13, h14, h16, rfl⟩ ho hb hdep K hK
   have hlt : k < 17 := (Array.getElem?_eq_some_iff.1 ho).1
   have hs : k = 0 ∨ k = 1 ∨ k = 2 ∨ k = 3 ∨ k = 4 ∨ k = 5 ∨ k = 6 ∨ k = 7 ∨ k = 8 ∨ k = 9 ∨ k = 10 ∨ k = 11 ∨ k = 12 ∨ k = 13 ∨ k = 14 ∨ k = 15 ∨ k = 16 := by omega
   rcases hs with rfl | rfl | rfl | rfl | rfl | rfl | rfl | rfl | rfl | rfl | rfl | rfl | rfl | rfl | rfl | rfl | rfl
   ·injection (show some _ = some op from ho) with ho
    subst ho
    have c1 := (ixW_cell W (w.heap.size + 1) i (.int .i64 rm) (.int .i64 rq) (b 15) (b 16) (b := w2.heap.size) (o := 0) (by omega) (by omega)).trans e2
    have HK := Lib.hid hK
    have HH := Lib.hid (And.intro h16 (And.intro h0 ( And.intro h1 ( And.intro h2 ( And.intro h3 ( And.intro h4 ( And.intro h5 ( And.intro h6 ( And.intro h7 ( And.intro h8 ( And.intro h9 ( And.intro h10 ( And.intro h11 ( And.intro h12 ( And.intro h13 (h14))))))))))))))))
    clear hdep hK h16 h0 h1 h2 h3 h4 h5 h6 h7 h8 h9 h10 h11 h12 h13 h14
    refine wpOpIn_step rfl (fun K1 hK1 => ?_)
    go_simp
    obtain ⟨h16, h0, h1, h2, h3, h4, h5, h6, h7, h8, h9, h10, h11, h12, h13, h14⟩ := HH.out
    refine hK1 _ _ (HK.out _ _ ⟨_, _, _, _, _, _, _, _, _, _, _, _, _, _, _, rfl, fun _ => rfl, fun h => h1 (by simpa using h), fun h => h2 (by simpa using h), fun h => h3 (by simpa using h), fun h => h4 (by simpa using h), fun h => h5 (by simpa using h), fun h => h6 (by simpa using h), fun h => h7 (by simpa using h), fun h => h8 (by simpa using h), fun h => h9 (by simpa using h), fun h => h10 (by simpa using h), fun h => h11 (by simpa using h), fun h => h12 (by simpa using h), fun h => h13 (by simpa using h), fun h => h14 (by simpa using h), fun h => by
      obtain ⟨p1, p2, p3⟩ := h16 (by simpa using h)
      exact ⟨by first | exact p1 | rfl, by first | exact p2 | rfl, by first | exact p3 | rfl⟩, ?_⟩)
    simp
   ·injection (show some _ = some op from ho) with ho
    subst ho
    have HK := Lib.hid hK
    have HH := Lib.hid (And.intro h16 (And.intro h0 ( And.intro h1 ( And.intro h2 ( And.intro h3 ( And.intro h4 ( And.intro h5 ( And.intro h6 ( And.intro h7 ( And.intro h8 ( And.intro h9 ( And.intro h10 ( And.intro h11 ( And.intro h12 ( And.intro h13 (h14))))))))))))))))
    clear hdep hK h16 h0 h1 h2 h3 h4 h5 h6 h7 h8 h9 h10 h11 h12 h13 h14
    refine wpOpIn_step rfl (fun K1 hK1 => ?_)
    go_simp
    obtain ⟨h16, h0, h1, h2, h3, h4, h5, h6, h7, h8, h9, h10, h11, h12, h13, h14⟩ := HH.out
    refine hK1 _ _ (HK.out _ _ ⟨_, _, _, _, _, _, _, _, _, _, _, _, _, _, _, rfl, fun h => h0 (by simpa using h), fun _ => rfl, fun h => h2 (by simpa using h), fun h => h3 (by simpa using h), fun h => h4 (by simpa using h), fun h => h5 (by simpa using h), fun h => h6 (by simpa using h), fun h => h7 (by simpa using h), fun h => h8 (by simpa using h), fun h => h9 (by simpa using h), fun h => h10 (by simpa using h), fun h => h11 (by simpa using h), fun h => h12 (by simpa using h), fun h => h13 (by simpa using h), fun h => h14 (by simpa using h), fun h => by
      obtain ⟨p1, p2, p3⟩ := h16 (by simpa using h)
      exact ⟨by first | exact p1 | rfl, by first | exact p2 | rfl, by first | exact p3 | rfl⟩, ?_⟩)
    simp
   ·injection (show some _ = some op from ho) with ho
    subst ho
    have n16 : b 16 = false := by
      cases h : b 16 with
      | false => rfl
      | true => exact absurd (h16 h).1 (by rw [hb]; decide)
    have c1 := (ixW_place W (w.heap.size + 1) i (.int .i64 rm) (.int .i64 rq) (b 15)).trans e4
    rw [n16]
    have HK := Lib.hid hK
    have HH := Lib.hid (And.intro h16 (And.intro h0 ( And.intro h1 ( And.intro h2 ( And.intro h3 ( And.intro h4 ( And.intro h5 ( And.intro h6 ( And.intro h7 ( And.intro h8 ( And.intro h9 ( And.intro h10 ( And.intro h11 ( And.intro h12 ( And.intro h13 (h14))))))))))))))))
    clear hdep hK h16 h0 h1 h2 h3 h4 h5 h6 h7 h8 h9 h10 h11 h12 h13 h14
    refine wpOpIn_step rfl (fun K1 hK1 => ?_)
    go_simp
    obtain ⟨h16, h0, h1, h2, h3, h4, h5, h6, h7, h8, h9, h10, h11, h12, h13, h14⟩ := HH.out
    refine hK1 _ _ (HK.out _ _ ⟨_, _, _, _, _, _, _, _, _, _, _, _, _, _, _, rfl, fun h => h0 (by simpa using h), fun h => h1 (by simpa using h), fun _ => rfl, fun h => h3 (by simpa using h), fun h => h4 (by simpa using h), fun h => h5 (by simpa using h), fun h => h6 (by simpa using h), fun h => h7 (by simpa using h), fun h => h8 (by simpa using h), fun h => h9 (by simpa using h), fun h => h10 (by simpa using h), fun h => h11 (by simpa using h), fun h => h12 (by simpa using h), fun h => h13 (by simpa using h), fun h => h14 (by simpa using h), fun h => by
      obtain ⟨p1, p2, p3⟩ := h16 (by simpa using h)
      exact ⟨by first | exact p1 | rfl, by first | exact p2 | rfl, by first | exact p3 | rfl⟩, ?_⟩)
    simp [n16]
   ·injection (show some _ = some op from ho) with ho
    subst ho
    have c1 := (ixW_cell W (w.heap.size + 1) i (.int .i64 rm) (.int .i64 rq) (b 15) (b 16) (b := w.heap.size) (o := 0) (by omega) (by omega)).trans e3
    have HK := Lib.hid hK
    have HH := Lib.hid (And.intro h16 (And.intro h0 ( And.intro h1 ( And.intro h2 ( And.intro h3 ( And.intro h4 ( And.intro h5 ( And.intro h6 ( And.intro h7 ( And.intro h8 ( And.intro h9 ( And.intro h10 ( And.intro h11 ( And.intro h12 ( And.intro h13 (h14))))))))))))))))
    clear hdep hK h16 h0 h1 h2 h3 h4 h5 h6 h7 h8 h9 h10 h11 h12 h13 h14
    refine wpOpIn_step rfl (fun K1 hK1 => ?_)
    go_simp
    obtain ⟨h16, h0, h1, h2, h3, h4, h5, h6, h7, h8, h9, h10, h11, h12, h13, h14⟩ := HH.out
    refine hK1 _ _ (HK.out _ _ ⟨_, _, _, _, _, _, _, _, _, _, _, _, _, _, _, rfl, fun h => h0 (by simpa using h), fun h => h1 (by simpa using h), fun h => h2 (by simpa using h), fun _ => rfl, fun h => h4 (by simpa using h), fun h => h5 (by simpa using h), fun h => h6 (by simpa using h), fun h => h7 (by simpa using h), fun h => h8 (by simpa using h), fun h => h9 (by simpa using h), fun h => h10 (by simpa using h), fun h => h11 (by simpa using h), fun h => h12 (by simpa using h), fun h => h13 (by simpa using h), fun h => h14 (by simpa using h), fun h => by
      obtain ⟨p1, p2, p3⟩ := h16 (by simpa using h)
      exact ⟨by first | exact p1 | rfl, by first | exact p2 | rfl, by first | exact p3 | rfl⟩, ?_⟩)
    simp
   ·injection (show some _ = some op from ho) with ho
    subst ho
    have HK := Lib.hid hK
    have HH := Lib.hid (And.intro h16 (And.intro h0 ( And.intro h1 ( And.intro h2 ( And.intro h3 ( And.intro h4 ( And.intro h5 ( And.intro h6 ( And.intro h7 ( And.intro h8 ( And.intro h9 ( And.intro h10 ( And.intro h11 ( And.intro h12 ( And.intro h13 (h14))))))))))))))))
    clear hdep hK h16 h0 h1 h2 h3 h4 h5 h6 h7 h8 h9 h10 h11 h12 h13 h14
    refine wpOpIn_step rfl (fun K1 hK1 => ?_)
    go_simp
    obtain ⟨h16, h0, h1, h2, h3, h4, h5, h6, h7, h8, h9, h10, h11, h12, h13, h14⟩ := HH.out
    refine hK1 _ _ (HK.out _ _ ⟨_, _, _, _, _, _, _, _, _, _, _, _, _, _, _, rfl, fun h => h0 (by simpa using h), fun h => h1 (by simpa using h), fun h => h2 (by simpa using h), fun h => h3 (by simpa using h), fun _ => rfl, fun h => h5 (by simpa using h), fun h => h6 (by simpa using h), fun h => h7 (by simpa using h), fun h => h8 (by simpa using h), fun h => h9 (by simpa using h), fun h => h10 (by simpa using h), fun h => h11 (by simpa using h), fun h => h12 (by simpa using h), fun h => h13 (by simpa using h), fun h => h14 (by simpa using h), fun h => by
      obtain ⟨p1, p2, p3⟩ := h16 (by simpa using h)
      exact ⟨by first | exact p1 | rfl, by first | exact p2 | rfl, by first | exact p3 | rfl⟩, ?_⟩)
    simp
   ·injection (show some _ = some op from ho) with ho
    subst ho
    have b3 : b 3 = true := hdep ⟨3, Ground.data⟩ (by simp) (by rfl)
    obtain rfl := h3 b3
    have b4 : b 4 = true := hdep ⟨4, Ground.data⟩ (by simp) (by rfl)
    obtain rfl := h4 b4
    have HK := Lib.hid hK
    have HH := Lib.hid (And.intro h16 (And.intro h0 ( And.intro h1 ( And.intro h2 ( And.intro h3 ( And.intro h4 ( And.intro h5 ( And.intro h6 ( And.intro h7 ( And.intro h8 ( And.intro h9 ( And.intro h10 ( And.intro h11 ( And.intro h12 ( And.intro h13 (h14))))))))))))))))
    clear hdep hK h16 h0 h1 h2 h3 h4 h5 h6 h7 h8 h9 h10 h11 h12 h13 h14
    refine wpOpIn_step rfl (fun K1 hK1 => ?_)
    go_simp
    obtain ⟨h16, h0, h1, h2, h3, h4, h5, h6, h7, h8, h9, h10, h11, h12, h13, h14⟩ := HH.out
    refine hK1 _ _ (HK.out _ _ ⟨_, _, _, _, _, _, _, _, _, _, _, _, _, _, _, rfl, fun h => h0 (by simpa using h), fun h => h1 (by simpa using h), fun h => h2 (by simpa using h), fun h => h3 (by simpa using h), fun h => h4 (by simpa using h), fun _ => rfl, fun h => h6 (by simpa using h), fun h => h7 (by simpa using h), fun h => h8 (by simpa using h), fun h => h9 (by simpa using h), fun h => h10 (by simpa using h), fun h => h11 (by simpa using h), fun h => h12 (by simpa using h), fun h => h13 (by simpa using h), fun h => h14 (by simpa using h), fun h => by
      obtain ⟨p1, p2, p3⟩ := h16 (by simpa using h)
      exact ⟨by first | exact p1 | rfl, by first | exact p2 | rfl, by first | exact p3 | rfl⟩, ?_⟩)
    simp
   ·injection (show some _ = some op from ho) with ho
    subst ho
    have b5 : b 5 = true := hdep ⟨5, Ground.data⟩ (by simp) (by rfl)
    obtain rfl := h5 b5
    have c1 := (ixW_cell W (w.heap.size + 1) i (.int .i64 rm) (.int .i64 rq) (b 15) (b 16) (b := g) (o := o + i) (by omega) (by omega)).trans d1
    have HK := Lib.hid hK
    have HH := Lib.hid (And.intro h16 (And.intro h0 ( And.intro h1 ( And.intro h2 ( And.intro h3 ( And.intro h4 ( And.intro h5 ( And.intro h6 ( And.intro h7 ( And.intro h8 ( And.intro h9 ( And.intro h10 ( And.intro h11 ( And.intro h12 ( And.intro h13 (h14))))))))))))))))
    clear hdep hK h16 h0 h1 h2 h3 h4 h5 h6 h7 h8 h9 h10 h11 h12 h13 h14
    refine wpOpIn_step rfl (fun K1 hK1 => ?_)
    go_simp
    obtain ⟨h16, h0, h1, h2, h3, h4, h5, h6, h7, h8, h9, h10, h11, h12, h13, h14⟩ := HH.out
    refine hK1 _ _ (HK.out _ _ ⟨_, _, _, _, _, _, _, _, _, _, _, _, _, _, _, rfl, fun h => h0 (by simpa using h), fun h => h1 (by simpa using h), fun h => h2 (by simpa using h), fun h => h3 (by simpa using h), fun h => h4 (by simpa using h), fun h => h5 (by simpa using h), fun _ => rfl, fun h => h7 (by simpa using h), fun h => h8 (by simpa using h), fun h => h9 (by simpa using h), fun h => h10 (by simpa using h), fun h => h11 (by simpa using h), fun h => h12 (by simpa using h), fun h => h13 (by simpa using h), fun h => h14 (by simpa using h), fun h => by
      obtain ⟨p1, p2, p3⟩ := h16 (by simpa using h)
      exact ⟨by first | exact p1 | rfl, by first | exact p2 | rfl, by first | exact p3 | rfl⟩, ?_⟩)
    simp
   ·injection (show some _ = some op from ho) with ho
    subst ho
    have b2 : b 2 = true := hdep ⟨2, Ground.data⟩ (by simp) (by rfl)
    obtain rfl := h2 b2
    have b6 : b 6 = true := hdep ⟨6, Ground.data⟩ (by simp) (by rfl)
    obtain rfl := h6 b6
    have HK := Lib.hid hK
    have HH := Lib.hid (And.intro h16 (And.intro h0 ( And.intro h1 ( And.intro h2 ( And.intro h3 ( And.intro h4 ( And.intro h5 ( And.intro h6 ( And.intro h7 ( And.intro h8 ( And.intro h9 ( And.intro h10 ( And.intro h11 ( And.intro h12 ( And.intro h13 (h14))))))))))))))))
    clear hdep hK h16 h0 h1 h2 h3 h4 h5 h6 h7 h8 h9 h10 h11 h12 h13 h14
    refine wpOpIn_step rfl (fun K1 hK1 => ?_)
    go_simp
    obtain ⟨h16, h0, h1, h2, h3, h4, h5, h6, h7, h8, h9, h10, h11, h12, h13, h14⟩ := HH.out
    refine hK1 _ _ (HK.out _ _ ⟨_, _, _, _, _, _, _, _, _, _, _, _, _, _, _, rfl, fun h => h0 (by simpa using h), fun h => h1 (by simpa using h), fun h => h2 (by simpa using h), fun h => h3 (by simpa using h), fun h => h4 (by simpa using h), fun h => h5 (by simpa using h), fun h => h6 (by simpa using h), fun _ => rfl, fun h => h8 (by simpa using h), fun h => h9 (by simpa using h), fun h => h10 (by simpa using h), fun h => h11 (by simpa using h), fun h => h12 (by simpa using h), fun h => h13 (by simpa using h), fun h => h14 (by simpa using h), fun h => by
      obtain ⟨p1, p2, p3⟩ := h16 (by simpa using h)
      exact ⟨by first | exact p1 | rfl, by first | exact p2 | rfl, by first | exact p3 | rfl⟩, ?_⟩)
    simp
   ·injection (show some _ = some op from ho) with ho
    subst ho
    have n16 : b 16 = false := by
      cases h : b 16 with
      | false => rfl
      | true => exact absurd (h16 h).2.1 (by rw [hb]; decide)
    have c1 := (ixW_place W (w.heap.size + 1) i (.int .i64 rm) (.int .i64 rq) (b 15)).trans e4
    rw [n16]
    have HK := Lib.hid hK
    have HH := Lib.hid (And.intro h16 (And.intro h0 ( And.intro h1 ( And.intro h2 ( And.intro h3 ( And.intro h4 ( And.intro h5 ( And.intro h6 ( And.intro h7 ( And.intro h8 ( And.intro h9 ( And.intro h10 ( And.intro h11 ( And.intro h12 ( And.intro h13 (h14))))))))))))))))
    clear hdep hK h16 h0 h1 h2 h3 h4 h5 h6 h7 h8 h9 h10 h11 h12 h13 h14
    refine wpOpIn_step rfl (fun K1 hK1 => ?_)
    go_simp
    obtain ⟨h16, h0, h1, h2, h3, h4, h5, h6, h7, h8, h9, h10, h11, h12, h13, h14⟩ := HH.out
    refine hK1 _ _ (HK.out _ _ ⟨_, _, _, _, _, _, _, _, _, _, _, _, _, _, _, rfl, fun h => h0 (by simpa using h), fun h => h1 (by simpa using h), fun h => h2 (by simpa using h), fun h => h3 (by simpa using h), fun h => h4 (by simpa using h), fun h => h5 (by simpa using h), fun h => h6 (by simpa using h), fun h => h7 (by simpa using h), fun _ => rfl, fun h => h9 (by simpa using h), fun h => h10 (by simpa using h), fun h => h11 (by simpa using h), fun h => h12 (by simpa using h), fun h => h13 (by simpa using h), fun h => h14 (by simpa using h), fun h => by
      obtain ⟨p1, p2, p3⟩ := h16 (by simpa using h)
      exact ⟨by first | exact p1 | rfl, by first | exact p2 | rfl, by first | exact p3 | rfl⟩, ?_⟩)
    simp [n16]
   ·injection (show some _ = some op from ho) with ho
    subst ho
    have c1 := (ixW_cell W (w.heap.size + 1) i (.int .i64 rm) (.int .i64 rq) (b 15) (b 16) (b := w.heap.size) (o := 0) (by omega) (by omega)).trans e3
    have HK := Lib.hid hK
    have HH := Lib.hid (And.intro h16 (And.intro h0 ( And.intro h1 ( And.intro h2 ( And.intro h3 ( And.intro h4 ( And.intro h5 ( And.intro h6 ( And.intro h7 ( And.intro h8 ( And.intro h9 ( And.intro h10 ( And.intro h11 ( And.intro h12 ( And.intro h13 (h14))))))))))))))))
    clear hdep hK h16 h0 h1 h2 h3 h4 h5 h6 h7 h8 h9 h10 h11 h12 h13 h14
    refine wpOpIn_step rfl (fun K1 hK1 => ?_)
    go_simp
    obtain ⟨h16, h0, h1, h2, h3, h4, h5, h6, h7, h8, h9, h10, h11, h12, h13, h14⟩ := HH.out
    refine hK1 _ _ (HK.out _ _ ⟨_, _, _, _, _, _, _, _, _, _, _, _, _, _, _, rfl, fun h => h0 (by simpa using h), fun h => h1 (by simpa using h), fun h => h2 (by simpa using h), fun h => h3 (by simpa using h), fun h => h4 (by simpa using h), fun h => h5 (by simpa using h), fun h => h6 (by simpa using h), fun h => h7 (by simpa using h), fun h => h8 (by simpa using h), fun _ => rfl, fun h => h10 (by simpa using h), fun h => h11 (by simpa using h), fun h => h12 (by simpa using h), fun h => h13 (by simpa using h), fun h => h14 (by simpa using h), fun h => by
      obtain ⟨p1, p2, p3⟩ := h16 (by simpa using h)
      exact ⟨by first | exact p1 | rfl, by first | exact p2 | rfl, by first | exact p3 | rfl⟩, ?_⟩)
    simp
   ·injection (show some _ = some op from ho) with ho
    subst ho
    have HK := Lib.hid hK
    have HH := Lib.hid (And.intro h16 (And.intro h0 ( And.intro h1 ( And.intro h2 ( And.intro h3 ( And.intro h4 ( And.intro h5 ( And.intro h6 ( And.intro h7 ( And.intro h8 ( And.intro h9 ( And.intro h10 ( And.intro h11 ( And.intro h12 ( And.intro h13 (h14))))))))))))))))
    clear hdep hK h16 h0 h1 h2 h3 h4 h5 h6 h7 h8 h9 h10 h11 h12 h13 h14
    refine wpOpIn_step rfl (fun K1 hK1 => ?_)
    go_simp
    obtain ⟨h16, h0, h1, h2, h3, h4, h5, h6, h7, h8, h9, h10, h11, h12, h13, h14⟩ := HH.out
    refine hK1 _ _ (HK.out _ _ ⟨_, _, _, _, _, _, _, _, _, _, _, _, _, _, _, rfl, fun h => h0 (by simpa using h), fun h => h1 (by simpa using h), fun h => h2 (by simpa using h), fun h => h3 (by simpa using h), fun h => h4 (by simpa using h), fun h => h5 (by simpa using h), fun h => h6 (by simpa using h), fun h => h7 (by simpa using h), fun h => h8 (by simpa using h), fun h => h9 (by simpa using h), fun _ => rfl, fun h => h11 (by simpa using h), fun h => h12 (by simpa using h), fun h => h13 (by simpa using h), fun h => h14 (by simpa using h), fun h => by
      obtain ⟨p1, p2, p3⟩ := h16 (by simpa using h)
      exact ⟨by first | exact p1 | rfl, by first | exact p2 | rfl, by first | exact p3 | rfl⟩, ?_⟩)
    simp
   ·injection (show some _ = some op from ho) with ho
    subst ho
    have b9 : b 9 = true := hdep ⟨9, Ground.data⟩ (by simp) (by rfl)
    obtain rfl := h9 b9
    have b10 : b 10 = true := hdep ⟨10, Ground.data⟩ (by simp) (by rfl)
    obtain rfl := h10 b10
    have HK := Lib.hid hK
    have HH := Lib.hid (And.intro h16 (And.intro h0 ( And.intro h1 ( And.intro h2 ( And.intro h3 ( And.intro h4 ( And.intro h5 ( And.intro h6 ( And.intro h7 ( And.intro h8 ( And.intro h9 ( And.intro h10 ( And.intro h11 ( And.intro h12 ( And.intro h13 (h14))))))))))))))))
    clear hdep hK h16 h0 h1 h2 h3 h4 h5 h6 h7 h8 h9 h10 h11 h12 h13 h14
    refine wpOpIn_step rfl (fun K1 hK1 => ?_)
    go_simp
    obtain ⟨h16, h0, h1, h2, h3, h4, h5, h6, h7, h8, h9, h10, h11, h12, h13, h14⟩ := HH.out
    refine hK1 _ _ (HK.out _ _ ⟨_, _, _, _, _, _, _, _, _, _, _, _, _, _, _, rfl, fun h => h0 (by simpa using h), fun h => h1 (by simpa using h), fun h => h2 (by simpa using h), fun h => h3 (by simpa using h), fun h => h4 (by simpa using h), fun h => h5 (by simpa using h), fun h => h6 (by simpa using h), fun h => h7 (by simpa using h), fun h => h8 (by simpa using h), fun h => h9 (by simpa using h), fun h => h10 (by simpa using h), fun _ => rfl, fun h => h12 (by simpa using h), fun h => h13 (by simpa using h), fun h => h14 (by simpa using h), fun h => by
      obtain ⟨p1, p2, p3⟩ := h16 (by simpa using h)
      exact ⟨by first | exact p1 | rfl, by first | exact p2 | rfl, by first | exact p3 | rfl⟩, ?_⟩)
    simp
   ·injection (show some _ = some op from ho) with ho
    subst ho
    have b11 : b 11 = true := hdep ⟨11, Ground.data⟩ (by simp) (by rfl)
    obtain rfl := h11 b11
    have c1 := (ixW_cell W (w.heap.size + 1) i (.int .i64 rm) (.int .i64 rq) (b 15) (b 16) (b := g) (o := o + i) (by omega) (by omega)).trans d1
    have HK := Lib.hid hK
    have HH := Lib.hid (And.intro h16 (And.intro h0 ( And.intro h1 ( And.intro h2 ( And.intro h3 ( And.intro h4 ( And.intro h5 ( And.intro h6 ( And.intro h7 ( And.intro h8 ( And.intro h9 ( And.intro h10 ( And.intro h11 ( And.intro h12 ( And.intro h13 (h14))))))))))))))))
    clear hdep hK h16 h0 h1 h2 h3 h4 h5 h6 h7 h8 h9 h10 h11 h12 h13 h14
    refine wpOpIn_step rfl (fun K1 hK1 => ?_)
    go_simp
    obtain ⟨h16, h0, h1, h2, h3, h4, h5, h6, h7, h8, h9, h10, h11, h12, h13, h14⟩ := HH.out
    refine hK1 _ _ (HK.out _ _ ⟨_, _, _, _, _, _, _, _, _, _, _, _, _, _, _, rfl, fun h => h0 (by simpa using h), fun h => h1 (by simpa using h), fun h => h2 (by simpa using h), fun h => h3 (by simpa using h), fun h => h4 (by simpa using h), fun h => h5 (by simpa using h), fun h => h6 (by simpa using h), fun h => h7 (by simpa using h), fun h => h8 (by simpa using h), fun h => h9 (by simpa using h), fun h => h10 (by simpa using h), fun h => h11 (by simpa using h), fun _ => rfl, fun h => h13 (by simpa using h), fun h => h14 (by simpa using h), fun h => by
      obtain ⟨p1, p2, p3⟩ := h16 (by simpa using h)
      exact ⟨by first | exact p1 | rfl, by first | exact p2 | rfl, by first | exact p3 | rfl⟩, ?_⟩)
    simp
   ·injection (show some _ = some op from ho) with ho
    subst ho
    have b8 : b 8 = true := hdep ⟨8, Ground.data⟩ (by simp) (by rfl)
    obtain rfl := h8 b8
    have b12 : b 12 = true := hdep ⟨12, Ground.data⟩ (by simp) (by rfl)
    obtain rfl := h12 b12
    have HK := Lib.hid hK
    have HH := Lib.hid (And.intro h16 (And.intro h0 ( And.intro h1 ( And.intro h2 ( And.intro h3 ( And.intro h4 ( And.intro h5 ( And.intro h6 ( And.intro h7 ( And.intro h8 ( And.intro h9 ( And.intro h10 ( And.intro h11 ( And.intro h12 ( And.intro h13 (h14))))))))))))))))
    clear hdep hK h16 h0 h1 h2 h3 h4 h5 h6 h7 h8 h9 h10 h11 h12 h13 h14
    refine wpOpIn_step rfl (fun K1 hK1 => ?_)
    go_simp
    obtain ⟨h16, h0, h1, h2, h3, h4, h5, h6, h7, h8, h9, h10, h11, h12, h13, h14⟩ := HH.out
    refine hK1 _ _ (HK.out _ _ ⟨_, _, _, _, _, _, _, _, _, _, _, _, _, _, _, rfl, fun h => h0 (by simpa using h), fun h => h1 (by simpa using h), fun h => h2 (by simpa using h), fun h => h3 (by simpa using h), fun h => h4 (by simpa using h), fun h => h5 (by simpa using h), fun h => h6 (by simpa using h), fun h => h7 (by simpa using h), fun h => h8 (by simpa using h), fun h => h9 (by simpa using h), fun h => h10 (by simpa using h), fun h => h11 (by simpa using h), fun h => h12 (by simpa using h), fun _ => rfl, fun h => h14 (by simpa using h), fun h => by
      obtain ⟨p1, p2, p3⟩ := h16 (by simpa using h)
      exact ⟨by first | exact p1 | rfl, by first | exact p2 | rfl, by first | exact p3 | rfl⟩, ?_⟩)
    simp
   ·injection (show some _ = some op from ho) with ho
    subst ho
    have b0 : b 0 = true := hdep ⟨0, Ground.data⟩ (by simp) (by rfl)
    obtain rfl := h0 b0
    have b1 : b 1 = true := hdep ⟨1, Ground.data⟩ (by simp) (by rfl)
    obtain rfl := h1 b1
    have HK := Lib.hid hK
    have HH := Lib.hid (And.intro h16 (And.intro h0 ( And.intro h1 ( And.intro h2 ( And.intro h3 ( And.intro h4 ( And.intro h5 ( And.intro h6 ( And.intro h7 ( And.intro h8 ( And.intro h9 ( And.intro h10 ( And.intro h11 ( And.intro h12 ( And.intro h13 (h14))))))))))))))))
    clear hdep hK h16 h0 h1 h2 h3 h4 h5 h6 h7 h8 h9 h10 h11 h12 h13 h14
    refine wpOpIn_step rfl (fun K1 hK1 => ?_)
    go_simp
    obtain ⟨h16, h0, h1, h2, h3, h4, h5, h6, h7, h8, h9, h10, h11, h12, h13, h14⟩ := HH.out
    refine hK1 _ _ (HK.out _ _ ⟨_, _, _, _, _, _, _, _, _, _, _, _, _, _, _, rfl, fun h => h0 (by simpa using h), fun h => h1 (by simpa using h), fun h => h2 (by simpa using h), fun h => h3 (by simpa using h), fun h => h4 (by simpa using h), fun h => h5 (by simpa using h), fun h => h6 (by simpa using h), fun h => h7 (by simpa using h), fun h => h8 (by simpa using h), fun h => h9 (by simpa using h), fun h => h10 (by simpa using h), fun h => h11 (by simpa using h), fun h => h12 (by simpa using h), fun h => h13 (by simpa using h), fun _ => rfl, fun h => by
      obtain ⟨p1, p2, p3⟩ := h16 (by simpa using h)
      exact ⟨by first | exact p1 | rfl, by first | exact p2 | rfl, by first | exact p3 | rfl⟩, ?_⟩)
    simp
   ·injection (show some _ = some op from ho) with ho
    subst ho
    have b14 : b 14 = true := hdep ⟨14, Ground.data⟩ (by simp) (by rfl)
    obtain rfl := h14 b14
    have b7 : b 7 = true := hdep ⟨7, Ground.data⟩ (by simp) (by rfl)
    obtain rfl := h7 b7
    have n16 : b 16 = false := by
      cases h : b 16 with
      | false => rfl
      | true => exact absurd (h16 h).2.2 (by rw [hb]; decide)
    rw [n16, hb]
    unfold ixW
    simp only [if_false, Bool.false_eq_true]
    have HK := Lib.hid hK
    have HH := Lib.hid (And.intro h16 (And.intro h0 ( And.intro h1 ( And.intro h2 ( And.intro h3 ( And.intro h4 ( And.intro h5 ( And.intro h6 ( And.intro h7 ( And.intro h8 ( And.intro h9 ( And.intro h10 ( And.intro h11 ( And.intro h12 ( And.intro h13 (h14))))))))))))))))
    clear hdep hK h16 h0 h1 h2 h3 h4 h5 h6 h7 h8 h9 h10 h11 h12 h13 h14
    refine wpOpIn_step rfl (fun K1 hK1 => ?_)
    go_simp
    obtain ⟨h16, h0, h1, h2, h3, h4, h5, h6, h7, h8, h9, h10, h11, h12, h13, h14⟩ := HH.out
    refine hK1 _ _ (HK.out _ _ ⟨_, _, _, _, _, _, _, _, _, _, _, _, _, _, _, rfl, fun h => h0 (by simpa using h), fun h => h1 (by simpa using h), fun h => h2 (by simpa using h), fun h => h3 (by simpa using h), fun h => h4 (by simpa using h), fun h => h5 (by simpa using h), fun h => h6 (by simpa using h), fun h => h7 (by simpa using h), fun h => h8 (by simpa using h), fun h => h9 (by simpa using h), fun h => h10 (by simpa using h), fun h => h11 (by simpa using h), fun h => h12 (by simpa using h), fun h => h13 (by simpa using h), fun h => h14 (by simpa using h), fun h => by
      obtain ⟨p1, p2, p3⟩ := h16 (by simpa using h)
      exact ⟨by first | exact p1 | rfl, by first | exact p2 | rfl, by first | exact p3 | rfl⟩, ?_⟩)
    (simp [ixW, n16]; rfl)
   ·injection (show some _ = some op from ho) with ho
    subst ho
    have b13 : b 13 = true := hdep ⟨13, Ground.data⟩ (by simp) (by rfl)
    obtain rfl := h13 b13
    have b15 : b 15 = true := hdep ⟨15, Ground.chain⟩ (by simp) (by rfl)
    have b2 : b 2 = true := hdep ⟨2, Ground.phase⟩ (by simp) (by rfl)
    have b8 : b 8 = true := hdep ⟨8, Ground.phase⟩ (by simp) (by rfl)
    have c1 := (ixW_place W (w.heap.size + 1) i (.int .i64 rm) (.int .i64 rq) true).trans e4
    have c2 := (ixW_froz W (w.heap.size + 1) i (.int .i64 rm) (.int .i64 rq) true).trans f4
    rw [hb, b15]
    have HK := Lib.hid hK
    have HH := Lib.hid (And.intro h16 (And.intro h0 ( And.intro h1 ( And.intro h2 ( And.intro h3 ( And.intro h4 ( And.intro h5 ( And.intro h6 ( And.intro h7 ( And.intro h8 ( And.intro h9 ( And.intro h10 ( And.intro h11 ( And.intro h12 ( And.intro h13 (h14))))))))))))))))
    clear hdep hK h16 h0 h1 h2 h3 h4 h5 h6 h7 h8 h9 h10 h11 h12 h13 h14
    refine wpOpIn_step rfl (fun K1 hK1 => ?_)
    go_simp
    obtain ⟨h16, h0, h1, h2, h3, h4, h5, h6, h7, h8, h9, h10, h11, h12, h13, h14⟩ := HH.out
    refine hK1 _ _ (HK.out _ _ ⟨_, _, _, _, _, _, _, _, _, _, _, _, _, _, _, rfl, fun h => h0 (by simpa using h), fun h => h1 (by simpa using h), fun h => h2 (by simpa using h), fun h => h3 (by simpa using h), fun h => h4 (by simpa using h), fun h => h5 (by simpa using h), fun h => h6 (by simpa using h), fun h => h7 (by simpa using h), fun h => h8 (by simpa using h), fun h => h9 (by simpa using h), fun h => h10 (by simpa using h), fun h => h11 (by simpa using h), fun h => h12 (by simpa using h), fun h => h13 (by simpa using h), fun h => h14 (by simpa using h), fun _ => ⟨by simp [b2], by simp [b8], by simp [b15]⟩, ?_⟩)
    simp [ixW, b15]
  case hQ =>
   rintro b a1 w1 hall ⟨s35, s36, s37, s38, s39, s40, s41, s42, s43, s44, s45, s46, s47, s48, s49, rfl, h0, h1, h2, h3, h4, h5, h6, h7, h8, h9, h10, h11, h12, h13, h14, h16, rfl⟩
   have e15 : b 15 = true := hall 15 (by decide)
   have e16 : b 16 = true := hall 16 (by decide)
   rw [e15, e16]
   clear h0 h1 h2 h3 h4 h5 h6 h7 h8 h9 h10 h11 h12 h13 h14 h16 hall
   obtain ⟨i1, i2, i3, i4, i5, i6, hqy⟩ := HI.out
   have hne1 : w2.heap.size ≠ w.heap.size + 1 + 1 := by omega
   have hne2 : w2.heap.size ≠ w.heap.size + 1 := by omega
   have hset : stepO s (l0, q) (i, xv) = (l0.set i rm, q / y) := by
    unfold stepO
    dsimp only
    rw [HGet.out, HRm.out]
   have hB' : Below w.heap.size w (ixW W (w.heap.size + 1) i (.int .i64 rm) (.int .i64 rq) true true) := (((hB.drew).setCell (p := ⟨w.heap.size + 1 + 1, i, none⟩) (by show w.heap.size ≤ w.heap.size + 1 + 1; omega) _).setCell (p := ⟨w.heap.size + 1, 0, none⟩) (by show w.heap.size ≤ w.heap.size + 1; omega) _)
   refine ⟨?_, ?_, ?_, hB'⟩
   ·exact (((KeepsOthers.drew W).trans (KeepsOthers.setCell _ _ _)).trans (KeepsOthers.setCell _ _ _)).from _
   ·intro k hk
    have n1 : k ≠ w.heap.size + 1 + 1 := by rcases hk with hk | hk <;> omega
    have n2 : k ≠ w.heap.size + 1 := by rcases hk with hk | hk <;> omega
    exact (Below.heap_setCell _ ⟨w.heap.size + 1, 0, none⟩ _ k n2).trans (Below.heap_setCell _ ⟨w.heap.size + 1 + 1, i, none⟩ _ k n1)
   ·rw [← HSt.out, hset]
    have keep : ∀ k, k ≠ w.heap.size + 1 + 1 → k ≠ w.heap.size + 1 → (ixW W (w.heap.size + 1) i (.int .i64 rm) (.int .i64 rq) true true).heap[k]? = W.heap[k]? := fun k n1 n2 => (Below.heap_setCell _ ⟨w.heap.size + 1, 0, none⟩ _ k n2).trans (Below.heap_setCell _ ⟨w.heap.size + 1 + 1, i, none⟩ _ k n1)
    refine ⟨?_, (keep _ hne1 hne2).trans i2, (keep _ (by omega) (by omega)).trans i3, ?_, by rw [List.length_set]; exact i5, Nat.le_trans hqy i6⟩
    ·refine (Below.heap_setCell _ ⟨w.heap.size + 1, 0, none⟩ _ _ (by show w.heap.size + 1 + 1 ≠ w.heap.size + 1; omega)).trans ?_
     rw [map_set]
     exact row_set (w := W.drew) i1 i _
    ·have q4 : Boxed (W.drew.setCell ⟨w.heap.size + 1 + 1, i, none⟩ (.int .i64 rm)) (w.heap.size + 1) 2 (.int .i64 q) := (Below.heap_setCell _ ⟨w.heap.size + 1 + 1, i, none⟩ _ _ (by show w.heap.size + 1 ≠ w.heap.size + 1 + 1; omega)).trans i4
     have := q4.set (.int .i64 rq)
     rw [HRq.out] at this ⊢
     exact this
end Go.Proofs.YtknnleiinhdklaaGreatDoor
