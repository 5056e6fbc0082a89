/-
  Appending numbers; walks of slices.Grow (of nil), Concat, Equal. Condition: the slices read as lists.
-/
import Derived.Test.YtknnleiinhdklaaGreatDoorPk28
import Derived.Lib.AppendZeros
import Derived.OwnWalkIn
import Derived.RangeFuncOwn
namespace Go.Proofs.YtknnleiinhdklaaGreatDoor
open Go.RowKit Go.Shelf Go.Sort
theorem run_append_none_any {P : Program} {w : World} (base : Nat) (t ty e : TypeId) (i : TypeInfo) (size : Nat) (ht : P.underlying t = some (.slice e)) (hi : P.info? e = some i)
  (v : Value) (n c : Nat) (xs : List Value) (hown : w.ownsRow base e size v n xs) : (Builtin.append_ #[t, t] ty #[v, .slice none 0 c]).run P w = .ok v w := by
 rcases hown.2 with ⟨rfl, rfl⟩ | ⟨g, cap, cur, rfl, _, _, hnc, _⟩
 ·simp [Builtin.append_, run_underlying ht, sizeOf, typeInfo, hi, Builtin.lenOf, Builtin.firstCells]
 ·simp [Builtin.append_, run_underlying ht, sizeOf, typeInfo, hi, Builtin.lenOf, Builtin.firstCells, hnc, storeCells]
set_option maxRecDepth 100000 in
set_option maxHeartbeats 1000000 in
/-- What is appended may be nothing. -/
theorem wpList_append_ints {ops : Array Oper} {rest : List Oper} {o : Oper} {a : Act} {w : World} {Q : Exit → Act → World → Prop} (hgd : o.guard = none) (s x : Operand)
  (ho : o.op = .call { callee := .builtin .append, args := #[s, x], argTypes := #[22, 22] }) (base : Nat) (v v2 : Value) (l1 l2 : List Int) (hs : a.eval s = v) (h1 : IntsO w base v l1) (hx : a.eval x = v2) (h2 : IntsS w v2 l2)
  (hb : l1.length + l2.length ≤ 1000000) (hbase : base ≤ w.heap.size)
  (h : ∀ v' w', IntsO w' base v' (l1 ++ l2) → w.grownBy w' v.ownBlock → wpList Tryz.prog ops Q rest (a.put o.dst v') w') :
  wpList Tryz.prog ops Q (o :: rest) a w := by
 obtain ⟨i0, hi, hz0, hz1, hz2⟩ := info_parts Tryz.infoI64
 obtain ⟨ad, cap, rfl, c1, c2, c3⟩ := h2
 cases ad with
 | none =>
  have h0 : l2 = [] := by
   rcases Nat.eq_zero_or_pos l2.length with h | h
   ·exact List.eq_nil_of_length_eq_zero h
   ·obtain ⟨g, o, he, _⟩ := c3 h
    cases he
  subst h0
  refine wpList_plain hgd fun K hK => ?_
  have hr := run_append_none_any (P := Tryz.prog) base 22 o.type 2 i0 1 Tryz.underlying22 hi v l1.length cap _ h1
  unfold Oper.wp execOp
  simp only [ho, resolve, invoke, builtin, Sem.run_bind, Sem.run_pure, Result.andThen_ok, List.map_toArray, List.map_cons, List.map_nil, hs, hx, List.length_nil, hr]
  exact hK _ _ (h v w (by rw [List.append_nil]; exact h1) (World.grownBy.refl _ _))
 | some ad =>
  refine wpList_append_own w hgd s x 22 ho base 2 i0 (.int .i64 0) 1 8 Tryz.underlying22 hi hz0 hz1 hz2 rfl (by decide) v l1.length _ hs h1 ad l2.length cap (l2.map (Value.int .i64)) hx (by rw [List.length_map, Nat.mul_one]) ?_ (ints_oneCell _ _) (by unfold maxLen; omega) (by omega) hbase ?_
  ·intro j u hj
   have hlt := (List.getElem?_eq_some_iff.1 hj).1
   rw [List.length_map] at hlt
   obtain ⟨g, o, he, hg, hcell⟩ := c3 (by omega)
   injection he with he
   subst he
   rw [Addr.add_lit]
   rw [List.getElem?_map] at hj
   obtain ⟨x, hx, rfl⟩ := Option.map_eq_some_iff.1 hj
   exact hcell j x hx
  ·intro v' w' hown hgrow _
   exact h v' w' (by unfold IntsO; rw [List.length_append, List.map_append]; exact hown) hgrow
/-- Appending in a fence, at one operation. -/
theorem opIn_append {F : Fence} {n : Nat} {P : Program} {w : World} {o : Oper} {a : Act} {K : Act → World → Prop} {Q : Exit → Act → World → Prop}
  (s x : Operand) (t : TypeId) (hop : o.op = Op.call { callee := Callee.builtin Builtin.append, args := #[s, x], argTypes := #[t, t] })
  (base : Nat) (e : TypeId) (i : TypeInfo) (z : Value) (size bytes : Nat) (h1 : P.underlying t = some (.slice e)) (h2 : P.info? e = some i) (h3 : i.zero = some z) (h4 : i.size = size) (h5 : i.bytes = bytes) (h6 : z.cells.size = size) (h7 : 0 < size)
  (v : Value) (k : Nat) (xs : List Value) (hs : a.eval s = v) (hown : w.ownsRow base e size v k xs) (ad : Addr) (m c : Nat) (news : List Value) (hx : a.eval x = .slice (some ad) m c) (hn : news.length = m * size)
  (hc : ∀ j u, news[j]? = some u → w.cell? (ad.add j) = some u) (h1c : ∀ u ∈ news, u.oneCell' = true) (b1 : k + m ≤ maxLen) (b2 : (k + m) * bytes ≤ 140737488355328) (b3 : base ≤ w.heap.size)
  (hK : ∀ v' w', w'.ownsRow base e size v' (k + m) (xs ++ news) → w.grownBy w' v.ownBlock → K (a.put o.dst v') w') : Oper.wpIn F n P o a w K Q := by
 obtain ⟨v', w', hrun, r1, r2, r3⟩ := run_append_own (P := P) w base t o.type e i z size bytes h1 h2 h3 h4 h5 h6 h7 v k xs hown ad m c news hn hc h1c b1 b2 b3
 unfold Oper.wpIn
 refine ⟨?_, ?_⟩
 ·simp [Oper.about, hop, resolve, Target.leads, Sem.run_pure]
 ·rw [Oper.semAt_plain F _ _ (by rw [hop]; intro c hc'; cases hc')]
  simp [execOp, hop, resolve, invoke, builtin, hs, hx, hrun, Result.andThen]
  exact hK _ _ r1 r2
theorem own_others {w w' : World} {base e size n : Nat} {v : Value} {xs : List Value} (h : w.ownsRow base e size v n xs) (hg : w.grownBy w' v.ownBlock) : KeepsOthers w w' :=
 KeepsOthers.of_grownBy hg (fun j o hj ho => by
  rcases h.2 with ⟨rfl, _⟩ | ⟨g, cap, cur, rfl, _, hgg, _⟩
  ·cases hj
  ·have e : g = j := by simpa [Value.ownBlock] using hj
   subst e
   rw [hgg] at ho
   injection ho with ho
   rw [← ho]
   rfl)
def GrowPost (w : World) (e : Ending) (w' : World) : Prop := ∃ u, e = .returned u ∧ IntsO w' w.heap.size u [] ∧ Below w.heap.size w w'
set_option maxHeartbeats 1000000 in
set_option maxRecDepth 100000 in
theorem grow_nil (n : Nat) (w : World) (hn : n ≤ 1000000) : Calls Tryz.prog 87 #[.slice none 0 0, .int .i64 n] w (GrowPost w) := by
 obtain ⟨i0, hi, hz0, hz1, hz2⟩ := info_parts Tryz.infoI64
 have h0 : ¬ (n : Int) < 0 := by omega
 by_cases hz : n = 0
 ·subst hz
  go_enter Tryz.func87, Tryz.ntmps87
  go_wp2_with fail
  go_ret
  exact ⟨_, rfl, IntsO.nil _ _, Below.refl _ _⟩
 ·have h1 : (0 : Int) < n := by omega
  have hrun := Lib.hid (fun ty => Lib.run_append_nil_zeros (P := Tryz.prog) w 22 3 ty 2 i0 (.int .i64 0) .i64 .i64 Tryz.underlying22 Tryz.underlying3 hi hz0 n (by omega) (by rw [hz1]; decide) (by omega) (by rw [hz2]; omega))
  have hcap := grownCap_ge w n 0 2
  have hcm := grownCap_le_maxLen w n 0 2 (by unfold maxLen; omega)
  obtain ⟨cells, hcells⟩ : ∃ cells, cells = Builtin.zeroCells (Value.int .i64 0).cells n ++ Builtin.zeroCells (Value.int .i64 0).cells (grownCap w n 0 2 - n) := ⟨_, rfl⟩
  rw [← hcells] at hrun
  have hsz : cells.size = grownCap w n 0 2 * 1 := by
   rw [hcells, Array.size_append, size_zeroCells, size_zeroCells]
   show n * 1 + _ * 1 = _
   omega
  generalize hC : grownCap w n 0 2 = C at *
  have HO : Hid (IntsO (w.drew.alloc (.cells cells 2)) w.heap.size (.slice (some ⟨w.heap.size, 0, none⟩) 0 C) [] ∧ Below w.heap.size w (w.drew.alloc (.cells cells 2))) :=
   Lib.hid ⟨World.ownsRow_made w.drew cells C (Nat.le_refl _) hcm hsz, ((Below.refl _ w).drew).alloc (Nat.le_refl _) _⟩
  unfold maxLen at hcm
  have hC0 : ¬ C = 0 := by omega
  clear hcells hsz hC hz hi hz0 hz1 hz2
  go_enter Tryz.func87, Tryz.ntmps87
  go_wp2_with (at_builtin; refine Lib.wpList_append_run w rfl _ _ _ _ rfl _ _ rfl rfl _ _ (hrun.out _) ?_)
  go_ret
  exact ⟨_, rfl, HO.out.1, HO.out.2⟩
end Go.Proofs.YtknnleiinhdklaaGreatDoor
