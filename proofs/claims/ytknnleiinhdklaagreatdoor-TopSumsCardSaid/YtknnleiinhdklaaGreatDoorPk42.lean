/-
  Package mean: arrays in memory that stay, a stack of arrays. No condition.   Package mean: what item begins with and what it hands back. No condition.   Walk of package mean: item at a function of one array. Condition: the values read as arrays; the function answers.
-/
import Derived.Test.YtknnleiinhdklaaGreatDoorPk25
import Derived.Test.YtknnleiinhdklaaGreatDoorPk41
import Derived.Deep.RegionLawGrows
import Derived.Deep.RegionHeld3
namespace Go.Proofs.YtknnleiinhdklaaGreatDoor
section
open Go.RowKit Go.Shelf Go.Sort Go.Maps
/-- Numbers that lie below the base, or in a row of numbers. -/
def IntsK (w : World) (base : Nat) (v : Value) (l : List Int) : Prop :=
 ∃ a cap, v = .slice a l.length cap ∧ l.length ≤ cap ∧ cap ≤ maxLen ∧ (0 < l.length → ∃ g o, a = some ⟨g, o, none⟩ ∧ g < w.heap.size ∧ (g < base ∨ ∃ cs, w.heap[g]? = some (.cells cs 2 (0, 0))) ∧ ∀ (i : Nat) (x : Int), l[i]? = some x → w.cell? ⟨g, o + i, none⟩ = some (.int .i64 x))
/-- What leaves them as they are. -/
structure FrI (base : Nat) (w w' : World) : Prop where
 size : w.heap.size ≤ w'.heap.size
 low : ∀ k, k < base → w'.heap[k]? = w.heap[k]?
 keep : KeepTag 2 w w'
theorem FrI.refl (base : Nat) (w : World) : FrI base w w := ⟨Nat.le_refl _, fun _ _ => rfl, KeepTag.refl _ _⟩
theorem FrI.trans {base : Nat} {a b c : World} (h : FrI base a b) (k : FrI base b c) : FrI base a c := ⟨Nat.le_trans h.size k.size, fun i hi => (k.low i hi).trans (h.low i hi), h.keep.trans k.keep⟩
theorem FrI.below {base : Nat} {w w' : World} (hb : Below w.heap.size w w') (h : base ≤ w.heap.size) : FrI base w w' := ⟨hb.size, fun k hk => hb.block k (Nat.lt_of_lt_of_le hk h), KeepTag.below hb⟩
theorem FrI.gb {base b : Nat} {t : TypeId} {cs : Array Value} {w w' : World} (hg : w.grownBy w' (some b)) (hk : Blk w b t cs) (hne : 2 ≠ t) (h : base ≤ b) : FrI base w w' :=
 ⟨hg.size, fun k hk' => hg.block k (by have := hk.lt; omega) (fun e => by injection e with e; omega), KeepTag.gb hg hk hne⟩
theorem FrI.own {base : Nat} {w w' : World} {b e size n : Nat} {v : Value} {xs : List Value} (hg : w.grownBy w' v.ownBlock) (ho : w.ownsRow b e size v n xs) (hne : 2 ≠ e) (h : base ≤ b) (hs : base ≤ w.heap.size) : FrI base w w' :=
 ⟨hg.size, fun k hk' => hg.block k (by omega) (fun e => by have := (ho.lt k e.symm).1; omega), KeepTag.own hg ho hne⟩
theorem cell_same {w w' : World} {g : Nat} (h : w'.heap[g]? = w.heap[g]?) (o : Nat) : w'.cell? ⟨g, o, none⟩ = w.cell? ⟨g, o, none⟩ := by simp [World.cell?, h]
theorem IntsK.keep {w w' : World} {base : Nat} {v : Value} {l : List Int} (h : IntsK w base v l) (hf : FrI base w w') : IntsK w' base v l := by
 obtain ⟨a, cap, h1, h2, h3, h4⟩ := h
 refine ⟨a, cap, h1, h2, h3, fun hn => ?_⟩
 obtain ⟨g, o, k1, k2, k3, k4⟩ := h4 hn
 have hs : w'.heap[g]? = w.heap[g]? := by
  rcases k3 with h | ⟨cs, h⟩
  ·exact hf.low g h
  ·rw [hf.keep g cs h, h]
 exact ⟨g, o, k1, Nat.lt_of_lt_of_le k2 hf.size, k3.imp id (fun ⟨cs, h⟩ => ⟨cs, hs.trans h⟩), fun i x hi => (cell_same hs _).trans (k4 i x hi)⟩
theorem IntsK.s {w : World} {base : Nat} {v : Value} {l : List Int} (h : IntsK w base v l) : IntsS w v l := by
 obtain ⟨a, cap, h1, h2, h3, h4⟩ := h
 exact ⟨a, cap, h1, h2, h3, fun hn => let ⟨g, o, k1, k2, _, k4⟩ := h4 hn; ⟨g, o, k1, k2, k4⟩⟩
theorem IntsK.old {w : World} {base : Nat} {v : Value} {l : List Int} (h : IntsS w v l) (hb : w.heap.size ≤ base) : IntsK w base v l := by
 obtain ⟨a, cap, h1, h2, h3, h4⟩ := h
 exact ⟨a, cap, h1, h2, h3, fun hn => let ⟨g, o, k1, k2, k4⟩ := h4 hn; ⟨g, o, k1, k2, .inl (Nat.lt_of_lt_of_le k2 hb), k4⟩⟩
theorem IntsK.own {w : World} {b base : Nat} {v : Value} {l : List Int} (h : IntsO w b v l) : IntsK w base v l := by
 obtain ⟨a, cap, h1, h2, h3, h4⟩ := h.s
 refine ⟨a, cap, h1, h2, h3, fun hn => ?_⟩
 obtain ⟨g, o, k1, k2, k4⟩ := h4 hn
 refine ⟨g, o, k1, k2, .inr ?_, k4⟩
 rcases h.2 with ⟨he, _⟩ | ⟨g', c', cur, he, _, hg, _⟩
 ·rw [h1, k1] at he
  cases he
 ·rw [h1, k1] at he
  simp only [Value.slice.injEq, Option.some.injEq, Addr.mk.injEq] at he
  obtain ⟨⟨rfl, _⟩, _⟩ := he
  exact ⟨cur, hg⟩
def ArrK (w : World) (base : Nat) (v : Value) (x : Arr) : Prop := ∃ vs vd, v = .agg #[vs, vd] ∧ IntsK w base vs (ofN x.sides) ∧ IntsK w base vd x.data
theorem ArrK.keep {w w' : World} {base : Nat} {v : Value} {x : Arr} (h : ArrK w base v x) (hf : FrI base w w') : ArrK w' base v x := let ⟨vs, vd, h1, h2, h3⟩ := h; ⟨vs, vd, h1, h2.keep hf, h3.keep hf⟩
theorem ArrK.v {w : World} {base : Nat} {v : Value} {x : Arr} (h : ArrK w base v x) : ArrV w v x := let ⟨vs, vd, h1, h2, h3⟩ := h; ⟨vs, vd, h1, h2.s, h3.s⟩
theorem ArrK.old {w : World} {base : Nat} {v : Value} {x : Arr} (h : ArrV w v x) (hb : w.heap.size ≤ base) : ArrK w base v x := let ⟨vs, vd, h1, h2, h3⟩ := h; ⟨vs, vd, h1, .old h2 hb, .old h3 hb⟩
theorem ArrK.own {w : World} {b base : Nat} {v : Value} {x : Arr} (h : ArrO w b v x) : ArrK w base v x := let ⟨vs, vd, h1, h2, h3⟩ := h; ⟨vs, vd, h1, .own h2, .own h3⟩
theorem ArrK.form {w : World} {base : Nat} {v : Value} {x : Arr} (h : ArrK w base v x) : ∃ a n c b d, v = .agg #[.slice a n c, .slice b x.data.length d] := by
 obtain ⟨vs, vd, rfl, ⟨a, c, rfl, _⟩, ⟨b, d, rfl, _⟩⟩ := h
 exact ⟨a, _, c, b, d, rfl⟩
def prs : List (Value × Value) → List Value
 | [] => []
 | u :: r => u.1 :: u.2 :: prs r
theorem prs_len : ∀ l, (prs l).length = l.length * 2
 | [] => rfl
 | u :: r => by show (prs r).length + 1 + 1 = (r.length + 1) * 2; rw [prs_len r]; omega
theorem prs_append : ∀ a b, prs (a ++ b) = prs a ++ prs b
 | [], _ => rfl
 | u :: r, b => by show u.1 :: u.2 :: prs (r ++ b) = _; rw [prs_append r b]; rfl
theorem prs_get : ∀ (l : List (Value × Value)) (i : Nat) (u : Value × Value), l[i]? = some u → (prs l)[i * 2]? = some u.1 ∧ (prs l)[i * 2 + 1]? = some u.2
 | [], i, u, h => by simp at h
 | x :: l, 0, u, h => by
  simp only [List.getElem?_cons_zero, Option.some.injEq] at h
  subst h
  exact ⟨rfl, rfl⟩
 | x :: l, i + 1, u, h => by
  have := prs_get l i u (by simpa using h)
  rw [show (i + 1) * 2 = i * 2 + 1 + 1 by omega]
  exact this
/-- Arrays in a row that the call made. -/
structure StkV (w : World) (base : Nat) (v : Value) (us : List (Value × Value)) (st : List Arr) : Prop where
 len : us.length = st.length
 row : w.ownsRow base 24 2 v st.length (prs us)
 arr : ∀ (i : Nat) (x : Arr) (u : Value × Value), st[i]? = some x → us[i]? = some u → ArrK w base (.agg #[u.1, u.2]) x
theorem StkV.nil (w : World) (base : Nat) : StkV w base (.slice none 0 0) [] [] := ⟨rfl, World.ownsRow_nil _ _ _ _, fun i x u h => by simp at h⟩
theorem StkV.keep {w w' : World} {base : Nat} {v : Value} {us : List (Value × Value)} {st : List Arr} (h : StkV w base v us st) (hf : FrI base w w') (hk : KeepTag 24 w w') : StkV w' base v us st :=
 ⟨h.len, own_tag h.row hk, fun i x u h1 h2 => (h.arr i x u h1 h2).keep hf⟩
theorem StkV.form {w : World} {base : Nat} {v : Value} {us : List (Value × Value)} {st : List Arr} (h : StkV w base v us st) : ∃ a c, v = .slice a st.length c := own_form h.row
theorem StkV.at {w : World} {base : Nat} {v : Value} {us : List (Value × Value)} {st : List Arr} (h : StkV w base v us st) {i : Nat} {x : Arr} (hi : st[i]? = some x) :
  ∃ g c u, v = .slice (some ⟨g, 0, none⟩) st.length c ∧ us[i]? = some u ∧ st.length ≤ c ∧ c ≤ maxLen ∧ base ≤ g ∧ g < w.heap.size ∧ w.cell? ⟨g, i * 2, none⟩ = some u.1 ∧ w.cell? ⟨g, i * 2 + 1, none⟩ = some u.2 ∧ ArrK w base (.agg #[u.1, u.2]) x := by
 have hl := (List.getElem?_eq_some_iff.1 hi).1
 obtain ⟨g, c, he, hb, hg, hc, hm, hcell, _⟩ := own_cells h.row (by omega)
 have hu : us[i]? = some (us[i]'(by rw [h.len]; exact hl)) := List.getElem?_eq_getElem _
 obtain ⟨p1, p2⟩ := prs_get us i _ hu
 exact ⟨g, c, _, he, hu, hc, hm, hb, hg, (hcell _ (by omega)).trans p1, (hcell _ (by omega)).trans p2, h.arr i x _ hi hu⟩
theorem take_len {α : Type} (r : List α) {s : List α} {m : Nat} (hm : m = r.length) : (r ++ s).take m = r := by subst hm; exact List.take_left
/-- What is left of a stack below its last so many, and one more on it. -/
theorem StkV.push {w w1 w2 : World} {base : Nat} {v v' : Value} {us : List (Value × Value)} {r s : List Arr} {z : Arr} {vs vd : Value} (h : StkV w base v us (r ++ s)) (hf : FrI base w w2)
  (hz : ArrK w2 base (.agg #[vs, vd]) z) (hb : base ≤ w1.heap.size) (ho : w2.ownsRow w1.heap.size 24 2 v' (r.length + 1) ((prs us).take (r.length * 2) ++ [vs, vd])) : StkV w2 base v' (us.take r.length ++ [(vs, vd)]) (r ++ [z]) := by
 have hlen : (us.take r.length).length = r.length := by rw [List.length_take, h.len, List.length_append]; omega
 have htk : (prs us).take (r.length * 2) = prs (us.take r.length) := by
  conv => lhs; rw [← List.take_append_drop r.length us, prs_append]
  exact take_len _ (by rw [prs_len, hlen])
 refine ⟨by rw [List.length_append, hlen, List.length_append]; rfl, ?_, fun i x u h1 h2 => ?_⟩
 ·rw [List.length_append, prs_append]
  rw [htk] at ho
  exact own_base ho hb
 ·by_cases hi : i < r.length
  ·rw [List.getElem?_append_left hi] at h1
   rw [List.getElem?_append_left (by omega), List.getElem?_take, if_pos hi] at h2
   exact (h.arr i x u (by rw [List.getElem?_append_left hi]; exact h1) h2).keep hf
  ·rw [List.getElem?_append_right (by omega)] at h1
   rw [List.getElem?_append_right (by omega), hlen] at h2
   have : i - r.length = 0 := by
    have := (List.getElem?_eq_some_iff.1 h1).1
    simp at this
    omega
   rw [this] at h1 h2
   injection h1 with h1
   injection h2 with h2
   subst h1 h2
   exact hz
/-- The cells that stay, as the append reads them. -/
theorem StkV.low {w : World} {base g c n : Nat} {us : List (Value × Value)} {st : List Arr} (h : StkV w base (.slice (some ⟨g, 0, none⟩) n c) us st) (m : Nat) : ∀ j u, ((prs us).take (m * 2))[j]? = some u → w.cell? (Addr.add ⟨g, 0, none⟩ j) = some u := by
 intro j u hj
 have hj2 : (prs us)[j]? = some u := by
  rw [List.getElem?_take] at hj
  split at hj
  ·exact hj
  ·cases hj
 exact World.ownsRow.cells h.row (g := g) rfl j u hj2
theorem info_arr : (Tryz.prog.info? 24).map (fun i => (i.zero, i.size, i.bytes)) = some (some (.agg #[.slice none 0 0, .slice none 0 0]), 2, 48) := by kernel_rfl
theorem gb_set (w : World) (b o : Nat) (u : Value) : w.grownBy (w.setCell ⟨b, o, none⟩ u) (some b) := by
 refine ⟨rfl, rfl, rfl, by simp, fun k hk hne => ?_⟩
 exact Below.heap_setCell w ⟨b, o, none⟩ u k (fun e => hne (by rw [e]))
end
section
open Go.RowKit Go.Shelf Go.Sort Go.Maps
/-- item's boxes: the result's, the run's. -/
structure ItmAt (w W : World) (kr km work : Nat) (vs vd : Value) : Prop where
 bel : Below w.heap.size w W
 res : Blk W (w.heap.size + 1) 24 #[vs, vd]
 run : Blk W kr 76 #[.map (some km), .int .i64 work]
section
variable {w W W' : World} {kr km work : Nat} {vs vd : Value}
theorem ItmAt.below (h : ItmAt w W kr km work vs vd) (hb : Below W.heap.size W W') : ItmAt w W' kr km work vs vd := ⟨h.bel.trans (hb.mono h.bel.size), h.res.below hb, h.run.below hb⟩
theorem ItmAt.drew (h : ItmAt w W kr km work vs vd) : ItmAt w W.drew kr km work vs vd := h.below (Below.refl _ _).drew
theorem ItmAt.draws (h : ItmAt w W kr km work vs vd) (n : Nat) : ItmAt w (W.drewN n) kr km work vs vd := h.below (below_drewN' (Below.refl _ _) _)
/-- The result laid into its box. -/
theorem ItmAt.put (h : ItmAt w W kr km work vs vd) (hk : kr < w.heap.size) (a b : Value) : ItmAt w ((W.setCell ⟨w.heap.size + 1, 0, none⟩ a).setCell ⟨w.heap.size + 1, 1, none⟩ b) kr km work a b ∧ FrI w.heap.size W ((W.setCell ⟨w.heap.size + 1, 0, none⟩ a).setCell ⟨w.heap.size + 1, 1, none⟩ b) := by
 refine ⟨⟨below_set (below_set h.bel (by omega) _) (by omega) _, Blk.put2 h.res a b, (h.run.other (by omega) 0 a).other (by omega) 1 b⟩, ?_⟩
 exact (FrI.gb (gb_set W (w.heap.size + 1) 0 a) h.res (by decide) (by omega)).trans (FrI.gb (gb_set _ (w.heap.size + 1) 1 b) (Blk.put0 h.res a) (by decide) (by omega))
end
theorem ItmAt.put1 {w W : World} {kr km work : Nat} {vs vd : Value} (h : ItmAt w W kr km work vs vd) (hk : kr < w.heap.size) (b : Value) : ItmAt w (W.setCell ⟨w.heap.size + 1, 1, none⟩ b) kr km work vs b ∧ FrI w.heap.size W (W.setCell ⟨w.heap.size + 1, 1, none⟩ b) :=
 ⟨⟨below_set h.bel (by omega) _, Blk.set21 h.res b, h.run.other (by omega) 1 b⟩, FrI.gb (gb_set W (w.heap.size + 1) 1 b) h.res (by decide) (by omega)⟩
theorem FrI.mono {base b : Nat} {w w' : World} (h : FrI base w w') (hb : b ≤ base) : FrI b w w' := ⟨h.size, fun k hk => h.low k (Nat.lt_of_lt_of_le hk hb), h.keep⟩
theorem FrI.none {base : Nat} {w w' : World} (hg : w.grownBy w' none) (h : base ≤ w.heap.size) : FrI base w w' := ⟨hg.size, fun k hk => hg.block k (Nat.lt_of_lt_of_le hk h) (fun e => by cases e), KeepTag.gb0 hg⟩
/-- Behind the work's sum. -/
structure ItmEnd (w W : World) (base kr km work : Nat) (vs vd : Value) : Prop where
 gb : w.grownBy W (some kr)
 run : Blk W kr 76 #[.map (some km), .int .i64 work]
 res : Blk W (w.heap.size + 1) 24 #[vs, vd]
 fr : FrI base w W
 kt : KeepTag 24 w W
theorem ItmAt.work {w W : World} {base kr km work : Nat} {vs vd : Value} (h : ItmAt w W kr km work vs vd) (hk : kr < w.heap.size) (hb : base ≤ kr) (m : Nat) :
  ItmEnd w ((W.setCell ⟨kr, 1, none⟩ (.int .i64 m)).drew) base kr km m vs vd ∧ FrI base W ((W.setCell ⟨kr, 1, none⟩ (.int .i64 m)).drew) := by
 show ItmEnd w (W.drew.setCell ⟨kr, 1, none⟩ (.int .i64 m)) base kr km m vs vd ∧ FrI base W (W.drew.setCell ⟨kr, 1, none⟩ (.int .i64 m))
 have hd : Below W.heap.size W W.drew := (Below.refl _ _).drew
 have h1 := h.drew
 have hf : FrI base W.drew (W.drew.setCell ⟨kr, 1, none⟩ (.int .i64 m)) := FrI.gb (gb_set _ kr 1 _) h1.run (by decide) hb
 have hs : base ≤ w.heap.size := by omega
 exact ⟨⟨gb_trans (gb_below h1.bel) (gb_set _ kr 1 _), Blk.set21 h1.run _, h1.res.other (by omega) 1 _, (FrI.below h1.bel hs).trans hf, (KeepTag.below h1.bel).trans (KeepTag.set h1.run (by decide) 1 _)⟩, (FrI.below hd (Nat.le_trans hs h.bel.size)).trans hf⟩
theorem work_le {work n : Nat} (h1 : work ≤ 983040) (h2 : n ≤ 65536) : ¬ (1048576 : Int) < ((work + n : Nat) : Int) ∧ decide ((1048576 : Int) < ((work + n : Nat) : Int)) = false ∧ work ≤ 1000000 ∧ n ≤ 1000000 := by
 have h : ¬ (1048576 : Int) < ((work + n : Nat) : Int) := by omega
 exact ⟨h, decide_eq_false h, by omega, by omega⟩
theorem wr_last2 {n k : Nat} (hk : n = k + 2) (h : n ≤ 1000000) : wrap64 ((n : Int) - 2) = (k : Int) ∧ IntKind.i64.wrap ((n : Int) - 2) = (k : Int) := ⟨by unfold wrap64; omega, by rw [IntKind.wrap_i64]; omega⟩
/-- What the append reads. -/
theorem StkV.lows {W : World} {base g c n : Nat} {us : List (Value × Value)} {st : List Arr} (h : StkV W base (.slice (some ⟨g, 0, none⟩) n c) us st) {k : Nat} (hk : k ≤ st.length) (hb : base ≤ W.heap.size) :
  ((prs us).take (k * 2)).length = k * 2 ∧ ∀ W', Below W.heap.size W W' → ∀ j u, ((prs us).take (k * 2))[j]? = some u → W'.cell? (Addr.add ⟨g, 0, none⟩ j) = some u :=
 ⟨by rw [List.length_take, prs_len, h.len]; omega, fun W' hb' => (h.keep (FrI.below hb' hb) (KeepTag.below hb')).low k⟩
def ItemPost (base kr km work : Nat) (st : List Arr) (w : World) (e : Ending) (w' : World) : Prop :=
 ∃ v us n, e = .returned (.tuple #[v, .int .i64 0]) ∧ StkV w' base v us st ∧ Blk w' kr 76 #[.map (some km), .int .i64 ((n : Nat) : Int)] ∧ n ≤ work + 65536 ∧ w.grownBy w' (some kr) ∧ ∀ b, v.ownBlock = some b → w.heap.size ≤ b
end
section
open Go.RowKit Go.Shelf Go.Sort Go.Maps
set_option maxHeartbeats 8000000 in
set_option maxRecDepth 100000 in
theorem item_mon {base kr km work : Nat} {fn : Nat} {x y : Arr} (w : World) (v : Value) (us : List (Value × Value)) (r : List Arr) (ia : Int) (nm : List UInt8) (vn : Value)
  (hF : ∀ (u : Value) (W : World), ArrV W u x → Calls Tryz.prog 39 #[.int .u8 fn, u] W (PrimPost y W)) (hy : y.data.length ≤ 65536)
  (hK : Blk w kr 76 #[.map (some km), .int .i64 work]) (hwk : work ≤ 983040) (hb : base ≤ kr) (hS : StkV w base v us (r ++ [x])) (hl : r.length ≤ 20) :
  Calls Tryz.prog 22 #[.pointer (some ⟨kr, 0, none⟩), .agg #[.int .i64 3, .int .i64 ia, .int .u8 fn, .string (mkS nm), vn], v] w (ItemPost base kr km work (r ++ [y]) w) := by
 obtain ⟨j0, pi, pz0, pz1, pz2⟩ := info_parts info_arr
 obtain ⟨g, c, ⟨u1, u2⟩, rfl, hu, hc1, hc2, hg0, hg, c0, c1, hu2⟩ := hS.at (i := r.length) (x := x) (by simp)
 have HF : Hid (∀ W, Below w.heap.size w W → Calls Tryz.prog 39 #[.int .u8 fn, .agg #[u1, u2]] W (PrimPost y W)) := Lib.hid (fun W hb => hF _ W (hu2.v.below hb))
 have HS := Lib.hid hS
 have HK := Lib.hid hK
 obtain ⟨k, hk⟩ : ∃ k, k = r.length := ⟨_, rfl⟩
 obtain ⟨m, hm⟩ : ∃ m, m = (r ++ [x]).length := ⟨_, rfl⟩
 have hmk : m = k + 1 := by rw [hm, hk, List.length_append]; rfl
 rw [← hm] at hc1 ⊢
 rw [← hk] at c0 c1 hl
 have HM := Lib.hid (And.intro hk (And.intro hm hmk))
 have hkr := hK.lt
 have HB := Lib.hid hb
 dsimp only at c0 c1
 clear hF hS hK hu hu2 hb hk hm
 obtain ⟨m1, m2⟩ := wr_last hmk (by omega)
 have mI : (k : Int) < m := by omega
 have mI0 : (0 : Int) ≤ k := by omega
 have hmb : m ≤ 21 := by omega
 have hkc : k ≤ c := by omega
 have HMk := Lib.hid hmk
 clear hmk
 have HA0 := Lib.hid ((Below.refl _ w).alloc (Nat.le_refl _) (.cells #[.int .i64 3, .int .i64 ia, .int .u8 fn, .string (mkS nm), vn] 71))
 have HA1 := Lib.hid (HA0.out.alloc (by simp) (.cells #[.slice none 0 0, .slice none 0 0] 24))
 have HI1 : Hid (ItmAt w ((w.alloc (.cells #[.int .i64 3, .int .i64 ia, .int .u8 fn, .string (mkS nm), vn] 71)).alloc (.cells #[.slice none 0 0, .slice none 0 0] 24)) kr km work (.slice none 0 0) (.slice none 0 0)) := Lib.hid ⟨HA1.out, Blk.new _ _ _ (by simp), (HK.out.alloc _).alloc _⟩
 have HX1 : Hid (Blk ((w.alloc (.cells #[.int .i64 3, .int .i64 ia, .int .u8 fn, .string (mkS nm), vn] 71)).alloc (.cells #[.slice none 0 0, .slice none 0 0] 24)) w.heap.size 71 #[.int .i64 3, .int .i64 ia, .int .u8 fn, .string (mkS nm), vn]) := Lib.hid ((Blk.new w _ _ rfl).alloc _)
 go_enter Tryz.func22, Tryz.ntmps22
 go_upto_region 16 with fail
 obtain ⟨W1, hW1⟩ : ∃ W, W = (w.alloc (.cells #[.int .i64 3, .int .i64 ia, .int .u8 fn, .string (mkS nm), vn] 71)).alloc (.cells #[.slice none 0 0, .slice none 0 0] 24) := ⟨_, rfl⟩
 rw [← hW1] at HI1 HX1 HA1
 rw [← hW1]
 have x2 := HX1.out.cell 2 |>.trans (show _ = some (Value.int .u8 fn) from rfl)
 have d0 := (HA1.out.cell (p := ⟨g, k * 2, none⟩) hg).trans c0
 have d1 := (HA1.out.cell (p := ⟨g, k * 2 + 1, none⟩) hg).trans c1
 have l1 : w.heap.size < W1.heap.size := HX1.out.lt
 have l2 : g < W1.heap.size := Nat.lt_of_lt_of_le hg HA1.out.size
 have hgn : ¬ g = w.heap.size + 1 := by omega
 have hgn2 : ¬ w.heap.size + 1 = g := by omega
 clear hW1 c0 c1 HA0
 go_region_held3 (fun wy => wy.cell? ⟨w.heap.size, 2, none⟩ = some (.int .u8 fn) ∧ wy.cell? ⟨g, k * 2, none⟩ = some u1 ∧ wy.cell? ⟨g, k * 2 + 1, none⟩ = some u2)
  (first | go_keep)
  (first | (go_at_call 39; refine (HF.out _ (by repeat (first | exact HA1.out | refine Below.drew ?_ | refine below_drewN' ?_ _))).mono ?_; rintro _ w9 ⟨_, rfl, ⟨vs, vd, rfl, hz1, hz2⟩, hb9⟩; have HI9 : Hid (ItmAt w w9 kr km work (.slice none 0 0) (.slice none 0 0)) := Lib.hid (ItmAt.below (by repeat (first | exact HI1.out | refine ItmAt.draws ?_ _ | refine ItmAt.drew ?_)) hb9); obtain ⟨an, cn, hfn⟩ := hz2.form; obtain ⟨az, cz, hfs⟩ := hz1.form; subst hfn hfs; have HZ := Lib.hid (And.intro hz1 hz2); clear hz1 hz2; have f9 : ∀ o, w9.frozen? ⟨w.heap.size + 1, o, none⟩ = false := fun o => HI9.out.res.froz o; have g0 := HI9.out.res.cell 0 |>.trans (show _ = some (Value.slice none 0 0) from rfl); have g1 := HI9.out.res.cell 1 |>.trans (show _ = some (Value.slice none 0 0) from rfl); have x2' : w9.cell? ⟨w.heap.size, 2, none⟩ = some (.int .u8 fn) := (hb9.cell (p := ⟨w.heap.size, 2, none⟩) l1).trans x2; have d0' : w9.cell? ⟨g, k * 2, none⟩ = some u1 := (hb9.cell (p := ⟨g, k * 2, none⟩) l2).trans d0; have d1' : w9.cell? ⟨g, k * 2 + 1, none⟩ = some u2 := (hb9.cell (p := ⟨g, k * 2 + 1, none⟩) l2).trans d1; have HB9 := Lib.hid hb9; clear hb9))
 clear x2 d0 d1 x2' d0' d1' l1 l2 g0 g1 f9
 rename_i hh
 have HM1 := Lib.hid (And.intro m1 m2)
 clear hh m1 m2
 have HZ9 : Hid (ArrK w9 base (.agg #[.slice az (ofN y.sides).length cz, .slice an y.data.length cn]) y) := Lib.hid ⟨_, _, rfl, .own HZ.out.1, .own HZ.out.2⟩
 generalize (ofN y.sides).length = ns at *
 generalize y.data.length = n at *
 obtain ⟨W3, hW3⟩ : ∃ W, W = (w9.setCell ⟨w.heap.size + 1, 0, none⟩ (.slice az ns cz)).setCell ⟨w.heap.size + 1, 1, none⟩ (.slice an n cn) := ⟨_, rfl⟩
 have HI3 : Hid (ItmAt w W3 kr km work (.slice az ns cz) (.slice an n cn) ∧ FrI w.heap.size w9 W3) := Lib.hid (by rw [hW3]; exact HI9.out.put hkr _ _)
 rw [← hW3]
 clear hW3 HZ HB9 HI1 HX1 HF HK HA1 hgn hgn2
 have r1 := HI3.out.1.run.cell 1 |>.trans (show _ = some (Value.int .i64 work) from rfl)
 have e1 := HI3.out.1.res.cell 1 |>.trans (show _ = some (Value.slice an n cn) from rfl)
 have f1 : ∀ o, W3.frozen? ⟨kr, o, none⟩ = false := fun o => HI3.out.1.run.froz o
 go_upto_region 31 with fail
 obtain ⟨hle, hle2, hw6, hn6⟩ := work_le hwk hy
 obtain ⟨s1, s2⟩ := wr_add work n hw6 hn6
 obtain ⟨N, hN⟩ : ∃ N, N = work + n := ⟨_, rfl⟩
 have HNw := Lib.hid hN
 rw [← hN] at s1 s2 hle hle2
 clear hN hw6 hn6
 go_still_tail 10, (by kernel_rfl)
 change wpList _ _ _ _ _ W3.drew
 go_upto_region 34 with fail
 obtain ⟨W4, hW4⟩ : ∃ W, W = (W3.setCell ⟨kr, 1, none⟩ (.int .i64 N)).drew := ⟨_, rfl⟩
 have HE4 : Hid (ItmEnd w W4 base kr km N (.slice az ns cz) (.slice an n cn) ∧ FrI base W3 W4) := Lib.hid (by rw [hW4]; exact HI3.out.1.work hkr HB.out N)
 rw [← hW4]
 clear hW4 r1 e1 f1 s1 s2 hle hle2
 have HS4 : Hid (StkV W4 base (.slice (some ⟨g, 0, none⟩) m c) us (r ++ [x])) := Lib.hid (by have h := HS.out.keep HE4.out.1.fr HE4.out.1.kt; rw [← HM.out.2.1] at h; exact h)
 have HZ4 : Hid (ArrK W4 base (.agg #[.slice az ns cz, .slice an n cn]) y) := Lib.hid (HZ9.out.keep ((HI3.out.2.mono (by have := HB.out; omega)).trans HE4.out.2))
 have HBs : Hid (base ≤ W4.heap.size) := Lib.hid (by have := HB.out; have := HE4.out.1.fr.size; omega)
 have HLow := Lib.hid (HS4.out.lows (k := k) (by have := HM.out; omega) HBs.out)
 have b0 := HE4.out.1.res.cell 0 |>.trans (show _ = some (.slice az ns cz) from rfl)
 have b1 := HE4.out.1.res.cell 1 |>.trans (show _ = some (Value.slice an n cn) from rfl)
 obtain ⟨m1, m2⟩ := HM1.out
 clear HI3 HI9 HZ9
 go_region_law (refine step_append_grows (by rfl) _ _ _ (by rfl) 24 j0 (.agg #[.slice none 0 0, .slice none 0 0]) 2 48 Tryz.underlying27 pi pz0 pz1 pz2 rfl (by decide) (some ⟨g, 0, none⟩) k k ((prs us).take (k * 2)) (by rfl) (fun h => by cases h) HLow.out.1 (fun b h => by injection h with h; subst h; exact HLow.out.2 _ (((Below.refl _ _).drew).alloc (Nat.le_refl _) _)) ⟨W4.heap.size, 0, none⟩ 1 1 [.slice az ns cz, .slice an n cn] (by rfl) (by rfl) (World.news_of_block (cs := #[.slice az ns cz, .slice an n cn]) (t := 24) (fr := (0, 0)) (heap_alloc_new W4.drew _)) (by simp [Value.oneCell']) (by omega) (by unfold maxLen; omega) (by omega) ?_; intro v5 W5 hown hgrow; have HO5 := Lib.hid hown; have HG5 := Lib.hid hgrow; clear hown hgrow)
 all_goals
  have HD4 : Hid (Below W4.heap.size W4 (W4.drew.alloc (.cells #[.slice az ns cz, .slice an n cn] 24))) := Lib.hid ((Below.refl _ _).drew.alloc (Nat.le_refl _) _)
  go_wp2_with fail
  refine bodyPost_ret (v := .tuple #[v5, .int .i64 0]) (by simp [results, Tryz.results22, go_sem]) rfl ⟨v5, us.take r.length ++ [(.slice az ns cz, .slice an n cn)], N, rfl, ?_, ?_, by have := HNw.out; omega, ?_, fun b hb => Nat.le_trans (Nat.le_trans HE4.out.1.gb.size HD4.out.size) (HO5.out.lt b hb).1⟩
  ·have hk := HM.out.1
   subst hk
   exact HS4.out.push ((FrI.below HD4.out HBs.out).trans (FrI.none HG5.out (Nat.le_trans HBs.out HD4.out.size))) ((HZ4.out.keep (FrI.below HD4.out HBs.out)).keep (FrI.none HG5.out (Nat.le_trans HBs.out HD4.out.size))) (Nat.le_trans HBs.out HD4.out.size) HO5.out
  ·exact ((HE4.out.1.run.below HD4.out).keep (KeepTag.gb0 HG5.out))
  ·exact gb_trans (gb_then HE4.out.1.gb HD4.out) ⟨HG5.out.os, HG5.out.tape, HG5.out.output, HG5.out.size, fun j hj _ => HG5.out.block j hj (fun e => by cases e)⟩
end
end Go.Proofs.YtknnleiinhdklaaGreatDoor
