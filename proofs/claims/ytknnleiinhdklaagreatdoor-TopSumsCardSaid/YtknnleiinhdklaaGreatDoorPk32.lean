/-
  Walk of array.Lanes. Condition: the value reads as an array.
-/
import Derived.Test.YtknnleiinhdklaaGreatDoorPk29
import Derived.Test.YtknnleiinhdklaaGreatDoorPk30
import Derived.Test.YtknnleiinhdklaaGreatDoorPk31
import Derived.Deep.CutRange
import Derived.Deep.RegionWith
namespace Go.Proofs.YtknnleiinhdklaaGreatDoor
open Go.RowKit Go.Shelf Go.Sort
attribute [local go_sem] Oper.semAt_some
def LanesS (w : World) (base : Nat) (v : Value) (ls : List (List Int)) : Prop :=
 ∃ vs, w.ownsRow base 22 1 v ls.length vs ∧ (∀ (i : Nat) (l : List Int), ls[i]? = some l → ∃ u, vs[i]? = some u ∧ IntsO w base u l) ∧
  ∀ (i j : Nat) (u u' : Value), i ≠ j → vs[i]? = some u → vs[j]? = some u' → u.ownBlock = none ∨ u.ownBlock ≠ u'.ownBlock
theorem LanesS.nil (w : World) (base : Nat) : LanesS w base (.slice none 0 0) [] := ⟨[], World.ownsRow_nil _ _ _ _, fun i l h => by simp at h, fun i j u u' _ h => by simp at h⟩
theorem LanesS.form {w : World} {base : Nat} {v : Value} {ls : List (List Int)} (h : LanesS w base v ls) : ∃ a cap, v = .slice a ls.length cap := let ⟨_, h, _⟩ := h; own_form h
theorem LanesS.chg {w w' : World} {base : Nat} {v : Value} {ls : List (List Int)} (h : LanesS w base v ls) (h1 : KeepTag 22 w w') (h2 : KeepTag 2 w w') : LanesS w' base v ls := by
 obtain ⟨vs, o, c, d⟩ := h
 exact ⟨vs, own_tag o h1, fun i l hi => let ⟨u, hu, hl⟩ := c i l hi; ⟨u, hu, own_tag hl h2⟩, d⟩
theorem LanesS.below {w w' : World} {base : Nat} {v : Value} {ls : List (List Int)} (h : LanesS w base v ls) (hb : Below w.heap.size w w') : LanesS w' base v ls := h.chg (KeepTag.below hb) (KeepTag.below hb)
theorem Tryz.infoRow : (Tryz.prog.info? 22).map (fun i => (i.zero, i.size, i.bytes)) = some (some (.slice none 0 0), 1, 24) := by kernel_rfl
theorem own_nc {w w' : World} {row : Option Nat} {base e size n : Nat} {v : Value} {xs : List Value} (h : w.ownsRow base e size v n xs) (hg : w.grownBy w' row) (hr : ∀ r, row = some r → ∃ o : Obj, w.heap[r]? = some o ∧ o.isCells = false) : w'.ownsRow base e size v n xs := by
 refine ⟨h.1, ?_⟩
 rcases h.2 with h0 | ⟨g, cap, cur, hv, hb, hgg, rest⟩
 ·exact .inl h0
 ·exact .inr ⟨g, cap, cur, hv, hb, block_kept hgg rfl hg hr, rest⟩
/-- One row more, in a block of its own. -/
theorem LanesS.snoc {w w' : World} {base : Nat} {v v' u : Value} {ls : List (List Int)} {l : List Int} {vs : List Value} (o : w.ownsRow base 22 1 v ls.length vs) (c : ∀ (i : Nat) (l : List Int), ls[i]? = some l → ∃ u, vs[i]? = some u ∧ IntsO w base u l)
  (d : ∀ (i j : Nat) (u u' : Value), i ≠ j → vs[i]? = some u → vs[j]? = some u' → u.ownBlock = none ∨ u.ownBlock ≠ u'.ownBlock)
  (o' : w'.ownsRow base 22 1 v' (ls.length + 1) (vs ++ [u])) (hg : w.grownBy w' v.ownBlock) (hl : IntsO w base u l) (hne : u.ownBlock = none ∨ ∀ (i : Nat) (x : Value), vs[i]? = some x → x.ownBlock ≠ u.ownBlock) : LanesS w' base v' (ls ++ [l]) := by
 have hk : KeepTag 2 w w' := KeepTag.own hg o (by decide)
 have hlen : vs.length = ls.length := by have := o.1; rwa [Nat.mul_one] at this
 refine ⟨vs ++ [u], by rw [List.length_append]; exact o', fun i l' hi => ?_, fun i j x y hij hx hy => ?_⟩
 ·by_cases h : i < ls.length
  ·rw [List.getElem?_append_left h] at hi
   obtain ⟨x, hx, hx2⟩ := c i l' hi
   exact ⟨x, by rw [List.getElem?_append_left (by omega)]; exact hx, own_tag hx2 hk⟩
  ·rw [List.getElem?_append_right (by omega)] at hi
   have h0 : i - ls.length = 0 := by
    have := (List.getElem?_eq_some_iff.1 hi).1
    simp at this
    omega
   rw [h0] at hi
   simp at hi
   subst hi
   exact ⟨u, by rw [List.getElem?_append_right (by omega), hlen, h0]; rfl, own_tag hl hk⟩
 ·by_cases hi : i < vs.length
  ·rw [List.getElem?_append_left hi] at hx
   by_cases hj : j < vs.length
   ·rw [List.getElem?_append_left hj] at hy
    exact d i j x y hij hx hy
   ·rw [List.getElem?_append_right (by omega)] at hy
    have h0 : j - vs.length = 0 := by
     have := (List.getElem?_eq_some_iff.1 hy).1
     simp at this
     omega
    rw [h0] at hy
    simp at hy
    subst hy
    rcases hne with hn | hn
    ·cases hxo : x.ownBlock with
     | none => exact .inl rfl
     | some k => right; rw [hn]; simp
    ·exact .inr (hn i x hx)
  ·rw [List.getElem?_append_right (by omega)] at hx
   have h0 : i - vs.length = 0 := by
    have := (List.getElem?_eq_some_iff.1 hx).1
    simp at this
    omega
   rw [h0] at hx
   simp at hx
   subst hx
   have hj : j < vs.length := by
    have := (List.getElem?_eq_some_iff.1 hy).1
    simp at this
    omega
   rw [List.getElem?_append_left hj] at hy
   rcases hne with hn | hn
   ·exact .inl hn
   ·exact .inr (fun e => hn j y hy e.symm)
def lastN (s : List Nat) : Nat := s.reverse.headD 1
def pieceL (d : List Int) (p : Nat × Nat) : List Int := (d.drop p.1).take p.2
def lanesL (x : Arr) : List (List Int) := if x.data = [] then [] else upF (fun j => pieceL x.data (j * lastN x.sides, lastN x.sides)) (x.data.length / lastN x.sides)
def LanesPost (ls : List (List Int)) (w : World) (e : Ending) (w' : World) : Prop := ∃ u, e = .returned (.tuple #[u, .int .i64 0]) ∧ LanesS w' w.heap.size u ls ∧ Below w.heap.size w w'
theorem piece_ints {w : World} {g o cap : Nat} {d : List Int} (hd : ∀ (i : Nat) (x : Int), d[i]? = some x → w.cell? ⟨g, o + i, none⟩ = some (.int .i64 x)) (hg : g < w.heap.size) (hc : d.length ≤ cap) (hm : cap ≤ maxLen) {p : Nat × Nat} (hp : p.1 + p.2 ≤ d.length) :
  IntsS w (.slice (some ⟨g, o + p.1, none⟩) p.2 p.2) (pieceL d p) := by
 have hl : (pieceL d p).length = p.2 := by unfold pieceL; rw [List.length_take, List.length_drop]; omega
 refine ⟨_, p.2, by rw [hl], by rw [hl]; exact Nat.le_refl _, by omega, fun _ => ⟨g, o + p.1, rfl, hg, fun i x hi => ?_⟩⟩
 have hi2 := (List.getElem?_eq_some_iff.1 hi).1
 unfold pieceL at hi
 rw [List.getElem?_take, if_pos (by omega), List.getElem?_drop] at hi
 rw [Nat.add_assoc]
 exact hd _ x hi
theorem last_div {x : Arr} (h : ArrOk x) (hd : x.data ≠ []) : 0 < lastN x.sides ∧ x.data.length = x.data.length / lastN x.sides * lastN x.sides ∧ lastN x.sides ≤ 65536 := by
 have hp : prodR x.sides.reverse = x.data.length := by rw [prodR_reverse, ← prodN_R]; exact h.all
 have h0 : 0 < x.data.length := List.length_pos_iff.2 hd
 unfold lastN
 cases hr : x.sides.reverse with
 | nil => exact ⟨Nat.zero_lt_one, by rw [List.headD_nil, Nat.div_one, Nat.mul_one], by decide⟩
 | cons n r =>
  rw [hr] at hp
  have hp : prodR r * n = x.data.length := hp
  have hn : 0 < n := by
   rcases Nat.eq_zero_or_pos n with e | e
   ·rw [e, Nat.mul_zero] at hp
    omega
   ·exact e
  rw [List.headD_cons, ← hp, Nat.mul_div_cancel _ hn]
  refine ⟨hn, rfl, h.sides.each n ?_⟩
  have : n ∈ x.sides.reverse := by rw [hr]; simp
  simpa using this
set_option maxHeartbeats 8000000 in
set_option maxRecDepth 100000 in
theorem lanes_any (v : Value) (x : Arr) (w : World) (hv : ArrV w v x) (hx : ArrOk x) :
  Calls Tryz.prog 61 #[v] w (LanesPost (lanesL x) w) := by
 have HR := Lib.hid (fun W (hb : Below w.heap.size w W) => right_ok v x W (hv.below hb) hx)
 obtain ⟨vs, vd, rfl, hs, hd⟩ := hv
 by_cases h0 : x.data = []
 ·have hL : lanesL x = [] := by unfold lanesL; rw [if_pos h0]
  rw [hL]
  obtain ⟨a1, c1, rfl⟩ := hd.form
  rw [h0] at *
  have HB := Lib.hid ((Below.refl _ w).alloc (Nat.le_refl _) (.cells #[vs, .slice a1 0 c1] 24))
  obtain ⟨d0, d1⟩ := Blk2.new w vs (.slice a1 0 c1) 24
  clear hd hs
  go_enter Tryz.func61, Tryz.ntmps61
  go_wp2_with (go_at_call 38; refine (HR.out _ HB.out).mono ?_; rintro _ w2 ⟨rfl, hb2⟩; have e1 := (hb2.cell (p := ⟨w.heap.size, 1, none⟩) (by simp)).trans d1; have HB2 := Lib.hid (HB.out.trans (hb2.mono (by simp))); clear hb2 d0 d1)
  refine bodyPost_ret (v := .tuple #[.slice none 0 0, .int .i64 0]) (by simp [results, Tryz.results61, go_sem]) rfl ⟨_, rfl, LanesS.nil _ _, HB2.out⟩
 ·obtain ⟨hn0, hmul, hn6⟩ := last_div hx h0
  have hL : lanesL x = upF (fun j => pieceL x.data (j * lastN x.sides, lastN x.sides)) (x.data.length / lastN x.sides) := by unfold lanesL; rw [if_neg h0]
  rw [hL]
  have hle := hx.le
  have hr4 := hx.sides.len
  have HLast : Hid (0 < x.sides.length → (ofN x.sides)[x.sides.length - 1]? = some (lastN x.sides : Int)) := Lib.hid (fun h => by
   rw [ofN_get]
   unfold lastN
   have e : x.sides[x.sides.length - 1]? = x.sides.reverse[0]? := by rw [List.getElem?_reverse h]; rfl
   rw [e]
   cases hr : x.sides.reverse with
   | nil =>
    have := congrArg List.length hr
    rw [List.length_reverse] at this
    simp only [List.length_nil] at this
    omega
   | cons a r => rfl)
  obtain ⟨sides, d⟩ := x
  dsimp only at *
  obtain ⟨g, o, cap, rfl, hmc, hcap, hg, hcell⟩ := hd.at_ (List.length_pos_iff.2 h0)
  obtain ⟨sa, sc, rfl, hs2, hs3, hs4⟩ := hs
  rw [ofN_len] at *
  have HD := Lib.hid hcell
  obtain ⟨n, hn⟩ : ∃ n, n = lastN sides := ⟨_, rfl⟩
  obtain ⟨m, hm⟩ : ∃ m, m = d.length := ⟨_, rfl⟩
  obtain ⟨r, hr⟩ : ∃ r, r = sides.length := ⟨_, rfl⟩
  obtain ⟨c, hc⟩ : ∃ c, c = m / n := ⟨_, rfl⟩
  have HN1 : Hid (r = 0 → n = 1) := Lib.hid (fun h => by
   rw [hr] at h
   rw [hn, List.eq_nil_of_length_eq_zero h]
   rfl)
  rw [← hr] at hs2 hr4 HLast HR hs4
  have HS := Lib.hid hs4
  rw [← hm] at hmc hmul hle HR
  rw [← hn] at hn0 hn6 hmul HLast
  rw [← hc] at hmul
  have hm0 : 0 < m := by rw [hm]; exact List.length_pos_iff.2 h0
  have HM := Lib.hid hm
  have HN : Hid (upF (fun j => pieceL d (j * lastN sides, lastN sides)) (d.length / lastN sides) = upF (fun j => pieceL d (j * n, n)) c) := Lib.hid (by rw [hc, hm, hn])
  rw [HN.out, ← hr, ← hm]
  have HMul := Lib.hid hmul
  obtain ⟨b0, hb0⟩ : ∃ b0, b0 = decide ((0 : Int) < r) := ⟨_, rfl⟩
  have hdec : decide ((0 : Int) < r) = b0 := hb0.symm
  have hdec2 : decide (0 < r) = b0 := by rw [hb0, decide_eq_decide]; omega
  have HB0 := Lib.hid hb0
  have hmz : ¬ m = 0 := by omega
  have hmz2 : ((m : Int) == 0) = false := by rw [beq_eq_false_iff_ne]; omega
  clear hcell hn hm hc hmul hd hs4 HN hb0 hr h0 hL hx
  have HB := Lib.hid ((Below.refl _ w).alloc (Nat.le_refl _) (.cells #[.slice sa r sc, .slice (some ⟨g, o, none⟩) m cap] 24))
  obtain ⟨d0, d1⟩ := Blk2.new w (.slice sa r sc) (.slice (some ⟨g, o, none⟩) m cap) 24
  refine (callsIn_wide (n := 9)).1 ?_
  refine callsIn_of_wp_marks Tryz.func61 rfl trivial ?_ rfl
  simp only [Tryz.ntmps61, List.size_toArray, List.length_cons, List.length_nil, Nat.reduceAdd, Nat.reduceSub, Array.replicate_succ, Array.replicate_zero, List.push_toArray, List.append_toArray, List.nil_append, List.cons_append]
  refine wpIn_wide.2 ?_
  go_upto_if 19 with (go_at_call 38; refine (HR.out _ HB.out).mono ?_; rintro _ w1 ⟨rfl, hb2⟩; have e0 := (hb2.cell (p := ⟨w.heap.size, 0, none⟩) (by simp)).trans d0; have e1 := (hb2.cell (p := ⟨w.heap.size, 1, none⟩) (by simp)).trans d1; have hsz1 : w.heap.size < w1.heap.size := Nat.lt_of_lt_of_le (by simp) hb2.size; have HB2 := Lib.hid (HB.out.trans (hb2.mono (by simp))); clear hb2 d0 d1)
  go_cut [4] from 20 to 25 (fun s4 wx => s4 = .int .i64 n ∧ wx = w1)
  case first =>
   cases b0 with
   | false =>
    have hr0 : r = 0 := by
     have := HB0.out
     have h := of_decide_eq_false this.symm
     omega
    obtain rfl := HN1.out hr0
    clear hr0
    go_wp2_with fail
    go_meet
    case rel => exact ⟨rfl, rfl⟩
   | true =>
    have hr0 : 0 < r := by
     have h := of_decide_eq_true HB0.out.symm
     omega
    obtain ⟨gs, os, rfl, hgs, hsc⟩ := HS.out hr0
    have hx1 := (HB2.out.cell (p := ⟨gs, _, none⟩) hgs).trans (hsc (r - 1) n (HLast.out hr0))
    have i1 : wrap64 ((r : Int) - 1) = ((r - 1 : Nat) : Int) := by unfold wrap64; omega
    have i2 : IntKind.i64.wrap ((r : Int) - 1) = ((r - 1 : Nat) : Int) := by rw [IntKind.wrap_i64]; omega
    have i3 : (r : Int) - 1 = ((r - 1 : Nat) : Int) := by omega
    have i4 : r - 1 < r := by omega
    clear hsc
    go_wp2_with fail
    go_meet
    case rel => exact ⟨rfl, rfl⟩
  case rest =>
   obtain ⟨rfl, rfl⟩ := hcut
   have HB3 := Lib.hid (HB2.out.alloc (by omega) (.cells #[.slice none 0 0] 119))
   have e3 : ∀ ob, (wc.alloc ob).cell? ⟨w.heap.size, 1, none⟩ = some (.slice (some ⟨g, o, none⟩) m cap) := fun ob => ((Below.refl wc.heap.size wc).alloc (Nat.le_refl _) ob).cell (p := ⟨w.heap.size, 1, none⟩) hsz1 |>.trans e1
   go_wp2_with (go_at_call 86; refine (callsIn_wide.1 (chunk_in 8 _ _ _ n hn0 _)).mono ?_; rintro _ _ ⟨rfl, rfl⟩)
   obtain ⟨W4, hW4⟩ : ∃ W4, W4 = ((wc.alloc (.cells #[.slice none 0 0] 119)).alloc (.cells #[.slice (some ⟨g, o, none⟩) m cap] 22)).alloc (.cells #[.int .i64 n] 3) := ⟨_, rfl⟩
   have hsz4 : W4.heap.size = wc.heap.size + 3 := by rw [hW4, World.size_alloc, World.size_alloc, World.size_alloc]
   have hB4 : Below w.heap.size w W4 := by rw [hW4]; exact ((HB3.out.alloc (by simp; omega) _).alloc (by simp; omega) _)
   have bo : Boxed W4 wc.heap.size 119 (.slice none 0 0) := by rw [hW4]; exact ((Boxed.new wc _ _).alloc _).alloc _
   have bs : Boxed W4 (wc.heap.size + 1) 22 (.slice (some ⟨g, o, none⟩) m cap) := by
    have := (Boxed.new (wc.alloc (.cells #[.slice none 0 0] 119)) 22 (.slice (some ⟨g, o, none⟩) m cap)).alloc (.cells #[.int .i64 n] 3)
    rw [World.size_alloc] at this
    rw [hW4]; exact this
   have bn : Boxed W4 (wc.heap.size + 1 + 1) 3 (.int .i64 n) := by
    have := Boxed.new ((wc.alloc (.cells #[.slice none 0 0] 119)).alloc (.cells #[.slice (some ⟨g, o, none⟩) m cap] 22)) 3 (.int .i64 n)
    rw [World.size_alloc, World.size_alloc] at this
    rw [hW4]; exact this
   rw [← hW4]
   clear hW4 HB3 e3 e0 e1 hdec hdec2 hmz hmz2
   refine (wpIn_wide (n := 9)).1 ?_
   refine wpIn_rangeFunc_ownG (α := ChkI m) (Kp := KpB (fun b => b < w.heap.size ∨ b = wc.heap.size + 1 ∨ b = wc.heap.size + 1 + 1)) (S := ChkS n c) (Sp := fun pre => ∃ k, k ≤ c ∧ ChkS n k pre) (N := c) (w0 := W4) rfl (by decide) (gf := 103) (lb := #[.pointer (some ⟨wc.heap.size + 1, 0, none⟩), .pointer (some ⟨wc.heap.size + 1 + 1, 0, none⟩)]) rfl trivial (enters_of Tryz.func103 (by kernel_rfl) rfl)
    (encs := encC g o) ?hseq (fun h k => h.trans k) ?hKb (Below.refl _ _) (fun _ => rfl)
    (fun pre W => (∃ vo, Boxed W wc.heap.size 119 vo ∧ LanesS W W4.heap.size vo (pre.map fun x => pieceL d x.1) ∧ W4.heap.size ≤ W.heap.size) ∧ Below w.heap.size w W)
    (fun _ _ _ => False)
    (OwnFrom.and (Own.from ?hOwn _) (ownFrom_below (Nat.le_refl _) (by omega)))
    (fun _ _ _ _ _ hs _ _ => hs)
    ⟨⟨_, bo, LanesS.nil _ _, Nat.le_refl _⟩, hB4⟩
    (fun x1 => { tmps := #[.agg #[.slice sa r sc, .slice (some ⟨g, o, none⟩) m cap], .pointer (some ⟨w.heap.size, 0, none⟩), .slice none 0 0, .int .i64 0, .int .i64 n, .int .i64 r, .pointer (some ⟨wc.heap.size, 0, none⟩), .slice (some ⟨g, o + x1.1.1, none⟩) x1.1.2 x1.1.2, .agg #[.slice sa r sc, .slice (some ⟨g, o, none⟩) m cap], .bool true, .bool false, .pointer (some ⟨w.heap.size, 1, none⟩), .slice (some ⟨g, o, none⟩) m cap, .int .i64 m, .bool false, .pointer (some ⟨w.heap.size, 0, none⟩), .slice sa r sc, .int .i64 r, .int .i64 r, .bool b0, u20, u21, u22, u23, u24, u25, .pointer (some ⟨w.heap.size, 1, none⟩), .slice (some ⟨g, o, none⟩) m cap, .int .i64 n, .func (.func 103) #[] #[.pointer (some ⟨wc.heap.size + 1, 0, none⟩), .pointer (some ⟨wc.heap.size + 1 + 1, 0, none⟩)], .slice (some ⟨g, o + x1.1.1, none⟩) x1.1.2 x1.1.2, undef, undef, undef, undef, undef, undef], defers := [] }) ?assign ?body ?done ?stop
   case hOwn =>
    rintro pre X Y row ⟨vo, h1, ⟨vs1, h2, h3, h4⟩, h5⟩ hg' hr'
    exact ⟨vo, block_kept h1 rfl hg' hr', ⟨vs1, own_nc h2 hg' hr', fun i l hi => let ⟨u, hu, hl⟩ := h3 i l hi; ⟨u, hu, own_nc hl hg' hr'⟩, h4⟩, Nat.le_trans h5 hg'.size⟩
   case hseq =>
    intro l J Jx W hW hJ _ hY h0
    exact chunk1_in 8 (by decide) l (wc.heap.size + 1) (wc.heap.size + 1 + 1) (fun b => b < w.heap.size ∨ b = wc.heap.size + 1 ∨ b = wc.heap.size + 1 + 1) g o cap m n c HMul.out hn0 hmc hcap (.inr (.inl rfl)) (.inr (.inr rfl)) J Jx hY W ((hW.cell (p := ⟨wc.heap.size + 1, 0, none⟩) (by show wc.heap.size + 1 < W4.heap.size; omega)).trans bs.cell) ((hW.cell (p := ⟨wc.heap.size + 1 + 1, 0, none⟩) (by show wc.heap.size + 1 + 1 < W4.heap.size; omega)).trans bn.cell)
     (fun pre W1 hj => hJ pre W1 W1.drew none hj ⟨rfl, rfl, rfl, Nat.le_refl _, fun _ _ _ => rfl⟩ (by intro r e; cases e)) h0
   case hKb =>
    intro W l o1 o' hl ho hc hw b hb
    exact (grownBy_putObj' W l o').block b (by have := (Array.getElem?_eq_some_iff.1 ho).1; rcases hb with hb | hb | hb <;> omega) (by intro e; injection e with e; rcases hb with hb | hb | hb <;> omega)
   case assign =>
    intro l x1 W K hK
    simp only [encC]
    gi_wp2
    exact hK
   case stop =>
    rintro D c1 pre W _ _ h _
    exact h.elim
   case done =>
    rintro D ys W hD hys ⟨⟨vo, h1, h2, _⟩, hB⟩ hK
    have hmap : (ys.map fun x => pieceL d x.1) = upF (fun j => pieceL d (j * n, n)) c := by
     have e1 : ys.map (·.1) = upF (fun j => (j * n, n)) c := hys
     have e2 : (ys.map fun x => pieceL d x.1) = (ys.map (·.1)).map (pieceL d) := by rw [List.map_map]; rfl
     rw [e2, e1]
     unfold upF
     rw [List.map_map]
     rfl
    rw [hmap] at h2
    have e2 := h1.cell
    have HL2 := Lib.hid h2
    have HBelow := Lib.hid hB
    have HKd := Lib.hid hK
    have HDs := Lib.hid hD
    clear h1 h2 hys hmap hB hK hD
    go_wp2_with fail
    refine ⟨by simp, .inl ⟨_, _, rfl, run_takeDeferred HKd.out, ?_⟩⟩
    refine ⟨.tuple #[vo, .int .i64 0], ?_, ?_⟩
    ·simp [results, Tryz.f61, go_sem]
    ·obtain ⟨vs1, q1, q2, q3⟩ := HL2.out
     refine ⟨_, rfl, ⟨vs1, ownsRow_putObj (own_base q1 (by have := hB4.size; omega)) _ HKd.out rfl, fun i l hi => let ⟨u, hu, hl⟩ := q2 i l hi; ⟨u, hu, ownsRow_putObj (own_base hl (by have := hB4.size; omega)) _ HKd.out rfl⟩, q3⟩, HBelow.out.trans (belowK_b (w := w) (Nat.le_refl _) W D _ _ (by have := HDs.out; have := hB4.size; omega) HKd.out rfl rfl)⟩
   case body =>
    rintro l pre x1 W ⟨⟨vo, hbo, ⟨vs1, hv1, hv2, hv3⟩, hW4⟩, hB⟩ hpl
    obtain ⟨ls, hls⟩ : ∃ ls, ls = pre.map fun x => pieceL d x.1 := ⟨_, rfl⟩
    rw [← hls] at hv1 hv2
    have HLen : Hid (ls.length < c) := Lib.hid (by rw [hls, List.length_map]; exact hpl)
    have HLs : Hid ((pre ++ [x1]).map (fun x : ChkI m => pieceL d x.1) = ls ++ [pieceL d x1.1]) := Lib.hid (by rw [List.map_append, hls]; rfl)
    obtain ⟨⟨pa, pb⟩, hp⟩ := x1
    dsimp only at hp HLs ⊢
    have hlt := hv1.lt
    have HI := Lib.hid (And.intro hbo (And.intro hv1 (And.intro hv2 hv3)))
    clear hbo hv1 hv2 hls
    have HV3 := Lib.hid hv3
    clear hv3
    gi_wp2
    refine region_inv (by kernel_rfl) (fun b a1 V => ∃ s31 s32 s33 s34 s35 : Value, a1 = { tmps := #[.agg #[.slice sa r sc, .slice (some ⟨g, o, none⟩) m cap], .pointer (some ⟨w.heap.size, 0, none⟩), .slice none 0 0, .int .i64 0, .int .i64 n, .int .i64 r, .pointer (some ⟨wc.heap.size, 0, none⟩), .slice (some ⟨g, o + pa, none⟩) pb pb, .agg #[.slice sa r sc, .slice (some ⟨g, o, none⟩) m cap], .bool true, .bool false, .pointer (some ⟨w.heap.size, 1, none⟩), .slice (some ⟨g, o, none⟩) m cap, .int .i64 m, .bool false, .pointer (some ⟨w.heap.size, 0, none⟩), .slice sa r sc, .int .i64 r, .int .i64 r, .bool b0, u20, u21, u22, u23, u24, u25, .pointer (some ⟨w.heap.size, 1, none⟩), .slice (some ⟨g, o, none⟩) m cap, .int .i64 n, .func (.func 103) #[] #[.pointer (some ⟨wc.heap.size + 1, 0, none⟩), .pointer (some ⟨wc.heap.size + 1 + 1, 0, none⟩)], .slice (some ⟨g, o + pa, none⟩) pb pb, s31, s32, s33, s34, s35, undef], defers := [] } ∧ (b 0 = true → s31 = vo) ∧ (b 1 = true → s32 = .slice (some ⟨g, o + pa, none⟩) pb pb) ∧
     (b 2 = true → IntsO V W4.heap.size s33 (pieceL d (pa, pb)) ∧ (s33.ownBlock = none ∨ ∃ k, s33.ownBlock = some k ∧ W.heap.size ≤ k)) ∧ (b 3 = true → b 2 = true ∧ (b 4 = false → ∃ q, s34 = .slice (some ⟨q, 0, none⟩) 1 1 ∧ V.heap[q]? = some (.cells #[s33] 22 (0, 0)))) ∧
     (b 4 = true → b 0 = true ∧ b 3 = true ∧ LanesS V W4.heap.size s35 (ls ++ [pieceL d (pa, pb)])) ∧ (b 4 = false → V.ownsRow W4.heap.size 22 1 vo ls.length vs1 ∧ (∀ (i : Nat) (l : List Int), ls[i]? = some l → ∃ u, vs1[i]? = some u ∧ IntsO V W4.heap.size u l)) ∧
     (b 5 = false → Boxed V wc.heap.size 119 vo) ∧ (b 5 = true → b 4 = true ∧ Boxed V wc.heap.size 119 s35) ∧ Chg (fun k => k = wc.heap.size ∨ W4.heap.size ≤ k) W V ∧ KeepsOthers W V) (deps_of (by kernel_rfl)) ?h0 ?hstep ?hQ
    case h0 =>
     obtain ⟨hbo, hv1, hv2, hv3⟩ := HI.out
     exact ⟨_, _, _, _, _, rfl, by simp, by simp, by simp, by simp, by simp, fun _ => ⟨hv1, hv2⟩, fun _ => hbo, by simp, ⟨rfl, rfl, rfl, Nat.le_refl _, fun _ _ _ => rfl⟩, KeepsOthers.drew W⟩
    case hstep =>
     rintro b k op a1 V ⟨s31, s32, s33, s34, s35, rfl, h0, h1, h2, h3, h4t, h4f, h5f, h5t, hC, hO⟩ ho hb hdep K hK
     have hlt6 : k < 6 := (Array.getElem?_eq_some_iff.1 ho).1
     have hs : k = 0 ∨ k = 1 ∨ k = 2 ∨ k = 3 ∨ k = 4 ∨ k = 5 := by omega
     rcases hs with rfl | rfl | rfl | rfl | rfl | rfl
     ·injection (show some _ = some op from ho) with ho
      subst ho
      have n4 : b 4 = false := by
       cases h : b 4 with
       | false => rfl
       | true => exact absurd (h4t h).1 (by rw [hb]; decide)
      have n5 : b 5 = false := by
       cases h : b 5 with
       | false => rfl
       | true => exact absurd (h5t h).1 (by rw [n4]; decide)
      have c1 := (h5f n5).cell
      have HK := Lib.hid hK
      have HH := Lib.hid (And.intro h0 (And.intro h1 (And.intro h2 (And.intro h3 (And.intro h4t (And.intro h4f (And.intro h5f (And.intro h5t (And.intro hC hO)))))))))
      clear hK h0 h1 h2 h3 h4t h4f h5f h5t hC hO hdep
      refine wpOpIn_step rfl (fun K1 hK1 => ?_)
      go_simp
      obtain ⟨h0, h1, h2, h3, h4t, h4f, h5f, h5t, hC, hO⟩ := HH.out
      exact hK1 _ _ (HK.out _ _ ⟨_, _, _, _, _, rfl, fun _ => rfl, fun h => h1 (by simpa using h), fun h => h2 (by simpa using h), fun h => ⟨by simpa using (h3 (by simpa using h)).1, fun h' => (h3 (by simpa using h)).2 (by simpa using h')⟩, fun h => by
       obtain ⟨p1, p2, p3⟩ := h4t (by simpa using h)
       exact ⟨by first | exact p1 | rfl, by first | exact p2 | rfl, p3⟩, fun h => h4f (by simpa using h), fun h => h5f (by simpa using h), fun h => ⟨by simpa using (h5t (by simpa using h)).1, (h5t (by simpa using h)).2⟩, hC, hO⟩)
     ·injection (show some _ = some op from ho) with ho
      subst ho
      have HK := Lib.hid hK
      have HH := Lib.hid (And.intro h0 (And.intro h1 (And.intro h2 (And.intro h3 (And.intro h4t (And.intro h4f (And.intro h5f (And.intro h5t (And.intro hC hO)))))))))
      clear hK h0 h1 h2 h3 h4t h4f h5f h5t hC hO hdep
      refine wpOpIn_step rfl (fun K1 hK1 => ?_)
      go_simp
      obtain ⟨h0, h1, h2, h3, h4t, h4f, h5f, h5t, hC, hO⟩ := HH.out
      exact hK1 _ _ (HK.out _ _ ⟨_, _, _, _, _, rfl, fun h => h0 (by simpa using h), fun _ => rfl, fun h => h2 (by simpa using h), fun h => ⟨by simpa using (h3 (by simpa using h)).1, fun h' => (h3 (by simpa using h)).2 (by simpa using h')⟩, fun h => by
       obtain ⟨p1, p2, p3⟩ := h4t (by simpa using h)
       exact ⟨by first | exact p1 | rfl, by first | exact p2 | rfl, p3⟩, fun h => h4f (by simpa using h), fun h => h5f (by simpa using h), fun h => ⟨by simpa using (h5t (by simpa using h)).1, (h5t (by simpa using h)).2⟩, hC, hO⟩)
     ·injection (show some _ = some op from ho) with ho
      subst ho
      have b1 : b 1 = true := hdep ⟨1, Ground.data⟩ (by simp) (by rfl)
      obtain rfl := h1 b1
      have n3 : b 3 = false := by
       cases h : b 3 with
       | false => rfl
       | true => exact absurd (h3 h).1 (by rw [hb]; decide)
      have n4 : b 4 = false := by
       cases h : b 4 with
       | false => rfl
       | true => exact absurd (h4t h).2.1 (by rw [n3]; decide)
      have n5 : b 5 = false := by
       cases h : b 5 with
       | false => rfl
       | true => exact absurd (h5t h).1 (by rw [n4]; decide)
      have hVW : W.heap.size ≤ V.heap.size := hC.size
      have hcl := clone_any (.slice (some ⟨g, o + pa, none⟩) pb pb) (pieceL d (pa, pb)) V (piece_ints (cap := cap) (p := (pa, pb)) (fun i x hi => (World.cell?_of_block (a := ⟨g, o + i, none⟩) (hC.block g (by have := hB.size; omega) (by have := hB4.size; rintro (e | e) <;> omega))).trans ((hB.cell (p := ⟨g, o + i, none⟩) hg).trans (HD.out i x hi))) (by have := hB.size; omega) (by have := HM.out; omega) (by unfold maxLen; omega) (by show pa + pb ≤ d.length; have := HM.out; omega)) (by unfold pieceL; have := HM.out; rw [List.length_take, List.length_drop]; omega)
      have HCl := Lib.hid hcl
      clear hcl
      have HK := Lib.hid hK
      have HH := Lib.hid (And.intro h0 (And.intro h1 (And.intro h2 (And.intro h3 (And.intro h4t (And.intro h4f (And.intro h5f (And.intro h5t (And.intro hC hO)))))))))
      clear hK h0 h1 h2 h3 h4t h4f h5f h5t hC hO hdep
      refine wpOpIn_step rfl (fun K1 hK1 => ?_)
      go_simp
      refine ⟨trivial, ?_⟩
      refine (CallsIn.inRound l (callsIn_wide.2 HCl.out)).mono ?_
      rintro e w' ⟨u, rfl, hu1, hu2⟩
      obtain ⟨h0, h1, h2, h3, h4t, h4f, h5f, h5t, hC, hO⟩ := HH.out
      have hu3 : IntsO w' W4.heap.size u (pieceL d (pa, pb)) := hu1.base (Nat.le_trans hW4 hVW)
      have hu4 : u.ownBlock = none ∨ ∃ k, u.ownBlock = some k ∧ W.heap.size ≤ k := by
       cases hk : u.ownBlock with
       | none => exact .inl rfl
       | some k => exact .inr ⟨k, rfl, Nat.le_trans hVW (hu1.lt k hk).1⟩
      refine hK1 _ _ (HK.out _ _ ⟨_, _, _, _, _, rfl, fun h => h0 (by simpa using h), fun _ => rfl, fun _ => ⟨hu3, hu4⟩, fun h => ?_, fun h => ?_, fun _ => ?_, fun _ => ?_, fun h => ?_, hC.trans (Chg.below hu2) (fun _ _ h => h), hO.trans ⟨hu2.size, fun q oo hq _ => (hu2.block q (Array.getElem?_eq_some_iff.1 hq).1).trans hq⟩⟩)
      ·simp [n3] at h
      ·simp [n4] at h
      ·obtain ⟨p1, p2⟩ := h4f n4
       exact ⟨own_below p1 hu2, fun i l hi => let ⟨x, hx, hl⟩ := p2 i l hi; ⟨x, hx, hl.below hu2⟩⟩
      ·exact (h5f n5).kept (row := none) ⟨hu2.os, hu2.tape, hu2.output, hu2.size, fun k hk _ => hu2.block k hk⟩ (by simp)
      ·simp [n5] at h
     ·injection (show some _ = some op from ho) with ho
      subst ho
      have b2 : b 2 = true := hdep ⟨2, Ground.data⟩ (by simp) (by rfl)
      obtain ⟨q33, c33, rfl⟩ := own_form (h2 b2).1
      have n4 : b 4 = false := by
       cases h : b 4 with
       | false => rfl
       | true => exact absurd (h4t h).2.1 (by rw [hb]; decide)
      have n5 : b 5 = false := by
       cases h : b 5 with
       | false => rfl
       | true => exact absurd (h5t h).1 (by rw [n4]; decide)
      have HK := Lib.hid hK
      have HH := Lib.hid (And.intro h0 (And.intro h1 (And.intro h2 (And.intro h3 (And.intro h4t (And.intro h4f (And.intro h5f (And.intro h5t (And.intro hC hO)))))))))
      clear hK h0 h1 h2 h3 h4t h4f h5f h5t hC hO hdep
      refine wpOpIn_step rfl (fun K1 hK1 => ?_)
      go_simp
      obtain ⟨h0, h1, h2, h3, h4t, h4f, h5f, h5t, hC, hO⟩ := HH.out
      have hbl : ∀ ob, Below V.heap.size V (V.alloc ob) := fun ob => (Below.refl _ _).alloc (Nat.le_refl _) ob
      refine hK1 _ _ (HK.out _ _ ⟨_, _, _, _, _, rfl, fun h => h0 (by simpa using h), fun h => h1 (by simpa using h), fun _ => ⟨(h2 b2).1.below (hbl _), (h2 b2).2⟩, fun _ => ⟨by simpa using b2, fun _ => ⟨_, rfl, World.alloc_heap_new V _⟩⟩, fun h => ?_, fun _ => ?_, fun _ => (h5f n5).alloc _, fun h => ?_, hC.trans (Chg.below (hbl _)) (fun _ _ h => h), hO.trans (KeepsOthers.alloc V _)⟩)
      ·simp [n4] at h
      ·obtain ⟨p1, p2⟩ := h4f n4
       exact ⟨own_below p1 (hbl _), fun i l hi => let ⟨x, hx, hl⟩ := p2 i l hi; ⟨x, hx, hl.below (hbl _)⟩⟩
      ·simp [n5] at h
     ·injection (show some _ = some op from ho) with ho
      subst ho
      have z0 : b 0 = true := hdep ⟨0, Ground.data⟩ (by simp) (by rfl)
      have z3 : b 3 = true := hdep ⟨3, Ground.data⟩ (by simp) (by rfl)
      obtain rfl := h0 z0
      have n4 : b 4 = false := hb
      have n5 : b 5 = false := by
       cases h : b 5 with
       | false => rfl
       | true => exact absurd (h5t h).1 (by rw [n4]; decide)
      obtain ⟨z2, z4⟩ := h3 z3
      obtain ⟨q, rfl, hq⟩ := z4 n4
      obtain ⟨hu1, hu2⟩ := h2 z2
      obtain ⟨hr1, hr2⟩ := h4f n4
      have hxb := h5f n5
      refine wpOpIn_step rfl (fun K1 hK1 => ?_)
      rw [if_pos (by rfl)]
      obtain ⟨i0, hi, hz0, hz1, hz2⟩ := info_parts Tryz.infoRow
      obtain ⟨q33, c33, rfl⟩ := own_form hu1
      have hls := HLen.out
      have hcm : c ≤ m := by rw [HMul.out]; exact Nat.le_mul_of_pos_right _ hn0
      refine opIn_append _ _ 119 rfl W4.heap.size 22 i0 (.slice none 0 0) 1 24 Tryz.underlying119 hi hz0 hz1 hz2 rfl (by decide) _ ls.length vs1 (by rfl) hr1 ⟨q, 0, none⟩ 1 1 [.slice q33 (pieceL d (pa, pb)).length c33] (by rfl) rfl ?_ ?_ (by unfold maxLen; omega) (by omega) (Nat.le_trans hW4 hC.size) ?_
      ·intro j u hj
       have hlt := (List.getElem?_eq_some_iff.1 hj).1
       have e0 : j = 0 := by simpa using hlt
       subst e0
       simp only [List.getElem?_cons_zero, Option.some.injEq] at hj
       subst hj
       simp [World.cell?, hq, Addr.add]
      ·intro u hu
       rw [List.mem_singleton] at hu
       subst hu
       rfl
      ·intro v' w' ho' hg'
       have hk : KeepTag 2 V w' := KeepTag.own hg' hr1 (by decide)
       go_simp
       refine hK1 _ _ (hK _ _ ⟨_, _, _, _, _, rfl, fun _ => rfl, fun h => h1 (by simpa using h), fun _ => ⟨own_tag hu1 hk, hu2⟩, fun _ => ⟨by simpa using z2, fun h' => ?_⟩, fun _ => ⟨by simpa using z0, by simpa using z3, LanesS.snoc hr1 hr2 HV3.out ho' hg' hu1 ?_⟩, fun h => ?_, fun _ => hxb.kept hg' (hxb.not_row (by decide) hr1), fun h => ?_, hC.trans (Chg.gb hg' (fun k e => .inr (hr1.lt k e).1)) (fun _ _ h => h), hO.trans (own_others hr1 hg')⟩)
       ·simp at h'
       ·rcases hu2 with hu2 | ⟨k, hk1, hk2⟩
        ·exact .inl hu2
        ·refine .inr fun i x hx e => ?_
         have hil : i < ls.length := by
          have h1 := (List.getElem?_eq_some_iff.1 hx).1
          have h2 := HI.out.2.1.1
          omega
         obtain ⟨y, hy, hy2⟩ := HI.out.2.2.1 i _ (List.getElem?_eq_getElem hil)
         rw [hx] at hy
         injection hy with hy
         subst hy
         have := (hy2.lt k (e.trans hk1)).2
         omega
       ·simp at h
       ·simp [n5] at h
     ·injection (show some _ = some op from ho) with ho
      subst ho
      have z4 : b 4 = true := hdep ⟨4, Ground.data⟩ (by simp) (by rfl)
      have n5 : b 5 = false := hb
      obtain ⟨z0, z3, hL5⟩ := h4t z4
      have hxb := h5f n5
      have c1 := hxb.cell
      have c2 := hxb.frozen
      obtain ⟨q35, c35, hf35⟩ := hL5.form
      rw [List.length_append, List.length_singleton] at hf35
      subst hf35
      have HX := Lib.hid (And.intro hL5 hxb)
      have HK := Lib.hid hK
      have HH := Lib.hid (And.intro h0 (And.intro h1 (And.intro h2 (And.intro h3 (And.intro h4t (And.intro h4f (And.intro h5f (And.intro h5t (And.intro hC hO)))))))))
      clear hK h0 h1 h2 h3 h4t h4f h5f h5t hC hO  hdep hL5 hxb
      refine wpOpIn_step rfl (fun K1 hK1 => ?_)
      go_simp
      obtain ⟨h0, h1, h2, h3, h4t, h4f, h5f, h5t, hC, hO⟩ := HH.out
      obtain ⟨hL5, hxb⟩ := HX.out
      have hk1 : ∀ u, KeepTag 2 V (V.setCell ⟨wc.heap.size, 0, none⟩ u) := fun u => KeepTag.set hxb (by decide) 0 u
      have hk2 : ∀ u, KeepTag 22 V (V.setCell ⟨wc.heap.size, 0, none⟩ u) := fun u => KeepTag.set hxb (by decide) 0 u
      refine hK1 _ _ (HK.out _ _ ⟨_, _, _, _, _, rfl, fun h => h0 (by simpa using h), fun h => h1 (by simpa using h), fun h => ⟨own_tag (h2 (by simpa using h)).1 (hk1 _), (h2 (by simpa using h)).2⟩, fun h => ⟨by simpa using (h3 (by simpa using h)).1, fun h' => ?_⟩, fun _ => ⟨by simpa using z0, by simpa using z3, hL5.chg (hk2 _) (hk1 _)⟩, fun h => ?_, fun h => ?_, fun _ => ⟨by simpa using z4, hxb.set _⟩, hC.trans (Chg.set (.inl rfl) 0 _) (fun _ _ h => h), hO.trans (KeepsOthers.setCell V _ _)⟩)
      ·simp [z4] at h'
      ·simp [z4] at h
      ·simp at h
    case hQ =>
     rintro b a1 V hall ⟨s31, s32, s33, s34, s35, rfl, h0, h1, h2, h3, h4t, h4f, h5f, h5t, hC, hO⟩
     obtain ⟨_, _, g4⟩ := h4t (hall 4 (by decide))
     obtain ⟨_, g5⟩ := h5t (hall 5 (by decide))
     refine ⟨hO.from _, fun q hq => hC.block q ?_ ?_, ⟨s35, g5, ?_, Nat.le_trans hW4 hC.size⟩, ?_⟩
     ·have := hW4
      have := hB4.size
      rcases hq with h | h | h <;> omega
     ·have := hW4
      rintro (e | e) <;> rcases hq with h | h | h <;> omega
     ·rw [HLs.out]
      exact g4
     ·exact hB.trans ⟨hC.os, hC.tape, hC.output, hC.size, fun q hq => hC.block q (by have := hB.size; omega) (by have := hB4.size; rintro (e | e) <;> omega)⟩
end Go.Proofs.YtknnleiinhdklaaGreatDoor
