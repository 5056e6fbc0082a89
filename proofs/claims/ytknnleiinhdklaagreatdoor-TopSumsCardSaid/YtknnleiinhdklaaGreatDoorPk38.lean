/-
  Walk of prim.turn, of prim.Monad at turn. Condition: the value reads as an array.   Walk of prim.rho, of prim.Dyad at rho. Condition: the values read as arrays; the shape is of as many as there are, at least one.   What prim.part takes or leaves; parts of slices of numbers. Condition: the slices read as lists.
-/
import Derived.Test.YtknnleiinhdklaaGreatDoorPk35
import Derived.Test.YtknnleiinhdklaaGreatDoorPk37
namespace Go.Proofs.YtknnleiinhdklaaGreatDoor
section
open Go.RowKit Go.Shelf Go.Sort
/-- What a function that fills a row keeps: the two blocks, the sides, the row. -/
structure FillAt (w W : World) (a b : Value) (g p : Nat) (v7 : Value) (s7 l : List Int) : Prop where
 f2 : F2 w W a b
 sd : IntsO W w.heap.size v7 s7
 ne : v7.ownBlock ≠ some g
 out : IntsO W w.heap.size (.slice (some ⟨g, 0, none⟩) p p) l
 len : l.length = p
theorem FillAt.below {w W W' : World} {a b : Value} {g p : Nat} {v7 : Value} {s7 l : List Int} (h : FillAt w W a b g p v7 s7 l) (hb : Below W.heap.size W W') : FillAt w W' a b g p v7 s7 l :=
 ⟨h.f2.next hb, h.sd.below hb, h.ne, h.out.below hb, h.len⟩
theorem FillAt.glt {w W : World} {a b : Value} {g p : Nat} {v7 : Value} {s7 l : List Int} (h : FillAt w W a b g p v7 s7 l) : w.heap.size ≤ g ∧ g < W.heap.size := h.out.lt g rfl
theorem FillAt.row {w W : World} {a b : Value} {g p : Nat} {v7 : Value} {s7 l : List Int} (h : FillAt w W a b g p v7 s7 l) : W.ownsRow w.heap.size 2 1 (.slice (some ⟨g, 0, none⟩) p p) p (l.map (Value.int .i64)) := by
 have := h.out
 unfold IntsO at this
 rwa [h.len] at this
theorem FillAt.store {w W : World} {a b : Value} {g p : Nat} {v7 : Value} {s7 l : List Int} (h : FillAt w W a b g p v7 s7 l) (i : Nat) (x : Int) :
  FillAt w (W.setCell ⟨g, i, none⟩ (.int .i64 x)) a b g p v7 s7 (l.set i x) ∧ W.grownBy (W.setCell ⟨g, i, none⟩ (.int .i64 x)) (some g) := by
 have o1 := h.row
 obtain ⟨o2, g2⟩ := o1.stored i (.int .i64 x)
 obtain ⟨g0, cp, cur, he, hb0, hgg, hcur⟩ : ∃ (g0 cp : Nat) (cur : Array Value), Value.slice (some ⟨g, 0, none⟩) p p = .slice (some ⟨g0, 0, none⟩) p cp ∧ w.heap.size ≤ g0 ∧ W.heap[g0]? = some (.cells cur 2 (0, 0)) ∧ True := by
  rcases o1.2 with ⟨he, _⟩ | ⟨g0, cp, cur, he, hb, hg, _⟩
  ·cases he
  ·exact ⟨g0, cp, cur, he, hb, hg, trivial⟩
 simp only [Value.slice.injEq, Option.some.injEq, Addr.mk.injEq] at he
 obtain ⟨⟨rfl, _⟩, _, rfl⟩ := he
 have hkt : ∀ t, t ≠ 2 → KeepTag t W (W.setCell ⟨g, i, none⟩ (.int .i64 x)) := fun t ht => KeepTag.set hgg ht i _
 refine ⟨⟨⟨below_set h.f2.bel hb0 _, h.f2.k0.keep (hkt _ (by decide)), h.f2.k1.keep (hkt _ (by decide))⟩, ?_, h.ne, ?_, by rw [List.length_set]; exact h.len⟩, g2⟩
 ·refine ⟨h.sd.1, ?_⟩
  rcases h.sd.2 with h0 | ⟨g', cap, cur', hv, hb, hgg', rest⟩
  ·exact .inl h0
  ·exact .inr ⟨g', cap, cur', hv, hb, (g2.block g' (Array.getElem?_eq_some_iff.1 hgg').1 (fun e => h.ne (by rw [hv]; exact e))).trans hgg', rest⟩
 ·unfold IntsO
  rw [List.length_set, h.len, map_set]
  exact o2
theorem FillAt.get {w W : World} {a b : Value} {g p : Nat} {v7 : Value} {s7 l : List Int} (h : FillAt w W a b g p v7 s7 l) {i : Nat} {x : Int} (hi : l[i]? = some x) : W.cell? ⟨g, i, none⟩ = some (.int .i64 x) := by
 have hlt := (List.getElem?_eq_some_iff.1 hi).1
 rw [h.row.cellAt i (by have := h.len; omega), List.getElem?_map, hi]
 rfl
theorem FillAt.froz {w W : World} {a b : Value} {g p : Nat} {v7 : Value} {s7 l : List Int} (h : FillAt w W a b g p v7 s7 l) (o : Nat) : W.frozen? ⟨g, o, none⟩ = false := h.row.frozenAt o
theorem SidesOk.rev {s : List Nat} (h : SidesOk s) : SidesOk s.reverse ∧ prodN s.reverse = prodN s := by
 have e : prodN s.reverse = prodN s := by rw [prodN_R, prodN_R, prodR_reverse]
 exact ⟨⟨by rw [List.length_reverse]; exact h.len, fun x hx => h.each x (List.mem_reverse.1 hx), by rw [e]; exact h.all⟩, e⟩
theorem ofN_rev (s : List Nat) : (ofN s).reverse = ofN s.reverse := by unfold ofN; rw [List.map_reverse]
theorem from_eq {s : List Nat} {i : Nat} (h : i < prodN s) : plcN s (idxR s i) s.length = fromT s i ∧ inR s (idxR s i) ∧ fromT s i < prodN s := by
 have h1 : i < prodR s := by rwa [← prodN_R]
 have h2 := idx_in s i h1
 refine ⟨?_, h2, by rw [prodN_R]; exact from_lt h1⟩
 unfold plcN fromT
 rw [List.take_length, List.take_of_length_le (by rw [in_len _ _ h2]; exact Nat.le_refl _)]
set_option maxHeartbeats 8000000 in
set_option maxRecDepth 100000 in
theorem turn_any (v : Value) (x : Arr) (w : World) (hv : ArrV w v x) (hx : ArrOk x) :
  Calls Tryz.prog 64 #[v] w (PrimPost (turnA x) w) := by
 obtain ⟨i0, hi, hz0, hz1, hz2⟩ := info_parts Tryz.infoI64
 obtain ⟨vs, vd, rfl, hs, hd⟩ := hv
 have HS := Lib.hid hs
 have HDt := Lib.hid hd
 obtain ⟨a1, c1, rfl⟩ := hs.form
 obtain ⟨a2, c2, rfl⟩ := hd.form
 have HX := Lib.hid hx
 have HC := Lib.hid (fun W (hb : Below w.heap.size w W) => clone_any _ _ W (hs.below hb) (by rw [ofN_len]; have := hx.sides.len; omega))
 have hm6 := hx.le
 have HAll := Lib.hid hx.all
 have HRev := Lib.hid hx.sides.rev
 have HG := Lib.hid (fun W v1 l1 vd l h1 hl ha => good_any v1 vd l1 l W h1 hl ha)
 obtain ⟨s, d⟩ := x
 have hr4 := hx.sides.len
 dsimp only at *
 rw [ofN_len] at *
 have HL : Hid ((ofN s).length = s.length) := Lib.hid (ofN_len _)
 obtain ⟨m, hm⟩ : ∃ m, m = d.length := ⟨_, rfl⟩
 obtain ⟨r, hr⟩ : ∃ r, r = s.length := ⟨_, rfl⟩
 have HM := Lib.hid hm
 have HRr := Lib.hid hr
 rw [← hm] at hm6 HAll HDt ⊢
 rw [← hr] at hr4 HL HC HS ⊢
 obtain ⟨T, hT⟩ : ∃ T, T = (List.range m).map fun i => d.getD (fromT s i) 0 := ⟨_, rfl⟩
 have HTl : Hid (T.length = m) := Lib.hid (by rw [hT, List.length_map, List.length_range])
 have HTg : Hid (∀ i, i < m → T[i]? = some (d.getD (fromT s i) 0)) := Lib.hid (fun i h => by rw [hT, List.getElem?_map, List.getElem?_range h]; rfl)
 have HTu : Hid (turnA ⟨s, d⟩ = ⟨s.reverse, T⟩) := Lib.hid (by unfold turnA; rw [hT, hm])
 clear hs hd hx hm hr hT
 have HF := Lib.hid (F2.new w (.slice a1 r c1) (.slice a2 m c2))
 have c0 := HF.out.at0
 have c00 := HF.out.at1
 go_enter Tryz.func64, Tryz.ntmps64
 go_wp2_with (first | (go_at_call 23; refine (HC.out _ HF.out.bel).mono ?_; rintro _ w1 ⟨u1, rfl, hu, hb⟩; have HU1 := Lib.hid hu; have HF1 := Lib.hid (HF.out.next hb); have hfm := hu.form; rw [HL.out] at hfm; obtain ⟨a3, c3, rfl⟩ := hfm; clear hb hu c0 c00) | (go_at_call 62; refine (reverse_any w.heap.size _ _ _ (HU1.out.base HF.out.bel.size) (by rw [HL.out]; omega)).mono ?_; rintro _ w2 ⟨rfl, hrv, hgr⟩; have HF2 := Lib.hid (HF1.out.grown (HU1.out.base HF.out.bel.size) (Nat.le_refl _) hgr); rw [ofN_rev] at hrv; have HU2 := Lib.hid hrv; have e0 := HF2.out.at0; have e1 := HF2.out.at1; clear hrv hgr) | (at_make; refine wpList_make_full _ rfl _ _ 22 rfl w.heap.size 2 i0 (.int .i64 0) 1 Tryz.underlying22 hi hz0 hz1 _ _ _ _ m rfl rfl rfl rfl (by rw [hz2]; omega) (by unfold maxLen; omega) HF2.out.bel.size ?_))
 intro w4 hown hgrow
 have hb4 : Below w2.heap.size w2 w4 := (Below.refl _ _).grown hgrow (Nat.le_refl _) (by simp)
 have hF4 : FillAt w w4 (.slice a1 r c1) (.slice a2 m c2) w2.heap.size m (.slice a3 r c3) (ofN s.reverse) (List.replicate m 0) := by
  have h3 := HU2.out
  refine ⟨HF2.out.next hb4, h3.below hb4, fun e => ?_, ?_, List.length_replicate⟩
  ·have := (h3.lt _ e).2
   omega
  ·unfold IntsO
   rw [List.length_replicate, List.map_replicate]
   rw [made_zero] at hown
   exact hown
 have HF4 := Lib.hid hF4
 clear hown hgrow hb4 hF4 e0 e1 HU1 HF1 HU2 HF2 HF HC
 generalize w2.heap.size = g at *
 go_wp2_with fail
 go_loopw [6, 7, 8, 9, 10, 22] (fun _ _ _ _ _ vi wr => ∃ k : Nat, k ≤ m ∧ vi = .int .i64 k ∧ Hid (FillAt w wr (.slice a1 r c1) (.slice a2 m c2) g m (.slice a3 r c3) (ofN s.reverse) (T.take k ++ List.replicate (m - k) 0))) (fun _ _ _ _ _ vi _ => m - (intOf vi).toNat)
 case atStart => exact ⟨0, Nat.zero_le _, rfl, HF4⟩
 case round =>
  obtain ⟨k, hk, rfl, hF⟩ := hrel
  by_cases hlt : k < m
  ·have hkp : k < prodN s := by rw [HAll.out]; exact hlt
   obtain ⟨f1, f2, f3⟩ := from_eq hkp
   rw [HAll.out] at f3
   have HIx := Lib.hid (index_any (.slice a3 r c3) s.reverse k wr hF.out.sd.s HRev.out.1 (by rw [HRev.out.2]; exact hkp))
   unfold IndexPost at HIx
   rw [List.reverse_reverse] at HIx
   have hil : (ofN (idxR s k).reverse).length ≤ 1000000 := by rw [ofN_len, List.length_reverse, idxR_len]; have := HRr.out; omega
   have HIl := Lib.hid hil
   have HF123 := Lib.hid (And.intro f1 (And.intro f2 f3))
   obtain ⟨gd, od, cd', hed, hd1, hd2, hd3, hd4⟩ := HDt.out.at_ (by have := HM.out; omega)
   have hy : d[fromT s k]? = some (d.getD (fromT s k) 0) := by rw [List.getD_eq_getElem?_getD, List.getElem?_eq_getElem (by have := HM.out; omega)]; rfl
   have hcd := hd4 _ _ hy
   have hT := HTg.out k hlt
   rw [← HM.out] at hed
   injection hed with he1 he2 he3
   subst he1
   subst he3
   obtain ⟨fr, hfr⟩ : ∃ fr, fr = fromT s k := ⟨_, rfl⟩
   rw [← hfr] at hcd hT f3 hy f1
   obtain ⟨y, hyy⟩ : ∃ y, y = d.getD fr 0 := ⟨_, rfl⟩
   rw [← hyy] at hcd hT
   have HT1 := Lib.hid hT
   have HCd := Lib.hid (And.intro hd3 hcd)
   have HFr := Lib.hid (And.intro f1 f2)
   have htl : (T.take k).length = k := by rw [List.length_take]; have := HTl.out; omega
   have HZ : Hid ((T.take k ++ List.replicate (m - k) 0)[k]? = some 0 ∧ (T.take k ++ List.replicate (m - k) 0).set k y = T.take (k + 1) ++ List.replicate (m - (k + 1)) 0) := Lib.hid ⟨by rw [List.getElem?_append_right (by omega), htl, Nat.sub_self, List.getElem?_replicate, if_pos (by omega)], by rw [set_mid htl hlt, List.take_add_one, HT1.out, Option.toList_some]⟩
   have kI : (k : Int) < m := by omega
   have k0 : (0 : Int) ≤ k := by omega
   have fI : (fr : Int) < m := by omega
   have fI0 : (0 : Int) ≤ fr := by omega
   have HLt := Lib.hid hlt
   clear htl hy hyy hT hcd hd1 hd2 hd3 hd4 he2 hfr f1 f2 hil hkp
   go_wp2_with (first | (go_at_call 88; refine HIx.out.mono ?_; rintro _ wa ⟨ua, rfl, hua, hba⟩; have HUa := Lib.hid hua; have HBa := Lib.hid hba; clear hua hba) | (go_at_call 62; refine (reverse_any wr.heap.size _ _ _ HUa.out HIl.out).mono ?_; rintro _ wb ⟨rfl, hrv, hgr⟩; rw [ofN_rev, List.reverse_reverse] at hrv; have HUb := Lib.hid hrv; have HFb := Lib.hid (hF.out.below (HBa.out.grown hgr HBa.out.size (fun q hq => (HUa.out.lt q hq).1))); have e0 := HFb.out.f2.at0; have e1 := HFb.out.f2.at1; have d1 := (HFb.out.f2.bel.cell (p := ⟨gd, _, none⟩) HCd.out.1).trans HCd.out.2; have cc := HFb.out.get HZ.out.1; have ff := HFb.out.froz; clear hrv hgr) | (go_at_call 89; refine (place_any _ _ s (idxR s k) _ (HS.out.below HFb.out.f2.bel) HUb.out.s HX.out.sides HFr.out.2).mono ?_; rintro _ _ ⟨rfl, rfl⟩; rw [HFr.out.1]))
   go_roundw
   case rel => exact ⟨k + 1, HLt.out, by go_num, Lib.hid (by rw [← HZ.out.2]; exact (HFb.out.store k y).1)⟩
   case measure => have := HLt.out; simp [intOf]; omega
  ·obtain rfl : k = m := by omega
   have kI : ¬ (k : Int) < k := by omega
   have hF2 := hF.out
   rw [Nat.sub_self, List.replicate_zero, List.append_nil, List.take_of_length_le (by rw [HTl.out]; exact Nat.le_refl _)] at hF2
   have HFw := Lib.hid hF2
   clear hF2 hF
   go_wp2_with (go_at_call 60; refine (HG.out _ _ (ofN s.reverse) _ T HFw.out.sd.s (by rw [ofN_len, List.length_reverse]; have := HRr.out; omega) ⟨some ⟨g, 0, none⟩, k, by rw [HTl.out]⟩).mono ?_; rintro _ w6 ⟨u6, rfl, hu, hb⟩; have HU6 := Lib.hid hu; have HF6 := Lib.hid (HFw.out.below hb); obtain ⟨a6, c6, hf6⟩ := hu.form; subst hf6; have HB6 := Lib.hid HFw.out.f2.bel.size; have g0 := HF6.out.f2.r0; have g1 := HF6.out.f2.r1; have gf := HF6.out.f2.rf; clear hb hu)
   obtain ⟨z0, z1, z2, z3⟩ := HF6.out.f2.done (.slice a6 (ofN s.reverse).length c6) (.slice (some ⟨g, 0, none⟩) k k)
   refine bodyPost_ret (v := .tuple #[.agg #[.slice a6 (ofN s.reverse).length c6, .slice (some ⟨g, 0, none⟩) k k], .int .i64 0]) (by simp [results, Tryz.results64, go_sem, z0, z1]) rfl ⟨_, rfl, ?_, z2⟩
   rw [HTu.out]
   exact ⟨_, _, rfl, (HU6.out.base HB6.out).tag z3, HF6.out.out.tag z3⟩
set_option maxHeartbeats 2000000 in
set_option maxRecDepth 100000 in
theorem mturn_any (v : Value) (x : Arr) (w : World) (hv : ArrV w v x) (hx : ArrOk x) :
  Calls Tryz.prog 39 #[.int .u8 36, v] w (PrimPost (turnA x) w) := by
 have HR := Lib.hid (fun W (hb : Below w.heap.size w W) => right_ok v x W (hv.below hb) hx)
 have HT := Lib.hid (fun W (hb : Below w.heap.size w W) => turn_any v x W (hv.below hb) hx)
 obtain ⟨vs, vd, rfl, hs, hd⟩ := hv
 obtain ⟨a1, c1, rfl⟩ := hs.form
 obtain ⟨a2, c2, rfl⟩ := hd.form
 clear hs hd
 generalize (ofN x.sides).length = r at *
 generalize x.data.length = m at *
 have HF := Lib.hid (F2.new w (.slice a1 r c1) (.slice a2 m c2))
 have c0 := HF.out.at0
 have c00 := HF.out.at1
 go_enter Tryz.func39, Tryz.ntmps39
 go_wp2_with (first | (go_at_call 38; refine (HR.out _ HF.out.bel).mono ?_; rintro _ w1 ⟨rfl, hb⟩; have HF1 := Lib.hid (HF.out.next hb); have e0 := HF1.out.at0; have e1 := HF1.out.at1; clear hb c0 c00) | (go_at_call 64; refine (HT.out _ HF1.out.bel).mono ?_; rintro _ w2 ⟨u2, rfl, ⟨us, ud, rfl, hu1, hu2⟩, hb⟩; have HF2 := Lib.hid (HF1.out.next hb); have HU := Lib.hid (And.intro (hu1.base HF1.out.bel.size) (hu2.base HF1.out.bel.size)); obtain ⟨a3, c3, hf3⟩ := hu1.form; obtain ⟨a4, c4, hf4⟩ := hu2.form; subst hf3 hf4; have g0 := HF2.out.r0; have g1 := HF2.out.r1; have gf := HF2.out.rf; clear hb hu1 hu2 e0 e1))
 obtain ⟨z0, z1, z2, z3⟩ := HF2.out.done (.slice a3 (ofN (turnA x).sides).length c3) (.slice a4 (turnA x).data.length c4)
 exact bodyPost_ret (v := .tuple #[.agg #[.slice a3 (ofN (turnA x).sides).length c3, .slice a4 (turnA x).data.length c4], .int .i64 0]) (by simp [results, Tryz.results39, go_sem, z0, z1]) rfl ⟨_, rfl, ⟨_, _, rfl, HU.out.1.tag z3, HU.out.2.tag z3⟩, z2⟩
end
section
open Go.RowKit Go.Shelf Go.Sort
/-- The boxes of two arrays, and the result's cell. -/
structure F3 (w W : World) (a b c d : Value) : Prop where
 bel : Below w.heap.size w W
 k0 : Blk W w.heap.size 24 #[a, b]
 k1 : Blk W (w.heap.size + 1) 24 #[c, d]
 k2 : Blk W (w.heap.size + 2) 24 #[.slice none 0 0, .slice none 0 0]
theorem F3.new (w : World) (a b c d : Value) : F3 w (((w.alloc (.cells #[a, b] 24)).alloc (.cells #[c, d] 24)).alloc (.cells #[.slice none 0 0, .slice none 0 0] 24)) a b c d :=
 ⟨(((Below.refl _ w).alloc (Nat.le_refl _) _).alloc (by simp) _).alloc (by simp; omega) _, ((Blk.new w _ _ rfl).alloc _).alloc _, (Blk.new _ _ _ (by simp)).alloc _, Blk.new _ _ _ (by simp)⟩
section
variable {w W W' : World} {a b c d : Value}
theorem F3.next (h : F3 w W a b c d) (hb : Below W.heap.size W W') : F3 w W' a b c d := ⟨h.bel.trans (hb.mono h.bel.size), h.k0.below hb, h.k1.below hb, h.k2.below hb⟩
theorem F3.grown {u : Value} {base : Nat} {l : List Int} (h : F3 w W a b c d) (hu : IntsO W base u l) (hb : w.heap.size ≤ base) (hg : W.grownBy W' u.ownBlock) : F3 w W' a b c d :=
 ⟨h.bel.grown hg h.bel.size (fun k hk => Nat.le_trans hb (hu.lt k hk).1), h.k0.keep (KeepTag.own hg hu (by decide)), h.k1.keep (KeepTag.own hg hu (by decide)), h.k2.keep (KeepTag.own hg hu (by decide))⟩
theorem F3.a0 (h : F3 w W a b c d) : W.cell? ⟨w.heap.size, 0, none⟩ = some a := (h.k0.cell 0).trans rfl
theorem F3.a1 (h : F3 w W a b c d) : W.cell? ⟨w.heap.size, 1, none⟩ = some b := (h.k0.cell 1).trans rfl
theorem F3.b0 (h : F3 w W a b c d) : W.cell? ⟨w.heap.size + 1, 0, none⟩ = some c := (h.k1.cell 0).trans rfl
theorem F3.b1 (h : F3 w W a b c d) : W.cell? ⟨w.heap.size + 1, 1, none⟩ = some d := (h.k1.cell 1).trans rfl
theorem F3.r0 (h : F3 w W a b c d) : W.cell? ⟨w.heap.size + 2, 0, none⟩ = some (.slice none 0 0) := (h.k2.cell 0).trans rfl
theorem F3.r1 (h : F3 w W a b c d) : W.cell? ⟨w.heap.size + 2, 1, none⟩ = some (.slice none 0 0) := (h.k2.cell 1).trans rfl
theorem F3.r0' (h : F3 w W a b c d) : W.cell? ⟨w.heap.size + 1 + 1, 0, none⟩ = some (.slice none 0 0) := h.r0
theorem F3.r1' (h : F3 w W a b c d) : W.cell? ⟨w.heap.size + 1 + 1, 1, none⟩ = some (.slice none 0 0) := h.r1
theorem F3.rf (h : F3 w W a b c d) (o : Nat) : W.frozen? ⟨w.heap.size + 2, o, none⟩ = false := Blk.froz h.k2 o
theorem F3.rf' (h : F3 w W a b c d) (o : Nat) : W.frozen? ⟨w.heap.size + 1 + 1, o, none⟩ = false := Blk.froz h.k2 o
/-- The result stored. -/
theorem F3.done (h : F3 w W a b c d) (u v : Value) : let W' := (W.setCell ⟨w.heap.size + 1 + 1, 0, none⟩ u).setCell ⟨w.heap.size + 1 + 1, 1, none⟩ v
  W'.cell? ⟨w.heap.size + 1 + 1, 0, none⟩ = some u ∧ W'.cell? ⟨w.heap.size + 1 + 1, 1, none⟩ = some v ∧ Below w.heap.size w W' ∧ KeepTag 2 W W' := by
 have hb := Blk.put2 h.k2 u v
 refine ⟨(hb.cell 0).trans rfl, (hb.cell 1).trans rfl, below_set (below_set h.bel (by omega) _) (by omega) _, ?_⟩
 exact KeepTag.trans (KeepTag.set h.k2 (by decide) 0 u) (KeepTag.set (Blk.put0 h.k2 u) (by decide) 1 v)
end
def leftOf (m : Nat) (v : Value) : Nat := match v with
 | .slice _ n _ => m - n
 | _ => 0
theorem rho1_any : Tells 93 badB := by
 intro x w
 by_cases h1 : x < 0
 ·have h2 : Hid (badB x = true) := Lib.hid (by unfold badB; rw [decide_eq_true h1]; rfl)
  go_enter Tryz.func93, Tryz.ntmps93
  go_wp2_with fail
  go_ret
  exact ⟨by rw [h2.out]; rfl, rfl⟩
 ·have h2 : Hid (badB x = decide (65536 < x)) := Lib.hid (by unfold badB; rw [decide_eq_false h1]; rfl)
  have h3 : decide (x < 0) = false := decide_eq_false h1
  go_enter Tryz.func93, Tryz.ntmps93
  go_wp2_with fail
  go_ret
  exact ⟨by rw [h2.out]; rfl, rfl⟩
set_option maxHeartbeats 8000000 in
set_option maxRecDepth 100000 in
theorem rho_any (va vb : Value) (x y : Arr) (s : List Nat) (w : World) (hva : ArrV w va x) (hvb : ArrV w vb y) (hx1 : x.sides.length ≤ 1) (hxd : x.data = ofN s) (hs : SidesOk s) (hall : prodN s = y.data.length) (hpos : 0 < y.data.length) :
  Calls Tryz.prog 71 #[va, vb] w (PrimPost ⟨s, y.data⟩ w) := by
 obtain ⟨i0, hi, hz0, hz1, hz2⟩ := info_parts Tryz.infoI64
 obtain ⟨vs, vd, rfl, has, had⟩ := hva
 obtain ⟨us, ud, rfl, hbs, hbd⟩ := hvb
 rw [hxd] at had
 have HB := Lib.hid (fun W (hb : Below w.heap.size w W) => containsf_any _ _ rho1_any (by intro args w; kernel_rfl) vd (ofN s) W (had.below hb))
 rw [bad_none hs.each] at HB
 have HSz := Lib.hid (fun W (hb : Below w.heap.size w W) => size_any vd s W (had.below hb) hs)
 have HA := Lib.hid had
 have HBd := Lib.hid hbd
 have HG := Lib.hid (fun W v1 l1 vd l h1 hl ha => good_any v1 vd l1 l W h1 hl ha)
 obtain ⟨a1, c1, rfl⟩ := has.form
 obtain ⟨a2, c2, rfl⟩ := had.form
 obtain ⟨a3, c3, rfl⟩ := hbs.form
 obtain ⟨gd, od, c4, rfl, hd1, hd2, hd3, hd4⟩ := hbd.at_ hpos
 have hq6 : y.data.length ≤ 65536 := by rw [← hall]; exact hs.all
 have hs4 := hs.len
 rw [hall] at HSz
 simp only [ofN_len] at *
 obtain ⟨d, hd⟩ : ∃ d, d = y.data := ⟨_, rfl⟩
 simp only [← hd] at *
 obtain ⟨m, hm⟩ : ∃ m, m = d.length := ⟨_, rfl⟩
 have HM : Hid (m = d.length) := Lib.hid hm
 rw [← hm] at hpos hd1 hq6 HSz HBd ⊢
 have HSl : Hid ((ofN s).length ≤ 1000000) := Lib.hid (by rw [ofN_len]; omega)
 generalize x.sides.length = xr at *
 generalize y.sides.length = yr at *
 generalize s.length = sl at *
 clear has had hbs hbd hs hall hxd hd hm hd4
 have hx1' : decide ((1 : Int) < (xr : Int)) = false := by rw [decide_eq_false_iff_not]; omega
 have hx2' : decide ((4 : Int) < (sl : Int)) = false := by rw [decide_eq_false_iff_not]; omega
 have hp0 : (0 : Int) < m := by omega
 have hp1 : ((m : Int) == 0) = false := by rw [beq_eq_false_iff_ne]; omega
 have hm0 : ¬ m = 0 := by omega
 have HF := Lib.hid (F3.new w (.slice a1 xr c1) (.slice a2 sl c2) (.slice a3 yr c3) (.slice (some ⟨gd, od, none⟩) m c4))
 have q0 := HF.out.a0
 have q1 := HF.out.a1
 have q3 := HF.out.b1
 go_enter Tryz.func71, Tryz.ntmps71
 go_wp2_with (first | (go_at_call 36; refine (HB.out _ HF.out.bel).mono ?_; rintro _ _ ⟨rfl, rfl⟩) | (go_at_call 57; refine (HSz.out _ HF.out.bel).mono ?_; rintro _ _ ⟨rfl, rfl⟩) | (at_make; refine wpList_make_own _ rfl _ _ 22 rfl w.heap.size 2 i0 (.int .i64 0) 1 Tryz.underlying22 hi hz0 hz1 _ _ _ m rfl rfl rfl (by rw [hz2]; omega) (by unfold maxLen; omega) HF.out.bel.size ?_))
 intro w5 hown hgrow
 have HF5 := Lib.hid (HF.out.next ((Below.refl _ _).grown hgrow (Nat.le_refl _) (by simp)))
 have HO5 : Hid (IntsO w5 w.heap.size (.slice (some ⟨w.heap.size + 1 + 1 + 1, 0, none⟩) 0 m) []) := Lib.hid hown
 clear hown hgrow q0 q1 q3 HF HB HSz
 go_wp2_with fail
 generalize w.heap.size + 1 + 1 + 1 = g at *
 go_loopw [8] (fun out wr => ((out = .slice (some ⟨g, 0, none⟩) 0 m ∧ Hid (IntsO wr w.heap.size out [])) ∨ (∃ a c, out = .slice a m c ∧ Hid (IntsO wr w.heap.size out d))) ∧ Hid (F3 w wr (.slice a1 xr c1) (.slice a2 sl c2) (.slice a3 yr c3) (.slice (some ⟨gd, od, none⟩) m c4))) (fun out _ => leftOf m out)
 case atStart => exact ⟨.inl ⟨rfl, HO5⟩, HF5⟩
 case round =>
  obtain ⟨⟨rfl, hO⟩ | ⟨a, c, rfl, hO⟩, hF⟩ := hrel
  ·have e0 := hF.out.a0
   have e1 := hF.out.b1
   have HV := Lib.hid (HBd.out.below hF.out.bel)
   have mc : m ≤ c4 := by omega
   go_wp2_with (at_builtin; refine wpList_append_ints rfl (.tmp 60) (.tmp 71) rfl w.heap.size _ _ [] d rfl hO.out rfl HV.out (by rw [← HM.out]; show 0 + m ≤ _; omega) hF.out.bel.size ?_; intro v2 w2 ho2 hg2; have HO2 := Lib.hid ho2; have HF2 := Lib.hid (hF.out.grown hO.out (Nat.le_refl _) hg2); obtain ⟨av, cv, hfv⟩ := ho2.form; rw [List.nil_append, ← HM.out] at hfv; subst hfv; clear ho2 hg2)
   go_roundw
   case rel => exact ⟨.inr ⟨av, cv, rfl, Lib.hid HO2.out⟩, HF2⟩
   case measure => simp [leftOf]; omega
  ·have kI : ¬ (m : Int) < m := by omega
   have e0 := hF.out.a1
   go_wp2_with (go_at_call 60; refine (HG.out _ _ (ofN s) _ d (HA.out.below hF.out.bel) HSl.out ⟨a, c, by rw [← HM.out]⟩).mono ?_; rintro _ w6 ⟨u6, rfl, hu, hb⟩; have HU6 := Lib.hid hu; have HF6 := Lib.hid (hF.out.next hb); have HO6 := Lib.hid (hO.out.below hb); obtain ⟨a6, c6, hf6⟩ := hu.form; subst hf6; have HB6 := Lib.hid hF.out.bel.size; have g0 := HF6.out.r0'; have g1 := HF6.out.r1'; have gf := HF6.out.rf'; clear hb hu)
   obtain ⟨z0, z1, z2, z3⟩ := HF6.out.done (.slice a6 (ofN s).length c6) (.slice a m c)
   exact bodyPost_ret (v := .tuple #[.agg #[.slice a6 (ofN s).length c6, .slice a m c], .int .i64 0]) (by simp [results, Tryz.results71, go_sem, z0, z1]) rfl ⟨_, rfl, ⟨_, _, rfl, (HU6.out.base HB6.out).tag z3, HO6.out.tag z3⟩, z2⟩
set_option maxHeartbeats 2000000 in
set_option maxRecDepth 100000 in
theorem dyad_rho (va vb : Value) (x y : Arr) (s : List Nat) (w : World) (hva : ArrV w va x) (hvb : ArrV w vb y) (hx : ArrOk x) (hy : ArrOk y) (hx1 : x.sides.length ≤ 1) (hxd : x.data = ofN s) (hs : SidesOk s) (hall : prodN s = y.data.length) (hpos : 0 < y.data.length) :
  Calls Tryz.prog 42 #[.int .u8 37, va, vb] w (PrimPost ⟨s, y.data⟩ w) := by
 have HR1 := Lib.hid (fun W (hb : Below w.heap.size w W) => right_ok va x W (hva.below hb) hx)
 have HR2 := Lib.hid (fun W (hb : Below w.heap.size w W) => right_ok vb y W (hvb.below hb) hy)
 have HT := Lib.hid (fun W (hb : Below w.heap.size w W) => rho_any va vb x y s W (hva.below hb) (hvb.below hb) hx1 hxd hs hall hpos)
 obtain ⟨vs, vd, rfl, has, had⟩ := hva
 obtain ⟨us, ud, rfl, hbs, hbd⟩ := hvb
 obtain ⟨a1, c1, rfl⟩ := has.form
 obtain ⟨a2, c2, rfl⟩ := had.form
 obtain ⟨a3, c3, rfl⟩ := hbs.form
 obtain ⟨a4, c4, rfl⟩ := hbd.form
 clear has had hbs hbd hall hxd hpos
 generalize (ofN x.sides).length = n1 at *
 generalize x.data.length = n2 at *
 generalize (ofN y.sides).length = n3 at *
 generalize y.data.length = n4 at *
 have HF := Lib.hid (F3.new w (.slice a1 n1 c1) (.slice a2 n2 c2) (.slice a3 n3 c3) (.slice a4 n4 c4))
 have q0 := HF.out.a0
 have q1 := HF.out.a1
 have q2 := HF.out.b0
 have q3 := HF.out.b1
 go_enter Tryz.func42, Tryz.ntmps42
 go_wp2_with (first | (go_at_call 38; refine (HR1.out _ HF.out.bel).mono ?_; rintro _ w1 ⟨rfl, hb⟩; have HF1 := Lib.hid (HF.out.next hb); have e0 := HF1.out.a0; have e1 := HF1.out.a1; have e2 := HF1.out.b0; have e3 := HF1.out.b1; clear hb q0 q1 q2 q3 HR1) | (go_at_call 38; refine (HR2.out _ HF1.out.bel).mono ?_; rintro _ w2 ⟨rfl, hb⟩; have HF2 := Lib.hid (HF1.out.next hb); have e0' := HF2.out.a0; have e1' := HF2.out.a1; have e2' := HF2.out.b0; have e3' := HF2.out.b1; clear hb e0 e1 e2 e3) | (go_at_call 71; refine (HT.out _ HF2.out.bel).mono ?_; rintro _ w3 ⟨u2, rfl, ⟨us, ud, rfl, hu1, hu2⟩, hb⟩; have HF3 := Lib.hid (HF2.out.next hb); have HU := Lib.hid (And.intro (hu1.base HF2.out.bel.size) (hu2.base HF2.out.bel.size)); obtain ⟨b3, d3, hf3⟩ := hu1.form; obtain ⟨b4, d4, hf4⟩ := hu2.form; subst hf3 hf4; have g0 := HF3.out.r0'; have g1 := HF3.out.r1'; have gf := HF3.out.rf'; clear hb hu1 hu2 e0' e1' e2' e3'))
 obtain ⟨z0, z1, z2, z3⟩ := HF3.out.done (.slice b3 (ofN s).length d3) (.slice b4 y.data.length d4)
 exact bodyPost_ret (v := .tuple #[.agg #[.slice b3 (ofN s).length d3, .slice b4 y.data.length d4], .int .i64 0]) (by simp [results, Tryz.results42, go_sem, z0, z1]) rfl ⟨_, rfl, ⟨_, _, rfl, HU.out.1.tag z3, HU.out.2.tag z3⟩, z2⟩
end
section
open Go.RowKit Go.Shelf Go.Sort
/-- What is taken (or left): from where, to where. -/
inductive PartR (all : Nat) : Int → Bool → Nat → Nat → Prop
 | front (k : Nat) (h : k ≤ all) : PartR all k true 0 k
 | left (k q : Nat) (h : k + q = all) : PartR all k false k all
 | back (k q : Nat) (h : k + q = all) (h0 : 0 < k) : PartR all (-(k : Int)) true q all
 | ahead (k q : Nat) (h : k + q = all) (h0 : 0 < k) : PartR all (-(k : Int)) false 0 q
theorem IntsO.put {w : World} {base g n c : Nat} {l : List Int} (h : IntsO w base (.slice (some ⟨g, 0, none⟩) n c) l) (i : Nat) (x : Int) :
  IntsO (w.setCell ⟨g, i, none⟩ (.int .i64 x)) base (.slice (some ⟨g, 0, none⟩) n c) (l.set i x) ∧ w.grownBy (w.setCell ⟨g, i, none⟩ (.int .i64 x)) (some g) := by
 obtain ⟨a', c', he⟩ := h.form
 injection he with e1 e2 e3
 subst e2
 obtain ⟨o2, g2⟩ := World.ownsRow.stored h i (.int .i64 x)
 refine ⟨?_, g2⟩
 unfold IntsO
 rw [List.length_set, map_set]
 exact o2
theorem ints_slice {w : World} {g o n c : Nat} {l : List Int} (h : IntsS w (.slice (some ⟨g, o, none⟩) n c) l) {lo hi : Nat} (h1 : lo ≤ hi) (h2 : hi ≤ l.length) : IntsS w (.slice (some ⟨g, o + lo, none⟩) (hi - lo) (c - lo)) ((l.take hi).drop lo) := by
 obtain ⟨a', c', he, k1, k2, k3⟩ := h
 injection he with e1 e2 e3
 subst e1 e2 e3
 have hl : ((l.take hi).drop lo).length = hi - lo := by rw [List.length_drop, List.length_take]; omega
 refine ⟨_, c - lo, by rw [hl], by omega, by omega, fun h0 => ?_⟩
 obtain ⟨g', o', he, q2, q3⟩ := k3 (by omega)
 injection he with he
 injection he with e4 e5
 subst e4 e5
 refine ⟨g, o + lo, rfl, q2, fun i x hi' => ?_⟩
 rw [List.getElem?_drop, List.getElem?_take] at hi'
 split at hi'
 ·rw [Nat.add_assoc]
  exact q3 _ _ hi'
 ·cases hi'
theorem ints_zero (w : World) (a : Option Addr) (c : Nat) (h : c ≤ maxLen) : IntsS w (.slice a 0 c) [] := ⟨a, c, rfl, Nat.zero_le _, h, fun h => absurd h (Nat.lt_irrefl _)⟩
theorem partA_zero {all lo hi dif : Nat} {r : List Nat} {d : List Int} (hz : all = 0) (h : hi - lo = dif) : partA ⟨all :: r, d⟩ lo hi = ⟨dif :: r, []⟩ := by
 subst h
 unfold partA
 dsimp only
 rw [if_pos hz]
theorem partA_pos {all lo hi dif : Nat} {r : List Nat} {d : List Int} (hz : ¬ all = 0) (h : hi - lo = dif) : partA ⟨all :: r, d⟩ lo hi = ⟨dif :: r, (d.take (hi * (d.length / all))).drop (lo * (d.length / all))⟩ := by
 subst h
 unfold partA
 dsimp only
 rw [if_neg hz]
end
end Go.Proofs.YtknnleiinhdklaaGreatDoor
