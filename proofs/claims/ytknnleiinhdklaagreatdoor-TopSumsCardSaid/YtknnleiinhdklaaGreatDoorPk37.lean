/-
  Walk of prim.Monad at rev. Condition: the value reads as an array.
-/
import Derived.Test.YtknnleiinhdklaaGreatDoorPk36
namespace Go.Proofs.YtknnleiinhdklaaGreatDoor
open Go.RowKit Go.Shelf Go.Sort
attribute [local go_sem] Oper.semAt_some
theorem F2.grown {w W W' : World} {a b u : Value} {base : Nat} {l : List Int} (h : F2 w W a b) (hu : IntsO W base u l) (hb : w.heap.size ≤ base) (hg : W.grownBy W' u.ownBlock) : F2 w W' a b :=
 ⟨h.bel.grown hg h.bel.size (fun k hk => Nat.le_trans hb (hu.lt k hk).1), h.k0.keep (KeepTag.own hg hu (by decide)), h.k1.keep (KeepTag.own hg hu (by decide))⟩
/-- One lane written anew. -/
theorem LanesS.put {w w' : World} {base : Nat} {v u : Value} {ls : List (List Int)} {vs : List Value} {k : Nat} {l l' : List Int} (o : w.ownsRow base 22 1 v ls.length vs) (c : ∀ (i : Nat) (l : List Int), ls[i]? = some l → ∃ u, vs[i]? = some u ∧ IntsO w base u l)
  (d : ∀ (i j : Nat) (u u' : Value), i ≠ j → vs[i]? = some u → vs[j]? = some u' → u.ownBlock = none ∨ u.ownBlock ≠ u'.ownBlock) (hl : ls[k]? = some l) (hu : vs[k]? = some u) (hul : IntsO w base u l)
  (hu' : IntsO w' base u l') (hg : w.grownBy w' u.ownBlock) : LanesS w' base v (ls.set k l') := by
 refine ⟨vs, ?_, fun i x hi => ?_, d⟩
 ·rw [List.length_set]
  exact own_tag o (KeepTag.own hg hul (by decide))
 ·by_cases hk : k = i
  ·subst hk
   have hlt := (List.getElem?_eq_some_iff.1 hl).1
   rw [List.getElem?_set_self hlt] at hi
   injection hi with hi
   subst hi
   exact ⟨u, hu, hu'⟩
  ·rw [List.getElem?_set_ne hk] at hi
   obtain ⟨y, hy, hy2⟩ := c i x hi
   refine ⟨y, hy, hy2.1, ?_⟩
   rcases hy2.2 with h0 | ⟨g, cap, cur, hv, hb, hgg, rest⟩
   ·exact .inl h0
   ·refine .inr ⟨g, cap, cur, hv, hb, (hg.block g (Array.getElem?_eq_some_iff.1 hgg).1 (fun e => ?_)).trans hgg, rest⟩
    have hyb : y.ownBlock = some g := by rw [hv]; rfl
    rcases d i k y u (fun e => hk e.symm) hy hu with h1 | h1
    ·rw [hyb] at h1; cases h1
    ·exact h1 (by rw [hyb]; exact e)
theorem rev_set {ls : List (List Int)} {k : Nat} {l : List Int} (h : ls[k]? = some l) : ((ls.take k).map List.reverse ++ ls.drop k)[k]? = some l ∧ ((ls.take k).map List.reverse ++ ls.drop k).set k l.reverse = (ls.take (k + 1)).map List.reverse ++ ls.drop (k + 1) := by
 have hlt := (List.getElem?_eq_some_iff.1 h).1
 have hl : ((ls.take k).map List.reverse).length = k := by rw [List.length_map, List.length_take]; omega
 have hd : ls.drop k = l :: ls.drop (k + 1) := by
  rw [List.drop_eq_getElem_cons hlt]
  congr 1
  rw [List.getElem?_eq_getElem hlt] at h
  injection h
 constructor
 ·rw [List.getElem?_append_right (by omega), hl, Nat.sub_self, hd]
  rfl
 ·rw [List.set_append_right _ _ (by omega), hl, Nat.sub_self, hd, List.set_cons_zero, List.take_add_one, h, Option.toList_some, List.map_append, List.append_assoc]
  rfl
theorem pieces_flat {n : Nat} : ∀ (c : Nat) (d : List Int), d.length = c * n → (upF (fun j => pieceL d (j * n, n)) c).flatten = d
 | 0, d, h => by
  have h0 : d = [] := List.eq_nil_of_length_eq_zero (by rw [h, Nat.zero_mul])
  subst h0
  rfl
 | c + 1, d, h => by
  have hl : n ≤ d.length := by rw [h, Nat.succ_mul]; omega
  rw [piece_step, List.flatten_cons, pieces_flat c (d.drop n) (by rw [List.length_drop, h, Nat.succ_mul]; omega), List.take_append_drop]
theorem rev_flat_len (ls : List (List Int)) : ((ls.map List.reverse).flatten).length = ls.flatten.length := by
 induction ls with
 | nil => rfl
 | cons x r ih => rw [List.map_cons, List.flatten_cons, List.flatten_cons, List.length_append, List.length_append, ih, List.length_reverse]
theorem lanes_flat {x : Arr} (hx : ArrOk x) : (lanesL x).flatten = x.data := by
 unfold lanesL
 by_cases h0 : x.data = []
 ·rw [if_pos h0, h0]; rfl
 ·rw [if_neg h0]
  exact pieces_flat _ _ (last_div hx h0).2.1
theorem lanes_le {x : Arr} (hx : ArrOk x) : (lanesL x).length ≤ 65536 := by
 unfold lanesL
 by_cases h0 : x.data = []
 ·rw [if_pos h0]; exact Nat.zero_le _
 ·rw [if_neg h0, upF_len]
  exact Nat.le_trans (Nat.div_le_self _ _) hx.le
theorem lane_le {x : Arr} (hx : ArrOk x) {i : Nat} {l : List Int} (h : (lanesL x)[i]? = some l) : l.length ≤ 65536 := by
 have hm := List.mem_of_getElem? h
 have h2 : l.length ≤ (lanesL x).flatten.length := (List.sublist_flatten_of_mem hm).length_le
 rw [lanes_flat hx] at h2
 exact Nat.le_trans h2 hx.le
set_option maxHeartbeats 8000000 in
set_option maxRecDepth 100000 in
theorem rev_any (v : Value) (x : Arr) (w : World) (hv : ArrV w v x) (hx : ArrOk x) :
  Calls Tryz.prog 39 #[.int .u8 35, v] w (PrimPost ⟨x.sides, ((lanesL x).map List.reverse).flatten⟩ w) := by
 have HR := Lib.hid (fun W (hb : Below w.heap.size w W) => right_ok v x W (hv.below hb) hx)
 obtain ⟨ls, hls⟩ : ∃ ls, ls = lanesL x := ⟨_, rfl⟩
 have HLs : Hid (∀ W, Below w.heap.size w W → Calls Tryz.prog 61 #[v] W (LanesPost ls W)) := Lib.hid (fun W (hb : Below w.heap.size w W) => by rw [hls]; exact lanes_any v x W (hv.below hb) hx)
 obtain ⟨vs, vd, rfl, hs, hd⟩ := hv
 obtain ⟨a1, c1, rfl⟩ := hs.form
 obtain ⟨a2, c2, rfl⟩ := hd.form
 have HS := Lib.hid hs
 have HG := Lib.hid (fun W v1 l1 vd l h1 hl ha => good_any v1 vd l1 l W h1 hl ha)
 have HX := Lib.hid hx
 have HLe : Hid (ls.flatten.length ≤ 65536 ∧ ls.length ≤ 65536 ∧ ∀ (i : Nat) (l : List Int), ls[i]? = some l → l.length ≤ 65536) := Lib.hid (by
  rw [hls]
  exact ⟨by rw [lanes_flat hx]; exact hx.le, lanes_le hx, fun i l h => lane_le hx h⟩)
 rw [← hls]
 obtain ⟨sides, d⟩ := x
 have hr4 := hx.sides.len
 dsimp only at *
 rw [ofN_len] at *
 have HL : Hid ((ofN sides).length = sides.length) := Lib.hid (ofN_len _)
 obtain ⟨cn, hcn⟩ : ∃ cn, cn = ls.length := ⟨_, rfl⟩
 have HCn := Lib.hid hcn
 have hc6 : cn ≤ 65536 := by rw [hcn]; exact HLe.out.2.1
 generalize hm : d.length = m at *
 generalize hr : sides.length = r at *
 clear hs hd hx hm hr hls hcn
 have HF := Lib.hid (F2.new w (.slice a1 r c1) (.slice a2 m c2))
 have c0 := HF.out.at0
 have c00 := HF.out.at1
 go_enter Tryz.func39, Tryz.ntmps39
 go_wp2_with (first | (go_at_call 38; refine (HR.out _ HF.out.bel).mono ?_; rintro _ w1 ⟨rfl, hb⟩; have HF1 := Lib.hid (HF.out.next hb); have e0 := HF1.out.at0; have e1 := HF1.out.at1; clear hb c0 c00) | (go_at_call 61; refine (HLs.out _ HF1.out.bel).mono ?_; rintro _ w2 ⟨u2, rfl, hu, hb⟩; have HL2 := Lib.hid hu; have HF2 := Lib.hid (HF1.out.next hb); have hfm := hu.form; rw [← HCn.out] at hfm; obtain ⟨a5, c5, rfl⟩ := hfm; clear hb hu e0 e1))
 have HB1 : Hid (w.heap.size ≤ w1.heap.size) := Lib.hid HF1.out.bel.size
 clear HF HF1 HLs HR
 go_loopw [9, 60] (fun _ vi wr => ∃ k : Nat, k ≤ cn ∧ vi = .int .i64 k ∧ Hid (F2 w wr (.slice a1 r c1) (.slice a2 m c2)) ∧ Hid (LanesS wr w1.heap.size (.slice a5 cn c5) ((ls.take k).map List.reverse ++ ls.drop k))) (fun _ vi _ => cn - (intOf vi).toNat)
 case atStart => exact ⟨0, Nat.zero_le _, rfl, HF2, HL2⟩
 case round =>
  obtain ⟨k, hk, rfl, hF, hL⟩ := hrel
  by_cases hlt : k < cn
  ·obtain ⟨l, hl⟩ : ∃ l, ls[k]? = some l := ⟨ls[k]'(by have := HCn.out; omega), List.getElem?_eq_getElem _⟩
   obtain ⟨r1, r2⟩ := rev_set hl
   have hlen : ((ls.take k).map List.reverse ++ ls.drop k).length = cn := by rw [List.length_append, List.length_map, List.length_take, List.length_drop]; have := HCn.out; omega
   obtain ⟨vs5, q1, q2, q3⟩ := hL.out
   obtain ⟨u, hu, hu2⟩ := q2 k l r1
   obtain ⟨g5, c5', he5, hg51, hg52, hg53, hg54, hg55, _⟩ := own_cells q1 (by omega)
   rw [hlen] at he5
   injection he5 with he5 he6 he7
   subst he5
   have d1 : wr.cell? ⟨g5, k, none⟩ = _ := (hg55 k (by omega)).trans hu
   have HQ := Lib.hid (And.intro q1 (And.intro q2 (And.intro q3 (And.intro r1 (And.intro hu hu2)))))
   have HRv := Lib.hid (reverse_any w1.heap.size u l wr hu2 (Nat.le_trans (HLe.out.2.2 k l hl) (by decide)))
   have H2 := Lib.hid r2
   have HLt := Lib.hid hlt
   obtain ⟨ak, ck, hfk⟩ := hu2.form
   have HFk := Lib.hid hfk
   have kI : (k : Int) < cn := by omega
   have k0 : (0 : Int) ≤ k := by omega
   subst hfk
   clear hl r1 r2 hlen q1 q2 q3 hu hu2 he6 he7 hg51 hg52 hg53 hg54 hg55 hL
   go_wp2_with (go_at_call 62; refine HRv.out.mono ?_; rintro _ w3 ⟨rfl, hrv, hgr⟩; have HN := Lib.hid (LanesS.put HQ.out.1 HQ.out.2.1 HQ.out.2.2.1 HQ.out.2.2.2.1 HQ.out.2.2.2.2.1 HQ.out.2.2.2.2.2 hrv hgr); have HF3 := Lib.hid (hF.out.grown HQ.out.2.2.2.2.2 HB1.out hgr); clear hrv hgr)
   go_roundw
   case rel => exact ⟨k + 1, HLt.out, by go_num, HF3, Lib.hid (by rw [← H2.out]; exact HN.out)⟩
   case measure => have := HLt.out; simp [intOf]; omega
  ·obtain rfl : k = cn := by omega
   have kI : ¬ (k : Int) < k := by omega
   have hL2 := hL.out
   rw [List.take_of_length_le (by rw [← HCn.out]; exact Nat.le_refl _), List.drop_of_length_le (by rw [← HCn.out]; exact Nat.le_refl _), List.append_nil] at hL2
   have HL3 := Lib.hid hL2
   clear hL hL2
   go_wp2_with fail
   have HM0 : Hid (MonW w wr.drew (.slice a1 r c1) (.slice a2 m c2) true false false false false (.slice a1 r c1) undef undef undef (ofN sides) ((ls.map List.reverse).flatten)) := Lib.hid ⟨hF.out.bel.trans ⟨rfl, rfl, rfl, Nat.le_refl _, fun _ _ => rfl⟩, Blk.lt hF.out.k1, hF.out.k0, fun _ => hF.out.k1, fun _ _ => HS.out.below (hF.out.bel.trans ⟨rfl, rfl, rfl, Nat.le_refl _, fun _ _ => rfl⟩), fun e => (by cases e), fun e => (by cases e), fun e => (by cases e), fun e => (by cases e)⟩
   have HC : Hid (Calls Tryz.prog 63 #[.slice a5 k c5] wr.drew (ClonePost ((ls.map List.reverse).flatten) wr.drew)) := Lib.hid (concat_any _ _ wr.drew ((HL3.out.below ⟨rfl, rfl, rfl, Nat.le_refl _, fun _ _ => rfl⟩).rowV) (by rw [rev_flat_len]; have := HLe.out.1; omega) (by rw [List.length_map]; exact HLe.out.2.1))
   clear HL3 HL2 hF
   refine region_invP (by kernel_rfl) (fun b ax V => ∃ s67 s68 s69 s70 s71 s72 s73 : Value, ax = { tmps := #[.int .u8 35, .agg #[.slice a1 r c1, .slice a2 m c2], undef, .pointer (some ⟨w.heap.size, 0, none⟩), .pointer (some ⟨w.heap.size + 1, 0, none⟩), .int .i64 0, .slice a5 k c5, .int .i64 0, undef, u9, undef, undef, undef, undef, .agg #[.slice a1 r c1, .slice a2 m c2], .bool true, .bool false, undef, undef, undef, .int .u8 35, .bool false, .bool false, undef, undef, undef, undef, .bool false, .bool false, undef, undef, undef, undef, undef, undef, undef, undef, undef, undef, .bool false, .bool false, undef, undef, undef, undef, undef, undef, undef, undef, undef, undef, .bool true, .bool true, .tuple #[.slice a5 k c5, .int .i64 0], .agg #[.slice a1 r c1, .slice a2 m c2], .tuple #[.slice a5 k c5, .int .i64 0], .slice a5 k c5, .int .i64 0, .slice a5 k c5, .int .i64 (k : Int), .int .i64 (k : Int), .bool false, u62, u63, u64, u65, u66, s67, s68, s69, s70, s71, s72, s73, undef, undef, undef, undef, undef, undef, undef, undef, undef, undef, undef, undef, undef, undef, undef, undef, undef, undef, undef, undef, undef, undef, undef, undef, undef, undef, undef, undef, undef, undef, undef, undef, undef, undef, undef, undef, undef, undef, undef, undef, undef, undef, undef, undef, undef, undef], defers := [] } ∧ (b 0 = true → s67 = .pointer (some ⟨w.heap.size, 0, none⟩)) ∧ (b 1 = true → s68 = .slice a1 r c1) ∧ (b 2 = true → s69 = .slice a5 k c5) ∧ (b 6 = true → s73 = .int .i64 0) ∧ (b 6 = true → b 3 = true) ∧ (b 3 = false → V = wr.drew) ∧ MonW w V (.slice a1 r c1) (.slice a2 m c2) true (b 3) (b 4) (b 5) (b 7) (.slice a1 r c1) s70 s71 s72 (ofN sides) ((ls.map List.reverse).flatten)) (deps_of (by kernel_rfl)) ?h0 ?hstep ?hQ
   case h0 =>
    exact ⟨_, _, _, _, _, _, _, rfl, by simp, by simp, by simp, by simp, by simp, fun _ => rfl, HM0.out⟩
   case hstep =>
    rintro b k op ax V ⟨s67, s68, s69, s70, s71, s72, s73, rfl, h0, h1, h2, h9x, h9b, hX, hW⟩ ho hb hdep K hK
    have hlt6 : k < 9 := (Array.getElem?_eq_some_iff.1 ho).1
    have hs : k = 0 ∨ k = 1 ∨ k = 2 ∨ k = 3 ∨ k = 4 ∨ k = 5 ∨ k = 6 ∨ k = 7 ∨ k = 8 := by omega
    rcases hs with rfl | rfl | rfl | rfl | rfl | rfl | rfl | rfl | rfl
    ·injection (show some _ = some op from ho) with ho
     subst ho
     have HK := Lib.hid hK
     have HH := Lib.hid (And.intro h0 (And.intro h1 (And.intro h2 (And.intro h9x (And.intro h9b (And.intro hX (hW)))))))
     clear hK hdep h0 h1 h2 h9x h9b hX hW
     refine wpOpIn_step rfl (fun K1 hK1 => ?_)
     go_simp
     obtain ⟨h0, h1, h2, h9x, h9b, hX, hW⟩ := HH.out
     exact hK1 _ _ (HK.out _ _ ⟨_, _, _, _, _, _, _, rfl, fun _ => rfl, fun h => h1 (by simpa using h), fun h => h2 (by simpa using h), fun h => h9x (by simpa using h), fun h => by simpa using h9b (by simpa using h), fun h => hX (by simpa using h), by simpa using hW⟩)
    ·injection (show some _ = some op from ho) with ho
     subst ho
     have z0 : b 0 = true := hdep ⟨0, Ground.data⟩ (by simp) (by rfl)
     obtain rfl := h0 z0
     have q0 := hW.at0
     have q1 := hW.at1
     have HK := Lib.hid hK
     have HH := Lib.hid (And.intro h0 (And.intro h1 (And.intro h2 (And.intro h9x (And.intro h9b (And.intro hX (hW)))))))
     clear hK hdep h0 h1 h2 h9x h9b hX hW
     refine wpOpIn_step rfl (fun K1 hK1 => ?_)
     go_simp
     obtain ⟨h0, h1, h2, h9x, h9b, hX, hW⟩ := HH.out
     exact hK1 _ _ (HK.out _ _ ⟨_, _, _, _, _, _, _, rfl, fun h => h0 (by simpa using h), fun _ => rfl, fun h => h2 (by simpa using h), fun h => h9x (by simpa using h), fun h => by simpa using h9b (by simpa using h), fun h => hX (by simpa using h), by simpa using hW⟩)
    ·injection (show some _ = some op from ho) with ho
     subst ho
     have HK := Lib.hid hK
     have HH := Lib.hid (And.intro h0 (And.intro h1 (And.intro h2 (And.intro h9x (And.intro h9b (And.intro hX (hW)))))))
     clear hK hdep h0 h1 h2 h9x h9b hX hW
     refine wpOpIn_step rfl (fun K1 hK1 => ?_)
     go_simp
     obtain ⟨h0, h1, h2, h9x, h9b, hX, hW⟩ := HH.out
     exact hK1 _ _ (HK.out _ _ ⟨_, _, _, _, _, _, _, rfl, fun h => h0 (by simpa using h), fun h => h1 (by simpa using h), fun _ => rfl, fun h => h9x (by simpa using h), fun h => by simpa using h9b (by simpa using h), fun h => hX (by simpa using h), by simpa using hW⟩)
    ·injection (show some _ = some op from ho) with ho
     subst ho
     have z2 : b 2 = true := hdep ⟨2, Ground.data⟩ (by simp) (by rfl)
     obtain rfl := h2 z2
     obtain rfl := hX hb
     have HCl := Lib.hid HC.out
     have HK := Lib.hid hK
     have HH := Lib.hid (And.intro h0 (And.intro h1 (And.intro h2 (And.intro h9x (And.intro h9b (And.intro hX (hW)))))))
     clear hK hdep h0 h1 h2 h9x h9b hX hW
     refine wpOpIn_step rfl (fun K1 hK1 => ?_)
     go_simp
     refine ⟨trivial, ?_⟩
     refine (callsIn_wide.2 HCl.out).mono ?_
     rintro e w' ⟨u, rfl, hu1, hu2⟩
     obtain ⟨h0, h1, h2, h9x, h9b, hX, hW⟩ := HH.out
     exact hK1 _ _ (HK.out _ _ ⟨_, _, _, _, _, _, _, rfl, fun h => h0 (by simpa using h), fun h => h1 (by simpa using h), fun h => h2 (by simpa using h), fun h => h9x (by simpa using h), fun _ => by simp, fun h => by simp at h, by simpa using hW.s6 hb hu1 hu2⟩)
    ·injection (show some _ = some op from ho) with ho
     subst ho
     have z1 : b 1 = true := hdep ⟨1, Ground.data⟩ (by simp) (by rfl)
     have z3 : b 3 = true := hdep ⟨3, Ground.data⟩ (by simp) (by rfl)
     obtain rfl := h1 z1
     have n7 : b 4 = false := hb
     have HCl := Lib.hid (HG.out V _ _ _ _ (hW.v3 n7 rfl) (by rw [HL.out]; omega) (hW.v6 z3).form)
     have zc : b 3 = true := z3
     have HK := Lib.hid hK
     have HH := Lib.hid (And.intro h0 (And.intro h1 (And.intro h2 (And.intro h9x (And.intro h9b (And.intro hX (hW)))))))
     clear hK hdep h0 h1 h2 h9x h9b hX hW
     refine wpOpIn_step rfl (fun K1 hK1 => ?_)
     go_simp
     refine ⟨trivial, ?_⟩
     refine (callsIn_wide.2 HCl.out).mono ?_
     rintro e w' ⟨u, rfl, hu1, hu2⟩
     obtain ⟨h0, h1, h2, h9x, h9b, hX, hW⟩ := HH.out
     exact hK1 _ _ (HK.out _ _ ⟨_, _, _, _, _, _, _, rfl, fun h => h0 (by simpa using h), fun h => h1 (by simpa using h), fun h => h2 (by simpa using h), fun h => h9x (by simpa using h), fun h => by simpa using h9b (by simpa using h), fun h => absurd (by simpa using h : b 3 = false) (by rw [zc]; decide), by simpa using hW.s7 hb rfl z3 hu1 hu2⟩)
    ·injection (show some _ = some op from ho) with ho
     subst ho
     have z4 : b 4 = true := hdep ⟨4, Ground.data⟩ (by simp) (by rfl)
     obtain ⟨_, _, u, rfl, _⟩ := hW.v7 z4
     have zc : b 3 = true := (hW.v7 z4).2.1
     have HK := Lib.hid hK
     have HH := Lib.hid (And.intro h0 (And.intro h1 (And.intro h2 (And.intro h9x (And.intro h9b (And.intro hX (hW)))))))
     clear hK hdep h0 h1 h2 h9x h9b hX hW
     refine wpOpIn_step rfl (fun K1 hK1 => ?_)
     go_simp
     obtain ⟨h0, h1, h2, h9x, h9b, hX, hW⟩ := HH.out
     exact hK1 _ _ (HK.out _ _ ⟨_, _, _, _, _, _, _, rfl, fun h => h0 (by simpa using h), fun h => h1 (by simpa using h), fun h => h2 (by simpa using h), fun h => h9x (by simpa using h), fun h => by simpa using h9b (by simpa using h), fun h => absurd (by simpa using h : b 3 = false) (by rw [zc]; decide), by simpa using hW.s8 z4 hb⟩)
    ·injection (show some _ = some op from ho) with ho
     subst ho
     have z4 : b 4 = true := hdep ⟨4, Ground.data⟩ (by simp) (by rfl)
     obtain ⟨_, _, u, rfl, _⟩ := hW.v7 z4
     have zc : b 3 = true := (hW.v7 z4).2.1
     have HK := Lib.hid hK
     have HH := Lib.hid (And.intro h0 (And.intro h1 (And.intro h2 (And.intro h9x (And.intro h9b (And.intro hX (hW)))))))
     clear hK hdep h0 h1 h2 h9x h9b hX hW
     refine wpOpIn_step rfl (fun K1 hK1 => ?_)
     go_simp
     obtain ⟨h0, h1, h2, h9x, h9b, hX, hW⟩ := HH.out
     exact hK1 _ _ (HK.out _ _ ⟨_, _, _, _, _, _, _, rfl, fun h => h0 (by simpa using h), fun h => h1 (by simpa using h), fun h => h2 (by simpa using h), fun _ => rfl, fun _ => by simpa using zc, fun h => absurd (by simpa using h : b 3 = false) (by rw [zc]; decide), by simpa using hW⟩)
    ·injection (show some _ = some op from ho) with ho
     subst ho
     have z5 : b 5 = true := hdep ⟨5, Ground.data⟩ (by simp) (by rfl)
     obtain ⟨_, u, rfl, rfl⟩ := hW.v8 z5
     obtain ⟨_, y6, u2, y1, y2⟩ := hW.v7 (hW.v8 z5).1
     obtain ⟨aq, cq, hq⟩ := (hW.v6 y6).form
     obtain ⟨ap, cp, hp⟩ := y2.form
     have y3 : u = u2 := by injection y1 with y1; simpa using y1
     subst y3 hq hp
     have q0 := ((hW.r1 hb).cell 0).trans rfl
     have q1 := ((hW.r1 hb).cell 1).trans rfl
     have qf := Blk.froz (hW.r1 hb)
     simp only [List.getElem?_toArray, List.getElem?_cons_zero, List.getElem?_cons_succ] at q0 q1
     clear y1 y2
     have zc : b 3 = true := y6
     have HK := Lib.hid hK
     have HH := Lib.hid (And.intro h0 (And.intro h1 (And.intro h2 (And.intro h9x (And.intro h9b (And.intro hX (hW)))))))
     clear hK hdep h0 h1 h2 h9x h9b hX hW
     refine wpOpIn_step rfl (fun K1 hK1 => ?_)
     go_simp
     obtain ⟨h0, h1, h2, h9x, h9b, hX, hW⟩ := HH.out
     exact hK1 _ _ (HK.out _ _ ⟨_, _, _, _, _, _, _, rfl, fun h => h0 (by simpa using h), fun h => h1 (by simpa using h), fun h => h2 (by simpa using h), fun h => h9x (by simpa using h), fun h => by simpa using h9b (by simpa using h), fun h => absurd (by simpa using h : b 3 = false) (by rw [zc]; decide), by simpa using hW.s10 z5 hb⟩)
    ·injection (show some _ = some op from ho) with ho
     subst ho
     have z6 : b 6 = true := hdep ⟨6, Ground.data⟩ (by simp) (by rfl)
     obtain rfl := h9x z6
     have zc : b 3 = true := h9b z6
     have HK := Lib.hid hK
     have HH := Lib.hid (And.intro h0 (And.intro h1 (And.intro h2 (And.intro h9x (And.intro h9b (And.intro hX (hW)))))))
     clear hK hdep h0 h1 h2 h9x h9b hX hW
     refine wpOpIn_step rfl (fun K1 hK1 => ?_)
     go_simp
     obtain ⟨h0, h1, h2, h9x, h9b, hX, hW⟩ := HH.out
     exact hK1 _ _ (HK.out _ _ ⟨_, _, _, _, _, _, _, rfl, fun h => h0 (by simpa using h), fun h => h1 (by simpa using h), fun h => h2 (by simpa using h), fun h => h9x (by simpa using h), fun h => by simpa using h9b (by simpa using h), fun h => absurd (by simpa using h : b 3 = false) (by rw [zc]; decide), by simpa using hW⟩)
   case hQ =>
    rintro b ax V hall ⟨s67, s68, s69, s70, s71, s72, s73, rfl, h0, h1, h2, h9x, h9b, hX, hW⟩
    obtain ⟨x8, u, x1, x2⟩ := hW.v10 (hall 7 (by decide))
    have HO := Lib.hid (And.intro (hW.v6 (hall 3 (by decide))) (And.intro x1 hW.bel))
    have e0 := x2.cell 0
    have e1 := x2.cell 1
    simp only [List.getElem?_toArray, List.getElem?_cons_zero, List.getElem?_cons_succ] at e0 e1
    clear hall x8 x1 x2 h0 h1 h2 h9x h9b hX hW
    go_wp2_with fail
    exact bodyPost_ret (v := .tuple #[.agg #[u, s70], .int .i64 0]) (by simp [results, Tryz.results39, go_sem, e0, e1]) rfl ⟨_, rfl, ⟨_, _, rfl, HO.out.2.1, HO.out.1⟩, HO.out.2.2⟩
end Go.Proofs.YtknnleiinhdklaaGreatDoor
