/-
  Walk of package mean: item at a fold. Condition: the values read as arrays; the function answers.   Walk of package mean: item at a function of two arrays. Condition: the values read as arrays; the function answers.   Walk of package mean: item at a number. Condition: the values read as arrays; the function answers.   Walk of package mean: item at a name. Condition: the values read as arrays; the function answers.
-/
import Derived.Test.YtknnleiinhdklaaGreatDoorPk42
namespace Go.Proofs.YtknnleiinhdklaaGreatDoor
section
open Go.RowKit Go.Shelf Go.Sort Go.Maps
set_option maxHeartbeats 8000000 in
set_option maxRecDepth 100000 in
theorem item_fold {base kr km work : Nat} {fn : Nat} {x y : Arr} (w : World) (v : Value) (us : List (Value × Value)) (r : List Arr) (ia : Int) (nm : List UInt8) (vn : Value)
  (hF : ∀ (u : Value) (W : World), ArrV W u x → Calls Tryz.prog 40 #[.int .u8 fn, u] W (PrimPost y W)) (hy : y.data.length ≤ 65536)
  (hK : Blk w kr 76 #[.map (some km), .int .i64 work]) (hwk : work ≤ 983040) (hb : base ≤ kr) (hS : StkV w base v us (r ++ [x])) (hl : r.length ≤ 20) :
  Calls Tryz.prog 22 #[.pointer (some ⟨kr, 0, none⟩), .agg #[.int .i64 5, .int .i64 ia, .int .u8 fn, .string (mkS nm), vn], v] w (ItemPost base kr km work (r ++ [y]) w) := by
 obtain ⟨j0, pi, pz0, pz1, pz2⟩ := info_parts info_arr
 obtain ⟨g, c, ⟨u1, u2⟩, rfl, hu, hc1, hc2, hg0, hg, c0, c1, hu2⟩ := hS.at (i := r.length) (x := x) (by simp)
 have HF : Hid (∀ W, Below w.heap.size w W → Calls Tryz.prog 40 #[.int .u8 fn, .agg #[u1, u2]] W (PrimPost y W)) := Lib.hid (fun W hb => hF _ W (hu2.v.below hb))
 have HS := Lib.hid hS
 have HK := Lib.hid hK
 obtain ⟨k, hk⟩ : ∃ k, k = r.length := ⟨_, rfl⟩
 obtain ⟨m, hm⟩ : ∃ m, m = (r ++ [x]).length := ⟨_, rfl⟩
 have hmk : m = k + 1 := by rw [hm, hk, List.length_append]; rfl
 rw [← hm] at hc1 ⊢
 rw [← hk] at c0 c1 hl
 have HM := Lib.hid (And.intro hk (And.intro hm hmk))
 have hkr := hK.lt
 have HB := Lib.hid hb
 dsimp only at c0 c1
 clear hF hS hK hu hu2 hb hk hm
 obtain ⟨m1, m2⟩ := wr_last hmk (by omega)
 have mI : (k : Int) < m := by omega
 have mI0 : (0 : Int) ≤ k := by omega
 have hmb : m ≤ 21 := by omega
 have hkc : k ≤ c := by omega
 have HMk := Lib.hid hmk
 clear hmk
 have HA0 := Lib.hid ((Below.refl _ w).alloc (Nat.le_refl _) (.cells #[.int .i64 5, .int .i64 ia, .int .u8 fn, .string (mkS nm), vn] 71))
 have HA1 := Lib.hid (HA0.out.alloc (by simp) (.cells #[.slice none 0 0, .slice none 0 0] 24))
 have HI1 : Hid (ItmAt w ((w.alloc (.cells #[.int .i64 5, .int .i64 ia, .int .u8 fn, .string (mkS nm), vn] 71)).alloc (.cells #[.slice none 0 0, .slice none 0 0] 24)) kr km work (.slice none 0 0) (.slice none 0 0)) := Lib.hid ⟨HA1.out, Blk.new _ _ _ (by simp), (HK.out.alloc _).alloc _⟩
 have HX1 : Hid (Blk ((w.alloc (.cells #[.int .i64 5, .int .i64 ia, .int .u8 fn, .string (mkS nm), vn] 71)).alloc (.cells #[.slice none 0 0, .slice none 0 0] 24)) w.heap.size 71 #[.int .i64 5, .int .i64 ia, .int .u8 fn, .string (mkS nm), vn]) := Lib.hid ((Blk.new w _ _ rfl).alloc _)
 go_enter Tryz.func22, Tryz.ntmps22
 go_upto_region 19 with fail
 obtain ⟨W1, hW1⟩ : ∃ W, W = (w.alloc (.cells #[.int .i64 5, .int .i64 ia, .int .u8 fn, .string (mkS nm), vn] 71)).alloc (.cells #[.slice none 0 0, .slice none 0 0] 24) := ⟨_, rfl⟩
 rw [← hW1] at HI1 HX1 HA1
 rw [← hW1]
 have x2 := HX1.out.cell 2 |>.trans (show _ = some (Value.int .u8 fn) from rfl)
 have d0 := (HA1.out.cell (p := ⟨g, k * 2, none⟩) hg).trans c0
 have d1 := (HA1.out.cell (p := ⟨g, k * 2 + 1, none⟩) hg).trans c1
 have l1 : w.heap.size < W1.heap.size := HX1.out.lt
 have l2 : g < W1.heap.size := Nat.lt_of_lt_of_le hg HA1.out.size
 have hgn : ¬ g = w.heap.size + 1 := by omega
 have hgn2 : ¬ w.heap.size + 1 = g := by omega
 clear hW1 c0 c1 HA0
 go_region_held3 (fun wy => wy.cell? ⟨w.heap.size, 2, none⟩ = some (.int .u8 fn) ∧ wy.cell? ⟨g, k * 2, none⟩ = some u1 ∧ wy.cell? ⟨g, k * 2 + 1, none⟩ = some u2)
  (first | go_keep)
  (first | (go_at_call 40; refine (HF.out _ (by repeat (first | exact HA1.out | refine Below.drew ?_ | refine below_drewN' ?_ _))).mono ?_; rintro _ w9 ⟨_, rfl, ⟨vs, vd, rfl, hz1, hz2⟩, hb9⟩; have HI9 : Hid (ItmAt w w9 kr km work (.slice none 0 0) (.slice none 0 0)) := Lib.hid (ItmAt.below (by repeat (first | exact HI1.out | refine ItmAt.draws ?_ _ | refine ItmAt.drew ?_)) hb9); obtain ⟨an, cn, hfn⟩ := hz2.form; obtain ⟨az, cz, hfs⟩ := hz1.form; subst hfn hfs; have HZ := Lib.hid (And.intro hz1 hz2); clear hz1 hz2; have f9 : ∀ o, w9.frozen? ⟨w.heap.size + 1, o, none⟩ = false := fun o => HI9.out.res.froz o; have g0 := HI9.out.res.cell 0 |>.trans (show _ = some (Value.slice none 0 0) from rfl); have g1 := HI9.out.res.cell 1 |>.trans (show _ = some (Value.slice none 0 0) from rfl); have x2' : w9.cell? ⟨w.heap.size, 2, none⟩ = some (.int .u8 fn) := (hb9.cell (p := ⟨w.heap.size, 2, none⟩) l1).trans x2; have d0' : w9.cell? ⟨g, k * 2, none⟩ = some u1 := (hb9.cell (p := ⟨g, k * 2, none⟩) l2).trans d0; have d1' : w9.cell? ⟨g, k * 2 + 1, none⟩ = some u2 := (hb9.cell (p := ⟨g, k * 2 + 1, none⟩) l2).trans d1; have HB9 := Lib.hid hb9; clear hb9))
 clear x2 d0 d1 x2' d0' d1' l1 l2 g0 g1 f9
 rename_i hh
 have HM1 := Lib.hid (And.intro m1 m2)
 clear hh m1 m2
 have HZ9 : Hid (ArrK w9 base (.agg #[.slice az (ofN y.sides).length cz, .slice an y.data.length cn]) y) := Lib.hid ⟨_, _, rfl, .own HZ.out.1, .own HZ.out.2⟩
 generalize (ofN y.sides).length = ns at *
 generalize y.data.length = n at *
 obtain ⟨W3, hW3⟩ : ∃ W, W = (w9.setCell ⟨w.heap.size + 1, 0, none⟩ (.slice az ns cz)).setCell ⟨w.heap.size + 1, 1, none⟩ (.slice an n cn) := ⟨_, rfl⟩
 have HI3 : Hid (ItmAt w W3 kr km work (.slice az ns cz) (.slice an n cn) ∧ FrI w.heap.size w9 W3) := Lib.hid (by rw [hW3]; exact HI9.out.put hkr _ _)
 rw [← hW3]
 clear hW3 HZ HB9 HI1 HX1 HF HK HA1 hgn hgn2
 have r1 := HI3.out.1.run.cell 1 |>.trans (show _ = some (Value.int .i64 work) from rfl)
 have e1 := HI3.out.1.res.cell 1 |>.trans (show _ = some (Value.slice an n cn) from rfl)
 have f1 : ∀ o, W3.frozen? ⟨kr, o, none⟩ = false := fun o => HI3.out.1.run.froz o
 go_upto_region 31 with fail
 obtain ⟨hle, hle2, hw6, hn6⟩ := work_le hwk hy
 obtain ⟨s1, s2⟩ := wr_add work n hw6 hn6
 obtain ⟨N, hN⟩ : ∃ N, N = work + n := ⟨_, rfl⟩
 have HNw := Lib.hid hN
 rw [← hN] at s1 s2 hle hle2
 clear hN hw6 hn6
 go_still_tail 10, (by kernel_rfl)
 change wpList _ _ _ _ _ W3.drew
 go_upto_region 34 with fail
 obtain ⟨W4, hW4⟩ : ∃ W, W = (W3.setCell ⟨kr, 1, none⟩ (.int .i64 N)).drew := ⟨_, rfl⟩
 have HE4 : Hid (ItmEnd w W4 base kr km N (.slice az ns cz) (.slice an n cn) ∧ FrI base W3 W4) := Lib.hid (by rw [hW4]; exact HI3.out.1.work hkr HB.out N)
 rw [← hW4]
 clear hW4 r1 e1 f1 s1 s2 hle hle2
 have HS4 : Hid (StkV W4 base (.slice (some ⟨g, 0, none⟩) m c) us (r ++ [x])) := Lib.hid (by have h := HS.out.keep HE4.out.1.fr HE4.out.1.kt; rw [← HM.out.2.1] at h; exact h)
 have HZ4 : Hid (ArrK W4 base (.agg #[.slice az ns cz, .slice an n cn]) y) := Lib.hid (HZ9.out.keep ((HI3.out.2.mono (by have := HB.out; omega)).trans HE4.out.2))
 have HBs : Hid (base ≤ W4.heap.size) := Lib.hid (by have := HB.out; have := HE4.out.1.fr.size; omega)
 have HLow := Lib.hid (HS4.out.lows (k := k) (by have := HM.out; omega) HBs.out)
 have b0 := HE4.out.1.res.cell 0 |>.trans (show _ = some (.slice az ns cz) from rfl)
 have b1 := HE4.out.1.res.cell 1 |>.trans (show _ = some (Value.slice an n cn) from rfl)
 obtain ⟨m1, m2⟩ := HM1.out
 clear HI3 HI9 HZ9
 go_region_law (refine step_append_grows (by rfl) _ _ _ (by rfl) 24 j0 (.agg #[.slice none 0 0, .slice none 0 0]) 2 48 Tryz.underlying27 pi pz0 pz1 pz2 rfl (by decide) (some ⟨g, 0, none⟩) k k ((prs us).take (k * 2)) (by rfl) (fun h => by cases h) HLow.out.1 (fun b h => by injection h with h; subst h; exact HLow.out.2 _ (((Below.refl _ _).drew).alloc (Nat.le_refl _) _)) ⟨W4.heap.size, 0, none⟩ 1 1 [.slice az ns cz, .slice an n cn] (by rfl) (by rfl) (World.news_of_block (cs := #[.slice az ns cz, .slice an n cn]) (t := 24) (fr := (0, 0)) (heap_alloc_new W4.drew _)) (by simp [Value.oneCell']) (by omega) (by unfold maxLen; omega) (by omega) ?_; intro v5 W5 hown hgrow; have HO5 := Lib.hid hown; have HG5 := Lib.hid hgrow; clear hown hgrow)
 all_goals
  have HD4 : Hid (Below W4.heap.size W4 (W4.drew.alloc (.cells #[.slice az ns cz, .slice an n cn] 24))) := Lib.hid ((Below.refl _ _).drew.alloc (Nat.le_refl _) _)
  go_wp2_with fail
  refine bodyPost_ret (v := .tuple #[v5, .int .i64 0]) (by simp [results, Tryz.results22, go_sem]) rfl ⟨v5, us.take r.length ++ [(.slice az ns cz, .slice an n cn)], N, rfl, ?_, ?_, by have := HNw.out; omega, ?_, fun b hb => Nat.le_trans (Nat.le_trans HE4.out.1.gb.size HD4.out.size) (HO5.out.lt b hb).1⟩
  ·have hk := HM.out.1
   subst hk
   exact HS4.out.push ((FrI.below HD4.out HBs.out).trans (FrI.none HG5.out (Nat.le_trans HBs.out HD4.out.size))) ((HZ4.out.keep (FrI.below HD4.out HBs.out)).keep (FrI.none HG5.out (Nat.le_trans HBs.out HD4.out.size))) (Nat.le_trans HBs.out HD4.out.size) HO5.out
  ·exact ((HE4.out.1.run.below HD4.out).keep (KeepTag.gb0 HG5.out))
  ·exact gb_trans (gb_then HE4.out.1.gb HD4.out) ⟨HG5.out.os, HG5.out.tape, HG5.out.output, HG5.out.size, fun j hj _ => HG5.out.block j hj (fun e => by cases e)⟩
end
section
open Go.RowKit Go.Shelf Go.Sort Go.Maps
set_option maxHeartbeats 8000000 in
set_option maxRecDepth 100000 in
theorem item_dyad {base kr km work : Nat} {fn : Nat} {x y z : Arr} (w : World) (v : Value) (us : List (Value × Value)) (r : List Arr) (ia : Int) (nm : List UInt8) (vn : Value)
  (hF : ∀ (u u' : Value) (W : World), ArrV W u x → ArrV W u' y → Calls Tryz.prog 42 #[.int .u8 fn, u, u'] W (PrimPost z W)) (hy : z.data.length ≤ 65536)
  (hK : Blk w kr 76 #[.map (some km), .int .i64 work]) (hwk : work ≤ 983040) (hb : base ≤ kr) (hS : StkV w base v us (r ++ [x, y])) (hl : r.length ≤ 20) :
  Calls Tryz.prog 22 #[.pointer (some ⟨kr, 0, none⟩), .agg #[.int .i64 4, .int .i64 ia, .int .u8 fn, .string (mkS nm), vn], v] w (ItemPost base kr km work (r ++ [z]) w) := by
 obtain ⟨j0, pi, pz0, pz1, pz2⟩ := info_parts info_arr
 obtain ⟨g, c, ⟨u1, u2⟩, rfl, hu, hc1, hc2, hg0, hg, c0, c1, hu2⟩ := hS.at (i := r.length) (x := x) (by simp)
 obtain ⟨g', c', ⟨u3, u4⟩, he', hu', _, _, _, _, c2, c3, hu4⟩ := hS.at (i := r.length + 1) (x := y) (by simp)
 have hgg : g = g' := by injection he' with h; injection h with h; injection h
 subst hgg
 clear he'
 have HF : Hid (∀ W, Below w.heap.size w W → Calls Tryz.prog 42 #[.int .u8 fn, .agg #[u1, u2], .agg #[u3, u4]] W (PrimPost z W)) := Lib.hid (fun W hb => hF _ _ W (hu2.v.below hb) (hu4.v.below hb))
 have HS := Lib.hid hS
 have HK := Lib.hid hK
 obtain ⟨k, hk⟩ : ∃ k, k = r.length := ⟨_, rfl⟩
 obtain ⟨q, hq⟩ : ∃ q, q = r.length + 1 := ⟨_, rfl⟩
 obtain ⟨m, hm⟩ : ∃ m, m = (r ++ [x, y]).length := ⟨_, rfl⟩
 have hmk : m = k + 2 := by rw [hm, hk, List.length_append]; rfl
 have hmq : m = q + 1 := by omega
 rw [← hm] at hc1 ⊢
 rw [← hk] at c0 c1 hl
 rw [← hq] at c2 c3
 have HM := Lib.hid (And.intro hk (And.intro hm hmk))
 have hkr := hK.lt
 have HB := Lib.hid hb
 dsimp only at c0 c1 c2 c3
 clear hF hS hK hu hu2 hu' hu4 hb hk hm hq
 obtain ⟨m1, m2⟩ := wr_last hmq (by omega)
 obtain ⟨m3, m4⟩ := wr_last2 hmk (by omega)
 have mI : (k : Int) < m := by omega
 have mI0 : (0 : Int) ≤ k := by omega
 have mI1 : (q : Int) < m := by omega
 have mI2 : (0 : Int) ≤ q := by omega
 have hmb : m ≤ 22 := by omega
 have hkc : k ≤ c := by omega
 have HMk := Lib.hid (And.intro hmk hmq)
 clear hmk hmq
 have HA0 := Lib.hid ((Below.refl _ w).alloc (Nat.le_refl _) (.cells #[.int .i64 4, .int .i64 ia, .int .u8 fn, .string (mkS nm), vn] 71))
 have HA1 := Lib.hid (HA0.out.alloc (by simp) (.cells #[.slice none 0 0, .slice none 0 0] 24))
 have HI1 : Hid (ItmAt w ((w.alloc (.cells #[.int .i64 4, .int .i64 ia, .int .u8 fn, .string (mkS nm), vn] 71)).alloc (.cells #[.slice none 0 0, .slice none 0 0] 24)) kr km work (.slice none 0 0) (.slice none 0 0)) := Lib.hid ⟨HA1.out, Blk.new _ _ _ (by simp), (HK.out.alloc _).alloc _⟩
 have HX1 : Hid (Blk ((w.alloc (.cells #[.int .i64 4, .int .i64 ia, .int .u8 fn, .string (mkS nm), vn] 71)).alloc (.cells #[.slice none 0 0, .slice none 0 0] 24)) w.heap.size 71 #[.int .i64 4, .int .i64 ia, .int .u8 fn, .string (mkS nm), vn]) := Lib.hid ((Blk.new w _ _ rfl).alloc _)
 go_enter Tryz.func22, Tryz.ntmps22
 go_upto_region 25 with fail
 obtain ⟨W1, hW1⟩ : ∃ W, W = (w.alloc (.cells #[.int .i64 4, .int .i64 ia, .int .u8 fn, .string (mkS nm), vn] 71)).alloc (.cells #[.slice none 0 0, .slice none 0 0] 24) := ⟨_, rfl⟩
 rw [← hW1] at HI1 HX1 HA1
 rw [← hW1]
 have x2 := HX1.out.cell 2 |>.trans (show _ = some (Value.int .u8 fn) from rfl)
 have d0 := (HA1.out.cell (p := ⟨g, k * 2, none⟩) hg).trans c0
 have d1 := (HA1.out.cell (p := ⟨g, k * 2 + 1, none⟩) hg).trans c1
 have d2 := (HA1.out.cell (p := ⟨g, q * 2, none⟩) hg).trans c2
 have d3 := (HA1.out.cell (p := ⟨g, q * 2 + 1, none⟩) hg).trans c3
 have l1 : w.heap.size < W1.heap.size := HX1.out.lt
 have l2 : g < W1.heap.size := Nat.lt_of_lt_of_le hg HA1.out.size
 have hgn : ¬ g = w.heap.size + 1 := by omega
 have hgn2 : ¬ w.heap.size + 1 = g := by omega
 clear hW1 c0 c1 c2 c3 HA0
 go_region_held3 (fun wy => wy.cell? ⟨w.heap.size, 2, none⟩ = some (.int .u8 fn) ∧ wy.cell? ⟨g, k * 2, none⟩ = some u1 ∧ wy.cell? ⟨g, k * 2 + 1, none⟩ = some u2 ∧ wy.cell? ⟨g, q * 2, none⟩ = some u3 ∧ wy.cell? ⟨g, q * 2 + 1, none⟩ = some u4)
  (first | go_keep)
  (first | (go_at_call 42; refine (HF.out _ (by repeat (first | exact HA1.out | refine Below.drew ?_ | refine below_drewN' ?_ _))).mono ?_; rintro _ w9 ⟨_, rfl, ⟨vs, vd, rfl, hz1, hz2⟩, hb9⟩; have HI9 : Hid (ItmAt w w9 kr km work (.slice none 0 0) (.slice none 0 0)) := Lib.hid (ItmAt.below (by repeat (first | exact HI1.out | refine ItmAt.draws ?_ _ | refine ItmAt.drew ?_)) hb9); obtain ⟨an, cn, hfn⟩ := hz2.form; obtain ⟨az, cz, hfs⟩ := hz1.form; subst hfn hfs; have HZ := Lib.hid (And.intro hz1 hz2); clear hz1 hz2; have f9 : ∀ o, w9.frozen? ⟨w.heap.size + 1, o, none⟩ = false := fun o => HI9.out.res.froz o; have g0 := HI9.out.res.cell 0 |>.trans (show _ = some (Value.slice none 0 0) from rfl); have g1 := HI9.out.res.cell 1 |>.trans (show _ = some (Value.slice none 0 0) from rfl); have x2' : w9.cell? ⟨w.heap.size, 2, none⟩ = some (.int .u8 fn) := (hb9.cell (p := ⟨w.heap.size, 2, none⟩) l1).trans x2; have d0' : w9.cell? ⟨g, k * 2, none⟩ = some u1 := (hb9.cell (p := ⟨g, k * 2, none⟩) l2).trans d0; have d1' : w9.cell? ⟨g, k * 2 + 1, none⟩ = some u2 := (hb9.cell (p := ⟨g, k * 2 + 1, none⟩) l2).trans d1; have d2' : w9.cell? ⟨g, q * 2, none⟩ = some u3 := (hb9.cell (p := ⟨g, q * 2, none⟩) l2).trans d2; have d3' : w9.cell? ⟨g, q * 2 + 1, none⟩ = some u4 := (hb9.cell (p := ⟨g, q * 2 + 1, none⟩) l2).trans d3; have HB9 := Lib.hid hb9; clear hb9))
 clear x2 d0 d1 d2 d3 x2' d0' d1' d2' d3' l1 l2 g0 g1 f9
 rename_i hh
 have HM1 := Lib.hid (And.intro m3 m4)
 clear hh m1 m2 m3 m4 mI1 mI2
 have HZ9 : Hid (ArrK w9 base (.agg #[.slice az (ofN z.sides).length cz, .slice an z.data.length cn]) z) := Lib.hid ⟨_, _, rfl, .own HZ.out.1, .own HZ.out.2⟩
 generalize (ofN z.sides).length = ns at *
 generalize z.data.length = n at *
 obtain ⟨W3, hW3⟩ : ∃ W, W = (w9.setCell ⟨w.heap.size + 1, 0, none⟩ (.slice az ns cz)).setCell ⟨w.heap.size + 1, 1, none⟩ (.slice an n cn) := ⟨_, rfl⟩
 have HI3 : Hid (ItmAt w W3 kr km work (.slice az ns cz) (.slice an n cn) ∧ FrI w.heap.size w9 W3) := Lib.hid (by rw [hW3]; exact HI9.out.put hkr _ _)
 rw [← hW3]
 clear hW3 HZ HB9 HI1 HX1 HF HK HA1 hgn hgn2
 have r1 := HI3.out.1.run.cell 1 |>.trans (show _ = some (Value.int .i64 work) from rfl)
 have e1 := HI3.out.1.res.cell 1 |>.trans (show _ = some (Value.slice an n cn) from rfl)
 have f1 : ∀ o, W3.frozen? ⟨kr, o, none⟩ = false := fun o => HI3.out.1.run.froz o
 go_upto_region 31 with fail
 obtain ⟨hle, hle2, hw6, hn6⟩ := work_le hwk hy
 obtain ⟨s1, s2⟩ := wr_add work n hw6 hn6
 obtain ⟨N, hN⟩ : ∃ N, N = work + n := ⟨_, rfl⟩
 have HNw := Lib.hid hN
 rw [← hN] at s1 s2 hle hle2
 clear hN hw6 hn6
 go_still_tail 10, (by kernel_rfl)
 change wpList _ _ _ _ _ W3.drew
 go_upto_region 34 with fail
 obtain ⟨W4, hW4⟩ : ∃ W, W = (W3.setCell ⟨kr, 1, none⟩ (.int .i64 N)).drew := ⟨_, rfl⟩
 have HE4 : Hid (ItmEnd w W4 base kr km N (.slice az ns cz) (.slice an n cn) ∧ FrI base W3 W4) := Lib.hid (by rw [hW4]; exact HI3.out.1.work hkr HB.out N)
 rw [← hW4]
 clear hW4 r1 e1 f1 s1 s2 hle hle2
 have HS4 : Hid (StkV W4 base (.slice (some ⟨g, 0, none⟩) m c) us (r ++ [x, y])) := Lib.hid (by have h := HS.out.keep HE4.out.1.fr HE4.out.1.kt; rw [← HM.out.2.1] at h; exact h)
 have HZ4 : Hid (ArrK W4 base (.agg #[.slice az ns cz, .slice an n cn]) z) := Lib.hid (HZ9.out.keep ((HI3.out.2.mono (by have := HB.out; omega)).trans HE4.out.2))
 have HBs : Hid (base ≤ W4.heap.size) := Lib.hid (by have := HB.out; have := HE4.out.1.fr.size; omega)
 have HLow := Lib.hid (HS4.out.lows (k := k) (by have := HM.out; omega) HBs.out)
 have b0 := HE4.out.1.res.cell 0 |>.trans (show _ = some (.slice az ns cz) from rfl)
 have b1 := HE4.out.1.res.cell 1 |>.trans (show _ = some (Value.slice an n cn) from rfl)
 obtain ⟨m1, m2⟩ := HM1.out
 clear HI3 HI9 HZ9
 go_region_law (refine step_append_grows (by rfl) _ _ _ (by rfl) 24 j0 (.agg #[.slice none 0 0, .slice none 0 0]) 2 48 Tryz.underlying27 pi pz0 pz1 pz2 rfl (by decide) (some ⟨g, 0, none⟩) k k ((prs us).take (k * 2)) (by rfl) (fun h => by cases h) HLow.out.1 (fun b h => by injection h with h; subst h; exact HLow.out.2 _ (((Below.refl _ _).drew).alloc (Nat.le_refl _) _)) ⟨W4.heap.size, 0, none⟩ 1 1 [.slice az ns cz, .slice an n cn] (by rfl) (by rfl) (World.news_of_block (cs := #[.slice az ns cz, .slice an n cn]) (t := 24) (fr := (0, 0)) (heap_alloc_new W4.drew _)) (by simp [Value.oneCell']) (by omega) (by unfold maxLen; omega) (by omega) ?_; intro v5 W5 hown hgrow; have HO5 := Lib.hid hown; have HG5 := Lib.hid hgrow; clear hown hgrow)
 all_goals
  have HD4 : Hid (Below W4.heap.size W4 (W4.drew.alloc (.cells #[.slice az ns cz, .slice an n cn] 24))) := Lib.hid ((Below.refl _ _).drew.alloc (Nat.le_refl _) _)
  go_wp2_with fail
  refine bodyPost_ret (v := .tuple #[v5, .int .i64 0]) (by simp [results, Tryz.results22, go_sem]) rfl ⟨v5, us.take r.length ++ [(.slice az ns cz, .slice an n cn)], N, rfl, ?_, ?_, by have := HNw.out; omega, ?_, fun b hb => Nat.le_trans (Nat.le_trans HE4.out.1.gb.size HD4.out.size) (HO5.out.lt b hb).1⟩
  ·have hk := HM.out.1
   subst hk
   exact HS4.out.push ((FrI.below HD4.out HBs.out).trans (FrI.none HG5.out (Nat.le_trans HBs.out HD4.out.size))) ((HZ4.out.keep (FrI.below HD4.out HBs.out)).keep (FrI.none HG5.out (Nat.le_trans HBs.out HD4.out.size))) (Nat.le_trans HBs.out HD4.out.size) HO5.out
  ·exact ((HE4.out.1.run.below HD4.out).keep (KeepTag.gb0 HG5.out))
  ·exact gb_trans (gb_then HE4.out.1.gb HD4.out) ⟨HG5.out.os, HG5.out.tape, HG5.out.output, HG5.out.size, fun j hj _ => HG5.out.block j hj (fun e => by cases e)⟩
end
section
open Go.RowKit Go.Shelf Go.Sort Go.Maps
set_option maxHeartbeats 8000000 in
set_option maxRecDepth 100000 in
theorem item_num0 {base kr km work : Nat} {fn : Nat} (w : World) (ia : Int) (nm : List UInt8) (vn : Value) (kk : Int) (hn : IntsS w vn [kk])
  (hK : Blk w kr 76 #[.map (some km), .int .i64 work]) (hwk : work ≤ 983040) (hb : base ≤ kr) :
  Calls Tryz.prog 22 #[.pointer (some ⟨kr, 0, none⟩), .agg #[.int .i64 1, .int .i64 ia, .int .u8 fn, .string (mkS nm), vn], .slice none 0 0] w (ItemPost base kr km work ([] ++ [⟨[], [kk]⟩]) w) := by
 obtain ⟨j0, pi, pz0, pz1, pz2⟩ := info_parts info_arr
 have HC := Lib.hid (fun W (hb : Below w.heap.size w W) => clone_any vn [kk] W (hn.below hb) (by simp))
 obtain ⟨a0, c0, rfl⟩ := hn.form
 have HK := Lib.hid hK
 have HB := Lib.hid hb
 have hkr := hK.lt
 have HS := Lib.hid (StkV.nil w base)
 obtain ⟨y, hy0⟩ : ∃ y : Arr, y = ⟨[], [kk]⟩ := ⟨_, rfl⟩
 rw [← hy0]
 have HY := Lib.hid hy0
 obtain ⟨n, hn1⟩ : ∃ n, n = [kk].length := ⟨_, rfl⟩
 have hn2 : n = 1 := hn1
 have hy : n ≤ 65536 := by omega
 have n1 : ¬ (1 : Int) < (n : Int) := by omega
 have n2 : decide ((1 : Int) < (n : Int)) = false := decide_eq_false n1
 have HN1 := Lib.hid hn1
 clear hn hK hb hy0 hn1 hn2
 simp only [List.length_cons, List.length_nil, Nat.zero_add]
 have HA0 := Lib.hid ((Below.refl _ w).alloc (Nat.le_refl _) (.cells #[.int .i64 1, .int .i64 ia, .int .u8 fn, .string (mkS nm), .slice a0 1 c0] 71))
 have HA1 := Lib.hid (HA0.out.alloc (by simp) (.cells #[.slice none 0 0, .slice none 0 0] 24))
 have HI1 : Hid (ItmAt w ((w.alloc (.cells #[.int .i64 1, .int .i64 ia, .int .u8 fn, .string (mkS nm), .slice a0 1 c0] 71)).alloc (.cells #[.slice none 0 0, .slice none 0 0] 24)) kr km work (.slice none 0 0) (.slice none 0 0)) := Lib.hid ⟨HA1.out, Blk.new _ _ _ (by simp), (HK.out.alloc _).alloc _⟩
 go_enter Tryz.func22, Tryz.ntmps22
 go_upto_region 9 with (go_at_call 23; refine (HC.out _ HA1.out).mono ?_; rintro _ w9 ⟨_, rfl, hz, hb9⟩; have HI9 : Hid (ItmAt w w9 kr km work (.slice none 0 0) (.slice none 0 0)) := Lib.hid (HI1.out.below hb9); obtain ⟨an, cn, hfn⟩ := hz.form; rw [← HN1.out] at hfn; subst hfn; have HZ := Lib.hid hz; have f9 : ∀ o, w9.frozen? ⟨w.heap.size + 1, o, none⟩ = false := fun o => HI9.out.res.froz o; have g0 := HI9.out.res.cell 0 |>.trans (show _ = some (Value.slice none 0 0) from rfl); have g1 := HI9.out.res.cell 1 |>.trans (show _ = some (Value.slice none 0 0) from rfl); clear hb9 hz)
 clear g0 g1 f9 n1 n2
 have HZ9 : Hid (ArrK w9 base (.agg #[.slice none 0 0, .slice an n cn]) y) := Lib.hid (by rw [HY.out]; exact ⟨_, _, rfl, .own (IntsO.nil w9 0), .own HZ.out⟩)
 obtain ⟨W3, hW3⟩ : ∃ W, W = w9.setCell ⟨w.heap.size + 1, 1, none⟩ (.slice an n cn) := ⟨_, rfl⟩
 have HI3 : Hid (ItmAt w W3 kr km work (.slice none 0 0) (.slice an n cn) ∧ FrI w.heap.size w9 W3) := Lib.hid (by rw [hW3]; exact HI9.out.put1 hkr _)
 rw [← hW3]
 clear hW3 HZ HI1 HK HC HA0 HA1
 have r1 := HI3.out.1.run.cell 1 |>.trans (show _ = some (Value.int .i64 work) from rfl)
 have e1 := HI3.out.1.res.cell 1 |>.trans (show _ = some (Value.slice an n cn) from rfl)
 have f1 : ∀ o, W3.frozen? ⟨kr, o, none⟩ = false := fun o => HI3.out.1.run.froz o
 go_upto_region 31 with fail
 obtain ⟨hle, hle2, hw6, hn6⟩ := work_le hwk hy
 obtain ⟨s1, s2⟩ := wr_add work n hw6 hn6
 obtain ⟨N, hN⟩ : ∃ N, N = work + n := ⟨_, rfl⟩
 have HNw := Lib.hid hN
 rw [← hN] at s1 s2 hle hle2
 clear hN hw6 hn6
 go_still_tail 10, (by kernel_rfl)
 change wpList _ _ _ _ _ W3.drew
 go_upto_region 34 with fail
 obtain ⟨W4, hW4⟩ : ∃ W, W = (W3.setCell ⟨kr, 1, none⟩ (.int .i64 N)).drew := ⟨_, rfl⟩
 have HE4 : Hid (ItmEnd w W4 base kr km N (.slice none 0 0) (.slice an n cn) ∧ FrI base W3 W4) := Lib.hid (by rw [hW4]; exact HI3.out.1.work hkr HB.out N)
 rw [← hW4]
 clear hW4 r1 e1 f1 s1 s2 hle hle2
 have HS4 : Hid (StkV W4 base (.slice none 0 0) [] []) := Lib.hid (by have h := HS.out.keep HE4.out.1.fr HE4.out.1.kt; exact h)
 have HZ4 : Hid (ArrK W4 base (.agg #[.slice none 0 0, .slice an n cn]) y) := Lib.hid (HZ9.out.keep ((HI3.out.2.mono (by have := HB.out; omega)).trans HE4.out.2))
 have HBs : Hid (base ≤ W4.heap.size) := Lib.hid (by have := HB.out; have := HE4.out.1.fr.size; omega)
 have b0 := HE4.out.1.res.cell 0 |>.trans (show _ = some (.slice none 0 0) from rfl)
 have b1 := HE4.out.1.res.cell 1 |>.trans (show _ = some (Value.slice an n cn) from rfl)
 have z0 : IntKind.i64.wrap 0 = 0 := by rw [IntKind.wrap_i64]; rfl
 clear HI3 HI9 HZ9
 go_region_law (refine step_append_grows (by rfl) _ _ _ (by rfl) 24 j0 (.agg #[.slice none 0 0, .slice none 0 0]) 2 48 Tryz.underlying27 pi pz0 pz1 pz2 rfl (by decide) none 0 0 [] (by rfl) (fun _ => ⟨rfl, rfl⟩) rfl (fun b h => by cases h) ⟨W4.heap.size, 0, none⟩ 1 1 [.slice none 0 0, .slice an n cn] (by rfl) (by rfl) (World.news_of_block (cs := #[.slice none 0 0, .slice an n cn]) (t := 24) (fr := (0, 0)) (heap_alloc_new W4.drew _)) (by simp [Value.oneCell']) (by omega) (by unfold maxLen; omega) (by omega) ?_; intro v5 W5 hown hgrow; have HO5 := Lib.hid hown; have HG5 := Lib.hid hgrow; clear hown hgrow)
 all_goals
  have HD4 : Hid (Below W4.heap.size W4 (W4.drew.alloc (.cells #[.slice none 0 0, .slice an n cn] 24))) := Lib.hid ((Below.refl _ _).drew.alloc (Nat.le_refl _) _)
  go_wp2_with fail
  refine bodyPost_ret (v := .tuple #[v5, .int .i64 0]) (by simp [results, Tryz.results22, go_sem]) rfl ⟨v5, [] ++ [(.slice none 0 0, .slice an n cn)], N, rfl, ?_, ?_, by have := HNw.out; omega, ?_, fun b hb => Nat.le_trans (Nat.le_trans HE4.out.1.gb.size HD4.out.size) (HO5.out.lt b hb).1⟩
  ·exact StkV.push (r := []) (s := []) HS4.out ((FrI.below HD4.out HBs.out).trans (FrI.none HG5.out (Nat.le_trans HBs.out HD4.out.size))) ((HZ4.out.keep (FrI.below HD4.out HBs.out)).keep (FrI.none HG5.out (Nat.le_trans HBs.out HD4.out.size))) (Nat.le_trans HBs.out HD4.out.size) HO5.out
  ·exact ((HE4.out.1.run.below HD4.out).keep (KeepTag.gb0 HG5.out))
  ·exact gb_trans (gb_then HE4.out.1.gb HD4.out) ⟨HG5.out.os, HG5.out.tape, HG5.out.output, HG5.out.size, fun j hj _ => HG5.out.block j hj (fun e => by cases e)⟩
set_option maxHeartbeats 8000000 in
set_option maxRecDepth 100000 in
theorem item_num1 {base kr km work : Nat} {fn : Nat} (w : World) (g m c : Nat) (us : List (Value × Value)) (st : List Arr) (ia : Int) (nm : List UInt8) (vn : Value) (kk : Int) (hn : IntsS w vn [kk])
  (hK : Blk w kr 76 #[.map (some km), .int .i64 work]) (hwk : work ≤ 983040) (hb : base ≤ kr) (hS : StkV w base (.slice (some ⟨g, 0, none⟩) m c) us st) (hm : m = st.length) (hmb : m ≤ 20) (hmc : m ≤ c) :
  Calls Tryz.prog 22 #[.pointer (some ⟨kr, 0, none⟩), .agg #[.int .i64 1, .int .i64 ia, .int .u8 fn, .string (mkS nm), vn], .slice (some ⟨g, 0, none⟩) m c] w (ItemPost base kr km work (st ++ [⟨[], [kk]⟩]) w) := by
 obtain ⟨j0, pi, pz0, pz1, pz2⟩ := info_parts info_arr
 have HC := Lib.hid (fun W (hb : Below w.heap.size w W) => clone_any vn [kk] W (hn.below hb) (by simp))
 obtain ⟨a0, c0, rfl⟩ := hn.form
 have HK := Lib.hid hK
 have HB := Lib.hid hb
 have hkr := hK.lt
 have HS := Lib.hid hS
 have HM := Lib.hid hm
 obtain ⟨y, hy0⟩ : ∃ y : Arr, y = ⟨[], [kk]⟩ := ⟨_, rfl⟩
 rw [← hy0]
 have HY := Lib.hid hy0
 obtain ⟨n, hn1⟩ : ∃ n, n = [kk].length := ⟨_, rfl⟩
 have hn2 : n = 1 := hn1
 have hy : n ≤ 65536 := by omega
 have n1 : ¬ (1 : Int) < (n : Int) := by omega
 have n2 : decide ((1 : Int) < (n : Int)) = false := decide_eq_false n1
 have HN1 := Lib.hid hn1
 clear hn hK hb hy0 hn1 hn2 hS hm
 simp only [List.length_cons, List.length_nil, Nat.zero_add]
 have HA0 := Lib.hid ((Below.refl _ w).alloc (Nat.le_refl _) (.cells #[.int .i64 1, .int .i64 ia, .int .u8 fn, .string (mkS nm), .slice a0 1 c0] 71))
 have HA1 := Lib.hid (HA0.out.alloc (by simp) (.cells #[.slice none 0 0, .slice none 0 0] 24))
 have HI1 : Hid (ItmAt w ((w.alloc (.cells #[.int .i64 1, .int .i64 ia, .int .u8 fn, .string (mkS nm), .slice a0 1 c0] 71)).alloc (.cells #[.slice none 0 0, .slice none 0 0] 24)) kr km work (.slice none 0 0) (.slice none 0 0)) := Lib.hid ⟨HA1.out, Blk.new _ _ _ (by simp), (HK.out.alloc _).alloc _⟩
 go_enter Tryz.func22, Tryz.ntmps22
 go_upto_region 9 with (go_at_call 23; refine (HC.out _ HA1.out).mono ?_; rintro _ w9 ⟨_, rfl, hz, hb9⟩; have HI9 : Hid (ItmAt w w9 kr km work (.slice none 0 0) (.slice none 0 0)) := Lib.hid (HI1.out.below hb9); obtain ⟨an, cn, hfn⟩ := hz.form; rw [← HN1.out] at hfn; subst hfn; have HZ := Lib.hid hz; have f9 : ∀ o, w9.frozen? ⟨w.heap.size + 1, o, none⟩ = false := fun o => HI9.out.res.froz o; have g0 := HI9.out.res.cell 0 |>.trans (show _ = some (Value.slice none 0 0) from rfl); have g1 := HI9.out.res.cell 1 |>.trans (show _ = some (Value.slice none 0 0) from rfl); clear hb9 hz)
 clear g0 g1 f9 n1 n2
 have HMC := Lib.hid (And.intro hmb hmc)
 clear hmb hmc
 have HZ9 : Hid (ArrK w9 base (.agg #[.slice none 0 0, .slice an n cn]) y) := Lib.hid (by rw [HY.out]; exact ⟨_, _, rfl, .own (IntsO.nil w9 0), .own HZ.out⟩)
 obtain ⟨W3, hW3⟩ : ∃ W, W = w9.setCell ⟨w.heap.size + 1, 1, none⟩ (.slice an n cn) := ⟨_, rfl⟩
 have HI3 : Hid (ItmAt w W3 kr km work (.slice none 0 0) (.slice an n cn) ∧ FrI w.heap.size w9 W3) := Lib.hid (by rw [hW3]; exact HI9.out.put1 hkr _)
 rw [← hW3]
 clear hW3 HZ HI1 HK HC HA0 HA1
 have r1 := HI3.out.1.run.cell 1 |>.trans (show _ = some (Value.int .i64 work) from rfl)
 have e1 := HI3.out.1.res.cell 1 |>.trans (show _ = some (Value.slice an n cn) from rfl)
 have f1 : ∀ o, W3.frozen? ⟨kr, o, none⟩ = false := fun o => HI3.out.1.run.froz o
 go_upto_region 31 with fail
 obtain ⟨hle, hle2, hw6, hn6⟩ := work_le hwk hy
 obtain ⟨s1, s2⟩ := wr_add work n hw6 hn6
 obtain ⟨N, hN⟩ : ∃ N, N = work + n := ⟨_, rfl⟩
 have HNw := Lib.hid hN
 rw [← hN] at s1 s2 hle hle2
 clear hN hw6 hn6
 go_still_tail 10, (by kernel_rfl)
 change wpList _ _ _ _ _ W3.drew
 go_upto_region 34 with fail
 obtain ⟨W4, hW4⟩ : ∃ W, W = (W3.setCell ⟨kr, 1, none⟩ (.int .i64 N)).drew := ⟨_, rfl⟩
 have HE4 : Hid (ItmEnd w W4 base kr km N (.slice none 0 0) (.slice an n cn) ∧ FrI base W3 W4) := Lib.hid (by rw [hW4]; exact HI3.out.1.work hkr HB.out N)
 rw [← hW4]
 clear hW4 r1 e1 f1 s1 s2 hle hle2
 have HS4 : Hid (StkV W4 base (.slice (some ⟨g, 0, none⟩) m c) us (st)) := Lib.hid (by have h := HS.out.keep HE4.out.1.fr HE4.out.1.kt; exact h)
 have HZ4 : Hid (ArrK W4 base (.agg #[.slice none 0 0, .slice an n cn]) y) := Lib.hid (HZ9.out.keep ((HI3.out.2.mono (by have := HB.out; omega)).trans HE4.out.2))
 have HBs : Hid (base ≤ W4.heap.size) := Lib.hid (by have := HB.out; have := HE4.out.1.fr.size; omega)
 have HLow := Lib.hid (HS4.out.lows (k := m) (by have := HM.out; omega) HBs.out)
 have b0 := HE4.out.1.res.cell 0 |>.trans (show _ = some (.slice none 0 0) from rfl)
 have b1 := HE4.out.1.res.cell 1 |>.trans (show _ = some (Value.slice an n cn) from rfl)
 obtain ⟨hmb, hmc⟩ := HMC.out
 have z0 := (wr_nat m (by omega)).2
 clear HI3 HI9 HZ9
 go_region_law (refine step_append_grows (by rfl) _ _ _ (by rfl) 24 j0 (.agg #[.slice none 0 0, .slice none 0 0]) 2 48 Tryz.underlying27 pi pz0 pz1 pz2 rfl (by decide) (some ⟨g, 0, none⟩) m m ((prs us).take (m * 2)) (by rfl) (fun h => by cases h) HLow.out.1 (fun b h => by injection h with h; subst h; exact HLow.out.2 _ (((Below.refl _ _).drew).alloc (Nat.le_refl _) _)) ⟨W4.heap.size, 0, none⟩ 1 1 [.slice none 0 0, .slice an n cn] (by rfl) (by rfl) (World.news_of_block (cs := #[.slice none 0 0, .slice an n cn]) (t := 24) (fr := (0, 0)) (heap_alloc_new W4.drew _)) (by simp [Value.oneCell']) (by omega) (by unfold maxLen; omega) (by omega) ?_; intro v5 W5 hown hgrow; have HO5 := Lib.hid hown; have HG5 := Lib.hid hgrow; clear hown hgrow)
 all_goals
  have HD4 : Hid (Below W4.heap.size W4 (W4.drew.alloc (.cells #[.slice none 0 0, .slice an n cn] 24))) := Lib.hid ((Below.refl _ _).drew.alloc (Nat.le_refl _) _)
  go_wp2_with fail
  refine bodyPost_ret (v := .tuple #[v5, .int .i64 0]) (by simp [results, Tryz.results22, go_sem]) rfl ⟨v5, us.take st.length ++ [(.slice none 0 0, .slice an n cn)], N, rfl, ?_, ?_, by have := HNw.out; omega, ?_, fun b hb => Nat.le_trans (Nat.le_trans HE4.out.1.gb.size HD4.out.size) (HO5.out.lt b hb).1⟩
  ·have hk := HM.out
   subst hk
   exact StkV.push (r := st) (s := []) (by rw [List.append_nil]; exact HS4.out) ((FrI.below HD4.out HBs.out).trans (FrI.none HG5.out (Nat.le_trans HBs.out HD4.out.size))) ((HZ4.out.keep (FrI.below HD4.out HBs.out)).keep (FrI.none HG5.out (Nat.le_trans HBs.out HD4.out.size))) (Nat.le_trans HBs.out HD4.out.size) HO5.out
  ·exact ((HE4.out.1.run.below HD4.out).keep (KeepTag.gb0 HG5.out))
  ·exact gb_trans (gb_then HE4.out.1.gb HD4.out) ⟨HG5.out.os, HG5.out.tape, HG5.out.output, HG5.out.size, fun j hj _ => HG5.out.block j hj (fun e => by cases e)⟩
end
section
open Go.RowKit Go.Shelf Go.Sort Go.Maps
theorem zeroArr (w : World) : (zeroValue 24).run Tryz.prog w = .ok (.agg #[.slice none 0 0, .slice none 0 0]) w := by kernel_rfl
set_option maxHeartbeats 8000000 in
set_option maxRecDepth 100000 in
theorem item_name0 {base kr km nn work : Nat} {fn : Nat} {F : Lit → Option Value} (w : World) (ia : Int) (nm : List UInt8) (vn u : Value) (y : Arr) (hnm : nm.length ≤ 100) (hM : MapV Tryz.prog 9 w km nn F) (hF : F (.string nm) = some u) (hu : ArrK w base u y) (hy : y.data.length ≤ 65536)
  (hK : Blk w kr 76 #[.map (some km), .int .i64 work]) (hwk : work ≤ 983040) (hb : base ≤ kr) :
  Calls Tryz.prog 22 #[.pointer (some ⟨kr, 0, none⟩), .agg #[.int .i64 2, .int .i64 ia, .int .u8 fn, .string (mkS nm), vn], .slice none 0 0] w (ItemPost base kr km work ([] ++ [y]) w) := by
 obtain ⟨j0, pi, pz0, pz1, pz2⟩ := info_parts info_arr
 obtain ⟨az, ns, cz, an, cn, rfl⟩ := hu.form
 have HK := Lib.hid hK
 have HB := Lib.hid hb
 have hkr := hK.lt
 have HU := Lib.hid hu
 have HL : Hid (∀ W, Below w.heap.size w W → (Instr.lookup 74 (.map (some km)) (.string (mkS nm)) true).run Tryz.prog W = .ok (.tuple #[.agg #[.slice az ns cz, .slice an y.data.length cn], .bool true]) W) := Lib.hid (fun W hb => (hM.below hb).lookok_run strKey Tryz.underlying74 (zeroArr W) (Go.WideMaps.keyOf_string_mk (s := mkS nm) Tryz.underlying9 (by rw [mkS_size]; unfold maxLen; omega)) (by rw [mkS_toList]; exact hF))
 have HS := Lib.hid (StkV.nil w base)

 generalize y.data.length = n at *
 clear hK hb hM hF hu hnm
 have HA0 := Lib.hid ((Below.refl _ w).alloc (Nat.le_refl _) (.cells #[.int .i64 2, .int .i64 ia, .int .u8 fn, .string (mkS nm), vn] 71))
 have HA1 := Lib.hid (HA0.out.alloc (by simp) (.cells #[.slice none 0 0, .slice none 0 0] 24))
 have HI1 : Hid (ItmAt w ((w.alloc (.cells #[.int .i64 2, .int .i64 ia, .int .u8 fn, .string (mkS nm), vn] 71)).alloc (.cells #[.slice none 0 0, .slice none 0 0] 24)) kr km work (.slice none 0 0) (.slice none 0 0)) := Lib.hid ⟨HA1.out, Blk.new _ _ _ (by simp), (HK.out.alloc _).alloc _⟩
 go_enter Tryz.func22, Tryz.ntmps22
 go_upto_region 11 with fail
 obtain ⟨W1, hW1⟩ : ∃ W, W = (w.alloc (.cells #[.int .i64 2, .int .i64 ia, .int .u8 fn, .string (mkS nm), vn] 71)).alloc (.cells #[.slice none 0 0, .slice none 0 0] 24) := ⟨_, rfl⟩
 have HX1 : Hid (Blk W1 w.heap.size 71 #[.int .i64 2, .int .i64 ia, .int .u8 fn, .string (mkS nm), vn]) := Lib.hid (by rw [hW1]; exact (Blk.new w _ _ rfl).alloc _)
 rw [← hW1] at HI1 HA1
 rw [← hW1]
 have x3 := HX1.out.cell 3 |>.trans (show _ = some (Value.string (mkS nm)) from rfl)
 have r0 := HI1.out.run.cell 0 |>.trans (show _ = some (Value.map (some km)) from rfl)
 have f9 : ∀ o, W1.frozen? ⟨w.heap.size + 1, o, none⟩ = false := fun o => HI1.out.res.froz o
 have g0 := HI1.out.res.cell 0 |>.trans (show _ = some (Value.slice none 0 0) from rfl)
 have g1 := HI1.out.res.cell 1 |>.trans (show _ = some (Value.slice none 0 0) from rfl)
 have hlk := HL.out W1.drew HA1.out.drew
 clear hW1 HA0
 go_region
 go_upto_region 29 with fail
 clear hlk x3 r0 f9 g0 g1 HX1
 have HZ9 : Hid (ArrK W1 base (.agg #[.slice az ns cz, .slice an n cn]) y) := Lib.hid (HU.out.keep (FrI.below HA1.out (by have := HB.out; omega)))
 obtain ⟨W3, hW3⟩ : ∃ W, W = ((W1.setCell ⟨w.heap.size + 1, 0, none⟩ (.slice az ns cz)).setCell ⟨w.heap.size + 1, 1, none⟩ (.slice an n cn)).drew := ⟨_, rfl⟩
 have HI3 : Hid (ItmAt w W3 kr km work (.slice az ns cz) (.slice an n cn) ∧ FrI w.heap.size W1 W3) := Lib.hid (by rw [hW3]; have h := HI1.out.drew.put hkr (.slice az ns cz) (.slice an n cn); exact ⟨h.1, (FrI.below (Below.refl _ _).drew HA1.out.size).trans h.2⟩)
 rw [← hW3]
 have HI9 := HZ9
 clear hW3 HI1 HK HA1 HL HU
 have r1 := HI3.out.1.run.cell 1 |>.trans (show _ = some (Value.int .i64 work) from rfl)
 have e1 := HI3.out.1.res.cell 1 |>.trans (show _ = some (Value.slice an n cn) from rfl)
 have f1 : ∀ o, W3.frozen? ⟨kr, o, none⟩ = false := fun o => HI3.out.1.run.froz o
 go_upto_region 31 with fail
 obtain ⟨hle, hle2, hw6, hn6⟩ := work_le hwk hy
 obtain ⟨s1, s2⟩ := wr_add work n hw6 hn6
 obtain ⟨N, hN⟩ : ∃ N, N = work + n := ⟨_, rfl⟩
 have HNw := Lib.hid hN
 rw [← hN] at s1 s2 hle hle2
 clear hN hw6 hn6
 go_still_tail 10, (by kernel_rfl)
 change wpList _ _ _ _ _ W3.drew
 go_upto_region 34 with fail
 obtain ⟨W4, hW4⟩ : ∃ W, W = (W3.setCell ⟨kr, 1, none⟩ (.int .i64 N)).drew := ⟨_, rfl⟩
 have HE4 : Hid (ItmEnd w W4 base kr km N (.slice az ns cz) (.slice an n cn) ∧ FrI base W3 W4) := Lib.hid (by rw [hW4]; exact HI3.out.1.work hkr HB.out N)
 rw [← hW4]
 clear hW4 r1 e1 f1 s1 s2 hle hle2
 have HS4 : Hid (StkV W4 base (.slice none 0 0) [] []) := Lib.hid (by have h := HS.out.keep HE4.out.1.fr HE4.out.1.kt; exact h)
 have HZ4 : Hid (ArrK W4 base (.agg #[.slice az ns cz, .slice an n cn]) y) := Lib.hid (HZ9.out.keep ((HI3.out.2.mono (by have := HB.out; omega)).trans HE4.out.2))
 have HBs : Hid (base ≤ W4.heap.size) := Lib.hid (by have := HB.out; have := HE4.out.1.fr.size; omega)
 have b0 := HE4.out.1.res.cell 0 |>.trans (show _ = some (.slice az ns cz) from rfl)
 have b1 := HE4.out.1.res.cell 1 |>.trans (show _ = some (Value.slice an n cn) from rfl)
 have z0 : IntKind.i64.wrap 0 = 0 := by rw [IntKind.wrap_i64]; rfl
 clear HI3 HI9 HZ9
 go_region_law (refine step_append_grows (by rfl) _ _ _ (by rfl) 24 j0 (.agg #[.slice none 0 0, .slice none 0 0]) 2 48 Tryz.underlying27 pi pz0 pz1 pz2 rfl (by decide) none 0 0 [] (by rfl) (fun _ => ⟨rfl, rfl⟩) rfl (fun b h => by cases h) ⟨W4.heap.size, 0, none⟩ 1 1 [.slice az ns cz, .slice an n cn] (by rfl) (by rfl) (World.news_of_block (cs := #[.slice az ns cz, .slice an n cn]) (t := 24) (fr := (0, 0)) (heap_alloc_new W4.drew _)) (by simp [Value.oneCell']) (by omega) (by unfold maxLen; omega) (by omega) ?_; intro v5 W5 hown hgrow; have HO5 := Lib.hid hown; have HG5 := Lib.hid hgrow; clear hown hgrow)
 all_goals
  have HD4 : Hid (Below W4.heap.size W4 (W4.drew.alloc (.cells #[.slice az ns cz, .slice an n cn] 24))) := Lib.hid ((Below.refl _ _).drew.alloc (Nat.le_refl _) _)
  go_wp2_with fail
  refine bodyPost_ret (v := .tuple #[v5, .int .i64 0]) (by simp [results, Tryz.results22, go_sem]) rfl ⟨v5, [] ++ [(.slice az ns cz, .slice an n cn)], N, rfl, ?_, ?_, by have := HNw.out; omega, ?_, fun b hb => Nat.le_trans (Nat.le_trans HE4.out.1.gb.size HD4.out.size) (HO5.out.lt b hb).1⟩
  ·exact StkV.push (r := []) (s := []) HS4.out ((FrI.below HD4.out HBs.out).trans (FrI.none HG5.out (Nat.le_trans HBs.out HD4.out.size))) ((HZ4.out.keep (FrI.below HD4.out HBs.out)).keep (FrI.none HG5.out (Nat.le_trans HBs.out HD4.out.size))) (Nat.le_trans HBs.out HD4.out.size) HO5.out
  ·exact ((HE4.out.1.run.below HD4.out).keep (KeepTag.gb0 HG5.out))
  ·exact gb_trans (gb_then HE4.out.1.gb HD4.out) ⟨HG5.out.os, HG5.out.tape, HG5.out.output, HG5.out.size, fun j hj _ => HG5.out.block j hj (fun e => by cases e)⟩
set_option maxHeartbeats 8000000 in
set_option maxRecDepth 100000 in
theorem item_name1 {base kr km nn work : Nat} {fn : Nat} {F : Lit → Option Value} (w : World) (g m c : Nat) (us : List (Value × Value)) (st : List Arr) (ia : Int) (nm : List UInt8) (vn u : Value) (y : Arr) (hnm : nm.length ≤ 100) (hM : MapV Tryz.prog 9 w km nn F) (hF : F (.string nm) = some u) (hu : ArrK w base u y) (hy : y.data.length ≤ 65536)
  (hK : Blk w kr 76 #[.map (some km), .int .i64 work]) (hwk : work ≤ 983040) (hb : base ≤ kr) (hS : StkV w base (.slice (some ⟨g, 0, none⟩) m c) us st) (hm : m = st.length) (hmb : m ≤ 20) (hmc : m ≤ c) :
  Calls Tryz.prog 22 #[.pointer (some ⟨kr, 0, none⟩), .agg #[.int .i64 2, .int .i64 ia, .int .u8 fn, .string (mkS nm), vn], .slice (some ⟨g, 0, none⟩) m c] w (ItemPost base kr km work (st ++ [y]) w) := by
 obtain ⟨j0, pi, pz0, pz1, pz2⟩ := info_parts info_arr
 obtain ⟨az, ns, cz, an, cn, rfl⟩ := hu.form
 have HK := Lib.hid hK
 have HB := Lib.hid hb
 have hkr := hK.lt
 have HU := Lib.hid hu
 have HL : Hid (∀ W, Below w.heap.size w W → (Instr.lookup 74 (.map (some km)) (.string (mkS nm)) true).run Tryz.prog W = .ok (.tuple #[.agg #[.slice az ns cz, .slice an y.data.length cn], .bool true]) W) := Lib.hid (fun W hb => (hM.below hb).lookok_run strKey Tryz.underlying74 (zeroArr W) (Go.WideMaps.keyOf_string_mk (s := mkS nm) Tryz.underlying9 (by rw [mkS_size]; unfold maxLen; omega)) (by rw [mkS_toList]; exact hF))
 have HS := Lib.hid hS
 have HM := Lib.hid hm
 generalize y.data.length = n at *
 clear hK hb hM hF hu hnm hS hm
 have HA0 := Lib.hid ((Below.refl _ w).alloc (Nat.le_refl _) (.cells #[.int .i64 2, .int .i64 ia, .int .u8 fn, .string (mkS nm), vn] 71))
 have HA1 := Lib.hid (HA0.out.alloc (by simp) (.cells #[.slice none 0 0, .slice none 0 0] 24))
 have HI1 : Hid (ItmAt w ((w.alloc (.cells #[.int .i64 2, .int .i64 ia, .int .u8 fn, .string (mkS nm), vn] 71)).alloc (.cells #[.slice none 0 0, .slice none 0 0] 24)) kr km work (.slice none 0 0) (.slice none 0 0)) := Lib.hid ⟨HA1.out, Blk.new _ _ _ (by simp), (HK.out.alloc _).alloc _⟩
 go_enter Tryz.func22, Tryz.ntmps22
 go_upto_region 11 with fail
 obtain ⟨W1, hW1⟩ : ∃ W, W = (w.alloc (.cells #[.int .i64 2, .int .i64 ia, .int .u8 fn, .string (mkS nm), vn] 71)).alloc (.cells #[.slice none 0 0, .slice none 0 0] 24) := ⟨_, rfl⟩
 have HX1 : Hid (Blk W1 w.heap.size 71 #[.int .i64 2, .int .i64 ia, .int .u8 fn, .string (mkS nm), vn]) := Lib.hid (by rw [hW1]; exact (Blk.new w _ _ rfl).alloc _)
 rw [← hW1] at HI1 HA1
 rw [← hW1]
 have x3 := HX1.out.cell 3 |>.trans (show _ = some (Value.string (mkS nm)) from rfl)
 have r0 := HI1.out.run.cell 0 |>.trans (show _ = some (Value.map (some km)) from rfl)
 have f9 : ∀ o, W1.frozen? ⟨w.heap.size + 1, o, none⟩ = false := fun o => HI1.out.res.froz o
 have g0 := HI1.out.res.cell 0 |>.trans (show _ = some (Value.slice none 0 0) from rfl)
 have g1 := HI1.out.res.cell 1 |>.trans (show _ = some (Value.slice none 0 0) from rfl)
 have hlk := HL.out W1.drew HA1.out.drew
 clear hW1 HA0
 go_region
 go_upto_region 29 with fail
 clear hlk x3 r0 f9 g0 g1 HX1
 have HZ9 : Hid (ArrK W1 base (.agg #[.slice az ns cz, .slice an n cn]) y) := Lib.hid (HU.out.keep (FrI.below HA1.out (by have := HB.out; omega)))
 obtain ⟨W3, hW3⟩ : ∃ W, W = ((W1.setCell ⟨w.heap.size + 1, 0, none⟩ (.slice az ns cz)).setCell ⟨w.heap.size + 1, 1, none⟩ (.slice an n cn)).drew := ⟨_, rfl⟩
 have HI3 : Hid (ItmAt w W3 kr km work (.slice az ns cz) (.slice an n cn) ∧ FrI w.heap.size W1 W3) := Lib.hid (by rw [hW3]; have h := HI1.out.drew.put hkr (.slice az ns cz) (.slice an n cn); exact ⟨h.1, (FrI.below (Below.refl _ _).drew HA1.out.size).trans h.2⟩)
 rw [← hW3]
 have HI9 := HZ9
 have HMC := Lib.hid (And.intro hmb hmc)
 clear hmb hmc
 clear hW3 HI1 HK HA1 HL HU
 have r1 := HI3.out.1.run.cell 1 |>.trans (show _ = some (Value.int .i64 work) from rfl)
 have e1 := HI3.out.1.res.cell 1 |>.trans (show _ = some (Value.slice an n cn) from rfl)
 have f1 : ∀ o, W3.frozen? ⟨kr, o, none⟩ = false := fun o => HI3.out.1.run.froz o
 go_upto_region 31 with fail
 obtain ⟨hle, hle2, hw6, hn6⟩ := work_le hwk hy
 obtain ⟨s1, s2⟩ := wr_add work n hw6 hn6
 obtain ⟨N, hN⟩ : ∃ N, N = work + n := ⟨_, rfl⟩
 have HNw := Lib.hid hN
 rw [← hN] at s1 s2 hle hle2
 clear hN hw6 hn6
 go_still_tail 10, (by kernel_rfl)
 change wpList _ _ _ _ _ W3.drew
 go_upto_region 34 with fail
 obtain ⟨W4, hW4⟩ : ∃ W, W = (W3.setCell ⟨kr, 1, none⟩ (.int .i64 N)).drew := ⟨_, rfl⟩
 have HE4 : Hid (ItmEnd w W4 base kr km N (.slice az ns cz) (.slice an n cn) ∧ FrI base W3 W4) := Lib.hid (by rw [hW4]; exact HI3.out.1.work hkr HB.out N)
 rw [← hW4]
 clear hW4 r1 e1 f1 s1 s2 hle hle2
 have HS4 : Hid (StkV W4 base (.slice (some ⟨g, 0, none⟩) m c) us (st)) := Lib.hid (by have h := HS.out.keep HE4.out.1.fr HE4.out.1.kt; exact h)
 have HZ4 : Hid (ArrK W4 base (.agg #[.slice az ns cz, .slice an n cn]) y) := Lib.hid (HZ9.out.keep ((HI3.out.2.mono (by have := HB.out; omega)).trans HE4.out.2))
 have HBs : Hid (base ≤ W4.heap.size) := Lib.hid (by have := HB.out; have := HE4.out.1.fr.size; omega)
 have HLow := Lib.hid (HS4.out.lows (k := m) (by have := HM.out; omega) HBs.out)
 have b0 := HE4.out.1.res.cell 0 |>.trans (show _ = some (.slice az ns cz) from rfl)
 have b1 := HE4.out.1.res.cell 1 |>.trans (show _ = some (Value.slice an n cn) from rfl)
 obtain ⟨hmb, hmc⟩ := HMC.out
 have z0 := (wr_nat m (by omega)).2
 clear HI3 HI9 HZ9
 go_region_law (refine step_append_grows (by rfl) _ _ _ (by rfl) 24 j0 (.agg #[.slice none 0 0, .slice none 0 0]) 2 48 Tryz.underlying27 pi pz0 pz1 pz2 rfl (by decide) (some ⟨g, 0, none⟩) m m ((prs us).take (m * 2)) (by rfl) (fun h => by cases h) HLow.out.1 (fun b h => by injection h with h; subst h; exact HLow.out.2 _ (((Below.refl _ _).drew).alloc (Nat.le_refl _) _)) ⟨W4.heap.size, 0, none⟩ 1 1 [.slice az ns cz, .slice an n cn] (by rfl) (by rfl) (World.news_of_block (cs := #[.slice az ns cz, .slice an n cn]) (t := 24) (fr := (0, 0)) (heap_alloc_new W4.drew _)) (by simp [Value.oneCell']) (by omega) (by unfold maxLen; omega) (by omega) ?_; intro v5 W5 hown hgrow; have HO5 := Lib.hid hown; have HG5 := Lib.hid hgrow; clear hown hgrow)
 all_goals
  have HD4 : Hid (Below W4.heap.size W4 (W4.drew.alloc (.cells #[.slice az ns cz, .slice an n cn] 24))) := Lib.hid ((Below.refl _ _).drew.alloc (Nat.le_refl _) _)
  go_wp2_with fail
  refine bodyPost_ret (v := .tuple #[v5, .int .i64 0]) (by simp [results, Tryz.results22, go_sem]) rfl ⟨v5, us.take st.length ++ [(.slice az ns cz, .slice an n cn)], N, rfl, ?_, ?_, by have := HNw.out; omega, ?_, fun b hb => Nat.le_trans (Nat.le_trans HE4.out.1.gb.size HD4.out.size) (HO5.out.lt b hb).1⟩
  ·have hk := HM.out
   subst hk
   exact StkV.push (r := st) (s := []) (by rw [List.append_nil]; exact HS4.out) ((FrI.below HD4.out HBs.out).trans (FrI.none HG5.out (Nat.le_trans HBs.out HD4.out.size))) ((HZ4.out.keep (FrI.below HD4.out HBs.out)).keep (FrI.none HG5.out (Nat.le_trans HBs.out HD4.out.size))) (Nat.le_trans HBs.out HD4.out.size) HO5.out
  ·exact ((HE4.out.1.run.below HD4.out).keep (KeepTag.gb0 HG5.out))
  ·exact gb_trans (gb_then HE4.out.1.gb HD4.out) ⟨HG5.out.os, HG5.out.tape, HG5.out.output, HG5.out.size, fun j hj _ => HG5.out.block j hj (fun e => by cases e)⟩
end
end Go.Proofs.YtknnleiinhdklaaGreatDoor
