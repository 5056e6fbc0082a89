/-
  Walk of prim.Monad at shape and ravel. Condition: the value reads as an array.
-/
import Derived.Test.YtknnleiinhdklaaGreatDoorPk29
import Derived.Test.YtknnleiinhdklaaGreatDoorPk34
namespace Go.Proofs.YtknnleiinhdklaaGreatDoor
open Go.RowKit Go.Shelf Go.Sort
attribute [local go_sem] Oper.semAt_some
theorem region_invP {P : Program} {id : Nat} {ops : Array Oper} {Q : Exit → Act → World → Prop} {a : Act} {w : World} (hm : P.follows .mixedOrders = true) (St : (Nat → Bool) → Act → World → Prop)
  (hdeps : ∀ (i : Nat) (o : Oper), ops[i]? = some o → ∀ e ∈ o.after, Region.binds .any e = true → e.on < i)
  (h0 : St (fun _ => false) a w.drew)
  (hstep : ∀ (b : Nat → Bool) (i : Nat) (o : Oper) (a : Act) (w : World), St b a w → ops[i]? = some o → b i = false → (∀ e ∈ o.after, Region.binds .any e = true → b e.on = true) →
   ∀ K : Act → World → Prop, (∀ a' w', St (fun k => if k = i then true else b k) a' w' → K a' w') → wpOpIn Fence.wide 9 P ops Q i K a w)
  (hQ : ∀ (b : Nat → Bool) (a : Act) (w : World), (∀ k, k < ops.size → b k = true) → St b a w → Q .normal a w) :
  (Code.region id ops true).wp P Q a w :=
 (wpIn_wide (n := 9)).1 (region_inv hm St hdeps h0 hstep hQ)
theorem bool_f {b : Bool} (h : b = true → False) : b = false := by cases b with | false => rfl | true => exact (h rfl).elim
/-- The worlds of a region that ends in good(..): B3: its first argument lies there; B6: its second; B7: it is called; B8: the array is cut out; B10: stored. -/
structure MonW (w V : World) (a b : Value) (B3 B6 B7 B8 B10 : Bool) (s32 s35 s36 s37 : Value) (l1 l2 : List Int) : Prop where
 bel : Below w.heap.size w V
 lt : w.heap.size + 1 < V.heap.size
 k0 : Blk V w.heap.size 24 #[a, b]
 r1 : B10 = false → Blk V (w.heap.size + 1) 24 #[.slice none 0 0, .slice none 0 0]
 v3 : B7 = false → B3 = true → IntsS V s32 l1
 v6 : B6 = true → IntsO V w.heap.size s35 l2
 v7 : B7 = true → B3 = true ∧ B6 = true ∧ ∃ u, s36 = .tuple #[.agg #[u, s35], .int .i64 0] ∧ IntsO V w.heap.size u l1
 v8 : B8 = true → B7 = true ∧ ∃ u, s36 = .tuple #[.agg #[u, s35], .int .i64 0] ∧ s37 = .agg #[u, s35]
 v10 : B10 = true → B8 = true ∧ ∃ u, IntsO V w.heap.size u l1 ∧ Blk V (w.heap.size + 1) 24 #[u, s35]
section
variable {w V : World} {a b u : Value} {B3 B6 B7 B8 B10 : Bool} {s32 s35 s36 s37 : Value} {l1 l2 : List Int}
theorem MonW.at0 (h : MonW w V a b B3 B6 B7 B8 B10 s32 s35 s36 s37 l1 l2) : V.cell? ⟨w.heap.size, 0, none⟩ = some a := (h.k0.cell 0).trans rfl
theorem MonW.at1 (h : MonW w V a b B3 B6 B7 B8 B10 s32 s35 s36 s37 l1 l2) : V.cell? ⟨w.heap.size, 1, none⟩ = some b := (h.k0.cell 1).trans rfl
theorem MonW.n7 (h : MonW w V a b B3 B6 B7 B8 B10 s32 s35 s36 s37 l1 l2) (h3 : B3 = false ∨ B6 = false) : B7 = false := bool_f fun e => by
 obtain ⟨h1, h2, _⟩ := h.v7 e
 rcases h3 with h3 | h3
 ·rw [h1] at h3; cases h3
 ·rw [h2] at h3; cases h3
theorem MonW.n8 (h : MonW w V a b B3 B6 B7 B8 B10 s32 s35 s36 s37 l1 l2) (h7 : B7 = false) : B8 = false := bool_f fun e => by have := (h.v8 e).1; rw [h7] at this; cases this
theorem MonW.n10 (h : MonW w V a b B3 B6 B7 B8 B10 s32 s35 s36 s37 l1 l2) (h8 : B8 = false) : B10 = false := bool_f fun e => by have := (h.v10 e).1; rw [h8] at this; cases this
/-- The first argument: one number in a row of its own. -/
theorem MonW.s3 (h : MonW w V a b B3 B6 B7 B8 B10 s32 s35 s36 s37 l1 l2) (h3 : B3 = false) {x : Int} (hl : l1 = [x]) : MonW w (V.alloc (.cells #[.int .i64 x] 2)) a b true B6 B7 B8 B10 (.slice (some ⟨V.heap.size, 0, none⟩) 1 1) s35 s36 s37 l1 l2 := by
 have h7 := h.n7 (.inl h3)
 have h8 := h.n8 h7
 have h10 := h.n10 h8
 subst h7 h8 h10 hl
 have hb : Below V.heap.size V (V.alloc (.cells #[.int .i64 x] 2)) := (Below.refl _ _).alloc (Nat.le_refl _) _
 refine ⟨h.bel.trans (hb.mono h.bel.size), Nat.lt_of_lt_of_le h.lt hb.size, h.k0.below hb, fun _ => (h.r1 rfl).below hb, fun _ _ => ?_, fun e => (h.v6 e).below hb, fun e => (by cases e), fun e => (by cases e), fun e => (by cases e)⟩
 refine ⟨_, 1, rfl, Nat.le_refl _, by unfold maxLen; decide, fun _ => ⟨V.heap.size, 0, rfl, by simp, fun i y hi => ?_⟩⟩
 have hlt := (List.getElem?_eq_some_iff.1 hi).1
 have e0 : i = 0 := by simpa using hlt
 subst e0
 simp only [List.getElem?_cons_zero, Option.some.injEq] at hi
 subst hi
 exact ((Blk.new V 2 #[.int .i64 x] rfl).cell 0).trans rfl
/-- The second. -/
theorem MonW.s6 (h : MonW w V a b B3 B6 B7 B8 B10 s32 s35 s36 s37 l1 l2) (h6 : B6 = false) {V' : World} {u : Value} (hu : IntsO V' V.heap.size u l2) (hb : Below V.heap.size V V') : MonW w V' a b B3 true B7 B8 B10 s32 u s36 s37 l1 l2 := by
 have h7 := h.n7 (.inr h6)
 have h8 := h.n8 h7
 have h10 := h.n10 h8
 subst h7 h8 h10
 exact ⟨h.bel.trans (hb.mono h.bel.size), Nat.lt_of_lt_of_le h.lt hb.size, h.k0.below hb, fun _ => (h.r1 rfl).below hb, fun e1 e2 => (h.v3 e1 e2).below hb, fun _ => hu.base h.bel.size, fun e => (by cases e), fun e => (by cases e), fun e => (by cases e)⟩
/-- The call. -/
theorem MonW.s7 (h : MonW w V a b B3 B6 B7 B8 B10 s32 s35 s36 s37 l1 l2) (h7 : B7 = false) (h3 : B3 = true) (h6 : B6 = true) {V' : World} {u : Value} (hu : IntsO V' V.heap.size u l1) (hb : Below V.heap.size V V') : MonW w V' a b B3 B6 true B8 B10 s32 s35 (.tuple #[.agg #[u, s35], .int .i64 0]) s37 l1 l2 := by
 have h8 := h.n8 h7
 have h10 := h.n10 h8
 subst h7 h8 h10
 exact ⟨h.bel.trans (hb.mono h.bel.size), Nat.lt_of_lt_of_le h.lt hb.size, h.k0.below hb, fun _ => (h.r1 rfl).below hb, fun e => (by cases e), fun e => (h.v6 e).below hb, fun _ => ⟨h3, h6, u, rfl, hu.base h.bel.size⟩, fun e => (by cases e), fun e => (by cases e)⟩
/-- The array is cut out. -/
theorem MonW.s8 (h : MonW w V a b B3 B6 B7 B8 B10 s32 s35 (.tuple #[.agg #[u, s35], .int .i64 0]) s37 l1 l2) (h7 : B7 = true) (h8 : B8 = false) : MonW w V a b B3 B6 B7 true B10 s32 s35 (.tuple #[.agg #[u, s35], .int .i64 0]) (.agg #[u, s35]) l1 l2 := by
 have h10 := h.n10 h8
 subst h7 h8 h10
 exact ⟨h.bel, h.lt, h.k0, h.r1, fun e => (by cases e), h.v6, h.v7, fun _ => ⟨rfl, _, rfl, rfl⟩, fun e => (by cases e)⟩
/-- Stored. -/
theorem MonW.s10 (h : MonW w V a b B3 B6 B7 B8 B10 s32 s35 s36 (.agg #[u, s35]) l1 l2) (h8 : B8 = true) (h10 : B10 = false) : MonW w ((V.setCell ⟨w.heap.size + 1, 0, none⟩ u).setCell ⟨w.heap.size + 1, 1, none⟩ s35) a b B3 B6 B7 B8 true s32 s35 s36 (.agg #[u, s35]) l1 l2 := by
 obtain ⟨h7, u', e1, e2⟩ := h.v8 h8
 obtain ⟨_, h6, u2, e3, hu⟩ := h.v7 h7
 rw [e1] at e3
 have ea : u' = u := by injection e2 with e2; simp at e2; exact e2.symm
 have eb : u' = u2 := by injection e3 with e3; simp at e3; exact e3
 subst ea eb
 have hr := h.r1 h10
 have hk : ∀ t, t ≠ 24 → KeepTag t V ((V.setCell ⟨w.heap.size + 1, 0, none⟩ u').setCell ⟨w.heap.size + 1, 1, none⟩ s35) := fun t ht =>
  KeepTag.trans (KeepTag.set hr ht 0 _) (KeepTag.set (Blk.put0 hr u') ht 1 _)
 refine ⟨below_set (below_set h.bel (by omega) _) (by omega) _, ?_, ?_, fun e => (by cases e), fun e => ?_, fun _ => (h.v6 h6).tag (hk _ (by decide)), fun _ => ⟨?_, h6, u', e1, hu.tag (hk _ (by decide))⟩, fun _ => ⟨h7, u', e1, rfl⟩, fun _ => ⟨h8, u', hu.tag (hk _ (by decide)), Blk.put2 hr u' s35⟩⟩
 ·simpa using h.lt
 ·exact (h.k0.other (by omega) 0 u').other (by omega) 1 s35
 ·rw [h7] at e; cases e
 ·exact (h.v7 h7).1
end
set_option maxHeartbeats 8000000 in
set_option maxRecDepth 100000 in
theorem shape_any (v : Value) (x : Arr) (w : World) (hv : ArrV w v x) (hx : ArrOk x) :
  Calls Tryz.prog 39 #[.int .u8 33, v] w (PrimPost ⟨[x.sides.length], ofN x.sides⟩ w) := by
 have HR := Lib.hid (fun W (hb : Below w.heap.size w W) => right_ok v x W (hv.below hb) hx)
 obtain ⟨vs, vd, rfl, hs, hd⟩ := hv
 obtain ⟨a1, c1, rfl⟩ := hs.form
 obtain ⟨a2, c2, rfl⟩ := hd.form
 have HC := Lib.hid (fun W (hb : Below w.heap.size w W) => clone_any _ _ W (hs.below hb) (by rw [ofN_len]; have := hx.sides.len; omega))
 have HG := Lib.hid (fun W v1 l1 vd l h1 hl ha => good_any v1 vd l1 l W h1 hl ha)
 obtain ⟨sides, d⟩ := x
 have hr4 := hx.sides.len
 dsimp only at *
 rw [ofN_len] at *
 have HL : Hid ((ofN sides).length = sides.length) := Lib.hid (ofN_len _)
 generalize hm : d.length = m at *
 generalize hr : sides.length = r at *
 clear hs hd hx hm hr
 have HF := Lib.hid (F2.new w (.slice a1 r c1) (.slice a2 m c2))
 have c0 := HF.out.at0
 have c00 := HF.out.at1
 go_enter Tryz.func39, Tryz.ntmps39
 go_wp2_with (go_at_call 38; refine (HR.out _ HF.out.bel).mono ?_; rintro _ w1 ⟨rfl, hb⟩; have HF1 := Lib.hid (HF.out.next hb); have e0 := HF1.out.at0; have e1 := HF1.out.at1; clear hb c0 c00)
 have HM0 : Hid (MonW w w1.drew (.slice a1 r c1) (.slice a2 m c2) false false false false false undef undef undef undef [(r : Int)] (ofN sides)) := Lib.hid ⟨HF1.out.bel.trans ⟨rfl, rfl, rfl, Nat.le_refl _, fun _ _ => rfl⟩, Blk.lt HF1.out.k1, HF1.out.k0, fun _ => HF1.out.k1, fun _ e => (by cases e), fun e => (by cases e), fun e => (by cases e), fun e => (by cases e), fun e => (by cases e)⟩
 refine region_invP (by kernel_rfl) (fun b ax V => ∃ s29 s30 s31 s32 s33 s34 s35 s36 s37 s38 : Value, ax = { tmps := #[.int .u8 33, .agg #[.slice a1 r c1, .slice a2 m c2], undef, .pointer (some ⟨w.heap.size, 0, none⟩), .pointer (some ⟨w.heap.size + 1, 0, none⟩), .int .i64 0, undef, undef, undef, undef, undef, undef, undef, undef, .agg #[.slice a1 r c1, .slice a2 m c2], .bool true, .bool false, undef, undef, undef, .int .u8 33, .bool false, .bool false, undef, undef, undef, undef, .bool true, .bool true, s29, s30, s31, s32, s33, s34, s35, s36, s37, s38, undef, undef, undef, undef, undef, undef, undef, undef, undef, undef, undef, undef, undef, undef, undef, undef, undef, undef, undef, undef, undef, undef, undef, undef, undef, undef, undef, undef, undef, undef, undef, undef, undef, undef, undef, undef, undef, undef, undef, undef, undef, undef, undef, undef, undef, undef, undef, undef, undef, undef, undef, undef, undef, undef, undef, undef, undef, undef, undef, undef, undef, undef, undef, undef, undef, undef, undef, undef, undef, undef, undef, undef, undef, undef, undef, undef, undef, undef, undef, undef, undef], defers := [] } ∧ (b 0 = true → s29 = .pointer (some ⟨w.heap.size, 0, none⟩)) ∧ (b 1 = true → s30 = .slice a1 r c1) ∧ (b 2 = true → s31 = .int .i64 (r : Int)) ∧ (b 4 = true → s33 = .pointer (some ⟨w.heap.size, 0, none⟩)) ∧ (b 5 = true → s34 = .slice a1 r c1) ∧ (b 9 = true → s38 = .int .i64 0) ∧ MonW w V (.slice a1 r c1) (.slice a2 m c2) (b 3) (b 6) (b 7) (b 8) (b 10) s32 s35 s36 s37 [(r : Int)] (ofN sides)) (deps_of (by kernel_rfl)) ?h0 ?hstep ?hQ
 case h0 =>
  exact ⟨_, _, _, _, _, _, _, _, _, _, rfl, by simp, by simp, by simp, by simp, by simp, by simp, HM0.out⟩
 case hstep =>
  rintro b k op ax V ⟨s29, s30, s31, s32, s33, s34, s35, s36, s37, s38, rfl, h0, h1, h2, h4, h5, h9x, hW⟩ ho hb hdep K hK
  have hlt6 : k < 12 := (Array.getElem?_eq_some_iff.1 ho).1
  have hs : k = 0 ∨ k = 1 ∨ k = 2 ∨ k = 3 ∨ k = 4 ∨ k = 5 ∨ k = 6 ∨ k = 7 ∨ k = 8 ∨ k = 9 ∨ k = 10 ∨ k = 11 := by omega
  rcases hs with rfl | rfl | rfl | rfl | rfl | rfl | rfl | rfl | rfl | rfl | rfl | rfl
  ·injection (show some _ = some op from ho) with ho
   subst ho
   have HK := Lib.hid hK
   have HH := Lib.hid (And.intro h0 (And.intro h1 (And.intro h2 (And.intro h4 (And.intro h5 (And.intro h9x (hW)))))))
   clear hK hdep h0 h1 h2 h4 h5 h9x hW
   refine wpOpIn_step rfl (fun K1 hK1 => ?_)
   go_simp
   obtain ⟨h0, h1, h2, h4, h5, h9x, hW⟩ := HH.out
   exact hK1 _ _ (HK.out _ _ ⟨_, _, _, _, _, _, _, _, _, _, rfl, fun _ => rfl, fun h => h1 (by simpa using h), fun h => h2 (by simpa using h), fun h => h4 (by simpa using h), fun h => h5 (by simpa using h), fun h => h9x (by simpa using h), by simpa using hW⟩)
  ·injection (show some _ = some op from ho) with ho
   subst ho
   have z0 : b 0 = true := hdep ⟨0, Ground.data⟩ (by simp) (by rfl)
   obtain rfl := h0 z0
   have q0 := hW.at0
   have q1 := hW.at1
   have HK := Lib.hid hK
   have HH := Lib.hid (And.intro h0 (And.intro h1 (And.intro h2 (And.intro h4 (And.intro h5 (And.intro h9x (hW)))))))
   clear hK hdep h0 h1 h2 h4 h5 h9x hW
   refine wpOpIn_step rfl (fun K1 hK1 => ?_)
   go_simp
   obtain ⟨h0, h1, h2, h4, h5, h9x, hW⟩ := HH.out
   exact hK1 _ _ (HK.out _ _ ⟨_, _, _, _, _, _, _, _, _, _, rfl, fun h => h0 (by simpa using h), fun _ => rfl, fun h => h2 (by simpa using h), fun h => h4 (by simpa using h), fun h => h5 (by simpa using h), fun h => h9x (by simpa using h), by simpa using hW⟩)
  ·injection (show some _ = some op from ho) with ho
   subst ho
   have z1 : b 1 = true := hdep ⟨1, Ground.data⟩ (by simp) (by rfl)
   obtain rfl := h1 z1
   have q0 := hW.at0
   have q1 := hW.at1
   have HK := Lib.hid hK
   have HH := Lib.hid (And.intro h0 (And.intro h1 (And.intro h2 (And.intro h4 (And.intro h5 (And.intro h9x (hW)))))))
   clear hK hdep h0 h1 h2 h4 h5 h9x hW
   refine wpOpIn_step rfl (fun K1 hK1 => ?_)
   go_simp
   obtain ⟨h0, h1, h2, h4, h5, h9x, hW⟩ := HH.out
   exact hK1 _ _ (HK.out _ _ ⟨_, _, _, _, _, _, _, _, _, _, rfl, fun h => h0 (by simpa using h), fun h => h1 (by simpa using h), fun _ => rfl, fun h => h4 (by simpa using h), fun h => h5 (by simpa using h), fun h => h9x (by simpa using h), by simpa using hW⟩)
  ·injection (show some _ = some op from ho) with ho
   subst ho
   have z2 : b 2 = true := hdep ⟨2, Ground.data⟩ (by simp) (by rfl)
   obtain rfl := h2 z2
   have HK := Lib.hid hK
   have HH := Lib.hid (And.intro h0 (And.intro h1 (And.intro h2 (And.intro h4 (And.intro h5 (And.intro h9x (hW)))))))
   clear hK hdep h0 h1 h2 h4 h5 h9x hW
   refine wpOpIn_step rfl (fun K1 hK1 => ?_)
   go_simp
   obtain ⟨h0, h1, h2, h4, h5, h9x, hW⟩ := HH.out
   exact hK1 _ _ (HK.out _ _ ⟨_, _, _, _, _, _, _, _, _, _, rfl, fun h => h0 (by simpa using h), fun h => h1 (by simpa using h), fun h => h2 (by simpa using h), fun h => h4 (by simpa using h), fun h => h5 (by simpa using h), fun h => h9x (by simpa using h), by simpa using hW.s3 hb rfl⟩)
  ·injection (show some _ = some op from ho) with ho
   subst ho
   have HK := Lib.hid hK
   have HH := Lib.hid (And.intro h0 (And.intro h1 (And.intro h2 (And.intro h4 (And.intro h5 (And.intro h9x (hW)))))))
   clear hK hdep h0 h1 h2 h4 h5 h9x hW
   refine wpOpIn_step rfl (fun K1 hK1 => ?_)
   go_simp
   obtain ⟨h0, h1, h2, h4, h5, h9x, hW⟩ := HH.out
   exact hK1 _ _ (HK.out _ _ ⟨_, _, _, _, _, _, _, _, _, _, rfl, fun h => h0 (by simpa using h), fun h => h1 (by simpa using h), fun h => h2 (by simpa using h), fun _ => rfl, fun h => h5 (by simpa using h), fun h => h9x (by simpa using h), by simpa using hW⟩)
  ·injection (show some _ = some op from ho) with ho
   subst ho
   have z4 : b 4 = true := hdep ⟨4, Ground.data⟩ (by simp) (by rfl)
   obtain rfl := h4 z4
   have q0 := hW.at0
   have q1 := hW.at1
   have HK := Lib.hid hK
   have HH := Lib.hid (And.intro h0 (And.intro h1 (And.intro h2 (And.intro h4 (And.intro h5 (And.intro h9x (hW)))))))
   clear hK hdep h0 h1 h2 h4 h5 h9x hW
   refine wpOpIn_step rfl (fun K1 hK1 => ?_)
   go_simp
   obtain ⟨h0, h1, h2, h4, h5, h9x, hW⟩ := HH.out
   exact hK1 _ _ (HK.out _ _ ⟨_, _, _, _, _, _, _, _, _, _, rfl, fun h => h0 (by simpa using h), fun h => h1 (by simpa using h), fun h => h2 (by simpa using h), fun h => h4 (by simpa using h), fun _ => rfl, fun h => h9x (by simpa using h), by simpa using hW⟩)
  ·injection (show some _ = some op from ho) with ho
   subst ho
   have z5 : b 5 = true := hdep ⟨5, Ground.data⟩ (by simp) (by rfl)
   obtain rfl := h5 z5
   have HCl := Lib.hid (HC.out V hW.bel)
   have HK := Lib.hid hK
   have HH := Lib.hid (And.intro h0 (And.intro h1 (And.intro h2 (And.intro h4 (And.intro h5 (And.intro h9x (hW)))))))
   clear hK hdep h0 h1 h2 h4 h5 h9x hW
   refine wpOpIn_step rfl (fun K1 hK1 => ?_)
   go_simp
   refine ⟨trivial, ?_⟩
   refine (callsIn_wide.2 HCl.out).mono ?_
   rintro e w' ⟨u, rfl, hu1, hu2⟩
   obtain ⟨h0, h1, h2, h4, h5, h9x, hW⟩ := HH.out
   exact hK1 _ _ (HK.out _ _ ⟨_, _, _, _, _, _, _, _, _, _, rfl, fun h => h0 (by simpa using h), fun h => h1 (by simpa using h), fun h => h2 (by simpa using h), fun h => h4 (by simpa using h), fun h => h5 (by simpa using h), fun h => h9x (by simpa using h), by simpa using hW.s6 hb hu1 hu2⟩)
  ·injection (show some _ = some op from ho) with ho
   subst ho
   have z3 : b 3 = true := hdep ⟨3, Ground.data⟩ (by simp) (by rfl)
   have z6 : b 6 = true := hdep ⟨6, Ground.data⟩ (by simp) (by rfl)
   have n7 : b 7 = false := hb
   have HCl := Lib.hid (HG.out V _ _ _ _ (hW.v3 n7 z3) (by simp) (hW.v6 z6).form)
   have HK := Lib.hid hK
   have HH := Lib.hid (And.intro h0 (And.intro h1 (And.intro h2 (And.intro h4 (And.intro h5 (And.intro h9x (hW)))))))
   clear hK hdep h0 h1 h2 h4 h5 h9x hW
   refine wpOpIn_step rfl (fun K1 hK1 => ?_)
   go_simp
   refine ⟨trivial, ?_⟩
   refine (callsIn_wide.2 HCl.out).mono ?_
   rintro e w' ⟨u, rfl, hu1, hu2⟩
   obtain ⟨h0, h1, h2, h4, h5, h9x, hW⟩ := HH.out
   exact hK1 _ _ (HK.out _ _ ⟨_, _, _, _, _, _, _, _, _, _, rfl, fun h => h0 (by simpa using h), fun h => h1 (by simpa using h), fun h => h2 (by simpa using h), fun h => h4 (by simpa using h), fun h => h5 (by simpa using h), fun h => h9x (by simpa using h), by simpa using hW.s7 hb z3 z6 hu1 hu2⟩)
  ·injection (show some _ = some op from ho) with ho
   subst ho
   have z7 : b 7 = true := hdep ⟨7, Ground.data⟩ (by simp) (by rfl)
   obtain ⟨_, _, u, rfl, _⟩ := hW.v7 z7
   have HK := Lib.hid hK
   have HH := Lib.hid (And.intro h0 (And.intro h1 (And.intro h2 (And.intro h4 (And.intro h5 (And.intro h9x (hW)))))))
   clear hK hdep h0 h1 h2 h4 h5 h9x hW
   refine wpOpIn_step rfl (fun K1 hK1 => ?_)
   go_simp
   obtain ⟨h0, h1, h2, h4, h5, h9x, hW⟩ := HH.out
   exact hK1 _ _ (HK.out _ _ ⟨_, _, _, _, _, _, _, _, _, _, rfl, fun h => h0 (by simpa using h), fun h => h1 (by simpa using h), fun h => h2 (by simpa using h), fun h => h4 (by simpa using h), fun h => h5 (by simpa using h), fun h => h9x (by simpa using h), by simpa using hW.s8 z7 hb⟩)
  ·injection (show some _ = some op from ho) with ho
   subst ho
   have z7 : b 7 = true := hdep ⟨7, Ground.data⟩ (by simp) (by rfl)
   obtain ⟨_, _, u, rfl, _⟩ := hW.v7 z7
   have HK := Lib.hid hK
   have HH := Lib.hid (And.intro h0 (And.intro h1 (And.intro h2 (And.intro h4 (And.intro h5 (And.intro h9x (hW)))))))
   clear hK hdep h0 h1 h2 h4 h5 h9x hW
   refine wpOpIn_step rfl (fun K1 hK1 => ?_)
   go_simp
   obtain ⟨h0, h1, h2, h4, h5, h9x, hW⟩ := HH.out
   exact hK1 _ _ (HK.out _ _ ⟨_, _, _, _, _, _, _, _, _, _, rfl, fun h => h0 (by simpa using h), fun h => h1 (by simpa using h), fun h => h2 (by simpa using h), fun h => h4 (by simpa using h), fun h => h5 (by simpa using h), fun _ => rfl, by simpa using hW⟩)
  ·injection (show some _ = some op from ho) with ho
   subst ho
   have z8 : b 8 = true := hdep ⟨8, Ground.data⟩ (by simp) (by rfl)
   obtain ⟨_, u, rfl, rfl⟩ := hW.v8 z8
   obtain ⟨_, y6, u2, y1, y2⟩ := hW.v7 (hW.v8 z8).1
   obtain ⟨aq, cq, hq⟩ := (hW.v6 y6).form
   obtain ⟨ap, cp, hp⟩ := y2.form
   have y3 : u = u2 := by injection y1 with y1; simpa using y1
   subst y3 hq hp
   have q0 := ((hW.r1 hb).cell 0).trans rfl
   have q1 := ((hW.r1 hb).cell 1).trans rfl
   have qf := Blk.froz (hW.r1 hb)
   simp only [List.getElem?_toArray, List.getElem?_cons_zero, List.getElem?_cons_succ] at q0 q1
   clear y1 y2
   have HK := Lib.hid hK
   have HH := Lib.hid (And.intro h0 (And.intro h1 (And.intro h2 (And.intro h4 (And.intro h5 (And.intro h9x (hW)))))))
   clear hK hdep h0 h1 h2 h4 h5 h9x hW
   refine wpOpIn_step rfl (fun K1 hK1 => ?_)
   go_simp
   obtain ⟨h0, h1, h2, h4, h5, h9x, hW⟩ := HH.out
   exact hK1 _ _ (HK.out _ _ ⟨_, _, _, _, _, _, _, _, _, _, rfl, fun h => h0 (by simpa using h), fun h => h1 (by simpa using h), fun h => h2 (by simpa using h), fun h => h4 (by simpa using h), fun h => h5 (by simpa using h), fun h => h9x (by simpa using h), by simpa using hW.s10 z8 hb⟩)
  ·injection (show some _ = some op from ho) with ho
   subst ho
   have z9 : b 9 = true := hdep ⟨9, Ground.data⟩ (by simp) (by rfl)
   obtain rfl := h9x z9
   have HK := Lib.hid hK
   have HH := Lib.hid (And.intro h0 (And.intro h1 (And.intro h2 (And.intro h4 (And.intro h5 (And.intro h9x (hW)))))))
   clear hK hdep h0 h1 h2 h4 h5 h9x hW
   refine wpOpIn_step rfl (fun K1 hK1 => ?_)
   go_simp
   obtain ⟨h0, h1, h2, h4, h5, h9x, hW⟩ := HH.out
   exact hK1 _ _ (HK.out _ _ ⟨_, _, _, _, _, _, _, _, _, _, rfl, fun h => h0 (by simpa using h), fun h => h1 (by simpa using h), fun h => h2 (by simpa using h), fun h => h4 (by simpa using h), fun h => h5 (by simpa using h), fun h => h9x (by simpa using h), by simpa using hW⟩)
 case hQ =>
  rintro b ax V hall ⟨s29, s30, s31, s32, s33, s34, s35, s36, s37, s38, rfl, h0, h1, h2, h4, h5, h9x, hW⟩
  obtain ⟨x8, u, x1, x2⟩ := hW.v10 (hall 10 (by decide))
  have HO := Lib.hid (And.intro (hW.v6 (hall 6 (by decide))) (And.intro x1 hW.bel))
  have e0 := x2.cell 0
  have e1 := x2.cell 1
  simp only [List.getElem?_toArray, List.getElem?_cons_zero, List.getElem?_cons_succ] at e0 e1
  clear hall x8 x1 x2 h0 h1 h2 h4 h5 h9x hW
  go_wp2_with fail
  exact bodyPost_ret (v := .tuple #[.agg #[u, s35], .int .i64 0]) (by simp [results, Tryz.results39, go_sem, e0, e1]) rfl ⟨_, rfl, ⟨_, _, rfl, HO.out.2.1, HO.out.1⟩, HO.out.2.2⟩
set_option maxHeartbeats 8000000 in
set_option maxRecDepth 100000 in
theorem ravel_any (v : Value) (x : Arr) (w : World) (hv : ArrV w v x) (hx : ArrOk x) :
  Calls Tryz.prog 39 #[.int .u8 34, v] w (PrimPost ⟨[x.data.length], x.data⟩ w) := by
 have HR := Lib.hid (fun W (hb : Below w.heap.size w W) => right_ok v x W (hv.below hb) hx)
 obtain ⟨vs, vd, rfl, hs, hd⟩ := hv
 obtain ⟨a1, c1, rfl⟩ := hs.form
 obtain ⟨a2, c2, rfl⟩ := hd.form
 have HC := Lib.hid (fun W (hb : Below w.heap.size w W) => clone_any _ _ W (hd.below hb) (Nat.le_trans hx.le (by decide)))
 have HG := Lib.hid (fun W v1 l1 vd l h1 hl ha => good_any v1 vd l1 l W h1 hl ha)
 obtain ⟨sides, d⟩ := x
 have hr4 := hx.sides.len
 dsimp only at *
 rw [ofN_len] at *
 generalize hm : d.length = m at *
 generalize hr : sides.length = r at *
 clear hs hd hx hm hr
 have HF := Lib.hid (F2.new w (.slice a1 r c1) (.slice a2 m c2))
 have c0 := HF.out.at0
 have c00 := HF.out.at1
 go_enter Tryz.func39, Tryz.ntmps39
 go_wp2_with (go_at_call 38; refine (HR.out _ HF.out.bel).mono ?_; rintro _ w1 ⟨rfl, hb⟩; have HF1 := Lib.hid (HF.out.next hb); have e0 := HF1.out.at0; have e1 := HF1.out.at1; clear hb c0 c00)
 have HM0 : Hid (MonW w w1.drew (.slice a1 r c1) (.slice a2 m c2) false false false false false undef undef undef undef [(m : Int)] d) := Lib.hid ⟨HF1.out.bel.trans ⟨rfl, rfl, rfl, Nat.le_refl _, fun _ _ => rfl⟩, Blk.lt HF1.out.k1, HF1.out.k0, fun _ => HF1.out.k1, fun _ e => (by cases e), fun e => (by cases e), fun e => (by cases e), fun e => (by cases e), fun e => (by cases e)⟩
 refine region_invP (by kernel_rfl) (fun b ax V => ∃ s41 s42 s43 s44 s45 s46 s47 s48 s49 s50 : Value, ax = { tmps := #[.int .u8 34, .agg #[.slice a1 r c1, .slice a2 m c2], undef, .pointer (some ⟨w.heap.size, 0, none⟩), .pointer (some ⟨w.heap.size + 1, 0, none⟩), .int .i64 0, undef, undef, undef, undef, undef, undef, undef, undef, .agg #[.slice a1 r c1, .slice a2 m c2], .bool true, .bool false, undef, undef, undef, .int .u8 34, .bool false, .bool false, undef, undef, undef, undef, .bool false, .bool false, undef, undef, undef, undef, undef, undef, undef, undef, undef, undef, .bool true, .bool true, s41, s42, s43, s44, s45, s46, s47, s48, s49, s50, undef, undef, undef, undef, undef, undef, undef, undef, undef, undef, undef, undef, undef, undef, undef, undef, undef, undef, undef, undef, undef, undef, undef, undef, undef, undef, undef, undef, undef, undef, undef, undef, undef, undef, undef, undef, undef, undef, undef, undef, undef, undef, undef, undef, undef, undef, undef, undef, undef, undef, undef, undef, undef, undef, undef, undef, undef, undef, undef, undef, undef, undef, undef, undef, undef, undef, undef, undef, undef], defers := [] } ∧ (b 0 = true → s41 = .pointer (some ⟨w.heap.size, 1, none⟩)) ∧ (b 1 = true → s42 = .slice a2 m c2) ∧ (b 2 = true → s43 = .int .i64 (m : Int)) ∧ (b 4 = true → s45 = .pointer (some ⟨w.heap.size, 1, none⟩)) ∧ (b 5 = true → s46 = .slice a2 m c2) ∧ (b 9 = true → s50 = .int .i64 0) ∧ MonW w V (.slice a1 r c1) (.slice a2 m c2) (b 3) (b 6) (b 7) (b 8) (b 10) s44 s47 s48 s49 [(m : Int)] d) (deps_of (by kernel_rfl)) ?h0 ?hstep ?hQ
 case h0 =>
  exact ⟨_, _, _, _, _, _, _, _, _, _, rfl, by simp, by simp, by simp, by simp, by simp, by simp, HM0.out⟩
 case hstep =>
  rintro b k op ax V ⟨s41, s42, s43, s44, s45, s46, s47, s48, s49, s50, rfl, h0, h1, h2, h4, h5, h9x, hW⟩ ho hb hdep K hK
  have hlt6 : k < 12 := (Array.getElem?_eq_some_iff.1 ho).1
  have hs : k = 0 ∨ k = 1 ∨ k = 2 ∨ k = 3 ∨ k = 4 ∨ k = 5 ∨ k = 6 ∨ k = 7 ∨ k = 8 ∨ k = 9 ∨ k = 10 ∨ k = 11 := by omega
  rcases hs with rfl | rfl | rfl | rfl | rfl | rfl | rfl | rfl | rfl | rfl | rfl | rfl
  ·injection (show some _ = some op from ho) with ho
   subst ho
   have HK := Lib.hid hK
   have HH := Lib.hid (And.intro h0 (And.intro h1 (And.intro h2 (And.intro h4 (And.intro h5 (And.intro h9x (hW)))))))
   clear hK hdep h0 h1 h2 h4 h5 h9x hW
   refine wpOpIn_step rfl (fun K1 hK1 => ?_)
   go_simp
   obtain ⟨h0, h1, h2, h4, h5, h9x, hW⟩ := HH.out
   exact hK1 _ _ (HK.out _ _ ⟨_, _, _, _, _, _, _, _, _, _, rfl, fun _ => rfl, fun h => h1 (by simpa using h), fun h => h2 (by simpa using h), fun h => h4 (by simpa using h), fun h => h5 (by simpa using h), fun h => h9x (by simpa using h), by simpa using hW⟩)
  ·injection (show some _ = some op from ho) with ho
   subst ho
   have z0 : b 0 = true := hdep ⟨0, Ground.data⟩ (by simp) (by rfl)
   obtain rfl := h0 z0
   have q0 := hW.at0
   have q1 := hW.at1
   have HK := Lib.hid hK
   have HH := Lib.hid (And.intro h0 (And.intro h1 (And.intro h2 (And.intro h4 (And.intro h5 (And.intro h9x (hW)))))))
   clear hK hdep h0 h1 h2 h4 h5 h9x hW
   refine wpOpIn_step rfl (fun K1 hK1 => ?_)
   go_simp
   obtain ⟨h0, h1, h2, h4, h5, h9x, hW⟩ := HH.out
   exact hK1 _ _ (HK.out _ _ ⟨_, _, _, _, _, _, _, _, _, _, rfl, fun h => h0 (by simpa using h), fun _ => rfl, fun h => h2 (by simpa using h), fun h => h4 (by simpa using h), fun h => h5 (by simpa using h), fun h => h9x (by simpa using h), by simpa using hW⟩)
  ·injection (show some _ = some op from ho) with ho
   subst ho
   have z1 : b 1 = true := hdep ⟨1, Ground.data⟩ (by simp) (by rfl)
   obtain rfl := h1 z1
   have q0 := hW.at0
   have q1 := hW.at1
   have HK := Lib.hid hK
   have HH := Lib.hid (And.intro h0 (And.intro h1 (And.intro h2 (And.intro h4 (And.intro h5 (And.intro h9x (hW)))))))
   clear hK hdep h0 h1 h2 h4 h5 h9x hW
   refine wpOpIn_step rfl (fun K1 hK1 => ?_)
   go_simp
   obtain ⟨h0, h1, h2, h4, h5, h9x, hW⟩ := HH.out
   exact hK1 _ _ (HK.out _ _ ⟨_, _, _, _, _, _, _, _, _, _, rfl, fun h => h0 (by simpa using h), fun h => h1 (by simpa using h), fun _ => rfl, fun h => h4 (by simpa using h), fun h => h5 (by simpa using h), fun h => h9x (by simpa using h), by simpa using hW⟩)
  ·injection (show some _ = some op from ho) with ho
   subst ho
   have z2 : b 2 = true := hdep ⟨2, Ground.data⟩ (by simp) (by rfl)
   obtain rfl := h2 z2
   have HK := Lib.hid hK
   have HH := Lib.hid (And.intro h0 (And.intro h1 (And.intro h2 (And.intro h4 (And.intro h5 (And.intro h9x (hW)))))))
   clear hK hdep h0 h1 h2 h4 h5 h9x hW
   refine wpOpIn_step rfl (fun K1 hK1 => ?_)
   go_simp
   obtain ⟨h0, h1, h2, h4, h5, h9x, hW⟩ := HH.out
   exact hK1 _ _ (HK.out _ _ ⟨_, _, _, _, _, _, _, _, _, _, rfl, fun h => h0 (by simpa using h), fun h => h1 (by simpa using h), fun h => h2 (by simpa using h), fun h => h4 (by simpa using h), fun h => h5 (by simpa using h), fun h => h9x (by simpa using h), by simpa using hW.s3 hb rfl⟩)
  ·injection (show some _ = some op from ho) with ho
   subst ho
   have HK := Lib.hid hK
   have HH := Lib.hid (And.intro h0 (And.intro h1 (And.intro h2 (And.intro h4 (And.intro h5 (And.intro h9x (hW)))))))
   clear hK hdep h0 h1 h2 h4 h5 h9x hW
   refine wpOpIn_step rfl (fun K1 hK1 => ?_)
   go_simp
   obtain ⟨h0, h1, h2, h4, h5, h9x, hW⟩ := HH.out
   exact hK1 _ _ (HK.out _ _ ⟨_, _, _, _, _, _, _, _, _, _, rfl, fun h => h0 (by simpa using h), fun h => h1 (by simpa using h), fun h => h2 (by simpa using h), fun _ => rfl, fun h => h5 (by simpa using h), fun h => h9x (by simpa using h), by simpa using hW⟩)
  ·injection (show some _ = some op from ho) with ho
   subst ho
   have z4 : b 4 = true := hdep ⟨4, Ground.data⟩ (by simp) (by rfl)
   obtain rfl := h4 z4
   have q0 := hW.at0
   have q1 := hW.at1
   have HK := Lib.hid hK
   have HH := Lib.hid (And.intro h0 (And.intro h1 (And.intro h2 (And.intro h4 (And.intro h5 (And.intro h9x (hW)))))))
   clear hK hdep h0 h1 h2 h4 h5 h9x hW
   refine wpOpIn_step rfl (fun K1 hK1 => ?_)
   go_simp
   obtain ⟨h0, h1, h2, h4, h5, h9x, hW⟩ := HH.out
   exact hK1 _ _ (HK.out _ _ ⟨_, _, _, _, _, _, _, _, _, _, rfl, fun h => h0 (by simpa using h), fun h => h1 (by simpa using h), fun h => h2 (by simpa using h), fun h => h4 (by simpa using h), fun _ => rfl, fun h => h9x (by simpa using h), by simpa using hW⟩)
  ·injection (show some _ = some op from ho) with ho
   subst ho
   have z5 : b 5 = true := hdep ⟨5, Ground.data⟩ (by simp) (by rfl)
   obtain rfl := h5 z5
   have HCl := Lib.hid (HC.out V hW.bel)
   have HK := Lib.hid hK
   have HH := Lib.hid (And.intro h0 (And.intro h1 (And.intro h2 (And.intro h4 (And.intro h5 (And.intro h9x (hW)))))))
   clear hK hdep h0 h1 h2 h4 h5 h9x hW
   refine wpOpIn_step rfl (fun K1 hK1 => ?_)
   go_simp
   refine ⟨trivial, ?_⟩
   refine (callsIn_wide.2 HCl.out).mono ?_
   rintro e w' ⟨u, rfl, hu1, hu2⟩
   obtain ⟨h0, h1, h2, h4, h5, h9x, hW⟩ := HH.out
   exact hK1 _ _ (HK.out _ _ ⟨_, _, _, _, _, _, _, _, _, _, rfl, fun h => h0 (by simpa using h), fun h => h1 (by simpa using h), fun h => h2 (by simpa using h), fun h => h4 (by simpa using h), fun h => h5 (by simpa using h), fun h => h9x (by simpa using h), by simpa using hW.s6 hb hu1 hu2⟩)
  ·injection (show some _ = some op from ho) with ho
   subst ho
   have z3 : b 3 = true := hdep ⟨3, Ground.data⟩ (by simp) (by rfl)
   have z6 : b 6 = true := hdep ⟨6, Ground.data⟩ (by simp) (by rfl)
   have n7 : b 7 = false := hb
   have HCl := Lib.hid (HG.out V _ _ _ _ (hW.v3 n7 z3) (by simp) (hW.v6 z6).form)
   have HK := Lib.hid hK
   have HH := Lib.hid (And.intro h0 (And.intro h1 (And.intro h2 (And.intro h4 (And.intro h5 (And.intro h9x (hW)))))))
   clear hK hdep h0 h1 h2 h4 h5 h9x hW
   refine wpOpIn_step rfl (fun K1 hK1 => ?_)
   go_simp
   refine ⟨trivial, ?_⟩
   refine (callsIn_wide.2 HCl.out).mono ?_
   rintro e w' ⟨u, rfl, hu1, hu2⟩
   obtain ⟨h0, h1, h2, h4, h5, h9x, hW⟩ := HH.out
   exact hK1 _ _ (HK.out _ _ ⟨_, _, _, _, _, _, _, _, _, _, rfl, fun h => h0 (by simpa using h), fun h => h1 (by simpa using h), fun h => h2 (by simpa using h), fun h => h4 (by simpa using h), fun h => h5 (by simpa using h), fun h => h9x (by simpa using h), by simpa using hW.s7 hb z3 z6 hu1 hu2⟩)
  ·injection (show some _ = some op from ho) with ho
   subst ho
   have z7 : b 7 = true := hdep ⟨7, Ground.data⟩ (by simp) (by rfl)
   obtain ⟨_, _, u, rfl, _⟩ := hW.v7 z7
   have HK := Lib.hid hK
   have HH := Lib.hid (And.intro h0 (And.intro h1 (And.intro h2 (And.intro h4 (And.intro h5 (And.intro h9x (hW)))))))
   clear hK hdep h0 h1 h2 h4 h5 h9x hW
   refine wpOpIn_step rfl (fun K1 hK1 => ?_)
   go_simp
   obtain ⟨h0, h1, h2, h4, h5, h9x, hW⟩ := HH.out
   exact hK1 _ _ (HK.out _ _ ⟨_, _, _, _, _, _, _, _, _, _, rfl, fun h => h0 (by simpa using h), fun h => h1 (by simpa using h), fun h => h2 (by simpa using h), fun h => h4 (by simpa using h), fun h => h5 (by simpa using h), fun h => h9x (by simpa using h), by simpa using hW.s8 z7 hb⟩)
  ·injection (show some _ = some op from ho) with ho
   subst ho
   have z7 : b 7 = true := hdep ⟨7, Ground.data⟩ (by simp) (by rfl)
   obtain ⟨_, _, u, rfl, _⟩ := hW.v7 z7
   have HK := Lib.hid hK
   have HH := Lib.hid (And.intro h0 (And.intro h1 (And.intro h2 (And.intro h4 (And.intro h5 (And.intro h9x (hW)))))))
   clear hK hdep h0 h1 h2 h4 h5 h9x hW
   refine wpOpIn_step rfl (fun K1 hK1 => ?_)
   go_simp
   obtain ⟨h0, h1, h2, h4, h5, h9x, hW⟩ := HH.out
   exact hK1 _ _ (HK.out _ _ ⟨_, _, _, _, _, _, _, _, _, _, rfl, fun h => h0 (by simpa using h), fun h => h1 (by simpa using h), fun h => h2 (by simpa using h), fun h => h4 (by simpa using h), fun h => h5 (by simpa using h), fun _ => rfl, by simpa using hW⟩)
  ·injection (show some _ = some op from ho) with ho
   subst ho
   have z8 : b 8 = true := hdep ⟨8, Ground.data⟩ (by simp) (by rfl)
   obtain ⟨_, u, rfl, rfl⟩ := hW.v8 z8
   obtain ⟨_, y6, u2, y1, y2⟩ := hW.v7 (hW.v8 z8).1
   obtain ⟨aq, cq, hq⟩ := (hW.v6 y6).form
   obtain ⟨ap, cp, hp⟩ := y2.form
   have y3 : u = u2 := by injection y1 with y1; simpa using y1
   subst y3 hq hp
   have q0 := ((hW.r1 hb).cell 0).trans rfl
   have q1 := ((hW.r1 hb).cell 1).trans rfl
   have qf := Blk.froz (hW.r1 hb)
   simp only [List.getElem?_toArray, List.getElem?_cons_zero, List.getElem?_cons_succ] at q0 q1
   clear y1 y2
   have HK := Lib.hid hK
   have HH := Lib.hid (And.intro h0 (And.intro h1 (And.intro h2 (And.intro h4 (And.intro h5 (And.intro h9x (hW)))))))
   clear hK hdep h0 h1 h2 h4 h5 h9x hW
   refine wpOpIn_step rfl (fun K1 hK1 => ?_)
   go_simp
   obtain ⟨h0, h1, h2, h4, h5, h9x, hW⟩ := HH.out
   exact hK1 _ _ (HK.out _ _ ⟨_, _, _, _, _, _, _, _, _, _, rfl, fun h => h0 (by simpa using h), fun h => h1 (by simpa using h), fun h => h2 (by simpa using h), fun h => h4 (by simpa using h), fun h => h5 (by simpa using h), fun h => h9x (by simpa using h), by simpa using hW.s10 z8 hb⟩)
  ·injection (show some _ = some op from ho) with ho
   subst ho
   have z9 : b 9 = true := hdep ⟨9, Ground.data⟩ (by simp) (by rfl)
   obtain rfl := h9x z9
   have HK := Lib.hid hK
   have HH := Lib.hid (And.intro h0 (And.intro h1 (And.intro h2 (And.intro h4 (And.intro h5 (And.intro h9x (hW)))))))
   clear hK hdep h0 h1 h2 h4 h5 h9x hW
   refine wpOpIn_step rfl (fun K1 hK1 => ?_)
   go_simp
   obtain ⟨h0, h1, h2, h4, h5, h9x, hW⟩ := HH.out
   exact hK1 _ _ (HK.out _ _ ⟨_, _, _, _, _, _, _, _, _, _, rfl, fun h => h0 (by simpa using h), fun h => h1 (by simpa using h), fun h => h2 (by simpa using h), fun h => h4 (by simpa using h), fun h => h5 (by simpa using h), fun h => h9x (by simpa using h), by simpa using hW⟩)
 case hQ =>
  rintro b ax V hall ⟨s41, s42, s43, s44, s45, s46, s47, s48, s49, s50, rfl, h0, h1, h2, h4, h5, h9x, hW⟩
  obtain ⟨x8, u, x1, x2⟩ := hW.v10 (hall 10 (by decide))
  have HO := Lib.hid (And.intro (hW.v6 (hall 6 (by decide))) (And.intro x1 hW.bel))
  have e0 := x2.cell 0
  have e1 := x2.cell 1
  simp only [List.getElem?_toArray, List.getElem?_cons_zero, List.getElem?_cons_succ] at e0 e1
  clear hall x8 x1 x2 h0 h1 h2 h4 h5 h9x hW
  go_wp2_with fail
  exact bodyPost_ret (v := .tuple #[.agg #[u, s47], .int .i64 0]) (by simp [results, Tryz.results39, go_sem, e0, e1]) rfl ⟨_, rfl, ⟨_, _, rfl, HO.out.2.1, HO.out.1⟩, HO.out.2.2⟩
end Go.Proofs.YtknnleiinhdklaaGreatDoor
