/-
  Walk of package parse: a line that begins with in. Condition: the line lies in memory, its tokens too.
-/
import Derived.Deep.RegionHeld3
import Derived.Deep.DeepCutAuto
import Derived.Test.YtknnleiinhdklaaGreatDoorPk10
import Derived.Test.YtknnleiinhdklaaGreatDoorPk15
namespace Go.Proofs.YtknnleiinhdklaaGreatDoor
open Go.RowKit Go.Shelf Go.Sort
theorem fieldT0 (a b c d : Value) (w : World) : (Instr.field 60 (.agg #[a, b, c, d]) 0).run Tryz.prog w = .ok a w := by kernel_rfl
theorem fieldT2 (a b c d : Value) (w : World) : (Instr.field 60 (.agg #[a, b, c, d]) 2).run Tryz.prog w = .ok c w := by kernel_rfl
theorem var_block {P : Program} {w w' : World} {n : String} {g : Nat} (hg : P.globalNamed n = some g) (hb : w'.heap[g]? = w.heap[g]?) : w'.var? P n = w.var? P n := by
 simp [World.var?, hg, hb]
theorem ErrIs.fr {L B : Nat} {w w' : World} (h : ErrIs w) (hf : Fr L B w w') (hL : 2 < L) (hB : 2 < B) : ErrIs w' := by
 have hl := h.lt
 obtain ⟨tp, p, h'⟩ := h
 refine ⟨tp, p, ?_⟩
 rw [← h']
 exact var_block (g := 2) (by kernel_rfl) (hf.block _ hl (by rintro (h | h) <;> omega))
def sideCells (l : List (List UInt8 × Int)) : List Value := l.flatMap fun q => [.string (mkS q.1), .int .i64 q.2]
theorem sideCells_snoc (l : List (List UInt8 × Int)) (q : List UInt8 × Int) : sideCells (l ++ [q]) = sideCells l ++ [.string (mkS q.1), .int .i64 q.2] := by simp [sideCells]
theorem Tryz.infoSide : (Tryz.prog.info? 96).map (fun i => (i.zero, i.size, i.bytes)) = some (some (.agg #[.string ⟨#[]⟩, .int .i64 0]), 2, 24) := by kernel_rfl
theorem Blk.set30 {w : World} {b : Nat} {t : TypeId} {x0 x1 x2 : Value} (h : Blk w b t #[x0, x1, x2]) (u : Value) : Blk (w.setCell ⟨b, 0, none⟩ u) b t #[u, x1, x2] := by
 unfold Blk at h ⊢
 simp [World.setCell, Array.getElem?_modify, h]
theorem Blk.set31 {w : World} {b : Nat} {t : TypeId} {x0 x1 x2 : Value} (h : Blk w b t #[x0, x1, x2]) (u : Value) : Blk (w.setCell ⟨b, 1, none⟩ u) b t #[x0, u, x2] := by
 unfold Blk at h ⊢
 simp [World.setCell, Array.getElem?_modify, h]
theorem Blk.set32 {w : World} {b : Nat} {t : TypeId} {x0 x1 x2 : Value} (h : Blk w b t #[x0, x1, x2]) (u : Value) : Blk (w.setCell ⟨b, 2, none⟩ u) b t #[x0, x1, u] := by
 unfold Blk at h ⊢
 simp [World.setCell, Array.getElem?_modify, h]
/-- input's boxes. -/
structure InAt (w0 w : World) (L : Nat) (vt : Value) (toks : List Tok) (e : Int) (k : Nat) : Prop where
 line : At w w0.heap.size L vt toks k e
 res : Blk w w0.heap.size 86 #[.string ⟨#[]⟩, .int .i64 0, .slice none 0 0]
 flt : Blk w (w0.heap.size + 1) 44 #[.int .i64 0, .int .i64 0]
 fr : Fr L w0.heap.size w0 w
theorem InAt.below {w0 w w' : World} {L : Nat} {vt : Value} {toks : List Tok} {e : Int} {k : Nat} (h : InAt w0 w L vt toks e k) (hb : Below w.heap.size w w') : InAt w0 w' L vt toks e k :=
 ⟨h.line.below hb, h.res.keep (KeepTag.below hb), h.flt.keep (KeepTag.below hb), h.fr.trans (Chg.below hb)⟩
theorem InAt.next {w0 w : World} {L : Nat} {vt : Value} {toks : List Tok} {e : Int} {k : Nat} (h : InAt w0 w L vt toks e k) (k' : Nat) {u : Value} (hu : u = .int .i64 k') : InAt w0 (w.setCell ⟨L, 1, none⟩ u) L vt toks e k' := by
 have hk : ∀ t, t ≠ 58 → KeepTag t w (w.setCell ⟨L, 1, none⟩ u) := fun t ht => KeepTag.set h.line.line ht 1 u
 exact ⟨h.line.gb (gb_own (gb_below (Below.refl _ _)) 1 u) (h.line.line.next k' hu), h.res.keep (hk _ (by decide)), h.flt.keep (hk _ (by decide)), h.fr.trans (Chg.set (.inl rfl) 1 u)⟩
theorem InAt.after {w0 w w1 w' : World} {L : Nat} {vt : Value} {toks : List Tok} {e : Int} {k : Nat} (h : InAt w0 w L vt toks e k) (hb : Below w1.heap.size w1 w') (hz : w1.heap = w.heap := by rfl) (ho : w1.os = w.os := by rfl) (ht : w1.tape = w.tape := by rfl) (hu : w1.output = w.output := by rfl) : InAt w0 w' L vt toks e k :=
 h.below ⟨hb.os.trans ho, hb.tape.trans ht, hb.output.trans hu, by rw [← hz]; exact hb.size, fun k hk => (hb.block k (by rw [hz]; exact hk)).trans (by rw [hz])⟩
theorem InAt.draws {w0 w : World} {L : Nat} {vt : Value} {toks : List Tok} {e : Int} {k : Nat} (h : InAt w0 w L vt toks e k) (n : Nat) : InAt w0 (w.drewN n) L vt toks e k := h.below (below_drewN' (Below.refl _ _) n)
theorem InAt.kept {w0 w w' : World} {L : Nat} {vt : Value} {toks : List Tok} {e : Int} {k : Nat} (h : InAt w0 w L vt toks e k) (hk : ∀ t, t ≠ 96 → KeepTag t w w') (hc : Chg (fun k => w0.heap.size ≤ k) w w') : InAt w0 w' L vt toks e k :=
 ⟨⟨hk _ (by decide) L _ h.line.line, h.line.toks.below ⟨hc.os, hc.tape, hc.output, hc.size, fun k hk => hc.block k (by have := h.line.le; omega) (by omega)⟩, h.line.lt, Nat.le_trans h.line.le hc.size⟩, h.res.keep (hk _ (by decide)), h.flt.keep (hk _ (by decide)), h.fr.trans (hc.mono (fun k h => .inr h))⟩
theorem InAt.box {w0 w : World} {L bi : Nat} {vt : Value} {toks : List Tok} {e : Int} {k : Nat} (h : InAt w0 w L vt toks e k) {cs : Array Value} (hb : Blk w bi 86 cs) (hne : w0.heap.size < bi) (u : Value) : InAt w0 (w.setCell ⟨bi, 2, none⟩ u) L vt toks e k := by
 have hk : ∀ t, t ≠ 86 → KeepTag t w (w.setCell ⟨bi, 2, none⟩ u) := fun t ht => KeepTag.set hb ht 2 u
 have hc : Chg (fun k => w0.heap.size ≤ k) w (w.setCell ⟨bi, 2, none⟩ u) := Chg.set (S := fun k => w0.heap.size ≤ k) (Nat.le_of_lt hne) 2 u
 exact ⟨⟨hk _ (by decide) L _ h.line.line, h.line.toks.below ⟨hc.os, hc.tape, hc.output, hc.size, fun k hk => hc.block k (by have := h.line.le; omega) (by omega)⟩, h.line.lt, Nat.le_trans h.line.le hc.size⟩,
  (Below.heap_setCell w ⟨bi, 2, none⟩ u w0.heap.size (fun e => by have e : w0.heap.size = bi := e; omega)).trans h.res, h.flt.keep (hk _ (by decide)), h.fr.trans (hc.mono (fun k h => .inr h))⟩
/-- What input leaves behind its last stores. -/
theorem InAt.stored {w0 w : World} {L : Nat} {vt : Value} {toks : List Tok} {e : Int} {k : Nat} (h : InAt w0 w L vt toks e k) (x0 x1 x2 a c : Value) :
  let W := ((((w.setCell ⟨w0.heap.size, 0, none⟩ x0).setCell ⟨w0.heap.size, 1, none⟩ x1).setCell ⟨w0.heap.size, 2, none⟩ x2).setCell ⟨w0.heap.size + 1, 0, none⟩ a).setCell ⟨w0.heap.size + 1, 1, none⟩ c
  Blk W w0.heap.size 86 #[x0, x1, x2] ∧ Blk W (w0.heap.size + 1) 44 #[a, c] ∧ Fr L w0.heap.size w0 W ∧ LineIs W L vt k e ∧ (∀ t, t ≠ 86 → t ≠ 44 → KeepTag t w W) := by
 have k1 := h.res
 have s0 : ∀ t, t ≠ 86 → KeepTag t w (((w.setCell ⟨w0.heap.size, 0, none⟩ x0).setCell ⟨w0.heap.size, 1, none⟩ x1).setCell ⟨w0.heap.size, 2, none⟩ x2) := fun t ht => (KeepTag.set k1 ht 0 x0).trans ((KeepTag.set (k1.set30 x0) ht 1 x1).trans (KeepTag.set ((k1.set30 x0).set31 x1) ht 2 x2))
 have f0 := h.flt.keep (s0 _ (by decide))
 have s1 : ∀ t, t ≠ 44 → KeepTag t _ _ := fun t ht => (KeepTag.set f0 ht 0 a).trans (KeepTag.set (f0.put0 a) ht 1 c)
 have ka : ∀ t, t ≠ 86 → t ≠ 44 → KeepTag t w _ := fun t h1 h2 => (s0 t h1).trans (s1 t h2)
 refine ⟨(((k1.set30 x0).set31 x1).set32 x2).keep (s1 _ (by decide)), f0.put2 a c, h.fr.trans ?_, ka _ (by decide) (by decide) L _ h.line.line, ka⟩
 exact Fr.trans (Chg.set (.inr (Nat.le_refl _)) 0 x0) (Fr.trans (Chg.set (.inr (Nat.le_refl _)) 1 x1) (Fr.trans (Chg.set (.inr (Nat.le_refl _)) 2 x2) (Fr.trans (Chg.set (.inr (Nat.le_succ _)) 0 a) (Chg.set (.inr (Nat.le_succ _)) 1 c))))
/-- What input gives. -/
def InputPost (L : Nat) (vt : Value) (e : Int) (x : Except Fault Inp) (w : World) (en : Ending) (w' : World) : Prop :=
 Fr L w.heap.size w w' ∧ (∃ k', LineIs w' L vt k' e) ∧ match x with
 | .error y => ∃ nm a ad n cap, en = .returned (.tuple #[.agg #[.string nm, .int .i64 a, .slice ad n cap], .agg #[.int .i64 y.1, .int .i64 y.2]])
 | .ok q => ∃ v, en = .returned (.tuple #[.agg #[.string (mkS q.name), .int .i64 q.at_, v], .agg #[.int .i64 0, .int .i64 0]]) ∧ w'.ownsRow w.heap.size 96 2 v q.sides.length (sideCells q.sides)
theorem two_here (w : World) (a b : Obj) : ((w.alloc a).alloc b).heap[w.heap.size]? = some a ∧ ((w.alloc a).alloc b).heap[w.heap.size + 1]? = some b := by
 have h1 := heap_alloc_new (w.alloc a) b
 have e1 : (w.alloc a).heap.size = w.heap.size + 1 := by simp
 rw [e1] at h1
 exact ⟨(Below.heap_alloc _ b _ (by simp)).trans (heap_alloc_new w a), h1⟩
set_option maxHeartbeats 8000000 in
set_option maxRecDepth 100000 in
theorem input_any (L : Nat) (vt : Value) (toks : List Tok) (k0 : Nat) (e : Int) (w : World) (hA : At w w.heap.size L vt toks k0 e) (hne : 1 ≤ toks.length) (hlen : toks.length ≤ 50000) (hW : ∀ t ∈ toks, t.word.length ≤ maxLen) (hErr : ErrIs w) (hLg : 2 < L) :
  Calls Tryz.prog 29 #[.pointer (some ⟨L, 0, none⟩)] w (InputPost L vt e (inputP e (toks.drop 1)) w) := by
 have HA := Lib.hid hA
 have hL := hA.lt
 have hEl := hErr.lt
 obtain ⟨c0, c1, c2, f0, f1, f2⟩ := hA.line.cells
 have HI : Hid (InAt w (((w.setCell ⟨L, 1, none⟩ (.int .i64 1)).alloc (.cells #[.string ⟨#[]⟩, .int .i64 0, .slice none 0 0] 86)).alloc (.cells #[.int .i64 0, .int .i64 0] 44)) L vt toks e 1) := by
  apply Lib.hid
  have h1 : At (w.setCell ⟨L, 1, none⟩ (.int .i64 1)) w.heap.size L vt toks 1 e := HA.out.gb (gb_own (gb_below (Below.refl _ _)) 1 _) (HA.out.line.next 1 rfl)
  have hz : (w.setCell ⟨L, 1, none⟩ (.int .i64 1)).heap.size = w.heap.size := size_set _ _ _
  obtain ⟨q1, q2⟩ := two_here (w.setCell ⟨L, 1, none⟩ (.int .i64 1)) (.cells #[.string ⟨#[]⟩, .int .i64 0, .slice none 0 0] 86) (.cells #[.int .i64 0, .int .i64 0] 44)
  rw [hz] at q1 q2
  have hb : Below (w.setCell ⟨L, 1, none⟩ (.int .i64 1)).heap.size (w.setCell ⟨L, 1, none⟩ (.int .i64 1)) (((w.setCell ⟨L, 1, none⟩ (.int .i64 1)).alloc (.cells #[.string ⟨#[]⟩, .int .i64 0, .slice none 0 0] 86)).alloc (.cells #[.int .i64 0, .int .i64 0] 44)) := ((Below.refl _ _).alloc (Nat.le_refl _) _).alloc (by simp) _
  exact ⟨h1.below hb, q1, q2, Fr.trans (Chg.set (.inl rfl) 1 _) (Chg.below hb)⟩
 generalize hX : inputP e (toks.drop 1) = X
 clear hA
 have fd0 := fieldT0
 have fd2 := fieldT2
 go_enter Tryz.func29, Tryz.ntmps29
 go_upto_region 2 with fail
 generalize (((w.setCell ⟨L, 1, none⟩ (.int .i64 1)).alloc (.cells #[.string ⟨#[]⟩, .int .i64 0, .slice none 0 0] 86)).alloc (.cells #[.int .i64 0, .int .i64 0] 44)) = W2 at HI ⊢
 clear c0 c1 c2 f0 f1 f2 HA
 go_wp2_with fail
 refine (at_any L vt toks 1 e W2 HI.out.line.line HI.out.line.full).mono ?_
 rintro _ w3 ⟨rfl, hb3⟩
 have HI3 := Lib.hid (HI.out.below hb3)
 clear HI hb3
 obtain ⟨pa, hpa⟩ : ∃ p, p = placeP e (toks.drop 1) := ⟨_, rfl⟩
 rw [← hpa]
 have HPa := Lib.hid hpa
 clear hpa
 go_wp2_with fail
 refine (peek_any L vt toks 1 e w3 HI3.out.line.line HI3.out.line.full).mono ?_
 rintro _ w4 ⟨rfl, hb4⟩
 have HI4 := Lib.hid (HI3.out.below hb4)
 clear HI3 hb4
 unfold Tok.val
 dsimp only
 have hs4 := HI4.out.fr.size
 have hs4' := HI4.out.flt.lt
 have HI5 := Lib.hid (HI4.out.below (w' := w4.alloc (.cells #[.string (mkS (peekT toks 1).word), .int .i64 pa, .slice none 0 0] 86)) ((Below.refl _ _).alloc (Nat.le_refl _) _))
 have HBi : Hid (Blk (w4.alloc (.cells #[.string (mkS (peekT toks 1).word), .int .i64 pa, .slice none 0 0] 86)) w4.heap.size 86 #[.string (mkS (peekT toks 1).word), .int .i64 pa, .slice none 0 0]) := Lib.hid (heap_alloc_new w4 _)
 go_upto_region 3 with fail
 obtain ⟨bi, hbi⟩ : ∃ b, b = w4.heap.size := ⟨_, rfl⟩
 rw [← hbi] at HBi hs4 hs4' ⊢
 generalize (w4.alloc (.cells #[.string (mkS (peekT toks 1).word), .int .i64 pa, .slice none 0 0] 86)) = W5 at HI5 HBi ⊢
 clear HI4 hbi
 obtain ⟨a, cap, hvt, hc, hm, -⟩ := HI5.out.line.toks
 obtain ⟨n, hn⟩ : ∃ n, n = toks.length := ⟨_, rfl⟩
 rw [← hn] at hc hvt
 have HN := Lib.hid hn
 have hnl : n ≤ 50000 := by omega
 have hn1 : 1 ≤ n := by omega
 unfold maxLen at hm
 obtain ⟨c0, c1, c2, f0, f1, f2⟩ := HI5.out.line.line.cells
 rw [hvt] at c0
 have HVt := Lib.hid hvt
 clear hn hne hlen hvt
 simp at c1
 by_cases h1 : n = 1
 ·have hn1 : ((1 : Int) == (n : Int)) = true := by rw [beq_iff_eq]; omega
  have HX : Hid (Except.error (e, 42) = X) := by
   apply Lib.hid
   rw [← hX, List.drop_eq_nil_of_le (by have := HN.out; omega)]
   rfl
  have HPl := Lib.hid (place_out (toks := toks) (k := 1) e (by have := HN.out; omega))
  clear hX h1
  go_quiet (fail)
  go_wp2_with fail
  have HFt := Lib.hid (fun wx (hb : Below W5.heap.size W5 wx) => fault_any L _ toks 1 e 42 wx (HI5.out.below hb).line.line (HI5.out.below hb).line.full)
  rw [HPl.out] at HFt
  have hbi5 := HBi.out.lt
  have hre5 := HI5.out.res.lt
  have hfl5 := HI5.out.flt.lt
  have b0 : W5.cell? ⟨bi, 0, none⟩ = some (.string (mkS (peekT toks 1).word)) := HBi.out.cell 0
  have b1 : W5.cell? ⟨bi, 1, none⟩ = some (.int .i64 pa) := HBi.out.cell 1
  have b2 : W5.cell? ⟨bi, 2, none⟩ = some (.slice none 0 0) := HBi.out.cell 2
  have hne1 : ¬ bi = w.heap.size := by omega
  have hne2 : ¬ bi = w.heap.size + 1 := by omega
  have hne3 : ¬ w.heap.size = bi := by omega
  have hne4 : ¬ w.heap.size + 1 = bi := by omega
  go_region_held3 (fun wx => wx.cell? ⟨bi, 0, none⟩ = some (.string (mkS (peekT toks 1).word)) ∧ wx.cell? ⟨bi, 1, none⟩ = some (.int .i64 pa) ∧ wx.cell? ⟨bi, 2, none⟩ = some (.slice none 0 0))
   (first | go_keep)
   (first | (go_at_call 28; refine (HFt.out _ (by repeat (first | exact Below.refl _ _ | refine Below.drew ?_ | refine below_drewN' ?_ _))).mono ?_; rintro _ w9 ⟨rfl, hb9⟩; have b0' : w9.cell? ⟨bi, 0, none⟩ = some (.string (mkS (peekT toks 1).word)) := (hb9.cell (p := ⟨bi, 0, none⟩) hbi5).trans b0; have b1' : w9.cell? ⟨bi, 1, none⟩ = some (.int .i64 pa) := (hb9.cell (p := ⟨bi, 1, none⟩) hbi5).trans b1; have b2' : w9.cell? ⟨bi, 2, none⟩ = some (.slice none 0 0) := (hb9.cell (p := ⟨bi, 2, none⟩) hbi5).trans b2; have HR9 : Hid (Blk w9 w.heap.size 86 #[.string ⟨#[]⟩, .int .i64 0, .slice none 0 0]) := Lib.hid ((hb9.block _ hre5).trans HI5.out.res); have HF9 : Hid (Blk w9 (w.heap.size + 1) 44 #[.int .i64 0, .int .i64 0]) := Lib.hid ((hb9.block _ hfl5).trans HI5.out.flt); have HI9 := Lib.hid (HI5.out.after hb9); have r0 : w9.cell? ⟨w.heap.size, 0, none⟩ = some (.string ⟨#[]⟩) := HR9.out.cell 0; have r1 : w9.cell? ⟨w.heap.size, 1, none⟩ = some (.int .i64 0) := HR9.out.cell 1; have r2 : w9.cell? ⟨w.heap.size, 2, none⟩ = some (.slice none 0 0) := HR9.out.cell 2; have rf0 : w9.frozen? ⟨w.heap.size, 0, none⟩ = false := HR9.out.froz 0; have rf1 : w9.frozen? ⟨w.heap.size, 1, none⟩ = false := HR9.out.froz 1; have rf2 : w9.frozen? ⟨w.heap.size, 2, none⟩ = false := HR9.out.froz 2; have q0 : w9.cell? ⟨w.heap.size + 1, 0, none⟩ = some (.int .i64 0) := HF9.out.cell 0; have q1 : w9.cell? ⟨w.heap.size + 1, 1, none⟩ = some (.int .i64 0) := HF9.out.cell 1; have qf0 : w9.frozen? ⟨w.heap.size + 1, 0, none⟩ = false := HF9.out.froz 0; have qf1 : w9.frozen? ⟨w.heap.size + 1, 1, none⟩ = false := HF9.out.froz 1; clear hb9))
  go_wp2
  obtain ⟨z1, z2, z3, z4, -⟩ := HI9.out.stored (.string (mkS (peekT toks 1).word)) (.int .i64 pa) (.slice none 0 0) (.int .i64 e) (.int .i64 42)
  have y0 := z1.cell 0
  have y1 := z1.cell 1
  have y2 := z1.cell 2
  have y3 := z2.cell 0
  have y4 := z2.cell 1
  simp at y0 y1 y2 y3 y4
  refine bodyPost_ret (v := .tuple #[.agg #[.string (mkS (peekT toks 1).word), .int .i64 pa, .slice none 0 0], .agg #[.int .i64 e, .int .i64 42]]) (by simp [results, Tryz.results29, go_sem, y0, y1, y2, y3, y4]) rfl ?_
  rw [← HX.out]
  exact ⟨z3, ⟨_, z4⟩, _, _, _, _, _, rfl⟩
 ·have hn1b : ((1 : Int) == (n : Int)) = false := by rw [beq_eq_false_iff_ne]; omega
  have hlt1 : 1 < toks.length := by have := HN.out; omega
  obtain ⟨T, hT⟩ : ∃ t, toks[1]? = some t := ⟨toks[1], List.getElem?_eq_getElem hlt1⟩
  have hpa := HPa.out
  rw [place_in e hT] at hpa
  have hwd := hW T (List.mem_of_getElem? hT)
  have hd1 : toks.drop 1 = T :: toks.drop 2 := by
   obtain ⟨hk, ht⟩ := List.getElem?_eq_some_iff.1 hT
   rw [List.drop_eq_getElem_cons hk, ht]
  rw [hd1, inputP] at hX
  have HPl := Lib.hid (place_in e hT)
  rw [peek_in hT] at HBi ⊢
  have HPk := Lib.hid (peek_in hT)
  clear hd1 hT hlt1
  obtain ⟨tk, ta, tw, tn⟩ := T
  dsimp only at hpa hwd hX HBi HPl ⊢
  replace hpa := hpa.symm
  subst hpa
  have HN1 := Lib.hid (fun w => Name_any (mkS tw) w (by rw [mkS_size]; exact hwd))
  rw [mkS_toList] at HN1
  clear HPa hwd
  go_quiet (fail)
  go_wp2_with fail
  have HI6 := Lib.hid (HI5.out.draws nq)
  have HBi6 : Hid (Blk (W5.drewN nq) bi 86 #[.string (mkS tw), .int .i64 ta, .slice none 0 0]) := HBi
  generalize W5.drewN nq = W6 at HI6 HBi6 ⊢
  clear HI5 HBi c0 c1 c2 f0 f1 f2
  refine (peek_any L vt toks 1 e W6 HI6.out.line.line HI6.out.line.full).mono ?_
  rintro _ w7 ⟨rfl, hb7⟩
  rw [HPk.out]
  unfold Tok.val
  dsimp only
  have HI7 := Lib.hid (HI6.out.below hb7)
  have HBi7 := Lib.hid (HBi6.out.keep (KeepTag.below hb7))
  have i0 : w7.cell? ⟨bi, 0, none⟩ = some (.string (mkS tw)) := HBi7.out.cell 0
  clear HI6 HBi6 hb7
  by_cases hk1 : tk = 1
  ·subst hk1
   have hEr : ErrIs w7 := hErr.fr HI7.out.fr hLg hEl
   cases hnb : nameB tw with
   | false =>
    have HNm := Lib.hid (HN1.out w7 hEr)
    rw [hnb] at HNm
    rw [if_pos (by unfold nameT; rw [hnb]; rfl)] at hX
    have HX := Lib.hid hX
    clear hX hnb HN1 hEr
    go_wp2_with (go_at_call 30; refine HNm.out.mono ?_; rintro _ w8 ⟨rfl, hb8⟩; have HI8 := Lib.hid (HI7.out.below hb8); have HBi8 := Lib.hid (HBi7.out.keep (KeepTag.below hb8)); clear hb8)
    have HFt := Lib.hid (fun wx (hb : Below w8.heap.size w8 wx) => fault_any L _ toks 1 e 41 wx (HI8.out.below hb).line.line (HI8.out.below hb).line.full)
    rw [HPl.out] at HFt
    have hbi5 := HBi8.out.lt
    have hre5 := HI8.out.res.lt
    have hfl5 := HI8.out.flt.lt
    have b0 : w8.cell? ⟨bi, 0, none⟩ = some (.string (mkS tw)) := HBi8.out.cell 0
    have b1 : w8.cell? ⟨bi, 1, none⟩ = some (.int .i64 ta) := HBi8.out.cell 1
    have b2 : w8.cell? ⟨bi, 2, none⟩ = some (.slice none 0 0) := HBi8.out.cell 2
    have hne1 : ¬ bi = w.heap.size := by omega
    have hne2 : ¬ bi = w.heap.size + 1 := by omega
    have hne3 : ¬ w.heap.size = bi := by omega
    have hne4 : ¬ w.heap.size + 1 = bi := by omega
    go_region_held3 (fun wx => wx.cell? ⟨bi, 0, none⟩ = some (.string (mkS tw)) ∧ wx.cell? ⟨bi, 1, none⟩ = some (.int .i64 ta) ∧ wx.cell? ⟨bi, 2, none⟩ = some (.slice none 0 0))
     (first | go_keep)
     (first | (go_at_call 28; refine (HFt.out _ (by repeat (first | exact Below.refl _ _ | refine Below.drew ?_ | refine below_drewN' ?_ _))).mono ?_; rintro _ w9 ⟨rfl, hb9⟩; have b0' : w9.cell? ⟨bi, 0, none⟩ = some (.string (mkS tw)) := (hb9.cell (p := ⟨bi, 0, none⟩) hbi5).trans b0; have b1' : w9.cell? ⟨bi, 1, none⟩ = some (.int .i64 ta) := (hb9.cell (p := ⟨bi, 1, none⟩) hbi5).trans b1; have b2' : w9.cell? ⟨bi, 2, none⟩ = some (.slice none 0 0) := (hb9.cell (p := ⟨bi, 2, none⟩) hbi5).trans b2; have HR9 : Hid (Blk w9 w.heap.size 86 #[.string ⟨#[]⟩, .int .i64 0, .slice none 0 0]) := Lib.hid ((hb9.block _ hre5).trans HI8.out.res); have HF9 : Hid (Blk w9 (w.heap.size + 1) 44 #[.int .i64 0, .int .i64 0]) := Lib.hid ((hb9.block _ hfl5).trans HI8.out.flt); have HI9 := Lib.hid (HI8.out.after hb9); have r0 : w9.cell? ⟨w.heap.size, 0, none⟩ = some (.string ⟨#[]⟩) := HR9.out.cell 0; have r1 : w9.cell? ⟨w.heap.size, 1, none⟩ = some (.int .i64 0) := HR9.out.cell 1; have r2 : w9.cell? ⟨w.heap.size, 2, none⟩ = some (.slice none 0 0) := HR9.out.cell 2; have rf0 : w9.frozen? ⟨w.heap.size, 0, none⟩ = false := HR9.out.froz 0; have rf1 : w9.frozen? ⟨w.heap.size, 1, none⟩ = false := HR9.out.froz 1; have rf2 : w9.frozen? ⟨w.heap.size, 2, none⟩ = false := HR9.out.froz 2; have q0 : w9.cell? ⟨w.heap.size + 1, 0, none⟩ = some (.int .i64 0) := HF9.out.cell 0; have q1 : w9.cell? ⟨w.heap.size + 1, 1, none⟩ = some (.int .i64 0) := HF9.out.cell 1; have qf0 : w9.frozen? ⟨w.heap.size + 1, 0, none⟩ = false := HF9.out.froz 0; have qf1 : w9.frozen? ⟨w.heap.size + 1, 1, none⟩ = false := HF9.out.froz 1; clear hb9))
    go_wp2
    obtain ⟨z1, z2, z3, z4, -⟩ := HI9.out.stored (.string (mkS tw)) (.int .i64 ta) (.slice none 0 0) (.int .i64 ta) (.int .i64 41)
    have y0 := z1.cell 0
    have y1 := z1.cell 1
    have y2 := z1.cell 2
    have y3 := z2.cell 0
    have y4 := z2.cell 1
    simp at y0 y1 y2 y3 y4
    refine bodyPost_ret (v := .tuple #[.agg #[(.string (mkS tw)), (.int .i64 ta), (.slice none 0 0)], .agg #[.int .i64 ta, .int .i64 41]]) (by simp [results, Tryz.results29, go_sem, y0, y1, y2, y3, y4]) rfl ?_
    rw [← HX.out]
    exact ⟨z3, ⟨_, z4⟩, _, _, _, _, _, rfl⟩
   | true =>
    have HNm := Lib.hid (HN1.out w7 hEr)
    rw [hnb] at HNm
    rw [if_neg (by unfold nameT; rw [hnb]; simp)] at hX
    generalize hY : sidesP [] (toks.drop 2) = Y at hX
    have HX := Lib.hid hX
    have HY := Lib.hid hY
    clear hX hnb HN1 hEr hY
    go_upto_region 7 with (go_at_call 30; refine HNm.out.mono ?_; rintro _ w8 ⟨rfl, hb8⟩; have HI8 := Lib.hid (HI7.out.below hb8); have HBi8 := Lib.hid (HBi7.out.keep (KeepTag.below hb8)); clear hb8)
    obtain ⟨c0, c1, c2, f0, f1, f2⟩ := HI8.out.line.line.cells
    have HI9 := Lib.hid (HI8.out.next 2 (u := .int .i64 2) rfl)
    have HBi9 := Lib.hid (HBi8.out.keep (KeepTag.set HI8.out.line.line (by decide) 1 (.int .i64 2)))
    clear HI7 HBi7 i0 HPk HPl HNm
    go_wp2_with fail
    go_loopg [] (n - 2) (fun g wr => ∃ k acc v, g = n - k ∧ 2 ≤ k ∧ k ≤ n ∧ InAt w wr L vt toks e k ∧ Blk wr bi 86 #[.string (mkS tw), .int .i64 ta, v] ∧ wr.ownsRow w.heap.size 96 2 v acc.length (sideCells acc) ∧ sidesP acc (toks.drop k) = Y ∧ acc.length ≤ 4)
    case atStart => exact ⟨2, [], _, rfl, Nat.le_refl _, by omega, HI9.out, HBi9.out, World.ownsRow_nil _ _ _ _, HY.out, by simp⟩
    case round =>
     obtain ⟨k, acc, v, rfl, hk2, hkn, hI, hbi, hown, hS, hacc⟩ := hrel
     clear HI8 HBi8 HI9 HBi9 HY c0 c1 c2 f0 f1 f2
     have HI := Lib.hid hI
     have HBi := Lib.hid hbi
     have Hown := Lib.hid hown
     obtain ⟨c0, c1, c2, f0, f1, f2⟩ := hI.line.line.cells
     rw [HVt.out] at c0
     obtain ⟨ad, capd, rfl⟩ := own_form hown
     have HS := Lib.hid hS
     clear hI hbi hown hS
     by_cases hlt : k < n
     ·have hlt' : (k : Int) < (n : Int) := by omega
      have hltb : decide ((k : Int) < (n : Int)) = true := by simpa using hlt'
      have hkl : k < toks.length := by have := HN.out; omega
      obtain ⟨T, hT⟩ : ∃ t, toks[k]? = some t := ⟨toks[k], List.getElem?_eq_getElem hkl⟩
      have hwd := hW T (List.mem_of_getElem? hT)
      have HPk := Lib.hid (peek_in hT)
      have HPl := Lib.hid (place_in e hT)
      have HD : Hid (toks.drop k = T :: toks.drop (k + 1)) := by
       apply Lib.hid
       obtain ⟨hk, ht⟩ := List.getElem?_eq_some_iff.1 hT
       rw [List.drop_eq_getElem_cons hk, ht]
      clear hT hkl
      obtain ⟨uk, ua, uw, un⟩ := T
      have HN2 := Lib.hid (fun w => Name_any (mkS uw) w (by rw [mkS_size]; exact hwd))
      rw [mkS_toList] at HN2
      clear hwd
      go_upto_region 8 with fail
      go_quiet (fail)
      go_wp2_with fail
      have HI2 := Lib.hid (HI.out.draws nq)
      have HBi2 : Hid (Blk (wr.drewN nq) bi 86 #[.string (mkS tw), .int .i64 ta, .slice ad acc.length capd]) := HBi
      have Hown2 : Hid ((wr.drewN nq).ownsRow w.heap.size 96 2 (.slice ad acc.length capd) acc.length (sideCells acc)) := Hown
      generalize wr.drewN nq = W2 at HI2 HBi2 Hown2 ⊢
      clear HI HBi Hown c0 c1 c2 f0 f1 f2
      refine (peek_any L vt toks k e W2 HI2.out.line.line HI2.out.line.full).mono ?_
      rintro _ w3 ⟨rfl, hb3⟩
      rw [HPk.out]
      unfold Tok.val
      dsimp only
      have HI3 := Lib.hid (HI2.out.below hb3)
      have HBi3 := Lib.hid (HBi2.out.keep (KeepTag.below hb3))
      have Hown3 := Lib.hid (own_below Hown2.out hb3)
      clear HI2 HBi2 Hown2 hb3
      go_upto_region 11 with fail
      have HI4 := Lib.hid (HI3.out.below (w' := w3.alloc (.cells #[.int .i64 uk, .int .i64 ua, .string (mkS uw), .int .i64 un] 60)) ((Below.refl _ _).alloc (Nat.le_refl _) _))
      have HBi4 := Lib.hid (HBi3.out.keep (KeepTag.alloc (.cells #[.int .i64 uk, .int .i64 ua, .string (mkS uw), .int .i64 un] 60)))
      have Hown4 := Lib.hid (own_tag Hown3.out (KeepTag.alloc (.cells #[.int .i64 uk, .int .i64 ua, .string (mkS uw), .int .i64 un] 60)))
      have HT4 : Hid (Blk (w3.alloc (.cells #[.int .i64 uk, .int .i64 ua, .string (mkS uw), .int .i64 un] 60)) w3.heap.size 60 #[.int .i64 uk, .int .i64 ua, .string (mkS uw), .int .i64 un]) := Lib.hid (heap_alloc_new w3 _)
      have hs3 := HI3.out.flt.lt
      obtain ⟨b5, hb5⟩ : ∃ b, b = w3.heap.size := ⟨_, rfl⟩
      rw [← hb5] at HT4 hs3 ⊢
      generalize (w3.alloc (.cells #[.int .i64 uk, .int .i64 ua, .string (mkS uw), .int .i64 un] 60)) = W4 at HI4 HBi4 Hown4 HT4 ⊢
      clear HI3 HBi3 Hown3 hb5
      have HS' := Lib.hid hacc
      go_cut [76] from 44 to 96 (fun b wx => b = .bool (!isNum ⟨uk, ua, uw, un⟩ && !nameT ⟨uk, ua, uw, un⟩) ∧ InAt w wx L vt toks e k ∧ Blk wx bi 86 #[.string (mkS tw), .int .i64 ta, .slice ad acc.length capd] ∧ wx.ownsRow w.heap.size 96 2 (.slice ad acc.length capd) acc.length (sideCells acc) ∧ Blk wx b5 60 #[.int .i64 uk, .int .i64 ua, .string (mkS uw), .int .i64 un])
      case first =>
       have t0 : W4.cell? ⟨b5, 0, none⟩ = some (.int .i64 uk) := HT4.out.cell 0
       have t2 : W4.cell? ⟨b5, 2, none⟩ = some (.string (mkS uw)) := HT4.out.cell 2
       by_cases hu2 : uk = 2
       ·subst hu2
        go_wp2_with fail
        go_meet
        case rel => exact ⟨rfl, HI4.out, HBi4.out, Hown4.out, HT4.out⟩
       ·have hu2b : (uk != 2) = true := by simpa using hu2
        have hu2c : (uk == 2) = false := by simpa using hu2
        by_cases hu1 : uk = 1
        ·subst hu1
         have HNm := Lib.hid (HN2.out W4 (hErr.fr HI4.out.fr hLg hEl))
         clear hu2 hu2b hu2c
         cases hnb : nameB uw with
         | true =>
          rw [hnb] at HNm
          have hbad : Hid ((!isNum ⟨1, ua, uw, un⟩ && !nameT ⟨1, ua, uw, un⟩) = false) := Lib.hid (by unfold nameT; rw [hnb]; rfl)
          clear hnb
          go_wp2_with (go_at_call 30; refine HNm.out.mono ?_; rintro _ w5 ⟨rfl, hb5⟩)
          go_meet
          case rel => exact ⟨by rw [hbad.out], HI4.out.below hb5, HBi4.out.keep (KeepTag.below hb5), own_below Hown4.out hb5, HT4.out.keep (KeepTag.below hb5)⟩
         | false =>
          rw [hnb] at HNm
          have hbad : Hid ((!isNum ⟨1, ua, uw, un⟩ && !nameT ⟨1, ua, uw, un⟩) = true) := Lib.hid (by unfold nameT; rw [hnb]; rfl)
          clear hnb
          go_wp2_with (go_at_call 30; refine HNm.out.mono ?_; rintro _ w5 ⟨rfl, hb5⟩)
          go_meet
          case rel => exact ⟨by rw [hbad.out], HI4.out.below hb5, HBi4.out.keep (KeepTag.below hb5), own_below Hown4.out hb5, HT4.out.keep (KeepTag.below hb5)⟩
        ·have hu1b : (uk != 1) = true := by simpa using hu1
         have hbad : Hid ((!isNum ⟨uk, ua, uw, un⟩ && !nameT ⟨uk, ua, uw, un⟩) = true) := Lib.hid (by unfold nameT isNum; simp [hu1, hu2])
         clear hu2 hu1
         go_wp2_with fail
         go_meet
         case rel => exact ⟨by rw [hbad.out], HI4.out, HBi4.out, Hown4.out, HT4.out⟩
      case rest =>
       obtain ⟨rfl, hI, hbi, hown, ht⟩ := hcut
       clear HI4 HBi4 Hown4 HT4 HN2 HPk
       have HI5 := Lib.hid hI
       have HBi5 := Lib.hid hbi
       have Hown5 := Lib.hid hown
       have HT5 := Lib.hid ht
       have hS := HS.out
       rw [HD.out, sidesP] at hS
       clear hI hbi hown ht
       cases hbad : (!isNum ⟨uk, ua, uw, un⟩ && !nameT ⟨uk, ua, uw, un⟩) with
       | true =>
        rw [if_pos hbad] at hS
        have HX3 : Hid (Except.error (ua, 41) = X) := by
         apply Lib.hid
         have := HX.out
         rw [← hS] at this
         exact this
        have HX := HX3
        clear hS hbad HX3
        go_wp2_with fail
        have HFt := Lib.hid (fun wx (hb : Below wc.heap.size wc wx) => fault_any L _ toks k e 41 wx (HI5.out.below hb).line.line (HI5.out.below hb).line.full)
        rw [HPl.out] at HFt
        have hbi5 := HBi5.out.lt
        have hre5 := HI5.out.res.lt
        have hfl5 := HI5.out.flt.lt
        have b0 : wc.cell? ⟨bi, 0, none⟩ = some (.string (mkS tw)) := HBi5.out.cell 0
        have b1 : wc.cell? ⟨bi, 1, none⟩ = some (.int .i64 ta) := HBi5.out.cell 1
        have b2 : wc.cell? ⟨bi, 2, none⟩ = some (.slice ad acc.length capd) := HBi5.out.cell 2
        have hne1 : ¬ bi = w.heap.size := by omega
        have hne2 : ¬ bi = w.heap.size + 1 := by omega
        have hne3 : ¬ w.heap.size = bi := by omega
        have hne4 : ¬ w.heap.size + 1 = bi := by omega
        go_region_held3 (fun wx => wx.cell? ⟨bi, 0, none⟩ = some (.string (mkS tw)) ∧ wx.cell? ⟨bi, 1, none⟩ = some (.int .i64 ta) ∧ wx.cell? ⟨bi, 2, none⟩ = some (.slice ad acc.length capd))
         (first | go_keep)
         (first | (go_at_call 28; refine (HFt.out _ (by repeat (first | exact Below.refl _ _ | refine Below.drew ?_ | refine below_drewN' ?_ _))).mono ?_; rintro _ w9 ⟨rfl, hb9⟩; have b0' : w9.cell? ⟨bi, 0, none⟩ = some (.string (mkS tw)) := (hb9.cell (p := ⟨bi, 0, none⟩) hbi5).trans b0; have b1' : w9.cell? ⟨bi, 1, none⟩ = some (.int .i64 ta) := (hb9.cell (p := ⟨bi, 1, none⟩) hbi5).trans b1; have b2' : w9.cell? ⟨bi, 2, none⟩ = some (.slice ad acc.length capd) := (hb9.cell (p := ⟨bi, 2, none⟩) hbi5).trans b2; have HR9 : Hid (Blk w9 w.heap.size 86 #[.string ⟨#[]⟩, .int .i64 0, .slice none 0 0]) := Lib.hid ((hb9.block _ hre5).trans HI5.out.res); have HF9 : Hid (Blk w9 (w.heap.size + 1) 44 #[.int .i64 0, .int .i64 0]) := Lib.hid ((hb9.block _ hfl5).trans HI5.out.flt); have HI9 := Lib.hid (HI5.out.after hb9); have r0 : w9.cell? ⟨w.heap.size, 0, none⟩ = some (.string ⟨#[]⟩) := HR9.out.cell 0; have r1 : w9.cell? ⟨w.heap.size, 1, none⟩ = some (.int .i64 0) := HR9.out.cell 1; have r2 : w9.cell? ⟨w.heap.size, 2, none⟩ = some (.slice none 0 0) := HR9.out.cell 2; have rf0 : w9.frozen? ⟨w.heap.size, 0, none⟩ = false := HR9.out.froz 0; have rf1 : w9.frozen? ⟨w.heap.size, 1, none⟩ = false := HR9.out.froz 1; have rf2 : w9.frozen? ⟨w.heap.size, 2, none⟩ = false := HR9.out.froz 2; have q0 : w9.cell? ⟨w.heap.size + 1, 0, none⟩ = some (.int .i64 0) := HF9.out.cell 0; have q1 : w9.cell? ⟨w.heap.size + 1, 1, none⟩ = some (.int .i64 0) := HF9.out.cell 1; have qf0 : w9.frozen? ⟨w.heap.size + 1, 0, none⟩ = false := HF9.out.froz 0; have qf1 : w9.frozen? ⟨w.heap.size + 1, 1, none⟩ = false := HF9.out.froz 1; clear hb9))
        go_wp2
        obtain ⟨z1, z2, z3, z4, -⟩ := HI9.out.stored (.string (mkS tw)) (.int .i64 ta) (.slice ad acc.length capd) (.int .i64 ua) (.int .i64 41)
        have y0 := z1.cell 0
        have y1 := z1.cell 1
        have y2 := z1.cell 2
        have y3 := z2.cell 0
        have y4 := z2.cell 1
        simp at y0 y1 y2 y3 y4
        refine bodyPost_ret (v := .tuple #[.agg #[(.string (mkS tw)), (.int .i64 ta), (.slice ad acc.length capd)], .agg #[.int .i64 ua, .int .i64 41]]) (by simp [results, Tryz.results29, go_sem, y0, y1, y2, y3, y4]) rfl ?_
        rw [← HX.out]
        exact ⟨z3, ⟨_, z4⟩, _, _, _, _, _, rfl⟩
       | false =>
        rw [if_neg (by rw [hbad]; simp)] at hS
        have hb2 : wc.cell? ⟨bi, 2, none⟩ = some (.slice ad acc.length capd) := HBi5.out.cell 2
        by_cases h4 : acc.length = 4
        ·have h4b : ((acc.length : Int) == 4) = true := by rw [beq_iff_eq]; omega
         rw [if_pos h4] at hS
         have HX3 : Hid (Except.error (ua, 45) = X) := by
          apply Lib.hid
          have := HX.out
          rw [← hS] at this
          exact this
         have HX := HX3
         obtain ⟨m, hm⟩ : ∃ m, m = acc.length := ⟨_, rfl⟩
         rw [← hm] at HBi5 hb2 h4b
         clear hS hbad HX3 h4 hm Hown5 HS' hacc
         go_wp2_with fail
         have HFt := Lib.hid (fun wx (hb : Below wc.heap.size wc wx) => fault_any L _ toks k e 45 wx (HI5.out.below hb).line.line (HI5.out.below hb).line.full)
         rw [HPl.out] at HFt
         have hbi5 := HBi5.out.lt
         have hre5 := HI5.out.res.lt
         have hfl5 := HI5.out.flt.lt
         have b0 : wc.cell? ⟨bi, 0, none⟩ = some (.string (mkS tw)) := HBi5.out.cell 0
         have b1 : wc.cell? ⟨bi, 1, none⟩ = some (.int .i64 ta) := HBi5.out.cell 1
         have b2 : wc.cell? ⟨bi, 2, none⟩ = some (.slice ad m capd) := HBi5.out.cell 2
         have hne1 : ¬ bi = w.heap.size := by omega
         have hne2 : ¬ bi = w.heap.size + 1 := by omega
         have hne3 : ¬ w.heap.size = bi := by omega
         have hne4 : ¬ w.heap.size + 1 = bi := by omega
         go_region_held3 (fun wx => wx.cell? ⟨bi, 0, none⟩ = some (.string (mkS tw)) ∧ wx.cell? ⟨bi, 1, none⟩ = some (.int .i64 ta) ∧ wx.cell? ⟨bi, 2, none⟩ = some (.slice ad m capd))
          (first | go_keep)
          (first | (go_at_call 28; refine (HFt.out _ (by repeat (first | exact Below.refl _ _ | refine Below.drew ?_ | refine below_drewN' ?_ _))).mono ?_; rintro _ w9 ⟨rfl, hb9⟩; have b0' : w9.cell? ⟨bi, 0, none⟩ = some (.string (mkS tw)) := (hb9.cell (p := ⟨bi, 0, none⟩) hbi5).trans b0; have b1' : w9.cell? ⟨bi, 1, none⟩ = some (.int .i64 ta) := (hb9.cell (p := ⟨bi, 1, none⟩) hbi5).trans b1; have b2' : w9.cell? ⟨bi, 2, none⟩ = some (.slice ad m capd) := (hb9.cell (p := ⟨bi, 2, none⟩) hbi5).trans b2; have HR9 : Hid (Blk w9 w.heap.size 86 #[.string ⟨#[]⟩, .int .i64 0, .slice none 0 0]) := Lib.hid ((hb9.block _ hre5).trans HI5.out.res); have HF9 : Hid (Blk w9 (w.heap.size + 1) 44 #[.int .i64 0, .int .i64 0]) := Lib.hid ((hb9.block _ hfl5).trans HI5.out.flt); have HI9 := Lib.hid (HI5.out.after hb9); have r0 : w9.cell? ⟨w.heap.size, 0, none⟩ = some (.string ⟨#[]⟩) := HR9.out.cell 0; have r1 : w9.cell? ⟨w.heap.size, 1, none⟩ = some (.int .i64 0) := HR9.out.cell 1; have r2 : w9.cell? ⟨w.heap.size, 2, none⟩ = some (.slice none 0 0) := HR9.out.cell 2; have rf0 : w9.frozen? ⟨w.heap.size, 0, none⟩ = false := HR9.out.froz 0; have rf1 : w9.frozen? ⟨w.heap.size, 1, none⟩ = false := HR9.out.froz 1; have rf2 : w9.frozen? ⟨w.heap.size, 2, none⟩ = false := HR9.out.froz 2; have q0 : w9.cell? ⟨w.heap.size + 1, 0, none⟩ = some (.int .i64 0) := HF9.out.cell 0; have q1 : w9.cell? ⟨w.heap.size + 1, 1, none⟩ = some (.int .i64 0) := HF9.out.cell 1; have qf0 : w9.frozen? ⟨w.heap.size + 1, 0, none⟩ = false := HF9.out.froz 0; have qf1 : w9.frozen? ⟨w.heap.size + 1, 1, none⟩ = false := HF9.out.froz 1; clear hb9))
         go_wp2
         obtain ⟨z1, z2, z3, z4, -⟩ := HI9.out.stored (.string (mkS tw)) (.int .i64 ta) (.slice ad m capd) (.int .i64 ua) (.int .i64 45)
         have y0 := z1.cell 0
         have y1 := z1.cell 1
         have y2 := z1.cell 2
         have y3 := z2.cell 0
         have y4 := z2.cell 1
         simp at y0 y1 y2 y3 y4
         refine bodyPost_ret (v := .tuple #[.agg #[(.string (mkS tw)), (.int .i64 ta), (.slice ad m capd)], .agg #[.int .i64 ua, .int .i64 45]]) (by simp [results, Tryz.results29, go_sem, y0, y1, y2, y3, y4]) rfl ?_
         rw [← HX.out]
         exact ⟨z3, ⟨_, z4⟩, _, _, _, _, _, rfl⟩
        ·have h4b : ((acc.length : Int) == 4) = false := by rw [beq_eq_false_iff_ne]; omega
         rw [if_neg h4] at hS
         have HS6 := Lib.hid hS
         have t2 : wc.cell? ⟨b5, 2, none⟩ = some (.string (mkS uw)) := HT5.out.cell 2
         have t3 : wc.cell? ⟨b5, 3, none⟩ = some (.int .i64 un) := HT5.out.cell 3
         have hbil := HBi5.out.lt
         have hown := Hown5.out
         obtain ⟨z0, hi, hz0, hz1, hz2⟩ := info_parts Tryz.infoSide
         clear hS hbad
         go_wp2_with (at_builtin; go_must (refine wpList_append_lies _ rfl (.tmp 88) (.tmp 94) 84 rfl w.heap.size 96 z0 (.agg #[.string ⟨#[]⟩, .int .i64 0]) 2 24 Tryz.underlying84 hi hz0 hz1 hz2 rfl (by decide) _ _ _ rfl (hown.alloc _) ⟨wc.heap.size, 0, none⟩ 1 1 [.string (mkS uw), .int .i64 un] rfl rfl ?d1 ?d2 (by decide) ?d3 ?d4 ?d5 _ rfl ?_))
         case d2 => exact ⟨rfl, rfl⟩
         case d3 => unfold maxLen; omega
         case d4 => omega
         case d5 => have := HI5.out.fr.size; omega
         intro g2 cap2 w6 hown6 hg6 hat6 hlt6
         have hk6 : ∀ t, t ≠ 96 → KeepTag t wc w6 := fun t h => (KeepTag.alloc _).trans (KeepTag.own hg6 (hown.alloc _) h)
         have hc6 : Chg (fun k => w.heap.size ≤ k) wc w6 := Chg.trans (Chg.below ((Below.refl _ _).alloc (Nat.le_refl _) _)) (Chg.gb (S := fun k => w.heap.size ≤ k) hg6 (fun k hk => ((hown.alloc (.cells #[.string (mkS uw), .int .i64 un] 96)).lt k hk).1)) (fun _ _ h => h)
         have HI6 := Lib.hid (HI5.out.kept hk6 hc6)
         have hbi6 := HBi5.out.keep (hk6 _ (by decide))
         have b2 : w6.cell? ⟨bi, 2, none⟩ = some (.slice ad acc.length capd) := hbi6.cell 2
         have b2f : w6.frozen? ⟨bi, 2, none⟩ = false := hbi6.froz 2
         have HI7 := Lib.hid (HI6.out.box hbi6 (by omega) (.slice (some ⟨g2, 0, none⟩) (acc.length + 1) cap2))
         have HBi7 := Lib.hid (hbi6.set32 (.slice (some ⟨g2, 0, none⟩) (acc.length + 1) cap2))
         have Hown7 := Lib.hid (own_tag hown6 (KeepTag.set hbi6 (by decide) 2 (.slice (some ⟨g2, 0, none⟩) (acc.length + 1) cap2)))
         clear hk6 hc6 hbi6 hown6 hg6 hat6 HI6 hown t2 t3 hb2 hbil HI5 HBi5 Hown5 HT5
         go_upto_region 9 with fail
         generalize (w6.setCell ⟨bi, 2, none⟩ (.slice (some ⟨g2, 0, none⟩) (acc.length + 1) cap2)) = W7 at HI7 HBi7 Hown7 ⊢
         obtain ⟨c0, c1, c2, f0, f1, f2⟩ := HI7.out.line.line.cells
         clear b2 b2f
         go_wp2_with fail
         go_roundg (n - (k + 1))
         case measure => omega
         case rel =>
          have ks : ∀ t, t ≠ 58 → KeepTag t W7 (W7.setCell ⟨L, 1, none⟩ (.int .i64 ((k : Int) + 1))) := fun t h => KeepTag.set HI7.out.line.line h 1 _
          refine ⟨k + 1, acc ++ [(uw, un)], _, rfl, by omega, by omega, HI7.out.next (k + 1) (by rw [Int.natCast_add]; rfl), HBi7.out.keep (ks _ (by decide)), ?_, HS6.out, ?_⟩
          ·rw [List.length_append, sideCells_snoc]
           exact own_tag Hown7.out (ks _ (by decide))
          ·rw [List.length_append]
           show acc.length + 1 ≤ 4
           omega
     ·obtain rfl : k = n := by omega
      have hlt' : ¬ (k : Int) < (k : Int) := by omega
      have HX3 : Hid (Except.ok ⟨tw, ta, acc⟩ = X) := by
       apply Lib.hid
       have hS := HS.out
       rw [List.drop_eq_nil_of_le (by have := HN.out; omega), sidesP] at hS
       have := HX.out
       rw [← hS] at this
       exact this
      go_upto_region 8 with fail
      go_quiet (fail)
      have HI2 := Lib.hid (HI.out.draws nq)
      have HBi2 : Hid (Blk (wr.drewN nq) bi 86 #[.string (mkS tw), .int .i64 ta, .slice ad acc.length capd]) := HBi
      have Hown2 : Hid ((wr.drewN nq).ownsRow w.heap.size 96 2 (.slice ad acc.length capd) acc.length (sideCells acc)) := Hown
      generalize wr.drewN nq = W2 at HI2 HBi2 Hown2 ⊢
      clear HI HBi Hown c0 c1 c2 f0 f1 f2
      have b0 : W2.cell? ⟨bi, 0, none⟩ = some (.string (mkS tw)) := HBi2.out.cell 0
      have b1 : W2.cell? ⟨bi, 1, none⟩ = some (.int .i64 ta) := HBi2.out.cell 1
      have b2 : W2.cell? ⟨bi, 2, none⟩ = some (.slice ad acc.length capd) := HBi2.out.cell 2
      have r0 : W2.cell? ⟨w.heap.size, 0, none⟩ = some (.string ⟨#[]⟩) := HI2.out.res.cell 0
      have r1 : W2.cell? ⟨w.heap.size, 1, none⟩ = some (.int .i64 0) := HI2.out.res.cell 1
      have r2 : W2.cell? ⟨w.heap.size, 2, none⟩ = some (.slice none 0 0) := HI2.out.res.cell 2
      have rf0 : W2.frozen? ⟨w.heap.size, 0, none⟩ = false := HI2.out.res.froz 0
      have rf1 : W2.frozen? ⟨w.heap.size, 1, none⟩ = false := HI2.out.res.froz 1
      have rf2 : W2.frozen? ⟨w.heap.size, 2, none⟩ = false := HI2.out.res.froz 2
      have q0 : W2.cell? ⟨w.heap.size + 1, 0, none⟩ = some (.int .i64 0) := HI2.out.flt.cell 0
      have q1 : W2.cell? ⟨w.heap.size + 1, 1, none⟩ = some (.int .i64 0) := HI2.out.flt.cell 1
      have qf0 : W2.frozen? ⟨w.heap.size + 1, 0, none⟩ = false := HI2.out.flt.froz 0
      have qf1 : W2.frozen? ⟨w.heap.size + 1, 1, none⟩ = false := HI2.out.flt.froz 1
      go_wp2
      obtain ⟨z1, z2, z3, z4, z5⟩ := HI2.out.stored (.string (mkS tw)) (.int .i64 ta) (.slice ad acc.length capd) (.int .i64 0) (.int .i64 0)
      have y0 := z1.cell 0
      have y1 := z1.cell 1
      have y2 := z1.cell 2
      have y3 := z2.cell 0
      have y4 := z2.cell 1
      simp at y0 y1 y2 y3 y4
      refine bodyPost_ret (v := .tuple #[.agg #[.string (mkS tw), .int .i64 ta, .slice ad acc.length capd], .agg #[.int .i64 0, .int .i64 0]]) (by simp [results, Tryz.results29, go_sem, y0, y1, y2, y3, y4]) rfl ?_
      rw [← HX3.out]
      exact ⟨z3, ⟨_, z4⟩, _, rfl, own_tag Hown2.out (z5 _ (by decide) (by decide))⟩
  ·have hk1b : (tk != 1) = true := by simpa using hk1
   rw [if_pos (by unfold nameT; simp [hk1])] at hX
   have HX := Lib.hid hX
   clear hX HN1 hk1
   go_wp2_with fail
   have HFt := Lib.hid (fun wx (hb : Below w7.heap.size w7 wx) => fault_any L _ toks 1 e 41 wx (HI7.out.below hb).line.line (HI7.out.below hb).line.full)
   rw [HPl.out] at HFt
   have hbi5 := HBi7.out.lt
   have hre5 := HI7.out.res.lt
   have hfl5 := HI7.out.flt.lt
   have b0 : w7.cell? ⟨bi, 0, none⟩ = some (.string (mkS tw)) := HBi7.out.cell 0
   have b1 : w7.cell? ⟨bi, 1, none⟩ = some (.int .i64 ta) := HBi7.out.cell 1
   have b2 : w7.cell? ⟨bi, 2, none⟩ = some (.slice none 0 0) := HBi7.out.cell 2
   have hne1 : ¬ bi = w.heap.size := by omega
   have hne2 : ¬ bi = w.heap.size + 1 := by omega
   have hne3 : ¬ w.heap.size = bi := by omega
   have hne4 : ¬ w.heap.size + 1 = bi := by omega
   go_region_held3 (fun wx => wx.cell? ⟨bi, 0, none⟩ = some (.string (mkS tw)) ∧ wx.cell? ⟨bi, 1, none⟩ = some (.int .i64 ta) ∧ wx.cell? ⟨bi, 2, none⟩ = some (.slice none 0 0))
    (first | go_keep)
    (first | (go_at_call 28; refine (HFt.out _ (by repeat (first | exact Below.refl _ _ | refine Below.drew ?_ | refine below_drewN' ?_ _))).mono ?_; rintro _ w9 ⟨rfl, hb9⟩; have b0' : w9.cell? ⟨bi, 0, none⟩ = some (.string (mkS tw)) := (hb9.cell (p := ⟨bi, 0, none⟩) hbi5).trans b0; have b1' : w9.cell? ⟨bi, 1, none⟩ = some (.int .i64 ta) := (hb9.cell (p := ⟨bi, 1, none⟩) hbi5).trans b1; have b2' : w9.cell? ⟨bi, 2, none⟩ = some (.slice none 0 0) := (hb9.cell (p := ⟨bi, 2, none⟩) hbi5).trans b2; have HR9 : Hid (Blk w9 w.heap.size 86 #[.string ⟨#[]⟩, .int .i64 0, .slice none 0 0]) := Lib.hid ((hb9.block _ hre5).trans HI7.out.res); have HF9 : Hid (Blk w9 (w.heap.size + 1) 44 #[.int .i64 0, .int .i64 0]) := Lib.hid ((hb9.block _ hfl5).trans HI7.out.flt); have HI9 := Lib.hid (HI7.out.after hb9); have r0 : w9.cell? ⟨w.heap.size, 0, none⟩ = some (.string ⟨#[]⟩) := HR9.out.cell 0; have r1 : w9.cell? ⟨w.heap.size, 1, none⟩ = some (.int .i64 0) := HR9.out.cell 1; have r2 : w9.cell? ⟨w.heap.size, 2, none⟩ = some (.slice none 0 0) := HR9.out.cell 2; have rf0 : w9.frozen? ⟨w.heap.size, 0, none⟩ = false := HR9.out.froz 0; have rf1 : w9.frozen? ⟨w.heap.size, 1, none⟩ = false := HR9.out.froz 1; have rf2 : w9.frozen? ⟨w.heap.size, 2, none⟩ = false := HR9.out.froz 2; have q0 : w9.cell? ⟨w.heap.size + 1, 0, none⟩ = some (.int .i64 0) := HF9.out.cell 0; have q1 : w9.cell? ⟨w.heap.size + 1, 1, none⟩ = some (.int .i64 0) := HF9.out.cell 1; have qf0 : w9.frozen? ⟨w.heap.size + 1, 0, none⟩ = false := HF9.out.froz 0; have qf1 : w9.frozen? ⟨w.heap.size + 1, 1, none⟩ = false := HF9.out.froz 1; clear hb9))
   go_wp2
   obtain ⟨z1, z2, z3, z4, -⟩ := HI9.out.stored (.string (mkS tw)) (.int .i64 ta) (.slice none 0 0) (.int .i64 ta) (.int .i64 41)
   have y0 := z1.cell 0
   have y1 := z1.cell 1
   have y2 := z1.cell 2
   have y3 := z2.cell 0
   have y4 := z2.cell 1
   simp at y0 y1 y2 y3 y4
   refine bodyPost_ret (v := .tuple #[.agg #[(.string (mkS tw)), (.int .i64 ta), (.slice none 0 0)], .agg #[.int .i64 ta, .int .i64 41]]) (by simp [results, Tryz.results29, go_sem, y0, y1, y2, y3, y4]) rfl ?_
   rw [← HX.out]
   exact ⟨z3, ⟨_, z4⟩, _, _, _, _, _, rfl⟩
end Go.Proofs.YtknnleiinhdklaaGreatDoor
