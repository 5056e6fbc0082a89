/-
  Walk of package parse: a line into a program. Condition: the line lies in memory, its tokens and the program too.
-/
import Derived.Test.YtknnleiinhdklaaGreatDoorPk17
import Derived.Test.YtknnleiinhdklaaGreatDoorPk18
namespace Go.Proofs.YtknnleiinhdklaaGreatDoor
open Go.RowKit Go.Shelf Go.Sort
/-- Cells that are these values', each of so many. -/
def RowC {α : Type} (R : α → List Value → Prop) (size : Nat) (l : List α) (cs : List Value) : Prop := cs.length = l.length * size ∧ ∀ (i : Nat) (x : α), l[i]? = some x → ∃ c, c.length = size ∧ R x c ∧ ∀ (j : Nat) (u : Value), c[j]? = some u → cs[i * size + j]? = some u
theorem RowC.nil {α : Type} (R : α → List Value → Prop) (size : Nat) : RowC R size [] [] := ⟨by simp, fun i x h => by simp at h⟩
theorem RowC.imp {α : Type} {R R' : α → List Value → Prop} {size : Nat} {l : List α} {cs : List Value} (h : RowC R size l cs) (hi : ∀ x c, R x c → R' x c) : RowC R' size l cs :=
 ⟨h.1, fun i x hx => let ⟨c, h1, h2, h3⟩ := h.2 i x hx; ⟨c, h1, hi x c h2, h3⟩⟩
theorem RowC.snoc {α : Type} {R : α → List Value → Prop} {size : Nat} {l : List α} {cs : List Value} (h : RowC R size l cs) {x : α} {c : List Value} (hc : c.length = size) (hx : R x c) : RowC R size (l ++ [x]) (cs ++ c) := by
 refine ⟨by rw [List.length_append, List.length_append, h.1, hc, List.length_singleton, Nat.add_mul]; omega, fun i y hi => ?_⟩
 by_cases hl : i < l.length
 ·rw [List.getElem?_append_left hl] at hi
  obtain ⟨d, h1, h2, h3⟩ := h.2 i y hi
  refine ⟨d, h1, h2, fun j u hu => ?_⟩
  have := h3 j u hu
  rw [List.getElem?_append_left (List.getElem?_eq_some_iff.1 this).1]
  exact this
 ·rw [List.getElem?_append_right (by omega)] at hi
  have hz : i - l.length = 0 := by
   have := (List.getElem?_eq_some_iff.1 hi).1
   simp at this
   omega
  rw [hz] at hi
  simp at hi
  subst hi
  refine ⟨c, hc, hx, fun j u hu => ?_⟩
  have hil : i = l.length := by
   have : ¬ i < l.length := hl
   have hz' : i - l.length = 0 := hz
   omega
  subst hil
  rw [List.getElem?_append_right (by rw [h.1]; omega), h.1, show l.length * size + j - l.length * size = j by omega]
  exact hu
def InpR (w : World) (x : Inp) (c : List Value) : Prop := ∃ v, c = [.string (mkS x.name), .int .i64 x.at_, v] ∧ w.ownsRow 0 96 2 v x.sides.length (sideCells x.sides)
def LinR (w : World) (x : Lin) (c : List Value) : Prop := ∃ v cs, c = [.string (mkS x.name), .int .i64 x.at_, v] ∧ w.ownsRow 0 71 5 v x.items.length cs ∧ ItsC w x.items cs
theorem InpR.keep {w w' : World} {x : Inp} {c : List Value} (h : InpR w x c) (hk : KeepTag 96 w w') : InpR w' x c := let ⟨v, h1, h2⟩ := h; ⟨v, h1, own_tag h2 hk⟩
theorem LinR.keep {w w' : World} {x : Lin} {c : List Value} (h : LinR w x c) (hk : KeepTag 71 w w') (hn : KeepTag 2 w w') : LinR w' x c := let ⟨v, cs, h1, h2, h3⟩ := h; ⟨v, cs, h1, own_tag h2 hk, h3.keep hn⟩
/-- The two rows of a program. -/
def PrgV (w : World) (base : Nat) (vi vl : Value) (p : Prg) : Prop :=
 ∃ ci cl, w.ownsRow base 86 3 vi p.inputs.length ci ∧ RowC (InpR w) 3 p.inputs ci ∧ w.ownsRow base 65 3 vl p.lines.length cl ∧ RowC (LinR w) 3 p.lines cl
def PrgS (w : World) (P base : Nat) (p : Prg) : Prop := ∃ vi vl, Blk w P 41 #[vi, vl] ∧ PrgV w base vi vl p
theorem PrgV.keep {w w' : World} {base : Nat} {vi vl : Value} {p : Prg} (h : PrgV w base vi vl p) (hk : ∀ t, t ≠ 58 → t ≠ 44 → t ≠ 60 → t ≠ 41 → KeepTag t w w') : PrgV w' base vi vl p := by
 obtain ⟨ci, cl, h1, h2, h3, h4⟩ := h
 exact ⟨ci, cl, own_tag h1 (hk _ (by decide) (by decide) (by decide) (by decide)), h2.imp (fun _ _ h => h.keep (hk _ (by decide) (by decide) (by decide) (by decide))), own_tag h3 (hk _ (by decide) (by decide) (by decide) (by decide)), h4.imp (fun _ _ h => h.keep (hk _ (by decide) (by decide) (by decide) (by decide)) (hk _ (by decide) (by decide) (by decide) (by decide)))⟩
theorem PrgS.keep {w w' : World} {P base : Nat} {p : Prg} (h : PrgS w P base p) (hk : ∀ t, t ≠ 58 → t ≠ 44 → t ≠ 60 → KeepTag t w w') : PrgS w' P base p := by
 obtain ⟨vi, vl, h1, h2⟩ := h
 exact ⟨vi, vl, h1.keep (hk _ (by decide) (by decide) (by decide)), h2.keep (fun t a b c _ => hk t a b c)⟩
theorem Tryz.infoInput : (Tryz.prog.info? 86).map (fun i => (i.zero, i.size, i.bytes)) = some (some (.agg #[.string ⟨#[]⟩, .int .i64 0, .slice none 0 0]), 3, 48) := by kernel_rfl
theorem Tryz.infoLine : (Tryz.prog.info? 65).map (fun i => (i.zero, i.size, i.bytes)) = some (some (.agg #[.string ⟨#[]⟩, .int .i64 0, .slice none 0 0]), 3, 48) := by kernel_rfl
theorem At.up {w : World} {B L : Nat} {vt : Value} {toks : List Tok} {k : Nat} {e : Int} (h : At w B L vt toks k e) : At w w.heap.size L vt toks k e := ⟨h.line, h.full, h.line.lt, Nat.le_refl _⟩
theorem InputPost.one {L : Nat} {vt : Value} {e : Int} {x : Except Fault Inp} {w w' : World} {en : Ending} (h : InputPost L vt e x w en w') : Fr L w.heap.size w w' ∧ ∃ k', LineIs w' L vt k' e ∧ ∃ nm a ad n cap y1 y2, en = .returned (.tuple #[.agg #[.string nm, .int .i64 a, .slice ad n cap], .agg #[.int .i64 y1, .int .i64 y2]]) ∧
  (∀ y, x = .error y → y1 = y.1 ∧ y2 = y.2) ∧ (∀ q, x = .ok q → y1 = 0 ∧ y2 = 0 ∧ nm = mkS q.name ∧ a = q.at_ ∧ w'.ownsRow w.heap.size 96 2 (.slice ad n cap) q.sides.length (sideCells q.sides)) := by
 obtain ⟨h1, ⟨k', h2⟩, h3⟩ := h
 refine ⟨h1, k', h2, ?_⟩
 cases x with
 | error y =>
  obtain ⟨nm, a, ad, n, cap, he⟩ := h3
  exact ⟨nm, a, ad, n, cap, y.1, y.2, he, fun z hz => by injection hz with hz; subst hz; exact ⟨rfl, rfl⟩, fun q hq => (nomatch hq)⟩
 | ok q =>
  obtain ⟨v, he, ho⟩ := h3
  obtain ⟨ad, cap, rfl⟩ := own_form ho
  exact ⟨mkS q.name, q.at_, ad, q.sides.length, cap, 0, 0, he, fun z hz => (nomatch hz), fun z hz => by injection hz with hz; subst hz; exact ⟨rfl, rfl, rfl, rfl, ho⟩⟩
theorem ExprPost.one {L : Nat} {vt : Value} {e : Int} {x : Except Fault (List Itm)} {w w' : World} {en : Ending} (h : ExprPost L vt e x w en w') : Fr L w.heap.size w w' ∧ ∃ k', LineIs w' L vt k' e ∧ ∃ ad n cap y1 y2, en = .returned (.tuple #[.slice ad n cap, .agg #[.int .i64 y1, .int .i64 y2]]) ∧
  (∀ y, x = .error y → y1 = y.1 ∧ y2 = y.2) ∧ (∀ q, x = .ok q → y1 = 0 ∧ y2 = 0 ∧ ∃ cs, w'.ownsRow w.heap.size 71 5 (.slice ad n cap) q.length cs ∧ ItsC w' q cs) := by
 obtain ⟨h1, h3⟩ := h
 refine ⟨h1, ?_⟩
 cases x with
 | error y =>
  obtain ⟨he, k', hl⟩ := h3
  exact ⟨k', hl, none, 0, 0, y.1, y.2, he, fun z hz => by injection hz with hz; subst hz; exact ⟨rfl, rfl⟩, fun q hq => (nomatch hq)⟩
 | ok q =>
  obtain ⟨v, cs, he, ho, hi, k', hl⟩ := h3
  obtain ⟨ad, cap, rfl⟩ := own_form ho
  exact ⟨k', hl, ad, q.length, cap, 0, 0, he, fun z hz => (nomatch hz), fun z hz => by injection hz with hz; subst hz; exact ⟨rfl, rfl, cs, ho, hi⟩⟩
theorem sets3 {w : World} {b : Nat} {t : TypeId} {x0 x1 x2 : Value} (h : Blk w b t #[x0, x1, x2]) (y0 y1 y2 : Value) : Blk (((w.setCell ⟨b, 0, none⟩ y0).setCell ⟨b, 1, none⟩ y1).setCell ⟨b, 2, none⟩ y2) b t #[y0, y1, y2] ∧
  (∀ s, s ≠ t → KeepTag s w (((w.setCell ⟨b, 0, none⟩ y0).setCell ⟨b, 1, none⟩ y1).setCell ⟨b, 2, none⟩ y2)) ∧ Chg (fun k => k = b) w (((w.setCell ⟨b, 0, none⟩ y0).setCell ⟨b, 1, none⟩ y1).setCell ⟨b, 2, none⟩ y2) :=
 ⟨((h.set30 y0).set31 y1).set32 y2, fun _ hs => (KeepTag.set h hs 0 y0).trans ((KeepTag.set (h.set30 y0) hs 1 y1).trans (KeepTag.set ((h.set30 y0).set31 y1) hs 2 y2)),
   Chg.trans (Chg.set (S := fun k => k = b) rfl 0 y0) (Chg.trans (Chg.set (S := fun k => k = b) rfl 1 y1) (Chg.set (S := fun k => k = b) rfl 2 y2) (fun _ _ h => h)) (fun _ _ h => h)⟩
/-- A program with one more input, one more line. -/
theorem PrgV.input {w w2 : World} {base : Nat} {vi vl vi' v : Value} {p : Prg} {ci cl : List Value} {q : Inp} (o1 : w.ownsRow base 86 3 vi p.inputs.length ci) (o2 : RowC (InpR w) 3 p.inputs ci) (o3 : w.ownsRow base 65 3 vl p.lines.length cl) (o4 : RowC (LinR w) 3 p.lines cl)
  (hg : w.grownBy w2 vi.ownBlock) (hown : w2.ownsRow base 86 3 vi' (p.inputs.length + 1) (ci ++ [.string (mkS q.name), .int .i64 q.at_, v])) (hq : w.ownsRow 0 96 2 v q.sides.length (sideCells q.sides)) : PrgV w2 base vi' vl { p with inputs := p.inputs ++ [q] } := by
 have kk : ∀ t, t ≠ 86 → KeepTag t w w2 := fun t h => KeepTag.own hg o1 h
 exact ⟨_, cl, by rw [List.length_append]; exact hown, (o2.imp (fun _ _ h => h.keep (kk _ (by decide)))).snoc rfl ⟨v, rfl, own_tag hq (kk _ (by decide))⟩, own_tag o3 (kk _ (by decide)), o4.imp (fun _ _ h => h.keep (kk _ (by decide)) (kk _ (by decide)))⟩
theorem PrgV.line {w w2 : World} {base : Nat} {vi vl vl' v : Value} {p : Prg} {ci cl cs : List Value} {q : Lin} (o1 : w.ownsRow base 86 3 vi p.inputs.length ci) (o2 : RowC (InpR w) 3 p.inputs ci) (o3 : w.ownsRow base 65 3 vl p.lines.length cl) (o4 : RowC (LinR w) 3 p.lines cl)
  (hg : w.grownBy w2 vl.ownBlock) (hown : w2.ownsRow base 65 3 vl' (p.lines.length + 1) (cl ++ [.string (mkS q.name), .int .i64 q.at_, v])) (hq : w.ownsRow 0 71 5 v q.items.length cs) (hi : ItsC w q.items cs) : PrgV w2 base vi vl' { p with lines := p.lines ++ [q] } := by
 have kk : ∀ t, t ≠ 65 → KeepTag t w w2 := fun t h => KeepTag.own hg o3 h
 exact ⟨ci, _, own_tag o1 (kk _ (by decide)), o2.imp (fun _ _ h => h.keep (kk _ (by decide))), by rw [List.length_append]; exact hown, (o4.imp (fun _ _ h => h.keep (kk _ (by decide)) (kk _ (by decide)))).snoc rfl ⟨v, cs, rfl, own_tag hq (kk _ (by decide)), hi.keep (kk _ (by decide))⟩⟩
theorem Blk.set20 {w : World} {b : Nat} {t : TypeId} {x0 x1 : Value} (h : Blk w b t #[x0, x1]) (u : Value) : Blk (w.setCell ⟨b, 0, none⟩ u) b t #[u, x1] := by
 unfold Blk at h ⊢
 simp [World.setCell, Array.getElem?_modify, h]
theorem Blk.set21 {w : World} {b : Nat} {t : TypeId} {x0 x1 : Value} (h : Blk w b t #[x0, x1]) (u : Value) : Blk (w.setCell ⟨b, 1, none⟩ u) b t #[x0, u] := by
 unfold Blk at h ⊢
 simp [World.setCell, Array.getElem?_modify, h]
/-- into's boxes, the line, the program. -/
structure IntoAt (w0 w : World) (L P base : Nat) (vt : Value) (toks : List Tok) (e : Int) (k : Nat) (p : Prg) : Prop where
 line : At w w0.heap.size L vt toks k e
 res : Blk w w0.heap.size 44 #[.int .i64 0, .int .i64 0]
 prg : PrgS w P base p
 fr : Fr L base w0 w
theorem IntoAt.below {w0 w w' : World} {L P base : Nat} {vt : Value} {toks : List Tok} {e : Int} {k : Nat} {p : Prg} (h : IntoAt w0 w L P base vt toks e k p) (hb : Below w.heap.size w w') : IntoAt w0 w' L P base vt toks e k p :=
 ⟨h.line.below hb, h.res.keep (KeepTag.below hb), h.prg.keep (fun _ _ _ _ => KeepTag.below hb), h.fr.trans (Chg.below hb)⟩
theorem IntoAt.draws {w0 w : World} {L P base : Nat} {vt : Value} {toks : List Tok} {e : Int} {k : Nat} {p : Prg} (h : IntoAt w0 w L P base vt toks e k p) (n : Nat) : IntoAt w0 (w.drewN n) L P base vt toks e k p := h.below (below_drewN' (Below.refl _ _) n)
theorem IntoAt.next {w0 w : World} {L P base : Nat} {vt : Value} {toks : List Tok} {e : Int} {k : Nat} {p : Prg} (h : IntoAt w0 w L P base vt toks e k p) (k' : Nat) {u : Value} (hu : u = .int .i64 k') : IntoAt w0 (w.setCell ⟨L, 1, none⟩ u) L P base vt toks e k' p := by
 have hk : ∀ t, t ≠ 58 → KeepTag t w (w.setCell ⟨L, 1, none⟩ u) := fun t ht => KeepTag.set h.line.line ht 1 u
 exact ⟨h.line.gb (gb_own (gb_below (Below.refl _ _)) 1 u) (h.line.line.next k' hu), h.res.keep (hk _ (by decide)), h.prg.keep (fun t ht _ _ => hk t ht), h.fr.trans (Chg.set (.inl rfl) 1 u)⟩
/-- A call that turns the line and what is new. -/
theorem IntoAt.called {w0 w w' : World} {L P base : Nat} {vt : Value} {toks : List Tok} {e : Int} {k k' : Nat} {p : Prg} (h : IntoAt w0 w L P base vt toks e k p) (hf : Fr L w.heap.size w w') (hl : LineIs w' L vt k' e) (hb : base ≤ w.heap.size) : IntoAt w0 w' L P base vt toks e k' p := by
 have hk := keep_fr h.line.line (Nat.le_refl _) hf
 refine ⟨⟨hl, h.line.toks.keep h.line.line (fun g hg hne => hf.block g (Nat.lt_of_lt_of_le hg h.line.le) (by rintro (e | e); exact hne e; have := h.line.le; omega)), h.line.lt, Nat.le_trans h.line.le hf.size⟩, h.res.keep (hk _ (by decide)), h.prg.keep (fun t ht _ _ => hk t ht), h.fr.trans (Chg.mono hf (fun k hk => ?_))⟩
 rcases hk with hk | hk
 ·exact .inl hk
 ·exact .inr (by omega)
/-- What into gives. -/
def IntoPost (L P base : Nat) (x : Except Fault Prg) (w : World) (en : Ending) (w' : World) : Prop :=
 Fr L base w w' ∧ match x with
 | .error y => en = .returned (.agg #[.int .i64 y.1, .int .i64 y.2])
 | .ok q => en = .returned (.agg #[.int .i64 0, .int .i64 0]) ∧ PrgS w' P base q
/-- What a store into the fault's cell leaves. -/
theorem IntoAt.put {w0 w : World} {L P base : Nat} {p : Prg} {x y : Value} (h : Blk w w0.heap.size 44 #[x, y]) (hp : PrgS w P base p) (hf : Fr L base w0 w) (hb : base ≤ w0.heap.size) (a c : Value) :
  Fr L base w0 ((w.setCell ⟨w0.heap.size, 0, none⟩ a).setCell ⟨w0.heap.size, 1, none⟩ c) ∧ PrgS ((w.setCell ⟨w0.heap.size, 0, none⟩ a).setCell ⟨w0.heap.size, 1, none⟩ c) P base p :=
 ⟨hf.trans (Chg.trans (Chg.set (.inr hb) 0 a) (Chg.set (.inr hb) 1 c) (fun _ _ h => h)), hp.keep (fun _ _ ht _ => (KeepTag.set h ht 0 a).trans (KeepTag.set (h.put0 a) ht 1 c))⟩
set_option maxHeartbeats 20000000 in
set_option maxRecDepth 100000 in
theorem into_any (L P base : Nat) (vt : Value) (toks : List Tok) (e : Int) (p : Prg) (lines : Nat) (over : Bool) (w : World) (hA : At w w.heap.size L vt toks 0 e) (hP : PrgS w P base p) (hbase : base ≤ w.heap.size) (hbP : base ≤ P) (hne : toks ≠ []) (hW : ∀ t ∈ toks, t.word.length ≤ maxLen) (hK : ∀ t ∈ toks, t.kind ≠ 4)
  (hErr : ErrIs w) (hLg : 2 < L) (hEb : 2 < base) (hpn : p.inputs.length + p.lines.length ≤ lines) (hlm : lines ≤ 64) :
  Calls Tryz.prog 20 #[.pointer (some ⟨L, 0, none⟩), .pointer (some ⟨P, 0, none⟩), .int .i64 lines, .bool over] w (IntoPost L P base (intoP e toks p lines over) w) := by
 have hEl := hErr.lt
 have HI : Hid (IntoAt w (w.alloc (.cells #[.int .i64 0, .int .i64 0] 44)) L P base vt toks e 0 p) := by
  apply Lib.hid
  have hb : Below w.heap.size w (w.alloc (.cells #[.int .i64 0, .int .i64 0] 44)) := (Below.refl _ _).alloc (Nat.le_refl _) _
  exact ⟨hA.below hb, heap_alloc_new w _, hP.keep (fun _ _ _ _ => KeepTag.below hb), Chg.below hb⟩
 obtain ⟨T, r, rfl⟩ : ∃ T r, toks = T :: r := by
  cases toks with
  | nil => exact absurd rfl hne
  | cons T r => exact ⟨T, r, rfl⟩
 have hwd := hW T (by simp)
 have HPk : Hid (peekT (T :: r) 0 = T) := Lib.hid (peek_in rfl)
 generalize hX : intoP e (T :: r) p lines over = X
 rw [intoP.eq_def] at hX
 dsimp only at hX
 obtain ⟨tk, ta, tw, tn⟩ := T
 obtain ⟨toks, htk⟩ : ∃ l, l = (⟨tk, ta, tw, tn⟩ : Tok) :: r := ⟨_, rfl⟩
 rw [← htk] at HI HPk hX hW hK
 have HTk := Lib.hid htk
 have HX := Lib.hid hX
 dsimp only at hwd
 have HN1 := Lib.hid (fun w => Name_any (mkS tw) w (by rw [mkS_size]; exact hwd))
 rw [mkS_toList] at HN1
 clear hA hP hne htk hX hwd
 go_enter Tryz.func20, Tryz.ntmps20
 go_wp2_with fail
 generalize (w.alloc (.cells #[.int .i64 0, .int .i64 0] 44)) = W1 at HI ⊢
 refine (peek_any L vt toks 0 e W1 HI.out.line.line HI.out.line.full).mono ?_
 rintro _ w2 ⟨rfl, hb2⟩
 rw [HPk.out]
 unfold Tok.val
 dsimp only
 have HI2 := Lib.hid (HI.out.below hb2)
 clear HI hb2
 go_upto_region 2 with fail
 have HPl : Hid (placeP e (toks.drop 0) = ta) := by
  apply Lib.hid
  rw [HTk.out]
  rfl
 have HI3 := Lib.hid (HI2.out.below (w' := w2.alloc (.cells #[.int .i64 tk, .int .i64 ta, .string (mkS tw), .int .i64 tn] 60)) ((Below.refl _ _).alloc (Nat.le_refl _) _))
 have HT3 : Hid (Blk (w2.alloc (.cells #[.int .i64 tk, .int .i64 ta, .string (mkS tw), .int .i64 tn] 60)) w2.heap.size 60 #[.int .i64 tk, .int .i64 ta, .string (mkS tw), .int .i64 tn]) := Lib.hid (heap_alloc_new w2 _)
 obtain ⟨b9, hb9⟩ : ∃ b, b = w2.heap.size := ⟨_, rfl⟩
 rw [← hb9] at HT3 ⊢
 generalize (w2.alloc (.cells #[.int .i64 tk, .int .i64 ta, .string (mkS tw), .int .i64 tn] 60)) = W3 at HI3 HT3 ⊢
 clear HI2 hb9
 go_cut [10, 11] from 15 (fun s10 s11 wx => s10 = .bool (isWord [105, 110] ⟨tk, ta, tw, tn⟩) ∧ s11 = .bool (isWord [111, 117, 116] ⟨tk, ta, tw, tn⟩) ∧ IntoAt w wx L P base vt toks e 0 p ∧ Blk wx b9 60 #[.int .i64 tk, .int .i64 ta, .string (mkS tw), .int .i64 tn])
 case first =>
  have t0 : W3.cell? ⟨b9, 0, none⟩ = some (.int .i64 tk) := HT3.out.cell 0
  have t2 : W3.cell? ⟨b9, 2, none⟩ = some (.string (mkS tw)) := HT3.out.cell 2
  have H1 : Hid (isWord [105, 110] ⟨tk, ta, tw, tn⟩ = (tk == 1 && tw == [105, 110])) := Lib.hid rfl
  have H2 : Hid (isWord [111, 117, 116] ⟨tk, ta, tw, tn⟩ = (tk == 1 && tw == [111, 117, 116])) := Lib.hid rfl
  by_cases hk : tk = 1
  ·subst hk
   cases h1 : tw == [105, 110] with
   | true =>
    have ha : ((mkS tw).toList == [105, 110]) = true := by rw [ByteArray.toList_eq, mkS_toList]; exact h1
    have hb : ((mkS tw).toList == [111, 117, 116]) = false := by rw [ByteArray.toList_eq, mkS_toList, beq_iff_eq.1 h1]; decide
    have hc : Hid ((tw == [111, 117, 116]) = false) := Lib.hid (by rw [beq_iff_eq.1 h1]; decide)
    have h1 := Lib.hid h1
    go_quiet (fail)
    go_wp2_with fail
    go_meet
    case rel => exact ⟨by rw [H1.out, h1.out]; rfl, by rw [H2.out, hc.out]; rfl, HI3.out.draws _, HT3.out⟩
   | false =>
    have ha : ((mkS tw).toList == [105, 110]) = false := by rw [ByteArray.toList_eq, mkS_toList]; exact h1
    have h1 := Lib.hid h1
    cases h2 : tw == [111, 117, 116] with
    | true =>
     have hb : ((mkS tw).toList == [111, 117, 116]) = true := by rw [ByteArray.toList_eq, mkS_toList]; exact h2
     have h2 := Lib.hid h2
     go_quiet (fail)
     go_wp2_with fail
     go_meet
     case rel => exact ⟨by rw [H1.out, h1.out]; rfl, by rw [H2.out, h2.out]; rfl, HI3.out.draws _, HT3.out⟩
    | false =>
     have hb : ((mkS tw).toList == [111, 117, 116]) = false := by rw [ByteArray.toList_eq, mkS_toList]; exact h2
     have h2 := Lib.hid h2
     go_quiet (fail)
     go_wp2_with fail
     go_meet
     case rel => exact ⟨by rw [H1.out, h1.out]; rfl, by rw [H2.out, h2.out]; rfl, HI3.out.draws _, HT3.out⟩
  ·have hkb : (tk == 1) = false := by simpa using hk
   have HKb := Lib.hid hkb
   go_quiet (fail)
   go_wp2_with fail
   go_meet
   case rel => exact ⟨by rw [H1.out, HKb.out]; rfl, by rw [H2.out, HKb.out]; rfl, HI3.out.draws _, HT3.out⟩
 case rest =>
  obtain ⟨rfl, rfl, hI, hT⟩ := hcut
  clear HI3 HT3
  have HI4 := Lib.hid hI
  have HT4 := Lib.hid hT
  obtain ⟨bin, hbin⟩ : ∃ b, b = isWord [105, 110] ⟨tk, ta, tw, tn⟩ := ⟨_, rfl⟩
  obtain ⟨bout, hbout⟩ : ∃ b, b = isWord [111, 117, 116] ⟨tk, ta, tw, tn⟩ := ⟨_, rfl⟩
  have hX := HX.out
  rw [← hbin, ← hbout] at hX ⊢
  clear hI hT HX hbin hbout
  by_cases h1 : lines = 64
  ·rw [if_pos h1] at hX
   have h1b : ((lines : Int) == 64) = true := by rw [beq_iff_eq]; omega
   have HX := Lib.hid hX
   clear hX h1
   have HFt := Lib.hid (fault_any L vt toks 0 e 45 _ HI4.out.line.line HI4.out.line.full)
   rw [HPl.out] at HFt
   go_wp2_with fail
   refine HFt.out.mono ?_
   rintro _ w9 ⟨rfl, hb9⟩
   have HI9 := Lib.hid (HI4.out.below hb9)
   have r0 : w9.cell? ⟨w.heap.size, 0, none⟩ = some (.int .i64 0) := HI9.out.res.cell 0
   have r1 : w9.cell? ⟨w.heap.size, 1, none⟩ = some (.int .i64 0) := HI9.out.res.cell 1
   have rf0 : w9.frozen? ⟨w.heap.size, 0, none⟩ = false := HI9.out.res.froz 0
   have rf1 : w9.frozen? ⟨w.heap.size, 1, none⟩ = false := HI9.out.res.froz 1
   clear hb9 HFt
   go_wp2
   obtain ⟨g0, g1⟩ := res_plain HI9.out.res (.int .i64 ta) (.int .i64 45)
   refine bodyPost_ret (v := .agg #[.int .i64 ta, .int .i64 45]) (by simp [results, Tryz.results20, go_sem, g0, g1]) rfl ?_
   rw [← HX.out]
   exact ⟨(IntoAt.put HI9.out.res HI9.out.prg HI9.out.fr hbase _ _).1, rfl⟩
  ·rw [if_neg h1] at hX
   have h1b : ((lines : Int) == 64) = false := by rw [beq_eq_false_iff_ne]; omega
   have hlm2 : lines < 64 := by omega
   obtain ⟨a, cap, hvt, hc, hm, -⟩ := HI4.out.line.toks
   obtain ⟨n, hn⟩ : ∃ n, n = toks.length := ⟨_, rfl⟩
   rw [← hn] at hc hvt hX
   unfold maxLen at hm
   obtain ⟨c0, c1, c2, f0, f1, f2⟩ := HI4.out.line.line.cells
   rw [hvt] at c0
   have HN := Lib.hid hn
   clear hn hvt h1
   by_cases h2 : 256 < n
   ·rw [if_pos h2] at hX
    have h2b : (256 : Int) < (n : Int) := by omega
    have HX := Lib.hid hX
    have HI5 := Lib.hid (HI4.out.next 256 (u := .int .i64 256) rfl)
    clear hX h2
    obtain ⟨pa, hpa⟩ : ∃ x, x = placeP e (toks.drop 256) := ⟨_, rfl⟩
    rw [← hpa] at HX
    have HPa := Lib.hid hpa.symm
    clear hpa
    go_upto_region 7 with fail
    generalize (wc.setCell ⟨L, 1, none⟩ (.int .i64 256)) = W5 at HI5 ⊢
    clear HI4 HT4 c0 c1 c2 f0 f1 f2
    have HFt := Lib.hid (fault_any L vt toks 256 e 45 _ HI5.out.line.line HI5.out.line.full)
    rw [HPa.out] at HFt
    go_wp2_with fail
    refine HFt.out.mono ?_
    rintro _ w9 ⟨rfl, hb9⟩
    have HI9 := Lib.hid (HI5.out.below hb9)
    have r0 : w9.cell? ⟨w.heap.size, 0, none⟩ = some (.int .i64 0) := HI9.out.res.cell 0
    have r1 : w9.cell? ⟨w.heap.size, 1, none⟩ = some (.int .i64 0) := HI9.out.res.cell 1
    have rf0 : w9.frozen? ⟨w.heap.size, 0, none⟩ = false := HI9.out.res.froz 0
    have rf1 : w9.frozen? ⟨w.heap.size, 1, none⟩ = false := HI9.out.res.froz 1
    clear hb9 HFt
    go_wp2
    obtain ⟨g0, g1⟩ := res_plain HI9.out.res (.int .i64 pa) (.int .i64 45)
    refine bodyPost_ret (v := .agg #[.int .i64 pa, .int .i64 45]) (by simp [results, Tryz.results20, go_sem, g0, g1]) rfl ?_
    rw [← HX.out]
    exact ⟨(IntoAt.put HI9.out.res HI9.out.prg HI9.out.fr hbase _ _).1, rfl⟩
   ·rw [if_neg h2] at hX
    have h2b : ¬ (256 : Int) < (n : Int) := by omega
    clear h2
    obtain ⟨vi, vl, hPb, hPv⟩ := HI4.out.prg
    obtain ⟨ci, cl, o1, o2, o3, o4⟩ := hPv
    obtain ⟨al, capl, rfl⟩ := own_form o3
    have p1 : wc.cell? ⟨P, 1, none⟩ = some (.slice al p.lines.length capl) := hPb.cell 1
    have HO := Lib.hid (And.intro hPb (And.intro o1 (And.intro o2 (And.intro o3 o4))))
    clear hPb o1 o2 o3 o4
    cases over with
    | true =>
     rw [if_pos (.inl rfl)] at hX
     have HX := Lib.hid hX
     clear hX HO
     have HFt := Lib.hid (fault_any L vt toks 0 e 40 _ HI4.out.line.line HI4.out.line.full)
     rw [HPl.out] at HFt
     go_wp2_with fail
     refine HFt.out.mono ?_
     rintro _ w9 ⟨rfl, hb9⟩
     have HI9 := Lib.hid (HI4.out.below hb9)
     have r0 : w9.cell? ⟨w.heap.size, 0, none⟩ = some (.int .i64 0) := HI9.out.res.cell 0
     have r1 : w9.cell? ⟨w.heap.size, 1, none⟩ = some (.int .i64 0) := HI9.out.res.cell 1
     have rf0 : w9.frozen? ⟨w.heap.size, 0, none⟩ = false := HI9.out.res.froz 0
     have rf1 : w9.frozen? ⟨w.heap.size, 1, none⟩ = false := HI9.out.res.froz 1
     clear hb9 HFt
     go_wp2
     obtain ⟨g0, g1⟩ := res_plain HI9.out.res (.int .i64 ta) (.int .i64 40)
     refine bodyPost_ret (v := .agg #[.int .i64 ta, .int .i64 40]) (by simp [results, Tryz.results20, go_sem, g0, g1]) rfl ?_
     rw [← HX.out]
     exact ⟨(IntoAt.put HI9.out.res HI9.out.prg HI9.out.fr hbase _ _).1, rfl⟩
    | false =>
     cases bin with
     | true =>
      by_cases h3 : p.lines = []
      ·rw [if_neg (by rintro (h | h); cases h; exact h.2 h3), if_pos rfl] at hX
       have h3b : ¬ (0 : Int) < (p.lines.length : Int) := by rw [h3]; simp
       have HX := Lib.hid hX
       have HL0 := Lib.hid h3
       clear hX h3
       go_upto_region 12 with fail
       have hbs := HI4.out.fr.size
       have hrl := HI4.out.res.lt
       have HI5 := Lib.hid (HI4.out.below (w' := wc.alloc (.cells #[.string ⟨#[]⟩, .int .i64 0, .slice none 0 0] 86)) ((Below.refl _ _).alloc (Nat.le_refl _) _))
       have HB5 : Hid (Blk (wc.alloc (.cells #[.string ⟨#[]⟩, .int .i64 0, .slice none 0 0] 86)) wc.heap.size 86 #[.string ⟨#[]⟩, .int .i64 0, .slice none 0 0]) := Lib.hid (heap_alloc_new wc _)
       have HF5 : Hid (Fr L wc.heap.size wc (wc.alloc (.cells #[.string ⟨#[]⟩, .int .i64 0, .slice none 0 0] 86))) := Lib.hid (Chg.below ((Below.refl _ _).alloc (Nat.le_refl _) _))
       have hz5 : wc.heap.size + 1 = (wc.alloc (.cells #[.string ⟨#[]⟩, .int .i64 0, .slice none 0 0] 86)).heap.size := by simp
       generalize (wc.alloc (.cells #[.string ⟨#[]⟩, .int .i64 0, .slice none 0 0] 86)) = W5 at HI5 HB5 HF5 hz5 ⊢
       have hd1 : Hid (toks.drop 1 = r) := Lib.hid (by rw [HTk.out]; rfl)
       clear c0 c1 c2 f0 f1 f2 p1
       go_wp2_with fail
       refine (input_any L vt toks 0 e W5 HI5.out.line.up (by rw [HTk.out]; simp) (by have := HN.out; omega) hW (hErr.fr HI5.out.fr hLg hEb) hLg).mono ?_
       intro en w6 hp
       rw [hd1.out] at hp
       obtain ⟨hfr6, k6, hl6, nm, ia, ad, ni, capi, y1, y2, rfl, hex, hok⟩ := hp.one
       clear hp
       have HI6 := Lib.hid (HI5.out.called hfr6 hl6 (by omega))
       have hb6 : Blk w6 wc.heap.size 86 #[.string ⟨#[]⟩, .int .i64 0, .slice none 0 0] := HB5.out.keep (keep_fr HI5.out.line.line (Nat.le_refl _) hfr6 _ (by decide))
       have HF6 := Lib.hid (Fr.trans HF5.out (Chg.mono hfr6 (fun k hk => by
        rcases hk with hk | hk
        ·exact .inl hk
        ·exact .inr (by omega))))
       have b0 : w6.cell? ⟨wc.heap.size, 0, none⟩ = some (.string ⟨#[]⟩) := hb6.cell 0
       have b1 : w6.cell? ⟨wc.heap.size, 1, none⟩ = some (.int .i64 0) := hb6.cell 1
       have b2 : w6.cell? ⟨wc.heap.size, 2, none⟩ = some (.slice none 0 0) := hb6.cell 2
       have bf0 : w6.frozen? ⟨wc.heap.size, 0, none⟩ = false := hb6.froz 0
       have bf1 : w6.frozen? ⟨wc.heap.size, 1, none⟩ = false := hb6.froz 1
       have bf2 : w6.frozen? ⟨wc.heap.size, 2, none⟩ = false := hb6.froz 2
       have r0 : w6.cell? ⟨w.heap.size, 0, none⟩ = some (.int .i64 0) := HI6.out.res.cell 0
       have r1 : w6.cell? ⟨w.heap.size, 1, none⟩ = some (.int .i64 0) := HI6.out.res.cell 1
       have rf0 : w6.frozen? ⟨w.heap.size, 0, none⟩ = false := HI6.out.res.froz 0
       have rf1 : w6.frozen? ⟨w.heap.size, 1, none⟩ = false := HI6.out.res.froz 1
       have hne1 : ¬ wc.heap.size = w.heap.size := by omega
       have hne2 : ¬ w.heap.size = wc.heap.size := by omega
       obtain ⟨s1, s2, s3⟩ := sets3 hb6 (.string nm) (.int .i64 ia) (.slice ad ni capi)
       have hF7 := Fr.trans HF6.out (s3.mono (fun k hk => .inr (by omega)))
       have hP7 : PrgS _ P base p := HI4.out.prg.keep (fun t ht _ _ => keep_fr HI4.out.line.line (Nat.le_refl _) hF7 t ht)
       have hr7 := HI6.out.res.keep (s2 _ (by decide))
       have hfr7 := HI6.out.fr.trans (s3.mono (fun k hk => .inr (by omega)))
       obtain ⟨hfr8, hP8⟩ := IntoAt.put hr7 hP7 hfr7 hbase (.int .i64 y1) (.int .i64 y2)
       have hr8 := hr7.put2 (.int .i64 y1) (.int .i64 y2)
       have kf : ∀ t, t ≠ 44 → KeepTag t _ _ := fun t ht => (KeepTag.set hr7 ht 0 (.int .i64 y1)).trans (KeepTag.set (hr7.put0 (.int .i64 y1)) ht 1 (.int .i64 y2))
       have hb8 := s1.keep (kf _ (by decide))
       have hok8 : ∀ q, inputP e r = .ok q → y1 = 0 ∧ y2 = 0 ∧ nm = mkS q.name ∧ ia = q.at_ ∧ ((((((w6.setCell ⟨wc.heap.size, 0, none⟩ (.string nm)).setCell ⟨wc.heap.size, 1, none⟩ (.int .i64 ia)).setCell ⟨wc.heap.size, 2, none⟩ (.slice ad ni capi)).setCell ⟨w.heap.size, 0, none⟩ (.int .i64 y1)).setCell ⟨w.heap.size, 1, none⟩ (.int .i64 y2)).ownsRow 0 96 2 (.slice ad ni capi) q.sides.length (sideCells q.sides)) := fun q hq => by
        obtain ⟨e1, e2, e3, e4, e5⟩ := hok q hq
        exact ⟨e1, e2, e3, e4, own_base (own_tag (own_tag e5 (s2 _ (by decide))) (kf _ (by decide))) (Nat.zero_le _)⟩
       have HS := Lib.hid (And.intro hfr8 (And.intro hP8 (And.intro hr8 hb8)))
       have Hok := Lib.hid hok8
       have Hex := Lib.hid hex
       clear s1 s2 s3 hF7 hP7 hr7 hfr7 hfr8 hP8 hr8 kf hb8 hok8 hok hex hb6 HI6 HF6 HB5 HF5 HI5 hfr6 hl6
       go_upto_region 13 with fail
       generalize (((((w6.setCell ⟨wc.heap.size, 0, none⟩ (.string nm)).setCell ⟨wc.heap.size, 1, none⟩ (.int .i64 ia)).setCell ⟨wc.heap.size, 2, none⟩ (.slice ad ni capi)).setCell ⟨w.heap.size, 0, none⟩ (.int .i64 y1)).setCell ⟨w.heap.size, 1, none⟩ (.int .i64 y2)) = W8 at HS Hok ⊢
       clear b0 b1 b2 bf0 bf1 bf2 r0 r1 rf0 rf1 HO
       go_cut [] from 15 (fun wx => Blk wx w.heap.size 44 #[.int .i64 y1, .int .i64 y2] ∧ Fr L base w wx ∧ ∀ q, inputP e r = .ok q → PrgS wx P base { p with inputs := p.inputs ++ [q] })
       case first =>
        obtain ⟨hfr8, ⟨vi, vl, hPb, ci, cl, o1, o2, o3, o4⟩, hr8, hb8⟩ := HS.out
        obtain ⟨ai, capj, rfl⟩ := own_form o1
        have HO := Lib.hid (And.intro hPb (And.intro o1 (And.intro o2 (And.intro o3 (And.intro o4 (And.intro hfr8 hr8))))))
        have p0 : W8.cell? ⟨P, 0, none⟩ = some (.slice ai p.inputs.length capj) := hPb.cell 0
        have p0f : W8.frozen? ⟨P, 0, none⟩ = false := hPb.froz 0
        have d0 : W8.cell? ⟨wc.heap.size, 0, none⟩ = some (.string nm) := hb8.cell 0
        have d1 : W8.cell? ⟨wc.heap.size, 1, none⟩ = some (.int .i64 ia) := hb8.cell 1
        have d2 : W8.cell? ⟨wc.heap.size, 2, none⟩ = some (.slice ad ni capi) := hb8.cell 2
        obtain ⟨z0, hi, hz0, hz1, hz2⟩ := info_parts Tryz.infoInput
        have hcap : p.inputs.length + 1 ≤ maxLen := by unfold maxLen; omega
        have hby : (p.inputs.length + 1) * 48 ≤ 140737488355328 := by omega
        have hb8s : base ≤ W8.heap.size := by have := hfr8.size; omega
        have hPl := hPb.lt
        clear hPb o1 o2 o3 o4 hfr8 hr8 hb8
        go_region_law (refine step_append_lies _ (by rfl) _ _ _ (by rfl) base 86 z0 (.agg #[.string ⟨#[]⟩, .int .i64 0, .slice none 0 0]) 3 48 Tryz.underlying38 hi hz0 hz1 hz2 rfl (by decide) (.slice ai p.inputs.length capj) p.inputs.length ci (by rfl) ((HO.out.2.1.alloc _).drew) ⟨W8.heap.size, 0, none⟩ 1 1 [.string nm, .int .i64 ia, .slice ad ni capi] (by rfl) (by rfl) (World.news_of_block (cs := #[.string nm, .int .i64 ia, .slice ad ni capi]) (t := 86) (fr := (0, 0)) (heap_alloc_new W8 _)) (by simp [Value.oneCell']) (by decide) hcap hby (by simp; omega) (W8.heap.size + 1) (by simp) ?_; intro g2 cap2 w9 hown9 hg9 hat9 hlt9; have hk9 : ∀ t, t ≠ 86 → KeepTag t W8 w9 := (fun t h => (KeepTag.alloc _).trans (KeepTag.own (w := ((W8.alloc (.cells #[.string nm, .int .i64 ia, .slice ad ni capi] 86)).drew)) hg9 ((HO.out.2.1.alloc _).drew) h)); have HP9 := Lib.hid (HO.out.1.keep (hk9 _ (by decide))); have p9 : w9.cell? ⟨P, 0, none⟩ = some (.slice ai p.inputs.length capj) := HP9.out.cell 0; have p9f : w9.frozen? ⟨P, 0, none⟩ = false := HP9.out.froz 0)
        all_goals
         go_wp2_with fail
         go_meet
         case rel =>
          obtain ⟨hPb, o1, o2, o3, o4, hfr8, hr8⟩ := HO.out
          have ka : ∀ t, KeepTag t W8 ((W8.alloc (.cells #[.string nm, .int .i64 ia, .slice ad ni capi] 86)).drew) := fun t => KeepTag.alloc (w := W8) _
          have ks : ∀ t, t ≠ 41 → KeepTag t w9 (w9.setCell ⟨P, 0, none⟩ (.slice (some ⟨g2, 0, none⟩) (p.inputs.length + 1) cap2)) := fun t ht => KeepTag.set HP9.out ht 0 _
          refine ⟨(hr8.keep (hk9 _ (by decide))).keep (ks _ (by decide)), ?_, fun q hq => ?_⟩
          ·refine hfr8.trans (Fr.trans (Chg.below ((Below.refl _ _).alloc (Nat.le_refl _) _)) (Fr.trans (Chg.below (Below.drew (Below.refl _ _))) (Fr.trans (Chg.gb hg9 (fun k hk => .inr (o1.lt k hk).1)) (Chg.set (.inr hbP) 0 _))))
          ·obtain ⟨e1, e2, e3, e4, e5⟩ := Hok.out q hq
           subst e3 e4
           exact ⟨_, _, HP9.out.set20 _, (PrgV.input (own_tag o1 (ka _)) (o2.imp (fun _ _ h => h.keep (ka _))) (own_tag o3 (ka _)) (o4.imp (fun _ _ h => h.keep (ka _) (ka _))) hg9 hown9 (own_tag e5 (ka _))).keep (fun t _ _ _ ht => ks t ht)⟩
       case rest =>
        obtain ⟨hr9, hfr9, hp9⟩ := hcut
        have r0 : wc.cell? ⟨w.heap.size, 0, none⟩ = some (.int .i64 y1) := hr9.cell 0
        have r1 : wc.cell? ⟨w.heap.size, 1, none⟩ = some (.int .i64 y2) := hr9.cell 1
        have rf0 : wc.frozen? ⟨w.heap.size, 0, none⟩ = false := hr9.froz 0
        have rf1 : wc.frozen? ⟨w.heap.size, 1, none⟩ = false := hr9.froz 1
        have HR := Lib.hid (And.intro hr9 (And.intro hfr9 hp9))
        clear hr9 hfr9 hp9 HS
        go_wp2
        obtain ⟨hr9, hfr9, hp9⟩ := HR.out
        obtain ⟨g0, g1⟩ := res_plain hr9 (.int .i64 y1) (.int .i64 y2)
        have kf : ∀ t, t ≠ 44 → KeepTag t wc _ := fun t ht => (KeepTag.set hr9 ht 0 (.int .i64 y1)).trans (KeepTag.set (hr9.put0 (.int .i64 y1)) ht 1 (.int .i64 y2))
        refine bodyPost_ret (v := .agg #[.int .i64 y1, .int .i64 y2]) (by simp [results, Tryz.results20, go_sem, g0, g1]) rfl ?_
        have hXo := HX.out
        refine ⟨hfr9.trans (Chg.trans (Chg.set (.inr hbase) 0 (.int .i64 y1)) (Chg.set (.inr hbase) 1 (.int .i64 y2)) (fun _ _ h => h)), ?_⟩
        cases hi : inputP e r with
        | error y =>
         obtain ⟨rfl, rfl⟩ := Hex.out y hi
         rw [hi] at hXo
         subst hXo
         rfl
        | ok q =>
         obtain ⟨rfl, rfl, -⟩ := Hok.out q hi
         have hq := hp9 q hi
         rw [hi] at hXo
         subst hXo
         exact ⟨rfl, hq.keep (fun t _ ht _ => kf t ht)⟩
      ·rw [if_pos (.inr ⟨rfl, h3⟩)] at hX
       have h3b : (0 : Int) < (p.lines.length : Int) := by
        have := List.length_pos_iff.2 h3
        omega
       have HX := Lib.hid hX
       clear hX h3 HO
       have HFt := Lib.hid (fault_any L vt toks 0 e 40 _ HI4.out.line.line HI4.out.line.full)
       rw [HPl.out] at HFt
       go_wp2_with fail
       refine HFt.out.mono ?_
       rintro _ w9 ⟨rfl, hb9⟩
       have HI9 := Lib.hid (HI4.out.below hb9)
       have r0 : w9.cell? ⟨w.heap.size, 0, none⟩ = some (.int .i64 0) := HI9.out.res.cell 0
       have r1 : w9.cell? ⟨w.heap.size, 1, none⟩ = some (.int .i64 0) := HI9.out.res.cell 1
       have rf0 : w9.frozen? ⟨w.heap.size, 0, none⟩ = false := HI9.out.res.froz 0
       have rf1 : w9.frozen? ⟨w.heap.size, 1, none⟩ = false := HI9.out.res.froz 1
       clear hb9 HFt
       go_wp2
       obtain ⟨g0, g1⟩ := res_plain HI9.out.res (.int .i64 ta) (.int .i64 40)
       refine bodyPost_ret (v := .agg #[.int .i64 ta, .int .i64 40]) (by simp [results, Tryz.results20, go_sem, g0, g1]) rfl ?_
       rw [← HX.out]
       exact ⟨(IntoAt.put HI9.out.res HI9.out.prg HI9.out.fr hbase _ _).1, rfl⟩
     | false =>
      rw [if_neg (by rintro (h | h); cases h; cases h.1), if_neg (by simp)] at hX
      have HX := Lib.hid hX
      clear hX p1
      go_upto_region 15 with fail
      clear HO c0 c1 c2 f0 f1 f2
      go_cut [83] from 15 (fun b wx => b = .bool (!bout && !nameT ⟨tk, ta, tw, tn⟩) ∧ IntoAt w wx L P base vt toks e 0 p ∧ Blk wx b9 60 #[.int .i64 tk, .int .i64 ta, .string (mkS tw), .int .i64 tn])
      case first =>
       have t0 : wc.cell? ⟨b9, 0, none⟩ = some (.int .i64 tk) := HT4.out.cell 0
       have t2 : wc.cell? ⟨b9, 2, none⟩ = some (.string (mkS tw)) := HT4.out.cell 2
       cases bout with
       | true =>
        go_wp2_with fail
        go_meet
        case rel => exact ⟨rfl, HI4.out, HT4.out⟩
       | false =>
        by_cases hk1 : tk = 1
        ·subst hk1
         have HNm := Lib.hid (HN1.out wc (hErr.fr HI4.out.fr hLg hEb))
         cases hnb : nameB tw with
         | true =>
          rw [hnb] at HNm
          have hbad : Hid ((!nameT ⟨1, ta, tw, tn⟩) = false) := Lib.hid (by unfold nameT; rw [hnb]; rfl)
          clear hnb
          go_wp2_with (go_at_call 30; refine HNm.out.mono ?_; rintro _ w5 ⟨rfl, hb5⟩)
          go_meet
          case rel => exact ⟨by rw [hbad.out]; rfl, HI4.out.below hb5, HT4.out.keep (KeepTag.below hb5)⟩
         | false =>
          rw [hnb] at HNm
          have hbad : Hid ((!nameT ⟨1, ta, tw, tn⟩) = true) := Lib.hid (by unfold nameT; rw [hnb]; rfl)
          clear hnb
          go_wp2_with (go_at_call 30; refine HNm.out.mono ?_; rintro _ w5 ⟨rfl, hb5⟩)
          go_meet
          case rel => exact ⟨by rw [hbad.out]; rfl, HI4.out.below hb5, HT4.out.keep (KeepTag.below hb5)⟩
        ·have hu1b : (tk != 1) = true := by simpa using hk1
         have hbad : Hid ((!nameT ⟨tk, ta, tw, tn⟩) = true) := Lib.hid (by unfold nameT; simp [hk1])
         clear hk1
         go_wp2_with fail
         go_meet
         case rel => exact ⟨by rw [hbad.out]; rfl, HI4.out, HT4.out⟩
      case rest =>
       obtain ⟨rfl, hI, hT⟩ := hcut
       clear HI4 HT4 HN1
       have HI4 := Lib.hid hI
       have HT4 := Lib.hid hT
       have hX := HX.out
       clear hI hT
       cases hbad : (!bout && !nameT ⟨tk, ta, tw, tn⟩) with
       | true =>
        obtain ⟨rfl, hnt⟩ : bout = false ∧ nameT ⟨tk, ta, tw, tn⟩ = false := by simpa using hbad
        rw [if_neg (by simp), if_pos hnt] at hX
        clear HX
        have HX := Lib.hid hX
        clear hX hbad hnt
        have HFt := Lib.hid (fault_any L vt toks 0 e 40 _ HI4.out.line.line HI4.out.line.full)
        rw [HPl.out] at HFt
        go_wp2_with fail
        refine HFt.out.mono ?_
        rintro _ w9 ⟨rfl, hb9⟩
        have HI9 := Lib.hid (HI4.out.below hb9)
        have r0 : w9.cell? ⟨w.heap.size, 0, none⟩ = some (.int .i64 0) := HI9.out.res.cell 0
        have r1 : w9.cell? ⟨w.heap.size, 1, none⟩ = some (.int .i64 0) := HI9.out.res.cell 1
        have rf0 : w9.frozen? ⟨w.heap.size, 0, none⟩ = false := HI9.out.res.froz 0
        have rf1 : w9.frozen? ⟨w.heap.size, 1, none⟩ = false := HI9.out.res.froz 1
        clear hb9 HFt
        go_wp2
        obtain ⟨g0, g1⟩ := res_plain HI9.out.res (.int .i64 ta) (.int .i64 40)
        refine bodyPost_ret (v := .agg #[.int .i64 ta, .int .i64 40]) (by simp [results, Tryz.results20, go_sem, g0, g1]) rfl ?_
        rw [← HX.out]
        exact ⟨(IntoAt.put HI9.out.res HI9.out.prg HI9.out.fr hbase _ _).1, rfl⟩
       | false =>
        obtain ⟨Wa, rfl⟩ : ∃ W : World, W = wc := ⟨_, rfl⟩
        have HBad := Lib.hid hbad
        clear HX
        have HX := Lib.hid hX
        have hbs := HI4.out.fr.size
        have hLl := HI4.out.line.line.lt
        have t1 : Wa.cell? ⟨b9, 1, none⟩ = some (.int .i64 ta) := HT4.out.cell 1
        obtain ⟨c0, c1, c2, f0, f1, f2⟩ := HI4.out.line.line.cells
        obtain ⟨s1, hs1⟩ : ∃ x, x = Wa.setCell ⟨L, 1, none⟩ (.int .i64 1) := ⟨_, rfl⟩
        have HFa : Hid (Fr L Wa.heap.size Wa ((Wa.setCell ⟨L, 1, none⟩ (.int .i64 1)).alloc (.cells #[.string ⟨#[]⟩, .int .i64 ta, .slice none 0 0] 65))) := Lib.hid (Fr.trans (Chg.set (.inl rfl) 1 _) (Chg.below ((Below.refl _ _).alloc (Nat.le_refl _) _)))
        have HLa : Hid (LineIs ((Wa.setCell ⟨L, 1, none⟩ (.int .i64 1)).alloc (.cells #[.string ⟨#[]⟩, .int .i64 ta, .slice none 0 0] 65)) L vt 1 e) := Lib.hid ((HI4.out.line.line.next 1 rfl).alloc _)
        have HBa : Hid (Blk ((Wa.setCell ⟨L, 1, none⟩ (.int .i64 1)).alloc (.cells #[.string ⟨#[]⟩, .int .i64 ta, .slice none 0 0] 65)) Wa.heap.size 65 #[.string ⟨#[]⟩, .int .i64 ta, .slice none 0 0]) := Lib.hid (by
         have h := heap_alloc_new (Wa.setCell ⟨L, 1, none⟩ (.int .i64 1)) (.cells #[.string ⟨#[]⟩, .int .i64 ta, .slice none 0 0] 65)
         rw [size_set] at h
         exact h)
        have HTa : Hid (Blk ((Wa.setCell ⟨L, 1, none⟩ (.int .i64 1)).alloc (.cells #[.string ⟨#[]⟩, .int .i64 ta, .slice none 0 0] 65)) b9 60 #[.int .i64 tk, .int .i64 ta, .string (mkS tw), .int .i64 tn]) := Lib.hid ((HT4.out.keep (KeepTag.set HI4.out.line.line (by decide) 1 _)).keep (KeepTag.alloc _))
        clear hX hbad hs1 s1
        go_upto_if 106 with fail
        generalize ((Wa.setCell ⟨L, 1, none⟩ (.int .i64 1)).alloc (.cells #[.string ⟨#[]⟩, .int .i64 ta, .slice none 0 0] 65)) = W6 at HFa HLa HBa HTa ⊢
        clear t1 c0 c1 c2 f0 f1 f2
        go_cut [] from 15 (fun wx => ∃ nm k, Fr L Wa.heap.size Wa wx ∧ LineIs wx L vt k e ∧ Blk wx Wa.heap.size 65 #[.string (mkS nm), .int .i64 ta, .slice none 0 0] ∧ ((exprP e (toks.drop k)).map fun l => ({ inputs := p.inputs, lines := p.lines ++ [⟨nm, ta, l⟩] } : Prg)) = X)
        case first =>
         have hd1 : Hid (toks.drop 1 = r) := Lib.hid (by rw [HTk.out]; rfl)
         cases bout with
         | true =>
          go_wp2_with fail
          go_meet
          case rel =>
           refine ⟨[], 1, HFa.out, HLa.out, HBa.out, ?_⟩
           have hX := HX.out
           rw [if_pos trivial] at hX
           rw [hd1.out]
           exact hX
         | false =>
          have hnt : nameT ⟨tk, ta, tw, tn⟩ = true := by simpa using HBad.out
          have hX := HX.out
          rw [if_neg (by simp), if_neg (by rw [hnt]; simp)] at hX
          clear HX
          have HX := Lib.hid hX
          have t2 : W6.cell? ⟨b9, 2, none⟩ = some (.string (mkS tw)) := HTa.out.cell 2
          have x0 : W6.cell? ⟨Wa.heap.size, 0, none⟩ = some (.string ⟨#[]⟩) := HBa.out.cell 0
          have xf0 : W6.frozen? ⟨Wa.heap.size, 0, none⟩ = false := HBa.out.froz 0
          have hBl := HBa.out.lt
          have HFb := Lib.hid (Fr.trans HFa.out (Chg.set (.inr (Nat.le_refl _)) 0 (.string (mkS tw))))
          have HLb : Hid (LineIs (W6.setCell ⟨Wa.heap.size, 0, none⟩ (.string (mkS tw))) L vt 1 e) := Lib.hid (KeepTag.set HBa.out (by decide) 0 (.string (mkS tw)) L _ HLa.out)
          have HBb := Lib.hid (HBa.out.set30 (.string (mkS tw)))
          clear hX hnt
          go_upto_region 21 with fail
          generalize (W6.setCell ⟨Wa.heap.size, 0, none⟩ (.string (mkS tw))) = W7 at HFb HLb HBb ⊢
          clear t2 x0 xf0 HFa HLa HBa HTa
          have HI7 := Lib.hid (HI4.out.called HFb.out HLb.out (by omega))
          go_wp2_with fail
          refine (peek_any L vt toks 1 e W7 HI7.out.line.line HI7.out.line.full).mono ?_
          rintro _ w8 ⟨rfl, hb8⟩
          have HI8 := Lib.hid (HI7.out.below hb8)
          have HFc := Lib.hid (Fr.trans HFb.out (Chg.below hb8))
          have HLc := Lib.hid (HLb.out.below hb8)
          have HBc := Lib.hid (HBb.out.keep (KeepTag.below hb8))
          clear HI7 HFb HLb HBb hb8
          cases r with
          | nil =>
           have hn1 : toks.length ≤ 1 := by rw [HTk.out]; simp
           rw [peek_out hn1]
           have HPa := Lib.hid (place_out (toks := toks) (k := 1) e hn1)
           unfold Tok.val
           dsimp only
           go_upto_region 23 with fail
           have HI9 := Lib.hid (HI8.out.below ((Below.refl _ _).alloc (Nat.le_refl _) (.cells #[.int .i64 4, .int .i64 0, .string (mkS []), .int .i64 0] 60)))
           have HFt := Lib.hid (fault_any L vt toks 1 e 42 _ HI9.out.line.line HI9.out.line.full)
           rw [HPa.out] at HFt
           go_wp2_with fail
           refine HFt.out.mono ?_
           rintro _ w9 ⟨rfl, hb9⟩
           have HI9 := Lib.hid (HI9.out.below hb9)
           have r0 : w9.cell? ⟨w.heap.size, 0, none⟩ = some (.int .i64 0) := HI9.out.res.cell 0
           have r1 : w9.cell? ⟨w.heap.size, 1, none⟩ = some (.int .i64 0) := HI9.out.res.cell 1
           have rf0 : w9.frozen? ⟨w.heap.size, 0, none⟩ = false := HI9.out.res.froz 0
           have rf1 : w9.frozen? ⟨w.heap.size, 1, none⟩ = false := HI9.out.res.froz 1
           clear hb9 HFt
           go_wp2
           obtain ⟨g0, g1⟩ := res_plain HI9.out.res (.int .i64 e) (.int .i64 42)
           refine bodyPost_ret (v := .agg #[.int .i64 e, .int .i64 42]) (by simp [results, Tryz.results20, go_sem, g0, g1]) rfl ?_
           rw [← HX.out]
           exact ⟨(IntoAt.put HI9.out.res HI9.out.prg HI9.out.fr hbase _ _).1, rfl⟩
          | cons c r2 =>
           have hg1 : toks[1]? = some c := by rw [HTk.out]; rfl
           rw [peek_in hg1]
           have HPa := Lib.hid (place_in e hg1)
           have hd2 : Hid (toks.drop 2 = r2) := Lib.hid (by rw [HTk.out]; rfl)
           obtain ⟨uk, ua, uw, un⟩ := c
           unfold Tok.val
           dsimp only at HPa ⊢
           clear hg1
           have HI9 := Lib.hid (HI8.out.below ((Below.refl _ _).alloc (Nat.le_refl _) (.cells #[.int .i64 uk, .int .i64 ua, .string (mkS uw), .int .i64 un] 60)))
           have HFd := Lib.hid (Fr.trans HFc.out (Chg.below ((Below.refl _ _).alloc (Nat.le_refl _) (.cells #[.int .i64 uk, .int .i64 ua, .string (mkS uw), .int .i64 un] 60))))
           have HLd := Lib.hid (HLc.out.alloc (.cells #[.int .i64 uk, .int .i64 ua, .string (mkS uw), .int .i64 un] 60))
           have HBd := Lib.hid (HBc.out.keep (KeepTag.alloc (.cells #[.int .i64 uk, .int .i64 ua, .string (mkS uw), .int .i64 un] 60)))
           clear HI8 HFc HLc HBc
           by_cases hk3 : uk = 3
           ·subst hk3
            cases hw : uw == [58] with
            | true =>
             have hX := HX.out
             dsimp only at hX
             rw [if_pos (by unfold signIs; rw [hw]; rfl)] at hX
             clear HX
             have HX := Lib.hid hX
             have hwb : ((mkS uw).toList != [58]) = false := by rw [ByteArray.toList_eq, mkS_toList]; simpa using hw
             have hWa : ((mkS uw).toList == [58]) = true := by rw [ByteArray.toList_eq, mkS_toList]; exact hw
             obtain ⟨c0, c1, c2, f0, f1, f2⟩ := HLd.out.cells
             clear hX hw
             go_upto_region 24 with fail
             generalize (w8.alloc (.cells #[.int .i64 3, .int .i64 ua, .string (mkS uw), .int .i64 un] 60)) = W9 at HI9 HFd HLd HBd c0 c1 c2 f0 f1 f2 ⊢
             go_wp2_with fail
             go_meet
             case rel =>
              refine ⟨tw, 2, Fr.trans HFd.out (Chg.set (.inl rfl) 1 _), HLd.out.next 2 rfl, HBd.out.keep (KeepTag.set HLd.out (by decide) 1 _), ?_⟩
              rw [hd2.out]
              exact HX.out
            | false =>
             have hX := HX.out
             dsimp only at hX
             rw [if_neg (by unfold signIs; rw [hw]; simp)] at hX
             clear HX
             have HX := Lib.hid hX
             have hwb : ((mkS uw).toList != [58]) = true := by rw [ByteArray.toList_eq, mkS_toList]; simpa using hw
             have hWa : ((mkS uw).toList == [58]) = false := by rw [ByteArray.toList_eq, mkS_toList]; exact hw
             clear hX hw
             go_upto_region 23 with fail
             have HFt := Lib.hid (fault_any L vt toks 1 e 42 _ HI9.out.line.line HI9.out.line.full)
             rw [HPa.out] at HFt
             go_wp2_with fail
             refine HFt.out.mono ?_
             rintro _ w9 ⟨rfl, hb9⟩
             have HI9 := Lib.hid (HI9.out.below hb9)
             have r0 : w9.cell? ⟨w.heap.size, 0, none⟩ = some (.int .i64 0) := HI9.out.res.cell 0
             have r1 : w9.cell? ⟨w.heap.size, 1, none⟩ = some (.int .i64 0) := HI9.out.res.cell 1
             have rf0 : w9.frozen? ⟨w.heap.size, 0, none⟩ = false := HI9.out.res.froz 0
             have rf1 : w9.frozen? ⟨w.heap.size, 1, none⟩ = false := HI9.out.res.froz 1
             clear hb9 HFt
             go_wp2
             obtain ⟨g0, g1⟩ := res_plain HI9.out.res (.int .i64 ua) (.int .i64 42)
             refine bodyPost_ret (v := .agg #[.int .i64 ua, .int .i64 42]) (by simp [results, Tryz.results20, go_sem, g0, g1]) rfl ?_
             rw [← HX.out]
             exact ⟨(IntoAt.put HI9.out.res HI9.out.prg HI9.out.fr hbase _ _).1, rfl⟩
           ·have hX := HX.out
            dsimp only at hX
            rw [if_neg (by unfold signIs; simp [hk3])] at hX
            clear HX
            have HX := Lib.hid hX
            have hk3b : (uk != 3) = true := by simpa using hk3
            clear hX hk3
            go_upto_region 23 with fail
            have HFt := Lib.hid (fault_any L vt toks 1 e 42 _ HI9.out.line.line HI9.out.line.full)
            rw [HPa.out] at HFt
            go_wp2_with fail
            refine HFt.out.mono ?_
            rintro _ w9 ⟨rfl, hb9⟩
            have HI9 := Lib.hid (HI9.out.below hb9)
            have r0 : w9.cell? ⟨w.heap.size, 0, none⟩ = some (.int .i64 0) := HI9.out.res.cell 0
            have r1 : w9.cell? ⟨w.heap.size, 1, none⟩ = some (.int .i64 0) := HI9.out.res.cell 1
            have rf0 : w9.frozen? ⟨w.heap.size, 0, none⟩ = false := HI9.out.res.froz 0
            have rf1 : w9.frozen? ⟨w.heap.size, 1, none⟩ = false := HI9.out.res.froz 1
            clear hb9 HFt
            go_wp2
            obtain ⟨g0, g1⟩ := res_plain HI9.out.res (.int .i64 ua) (.int .i64 42)
            refine bodyPost_ret (v := .agg #[.int .i64 ua, .int .i64 42]) (by simp [results, Tryz.results20, go_sem, g0, g1]) rfl ?_
            rw [← HX.out]
            exact ⟨(IntoAt.put HI9.out.res HI9.out.prg HI9.out.fr hbase _ _).1, rfl⟩
        case rest =>
         obtain ⟨nm, k, hF, hl, hb, hXe⟩ := hcut
         clear HFa HLa HBa HTa HBad HX HT4
         have HX := Lib.hid hXe
         have HI5 := Lib.hid (HI4.out.called hF hl (by omega))
         have HB5 := Lib.hid hb
         have HF5 := Lib.hid hF
         have hbl := hb.lt
         have hrl := HI4.out.res.lt
         have hsz5 := hF.size
         clear hF hl hb hXe
         go_upto_region 25 with fail
         go_wp2_with fail
         refine (expr_any w.heap.size L vt toks k e wc HI5.out.line (by have := HN.out; omega) hW hK (hErr.fr HI5.out.fr hLg hEb) hLg).mono ?_
         intro en w6 hp
         have hp : ExprPost L vt e (exprP e (toks.drop k)) wc en w6 := hp
         obtain ⟨hfr6, k6, hl6, ad, ni, capi, y1, y2, rfl, hex, hok⟩ := hp.one
         clear hp
         generalize exprP e (toks.drop k) = XE at *
         have HI6 := Lib.hid (HI5.out.called hfr6 hl6 (by omega))
         have hb6 : Blk w6 Wa.heap.size 65 #[.string (mkS nm), .int .i64 ta, .slice none 0 0] := HB5.out.keep (keep_fr HI5.out.line.line (Nat.le_refl _) hfr6 _ (by decide))
         have HF6 := Lib.hid (Fr.trans HF5.out (Chg.mono hfr6 (fun k hk => by
          rcases hk with hk | hk
          ·exact .inl hk
          ·exact .inr (by omega))))
         have b2 : w6.cell? ⟨Wa.heap.size, 2, none⟩ = some (.slice none 0 0) := hb6.cell 2
         have bf2 : w6.frozen? ⟨Wa.heap.size, 2, none⟩ = false := hb6.froz 2
         have r0 : w6.cell? ⟨w.heap.size, 0, none⟩ = some (.int .i64 0) := HI6.out.res.cell 0
         have r1 : w6.cell? ⟨w.heap.size, 1, none⟩ = some (.int .i64 0) := HI6.out.res.cell 1
         have rf0 : w6.frozen? ⟨w.heap.size, 0, none⟩ = false := HI6.out.res.froz 0
         have rf1 : w6.frozen? ⟨w.heap.size, 1, none⟩ = false := HI6.out.res.froz 1
         have hne1 : ¬ Wa.heap.size = w.heap.size := by omega
         have hne2 : ¬ w.heap.size = Wa.heap.size := by omega
         have s1 := hb6.set32 (.slice ad ni capi)
         have s2 : ∀ t, t ≠ 65 → KeepTag t w6 (w6.setCell ⟨Wa.heap.size, 2, none⟩ (.slice ad ni capi)) := fun t ht => KeepTag.set hb6 ht 2 _
         have hF7 : Fr L Wa.heap.size Wa (w6.setCell ⟨Wa.heap.size, 2, none⟩ (.slice ad ni capi)) := Fr.trans HF6.out (Chg.set (.inr (Nat.le_refl _)) 2 (.slice ad ni capi))
         have hP7 : PrgS _ P base p := HI4.out.prg.keep (fun t ht _ _ => keep_fr HI4.out.line.line (Nat.le_refl _) hF7 t ht)
         have hr7 := HI6.out.res.keep (s2 _ (by decide))
         have hfr7 : Fr L base w (w6.setCell ⟨Wa.heap.size, 2, none⟩ (.slice ad ni capi)) := HI6.out.fr.trans (Chg.set (.inr (by omega)) 2 (.slice ad ni capi))
         obtain ⟨hfr8, hP8⟩ := IntoAt.put hr7 hP7 hfr7 hbase (.int .i64 y1) (.int .i64 y2)
         have hr8 := hr7.put2 (.int .i64 y1) (.int .i64 y2)
         have kf : ∀ t, t ≠ 44 → KeepTag t _ _ := fun t ht => (KeepTag.set hr7 ht 0 (.int .i64 y1)).trans (KeepTag.set (hr7.put0 (.int .i64 y1)) ht 1 (.int .i64 y2))
         have hb8 := s1.keep (kf _ (by decide))
         have hok8 : ∀ q, XE = .ok q → y1 = 0 ∧ y2 = 0 ∧ ∃ cs, (((w6.setCell ⟨Wa.heap.size, 2, none⟩ (.slice ad ni capi)).setCell ⟨w.heap.size, 0, none⟩ (.int .i64 y1)).setCell ⟨w.heap.size, 1, none⟩ (.int .i64 y2)).ownsRow 0 71 5 (.slice ad ni capi) q.length cs ∧ ItsC (((w6.setCell ⟨Wa.heap.size, 2, none⟩ (.slice ad ni capi)).setCell ⟨w.heap.size, 0, none⟩ (.int .i64 y1)).setCell ⟨w.heap.size, 1, none⟩ (.int .i64 y2)) q cs := fun q hq => by
          obtain ⟨e1, e2, cs, e3, e4⟩ := hok q hq
          exact ⟨e1, e2, cs, own_base (own_tag (own_tag e3 (s2 _ (by decide))) (kf _ (by decide))) (Nat.zero_le _), (e4.keep (s2 _ (by decide))).keep (kf _ (by decide))⟩
         have HS := Lib.hid (And.intro hfr8 (And.intro hP8 (And.intro hr8 hb8)))
         have Hok := Lib.hid hok8
         have Hex := Lib.hid hex
         clear s1 s2 hF7 hP7 hr7 hfr7 hfr8 hP8 hr8 kf hb8 hok8 hok hex hb6 HI6 HF6 HB5 HF5 HI5 hfr6 hl6
         go_upto_region 26 with fail
         generalize (((w6.setCell ⟨Wa.heap.size, 2, none⟩ (.slice ad ni capi)).setCell ⟨w.heap.size, 0, none⟩ (.int .i64 y1)).setCell ⟨w.heap.size, 1, none⟩ (.int .i64 y2)) = W8 at HS Hok ⊢
         clear b2 bf2 r0 r1 rf0 rf1
         go_cut [] from 15 (fun wx => Blk wx w.heap.size 44 #[.int .i64 y1, .int .i64 y2] ∧ Fr L base w wx ∧ ∀ q, XE = .ok q → PrgS wx P base { p with lines := p.lines ++ [⟨nm, ta, q⟩] })
         case first =>
          obtain ⟨hfr8, ⟨vi, vl, hPb, ci, cl, o1, o2, o3, o4⟩, hr8, hb8⟩ := HS.out
          obtain ⟨ai, capj, rfl⟩ := own_form o3
          have HO := Lib.hid (And.intro hPb (And.intro o1 (And.intro o2 (And.intro o3 (And.intro o4 (And.intro hfr8 hr8))))))
          have p0 : W8.cell? ⟨P, 1, none⟩ = some (.slice ai p.lines.length capj) := hPb.cell 1
          have p0f : W8.frozen? ⟨P, 1, none⟩ = false := hPb.froz 1
          have d0 : W8.cell? ⟨Wa.heap.size, 0, none⟩ = some (.string (mkS nm)) := hb8.cell 0
          have d1 : W8.cell? ⟨Wa.heap.size, 1, none⟩ = some (.int .i64 ta) := hb8.cell 1
          have d2 : W8.cell? ⟨Wa.heap.size, 2, none⟩ = some (.slice ad ni capi) := hb8.cell 2
          obtain ⟨z0, hi, hz0, hz1, hz2⟩ := info_parts Tryz.infoLine
          have hcap : p.lines.length + 1 ≤ maxLen := by unfold maxLen; omega
          have hby : (p.lines.length + 1) * 48 ≤ 140737488355328 := by omega
          have hb8s : base ≤ W8.heap.size := by have := hfr8.size; omega
          have hPl := hPb.lt
          clear hPb o1 o2 o3 o4 hfr8 hr8 hb8
          go_region_law (refine step_append_lies _ (by rfl) _ _ _ (by rfl) base 65 z0 (.agg #[.string ⟨#[]⟩, .int .i64 0, .slice none 0 0]) 3 48 Tryz.underlying39 hi hz0 hz1 hz2 rfl (by decide) (.slice ai p.lines.length capj) p.lines.length cl (by rfl) ((HO.out.2.2.2.1.alloc _).drew) ⟨W8.heap.size, 0, none⟩ 1 1 [.string (mkS nm), .int .i64 ta, .slice ad ni capi] (by rfl) (by rfl) (World.news_of_block (cs := #[.string (mkS nm), .int .i64 ta, .slice ad ni capi]) (t := 65) (fr := (0, 0)) (heap_alloc_new W8 _)) (by simp [Value.oneCell']) (by decide) hcap hby (by simp; omega) (W8.heap.size + 1) (by simp) ?_; intro g2 cap2 w9 hown9 hg9 hat9 hlt9; have hk9 : ∀ t, t ≠ 65 → KeepTag t W8 w9 := (fun t h => (KeepTag.alloc _).trans (KeepTag.own (w := ((W8.alloc (.cells #[.string (mkS nm), .int .i64 ta, .slice ad ni capi] 65)).drew)) hg9 ((HO.out.2.2.2.1.alloc _).drew) h)); have HP9 := Lib.hid (HO.out.1.keep (hk9 _ (by decide))); have p9 : w9.cell? ⟨P, 1, none⟩ = some (.slice ai p.lines.length capj) := HP9.out.cell 1; have p9f : w9.frozen? ⟨P, 1, none⟩ = false := HP9.out.froz 1)
          all_goals
           go_wp2_with fail
           go_meet
           case rel =>
            obtain ⟨hPb, o1, o2, o3, o4, hfr8, hr8⟩ := HO.out
            have ka : ∀ t, KeepTag t W8 ((W8.alloc (.cells #[.string (mkS nm), .int .i64 ta, .slice ad ni capi] 65)).drew) := fun t => KeepTag.alloc (w := W8) _
            have ks : ∀ t, t ≠ 41 → KeepTag t w9 (w9.setCell ⟨P, 1, none⟩ (.slice (some ⟨g2, 0, none⟩) (p.lines.length + 1) cap2)) := fun t ht => KeepTag.set HP9.out ht 1 _
            refine ⟨(hr8.keep (hk9 _ (by decide))).keep (ks _ (by decide)), ?_, fun q hq => ?_⟩
            ·refine hfr8.trans (Fr.trans (Chg.below ((Below.refl _ _).alloc (Nat.le_refl _) _)) (Fr.trans (Chg.below (Below.drew (Below.refl _ _))) (Fr.trans (Chg.gb hg9 (fun k hk => .inr (o3.lt k hk).1)) (Chg.set (.inr hbP) 1 _))))
            ·obtain ⟨e1, e2, cs, e3, e4⟩ := Hok.out q hq
             exact ⟨_, _, HP9.out.set21 _, (PrgV.line (q := ⟨nm, ta, q⟩) (own_tag o1 (ka _)) (o2.imp (fun _ _ h => h.keep (ka _))) (own_tag o3 (ka _)) (o4.imp (fun _ _ h => h.keep (ka _) (ka _))) hg9 hown9 (own_tag e3 (ka _)) (e4.keep (ka _))).keep (fun t _ _ _ ht => ks t ht)⟩
         case rest =>
          obtain ⟨hr9, hfr9, hp9⟩ := hcut
          have r0 : wc.cell? ⟨w.heap.size, 0, none⟩ = some (.int .i64 y1) := hr9.cell 0
          have r1 : wc.cell? ⟨w.heap.size, 1, none⟩ = some (.int .i64 y2) := hr9.cell 1
          have rf0 : wc.frozen? ⟨w.heap.size, 0, none⟩ = false := hr9.froz 0
          have rf1 : wc.frozen? ⟨w.heap.size, 1, none⟩ = false := hr9.froz 1
          have HR := Lib.hid (And.intro hr9 (And.intro hfr9 hp9))
          clear hr9 hfr9 hp9 HS
          go_wp2
          obtain ⟨hr9, hfr9, hp9⟩ := HR.out
          obtain ⟨g0, g1⟩ := res_plain hr9 (.int .i64 y1) (.int .i64 y2)
          have kf : ∀ t, t ≠ 44 → KeepTag t wc _ := fun t ht => (KeepTag.set hr9 ht 0 (.int .i64 y1)).trans (KeepTag.set (hr9.put0 (.int .i64 y1)) ht 1 (.int .i64 y2))
          refine bodyPost_ret (v := .agg #[.int .i64 y1, .int .i64 y2]) (by simp [results, Tryz.results20, go_sem, g0, g1]) rfl ?_
          have hXo := HX.out
          refine ⟨hfr9.trans (Chg.trans (Chg.set (.inr hbase) 0 (.int .i64 y1)) (Chg.set (.inr hbase) 1 (.int .i64 y2)) (fun _ _ h => h)), ?_⟩
          cases XE with
          | error y =>
           obtain ⟨rfl, rfl⟩ := Hex.out y rfl
           subst hXo
           rfl
          | ok q =>
           obtain ⟨rfl, rfl, -⟩ := Hok.out q rfl
           have hq := hp9 q rfl
           subst hXo
           exact ⟨rfl, hq.keep (fun t _ ht _ => kf t ht)⟩
end Go.Proofs.YtknnleiinhdklaaGreatDoor
