/-
  Package parse: the walk of the closure that reads a verb and lays it by (expr$2). Condition: the machine and the line lie in memory as said.
-/
import Derived.Test.YtfpneopobbfabaaDoorParF
import Derived.Test.YtfpneopobbfabaaDoorParH
namespace Go.Proofs.YtfpneopobbfabaaDoor
open Go.RowKit Go.Shelf Go.Sort

theorem phrase_bare {left : Bool} {t : Tok} {r r2 : List Tok} {it : Itm} (h : phraseP left t r = .ok (it, r2)) : it.name = [] ∧ it.nums = [] := by
  unfold phraseP at h
  split at h
  · split at h
    · cases h
    · injection h with h; injection h with h _; subst h; exact ⟨rfl, rfl⟩
  · split at h
    · split at h
      · cases h
      · injection h with h; injection h with h _; subst h; exact ⟨rfl, rfl⟩
    · split at h
      · cases h
      · injection h with h; injection h with h _; subst h; exact ⟨rfl, rfl⟩
/-- The frame: the line and what is newer may turn. -/
def Fr (L B : Nat) (w w' : World) : Prop := Chg (fun k => k = L ∨ B ≤ k) w w'
/-- What the machine's calls leave, the line but. -/
def KeptL (w w' : World) : Prop := ∀ t, t ≠ 40 → t ≠ 98 → t ≠ 48 → t ≠ 62 → t ≠ 1 → KeepTag t w w'
theorem KeptL.refl (w : World) : KeptL w w := fun t _ _ _ _ _ => KeepTag.refl t w
theorem KeptL.trans {a b c : World} (h : KeptL a b) (k : KeptL b c) : KeptL a c := fun t h1 h2 h3 h4 h5 => (h t h1 h2 h3 h4 h5).trans (k t h1 h2 h3 h4 h5)
theorem Kept.line {w w' : World} (h : Kept w w') : KeptL w w' := fun t h1 h2 h3 _ _ => h t h1 h2 h3
theorem Fr.refl (L B : Nat) (w : World) : Fr L B w w := Chg.refl _ w
theorem Fr.trans {L B : Nat} {a b c : World} (h : Fr L B a b) (k : Fr L B b c) : Fr L B a c := Chg.trans h k (fun _ _ e => e)
theorem Fr.below {L B : Nat} {w w' : World} (hb : Below B w w') (hs : w.heap.size ≤ w'.heap.size) : Fr L B w w' := ⟨hb.os, hb.tape, hb.output, hs, fun k hk hn => hb.block k (by simp at hn; omega)⟩
theorem Fr.gb {L B : Nat} {w w' : World} (hg : w.grownBy w' (some L)) : Fr L B w w' := Chg.gb hg (fun k e => by injection e with e; exact .inl e.symm)
theorem KeptL.gb {w w' : World} {L : Nat} {vt : Value} {k : Nat} {e : Int} (hg : w.grownBy w' (some L)) (hl : LineIs w L vt k e) : KeptL w w' := fun _ _ _ _ h _ => KeepTag.gb hg hl h
theorem Mach.keep {B : Nat} {w w' : World} {bo bt : Nat} {ts : List (Option Itm)} {out : List Itm} (h : Mach B w bo bt ts out) (hk : ∀ t, t ≠ 62 → KeepTag t w w') : Mach B w' bo bt ts out := by
  obtain ⟨vo, cs, vd, ds, m1, m2, m3, m4, m5, m6⟩ := h
  exact ⟨vo, cs, vd, ds, m1.keep (hk _ (by decide)), own_tag m2 (hk _ (by decide)), m3.keep (hk _ (by decide)), m4.keep (hk _ (by decide)), own_tag m5 (hk _ (by decide)), m6.keep (hk _ (by decide))⟩
theorem PhrasePost.one {B L : Nat} {vt : Value} {toks : List Tok} {e : Int} {x : Except Fault (Itm × List Tok)} {w w' : World} {en : Ending} (h : PhrasePost B L vt toks e x w en w') :
    ∃ it a b k', en = .returned (.tuple #[phraseV it, .agg #[.int .i64 a, .int .i64 b]]) ∧ w.grownBy w' (some L) ∧ LineIs w' L vt k' e ∧ (∀ y, x = .error y → a = y.1 ∧ b = y.2) ∧ (∀ q, x = .ok q → a = 0 ∧ b = 0 ∧ it = q.1 ∧ At w' B L vt toks k' e ∧ toks.drop k' = q.2) := by
  cases x with
  | error y =>
    obtain ⟨it, h1, h2, k', h3⟩ := h
    exact ⟨it, y.1, y.2, k', h1, h2, h3, fun z hz => by injection hz with hz; subst hz; exact ⟨rfl, rfl⟩, fun q hq => nomatch hq⟩
  | ok q =>
    obtain ⟨it, r2⟩ := q
    obtain ⟨h1, h2, k', h3, h4⟩ := h
    refine ⟨it, 0, 0, k', h1, h2, h3.line, fun z hz => ?_, fun q hq => ?_⟩
    · cases hz
    · injection hq with hq
      subst hq
      exact ⟨rfl, rfl, rfl, h3, h4⟩
/-- What the closure gives. -/
def LaterPost (Bt B L : Nat) (vt : Value) (toks : List Tok) (e : Int) (bo bt : Nat) (ts : List (Option Itm)) (out : List Itm) (x : Except Fault (Itm × List Tok)) (w : World) (en : Ending) (w' : World) : Prop :=
  Fr L B w w' ∧ KeptL w w' ∧ match x with
  | .error y => en = .returned (.agg #[.int .i64 y.1, .int .i64 y.2]) ∧ ∃ k', LineIs w' L vt k' e
  | .ok (it, r2) => en = .returned (.agg #[.int .i64 0, .int .i64 0]) ∧ Mach B w' bo bt (ts ++ [some it]) out ∧ ∃ k', At w' Bt L vt toks k' e ∧ toks.drop k' = r2
theorem Tryd.infoFunc : (Tryd.prog.info? 1).map (fun i => (i.zero, i.size, i.bytes)) = some (some .nilFunc, 1, 8) := by kernel_rfl
theorem cells1 (w : World) (a : Value) (t : TypeId) {g : Nat} (hg : g = w.heap.size) : ∀ (j : Nat) (u : Value), [a][j]? = some u → (w.alloc (.cells #[a] t)).cell? ((⟨g, 0, none⟩ : Addr).add j) = some u := by
  subst hg
  intro j u hj
  rw [Addr.add_lit, Nat.zero_add, cell_of_row _ _ _ _ _ _ (heap_alloc_new w _)]
  simpa using hj
theorem heap_mid (w : World) (o1 o2 o3 : Obj) : (((w.alloc o1).alloc o2).alloc o3).heap[w.heap.size + 1]? = some o2 := by
  have e : (w.alloc o1).heap.size = w.heap.size + 1 := by simp
  have h := heap_alloc_new (w.alloc o1) o2
  rw [e] at h
  exact (Below.heap_alloc _ o3 _ (by simp)).trans h
theorem heap_first (w : World) (o1 o2 o3 : Obj) : (((w.alloc o1).alloc o2).alloc o3).heap[w.heap.size]? = some o1 := (Below.heap_alloc _ o3 _ (by simp; omega)).trans ((Below.heap_alloc _ o2 _ (by simp)).trans (heap_alloc_new w o1))
theorem KeepTag.own {w w' : World} {base e size n : Nat} {v : Value} {xs : List Value} (hg : w.grownBy w' v.ownBlock) (ho : w.ownsRow base e size v n xs) {t : TypeId} (h : t ≠ e) : KeepTag t w w' := fun b _ hb =>
  (hg.block b (Array.getElem?_eq_some_iff.1 hb).1 (fun e => h (own_tag_ne hb ho e.symm))).trans hb
theorem Blk.put0 {w : World} {b : Nat} {t : TypeId} {x y : Value} (h : Blk w b t #[x, y]) (u : Value) : Blk (w.setCell ⟨b, 0, none⟩ u) b t #[u, y] := by
  unfold Blk at h ⊢
  simp [World.setCell, Array.getElem?_modify, h]
theorem Blk.put2 {w : World} {b : Nat} {t : TypeId} {x y : Value} (h : Blk w b t #[x, y]) (u v : Value) : Blk ((w.setCell ⟨b, 0, none⟩ u).setCell ⟨b, 1, none⟩ v) b t #[u, v] := by
  unfold Blk at h ⊢
  simp [World.setCell, Array.getElem?_modify, h]
theorem TodoC.snoc {w : World} {bo : Nat} {vo : Value} {ts : List (Option Itm)} {cs : List Value} (h : TodoC w bo vo ts cs) {x : Option Itm} {u : Value} (hx : TodoV w bo vo x u) : TodoC w bo vo (ts ++ [x]) (cs ++ [u]) := by
  refine ⟨by simp [h.1], fun i y hi => ?_⟩
  by_cases hl : i < ts.length
  · rw [List.getElem?_append_left hl] at hi
    obtain ⟨v, h1, h2⟩ := h.2 i y hi
    exact ⟨v, by rw [List.getElem?_append_left (by rw [h.1]; exact hl)]; exact h1, h2⟩
  · rw [List.getElem?_append_right (by omega)] at hi
    have hz : i - ts.length = 0 := by
      have := (List.getElem?_eq_some_iff.1 hi).1
      simp at this
      omega
    rw [hz] at hi
    simp at hi
    subst hi
    exact ⟨u, by rw [List.getElem?_append_right (by rw [h.1]; omega), h.1, hz]; rfl, hx⟩
theorem Chg.mono {S S' : Nat → Prop} {w w' : World} (h : Chg S w w') (hs : ∀ k, S k → S' k) : Chg S' w w' := ⟨h.os, h.tape, h.output, h.size, fun k hk hn => h.block k hk (fun e => hn (hs k e))⟩
set_option maxHeartbeats 1000000 in
set_option maxRecDepth 100000 in
theorem later_any (Bt B L bl bo bt : Nat) (vt : Value) (toks : List Tok) (k : Nat) (e : Int) (left : Bool) (t : Tok) (ts : List (Option Itm)) (out : List Itm) (w : World) (hB : B ≤ w.heap.size) (hBt : Bt ≤ B) (hbt : B ≤ bt)
    (hbl : Blk w bl 60 #[.pointer (some ⟨L, 0, none⟩)]) (hA : At w Bt L vt toks k e) (ht : toks[k]? = some t) (hM : Mach B w bo bt ts out) (hn : ts.length ≤ 100000) :
    Calls Tryd.prog 57 #[.bool left, .pointer (some ⟨bl, 0, none⟩), .pointer (some ⟨bt, 0, none⟩), .pointer (some ⟨bo, 0, none⟩)] w (LaterPost Bt B L vt toks e bo bt ts out (phraseP left t (toks.drop (k + 1))) w) := by
  obtain ⟨i0, hi, hz0, hz1, hz2⟩ := info_parts Tryd.infoFunc
  have HP := Lib.hid (fun wx (hb : Below w.heap.size w wx) => phrase_any Bt L vt toks k e left t wx (hA.below hb) ht)
  have HA := Lib.hid hA
  have HM := Lib.hid hM
  have hlt := hbl.lt
  clear ht hA hM
  generalize hx : phraseP left t (toks.drop (k + 1)) = x at *
  have c0 : w.cell? ⟨bl, 0, none⟩ = some (.pointer (some ⟨L, 0, none⟩)) := hbl.cell 0
  go_enter Tryd.func57, Tryd.ntmps57
  go_wp2_with fail
  refine (HP.out _ ((Below.refl _ _).alloc (Nat.le_refl _) _)).mono ?_
  intro en w1 hpp
  obtain ⟨it, a, b, k', rfl, hg1, hl1, hex, hok⟩ := hpp.one
  clear hpp
  obtain ⟨vo, cs, vd, ds, m1, m2, m3, m4, m5, m6⟩ := HM.out
  have hnl : ∀ t, t ≠ 62 → KeepTag t w w1 := fun t h => (KeepTag.alloc _).trans (KeepTag.gb hg1 (HA.out.line.below ((Below.refl _ _).alloc (Nat.le_refl _) _)) h)
  have hs1 : w.heap.size + 1 ≤ w1.heap.size := by have := hg1.size; simpa using this
  have n1 := m1.keep (hnl _ (by decide))
  have n2 := own_tag m2 (hnl _ (by decide))
  have n3 := m3.keep (hnl _ (by decide))
  have n4 := m4.keep (hnl _ (by decide))
  have n5 := own_tag m5 (hnl _ (by decide))
  have n6 := m6.keep (hnl _ (by decide))
  clear m1 m2 m3 m4 m5 m6
  have r5 : Blk w1 w.heap.size 29 #[.int .i64 0, .int .i64 0] := (hg1.block _ (by simp) (fun e => by injection e with e; have := HA.out.line.lt; omega)).trans (heap_alloc_new w _)
  obtain ⟨ad, capd, rfl⟩ := own_form n5
  have hbt1 := n4.lt
  unfold phraseV
  have aa : ∀ o1 o2, Below w1.heap.size w1 ((w1.alloc o1).alloc o2) := fun o1 o2 => ((Below.refl _ _).alloc (Nat.le_refl _) _).alloc (by simp) _
  have c14 : ∀ o1 o2, ((w1.alloc o1).alloc o2).cell? ⟨bt, 0, none⟩ = some (.slice ad ts.length capd) := fun o1 o2 => (n4.keep (KeepTag.below (aa o1 o2))).cell 0
  have f14 : ∀ o1 o2, ((w1.alloc o1).alloc o2).frozen? ⟨bt, 0, none⟩ = false := fun o1 o2 => (n4.keep (KeepTag.below (aa o1 o2))).froz 0
  go_wp2_with (at_builtin; refine wpList_append_lies _ rfl (.tmp 14) (.tmp 16) 98 rfl B 1 i0 .nilFunc 1 8 Tryd.underlying98 hi hz0 hz1 hz2 rfl (by decide) _ _ _ rfl (own_tag n5 (KeepTag.below ((aa _ _).alloc (aa _ _).size _))) ⟨w1.heap.size + 1 + 1, 0, none⟩ 1 1 [.func (.func 59) #[] #[.pointer (some ⟨bo, 0, none⟩), .pointer (some ⟨w1.heap.size, 0, none⟩)]] rfl rfl ?c1 ?c2 (by decide) ?c3 ?c4 ?c5 _ rfl ?_)
  case c1 => exact cells1 _ _ _ (by simp)
  case c2 => intro u hu; simp at hu; subst hu; rfl
  case c3 => unfold maxLen; omega
  case c4 => omega
  case c5 => simp; omega
  intro g2 cap2 w2 hown2 hg2 hat hlt2
  have nk : ∀ t, t ≠ 1 → KeepTag t _ w2 := fun t h => KeepTag.own hg2 (own_tag n5 (KeepTag.below ((aa _ _).alloc (aa _ _).size _))) h
  have kk : ∀ t, t ≠ 1 → KeepTag t w1 w2 := fun t h => (KeepTag.below ((aa _ _).alloc (aa _ _).size _)).trans (nk t h)
  have j4 := n4.keep (kk _ (by decide))
  have j5 := r5.keep (kk _ (by decide))
  have j7 : Blk w2 (w1.heap.size + 1) 29 #[.int .i64 a, .int .i64 b] := nk _ (by decide) _ _ (heap_mid _ _ _ _)
  have j6 : Blk w2 w1.heap.size 48 (phraseC it) := nk _ (by decide) _ _ (heap_first _ _ _ _)
  have d4 : w2.cell? ⟨bt, 0, none⟩ = some (.slice ad ts.length capd) := j4.cell 0
  have d4f := j4.froz 0
  have hc2 : Chg (fun k => B ≤ k) w1 w2 := Chg.trans (Chg.below ((aa _ _).alloc (aa _ _).size _)) (Chg.gb (S := fun k => B ≤ k) hg2 (fun k e => (n5.lt k e).1)) (fun _ _ h => h)
  clear aa c14 f14 HP c0
  have ks : ∀ v t, t ≠ 98 → KeepTag t w2 (w2.setCell ⟨bt, 0, none⟩ v) := fun v t h => KeepTag.set j4 h 0 v
  have i5 := fun v => j5.keep (ks v _ (by decide))
  have i7 := fun v => j7.keep (ks v _ (by decide))
  have e0 := fun v => (i7 v).cell 0
  have e1 := fun v => (i7 v).cell 1
  have e2 := fun v => (i5 v).cell 0
  have e3 := fun v => (i5 v).cell 1
  have e4 := fun v => (i5 v).froz 0
  have e5 := fun v => (i5 v).froz 1
  simp at e0 e1 e2 e3
  go_wp2
  have hc5 := Chg.trans hc2 (Chg.trans (Chg.set (S := fun k => B ≤ k) (w := w2) (b := bt) hbt 0 (.slice (some ⟨g2, 0, none⟩) (ts.length + 1) cap2)) (Chg.trans (Chg.set (S := fun k => B ≤ k) hB 0 (.int .i64 a)) (Chg.set (S := fun k => B ≤ k) hB 1 (.int .i64 b)) (fun _ _ h => h)) (fun _ _ h => h)) (fun _ _ h => h)
  have k25 : ∀ t, t ≠ 98 → t ≠ 29 → KeepTag t w2 _ := fun t h1 h2 => (ks (.slice (some ⟨g2, 0, none⟩) (ts.length + 1) cap2) t h1).trans ((KeepTag.set (i5 _) h2 0 (.int .i64 a)).trans (KeepTag.set (Blk.put0 (i5 _) _) h2 1 (.int .i64 b)))
  have hfr : Fr L B w _ := Fr.trans (Chg.below ((Below.refl _ _).alloc (Nat.le_refl _) _)) (Fr.trans (Fr.gb hg1) (hc5.mono (fun k h => .inr h)))
  have hkl : KeptL w _ := fun t h1 h2 h3 h4 h5 => fun b0 cur hb0 => (Below.heap_setCell _ ⟨w.heap.size, 1, none⟩ (.int .i64 b) _ (fun e => by have e : b0 = w.heap.size := e; have := (Array.getElem?_eq_some_iff.1 hb0).1; omega)).trans ((Below.heap_setCell _ ⟨w.heap.size, 0, none⟩ (.int .i64 a) _ (fun e => by have e : b0 = w.heap.size := e; have := (Array.getElem?_eq_some_iff.1 hb0).1; omega)).trans (ks (.slice (some ⟨g2, 0, none⟩) (ts.length + 1) cap2) t h2 b0 cur (kk t h5 b0 cur (hnl t h4 b0 cur hb0))))
  have hbt5 := (j4.put (.slice (some ⟨g2, 0, none⟩) (ts.length + 1) cap2)).keep ((KeepTag.set (i5 _) (by decide) 0 (.int .i64 a)).trans (KeepTag.set (Blk.put0 (i5 _) _) (by decide) 1 (.int .i64 b)))
  have fin := (i5 (.slice (some ⟨g2, 0, none⟩) (ts.length + 1) cap2)).put2 (.int .i64 a) (.int .i64 b)
  obtain ⟨w5, hw5⟩ : ∃ w5, w5 = (((w2.setCell ⟨bt, 0, none⟩ (.slice (some ⟨g2, 0, none⟩) (ts.length + 1) cap2)).setCell ⟨w.heap.size, 0, none⟩ (.int .i64 a)).setCell ⟨w.heap.size, 1, none⟩ (.int .i64 b)) := ⟨_, rfl⟩
  rw [← hw5] at hc5 k25 hfr hkl hbt5 fin ⊢
  have g0 : w5.cell? ⟨w.heap.size, 0, none⟩ = some (.int .i64 a) := fin.cell 0
  have g1 : w5.cell? ⟨w.heap.size, 1, none⟩ = some (.int .i64 b) := fin.cell 1
  clear hw5 ks i5 i7 e0 e1 e2 e3 e4 e5
  refine bodyPost_ret (v := .agg #[.int .i64 a, .int .i64 b]) (by simp [results, Tryd.results57, go_sem, g0, g1]) rfl ?_
  refine ⟨hfr, hkl, ?_⟩
  have hline : LineIs w1 L vt k' e → LineIs w5 L vt k' e := fun h => k25 62 (by decide) (by decide) L _ (kk _ (by decide) L _ h)
  cases x with
  | error y =>
    obtain ⟨rfl, rfl⟩ := hex y rfl
    exact ⟨rfl, k', hline hl1⟩
  | ok q =>
    obtain ⟨it', r2⟩ := q
    obtain ⟨rfl, rfl, rfl, hA1, hdr⟩ := hok _ rfl
    obtain ⟨p1, p2⟩ := phrase_bare hx
    refine ⟨rfl, ⟨vo, cs, .slice (some ⟨g2, 0, none⟩) (ts.length + 1) cap2, _, (n1.keep (kk _ (by decide))).keep (k25 _ (by decide) (by decide)), own_tag (own_tag n2 (kk _ (by decide))) (k25 _ (by decide) (by decide)), (n3.keep (kk _ (by decide))).keep (k25 _ (by decide) (by decide)), ?_, ?_, ((n6.keep (kk _ (by decide))).keep (k25 _ (by decide) (by decide))).snoc ⟨w1.heap.size, rfl, j6.keep (k25 _ (by decide) (by decide)), fun e => ?_, p1, p2⟩⟩, k', ?_, hdr⟩
    · exact hbt5
    · rw [List.length_append]
      exact own_tag hown2 (k25 _ (by decide) (by decide))
    · have := (n2.lt _ e).2
      omega
    · refine ⟨hline hl1, hA1.toks.below ⟨hc5.os, hc5.tape, hc5.output, hc5.size, fun k hk => hc5.block k (by have := hA1.le; omega) (by omega)⟩, hA1.lt, Nat.le_trans hA1.le hc5.size⟩
end Go.Proofs.YtfpneopobbfabaaDoor
