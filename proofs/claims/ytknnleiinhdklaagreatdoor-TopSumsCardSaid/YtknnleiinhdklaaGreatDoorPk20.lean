/-
  Walk of package parse: Parse. Condition: the text is no longer than a string may be; strconv.ErrRange holds an error.
-/
import Derived.Test.YtknnleiinhdklaaGreatDoorPk02
import Derived.Test.YtknnleiinhdklaaGreatDoorPk16
import Derived.Test.YtknnleiinhdklaaGreatDoorPk19
namespace Go.Proofs.YtknnleiinhdklaaGreatDoor
open Go.RowKit Go.Shelf Go.Sort
theorem run_gone {B : Nat} {w w' : World} {v : Value} {l : List Tok} (h : TokS w B v l) (hc : Chg (fun k => B ≤ k) w w') : TokS w' B v l := by
 obtain ⟨a, cap, h1, h2, h3, h4⟩ := h
 refine ⟨a, cap, h1, h2, h3, fun hn => ?_⟩
 obtain ⟨g, o, rfl, k2, k3⟩ := h4 hn
 refine ⟨g, o, rfl, k2, fun i t hi => ?_⟩
 obtain ⟨c0, c1, c2, c3⟩ := k3 i t hi
 have hgl : g < w.heap.size := by
  have := World.block_lt_of_cell? w _ c0
  exact this
 have hblk := hc.block g hgl (by omega)
 exact ⟨(World.cell?_of_block (a := ⟨g, _, none⟩) hblk).trans c0, (World.cell?_of_block (a := ⟨g, _, none⟩) hblk).trans c1, (World.cell?_of_block (a := ⟨g, _, none⟩) hblk).trans c2, (World.cell?_of_block (a := ⟨g, _, none⟩) hblk).trans c3⟩
theorem tokL_word (l : List UInt8) : (tokL l).1.word.length ≤ l.length := by
 unfold tokL
 split
 ·exact Nat.zero_le _
 ·split
  ·split
   ·exact Nat.zero_le _
   ·dsimp only; rw [List.length_take]; omega
  ·split
   ·exact Nat.zero_le _
   ·split
    ·exact Nat.zero_le _
    ·dsimp only; rw [List.length_take]; omega
theorem lexAt_words (f : Nat) : ∀ (k : Nat) (l : List UInt8) (toks : List Tok), l.length ≤ f → lexAt k l = .ok toks → ∀ t ∈ toks, t.word.length ≤ l.length := by
 induction f with
 | zero =>
  intro k l toks h he
  have : l = [] := List.length_eq_zero_iff.1 (by omega)
  subst this
  rw [lexAt_nil] at he
  injection he with he
  subst he
  simp
 | succ f ih =>
  intro k l toks h he
  cases l with
  | nil =>
   rw [lexAt_nil] at he
   injection he with he
   subst he
   simp
  | cons b r =>
   have hr : r.length ≤ f := by simpa using h
   rw [lexAt_cons] at he
   by_cases c1 : b = 32 ∨ b = 9
   ·rw [if_pos c1] at he
    intro t ht
    have := ih _ _ _ hr he t ht
    rw [List.length_cons]; omega
   ·rw [if_neg c1] at he
    by_cases c2 : b = 35
    ·have hn : 1 ≤ runL noteB (b :: r) := by subst c2; rw [runL_cons]; simp [noteB]
     rw [if_pos c2] at he
     intro t ht
     have := ih _ _ _ (by simp only [List.length_drop, List.length_cons]; omega) he t ht
     rw [List.length_drop] at this
     omega
    ·rw [if_neg c2] at he
     by_cases c3 : (tokL (b :: r)).2.2 = 0
     ·rw [if_neg (by simpa using c3)] at he
      have hp := (tokL_len (b :: r) (by simp) c3).1
      cases hy : lexAt (k + (tokL (b :: r)).2.1) ((b :: r).drop (tokL (b :: r)).2.1) with
      | error e => rw [hy] at he; cases he
      | ok v =>
       rw [hy] at he
       injection he with he
       subst he
       intro t ht
       rcases List.mem_cons.1 ht with rfl | ht
       ·exact tokL_word (b :: r)
       ·have := ih _ _ _ (by simp only [List.length_drop, List.length_cons]; omega) hy t ht
        rw [List.length_drop] at this
        omega
     ·rw [if_pos (by simpa using c3)] at he
      cases he
/-- What Parse gives. -/
def ParsePost (x : Except Fault Prg) (w : World) (en : Ending) (w' : World) : Prop :=
 Below w.heap.size w w' ∧ match x with
 | .error y => en = .returned (.tuple #[.agg #[.slice none 0 0, .slice none 0 0], .agg #[.int .i64 y.1, .int .i64 y.2]])
 | .ok q => ∃ vi vl, en = .returned (.tuple #[.agg #[vi, vl], .agg #[.int .i64 0, .int .i64 0]]) ∧ PrgV w' w.heap.size vi vl q
theorem mem_while {p : Tok → Bool} {l : List Tok} {t : Tok} (h : t ∈ l.takeWhile p) : p t = true := by
 induction l with
 | nil => simp at h
 | cons a l ih =>
  rw [List.takeWhile_cons] at h
  split at h
  ·rename_i ha
   rcases List.mem_cons.1 h with rfl | h
   ·exact ha
   ·exact ih h
  ·simp at h
theorem map_okM {α β : Type} {f : α → β} {x : Except Fault α} {b : β} (h : x.map f = .ok b) : ∃ a, x = .ok a ∧ b = f a := by
 cases x with
 | error e => cases h
 | ok a => injection h with h; exact ⟨a, rfl, h.symm⟩
theorem PrgV.base {w : World} {b b' : Nat} {vi vl : Value} {p : Prg} (h : PrgV w b vi vl p) (hb : b' ≤ b) : PrgV w b' vi vl p := by
 obtain ⟨ci, cl, h1, h2, h3, h4⟩ := h
 exact ⟨ci, cl, own_base h1 hb, h2, own_base h3 hb, h4⟩
theorem take_line (l : List Tok) : ∀ m, (∀ i t, i < m → l[i]? = some t → notLine t = true) → (m = l.length ∨ ∃ t, l[m]? = some t ∧ notLine t = false) → l.takeWhile notLine = l.take m ∧ l.dropWhile notLine = l.drop m := by
 induction l with
 | nil =>
  intro m _ h
  simp
 | cons a l ih =>
  intro m h1 h2
  cases m with
  | zero =>
   rcases h2 with h2 | ⟨t, h2, h3⟩
   ·simp at h2
   ·simp at h2
    subst h2
    rw [List.takeWhile_cons, List.dropWhile_cons, h3]
    exact ⟨rfl, rfl⟩
  | succ m =>
   have ha := h1 0 a (Nat.succ_pos _) rfl
   obtain ⟨g1, g2⟩ := ih m (fun i t hi ht => h1 (i + 1) t (by omega) (by simpa using ht)) (by
    rcases h2 with h2 | ⟨t, h2, h3⟩
    ·left; simpa using h2
    ·right; exact ⟨t, by simpa using h2, h3⟩)
   rw [List.takeWhile_cons, List.dropWhile_cons, ha]
   simp only [if_true, g1, g2]
   exact ⟨rfl, rfl⟩
theorem into_count {e : Int} {toks : List Tok} {p q : Prg} {lines : Nat} {over : Bool} (hne : toks ≠ []) (h : intoP e toks p lines over = .ok q) : lines ≠ 64 ∧ q.inputs.length + q.lines.length = p.inputs.length + p.lines.length + 1 := by
 cases toks with
 | nil => exact absurd rfl hne
 | cons t r =>
  rw [intoP.eq_def] at h
  dsimp only at h
  split at h
  ·cases h
  ·rename_i h64
   refine ⟨h64, ?_⟩
   split at h
   ·cases h
   ·split at h
    ·cases h
    ·split at h
     ·obtain ⟨x, _, rfl⟩ := map_okM h
      rw [List.length_append]; simp; omega
     ·split at h
      ·obtain ⟨x, _, rfl⟩ := map_okM h
       rw [List.length_append]; simp; omega
      ·split at h
       ·cases h
       ·split at h
        ·cases h
        ·split at h
         ·obtain ⟨x, _, rfl⟩ := map_okM h
          rw [List.length_append]; simp; omega
         ·cases h
theorem LineIs.put0 {w : World} {L : Nat} {vt : Value} {k : Nat} {e : Int} (h : LineIs w L vt k e) (u : Value) : LineIs (w.setCell ⟨L, 0, none⟩ u) L u k e := by
 unfold LineIs at h ⊢
 simp [World.setCell, Array.getElem?_modify, h]
theorem LineIs.put2 {w : World} {L : Nat} {vt : Value} {k : Nat} {e : Int} (h : LineIs w L vt k e) (e' : Int) : LineIs (w.setCell ⟨L, 2, none⟩ (.int .i64 e')) L vt k e' := by
 unfold LineIs at h ⊢
 simp [World.setCell, Array.getElem?_modify, h]
theorem keep_new {w w' : World} (h : Chg (fun k => w.heap.size ≤ k) w w') (t : TypeId) : KeepTag t w w' := Chg.keep h (fun b cur hb => by
 have := (Array.getElem?_eq_some_iff.1 hb).1
 omega)
theorem toks_end {w : World} {B g o n cap m : Nat} {l : List Tok} (h : TokS w B (.slice (some ⟨g, o, none⟩) n cap) l) (hm : n ≤ m) : TokS w B (.slice (some ⟨g, o, none⟩) (n - m) (cap - m)) (l.drop m) := by
 obtain ⟨a, c, he, h2, h3, h4⟩ := h
 injection he with e1 e2 e3
 subst e1 e2 e3
 have hd : l.drop m = [] := List.drop_eq_nil_of_le hm
 rw [hd]
 exact ⟨_, _, by rw [List.length_nil, show l.length - m = 0 by omega], by simp, by omega, fun h => absurd h (by simp)⟩
theorem over_last {p : Prg} {l : List Lin} {x : Lin} (h : p.lines = l ++ [x]) : overP p = (x.name == []) := by
 unfold overP
 rw [h]
 simp
/-- What Parse leaves behind its last stores. -/
theorem parse_end {w w1 : World} {y0 y1 z0 z1 : Value} (hr : Blk w1 w.heap.size 41 #[y0, y1]) (hf : Blk w1 (w.heap.size + 1) 44 #[z0, z1]) (hb : Below w.heap.size w w1) (x0 x1 a c : Value) :
  let W := (((w1.setCell ⟨w.heap.size, 0, none⟩ x0).setCell ⟨w.heap.size, 1, none⟩ x1).setCell ⟨w.heap.size + 1, 0, none⟩ a).setCell ⟨w.heap.size + 1, 1, none⟩ c
  Blk W w.heap.size 41 #[x0, x1] ∧ Blk W (w.heap.size + 1) 44 #[a, c] ∧ Below w.heap.size w W ∧ ∀ t, t ≠ 41 → t ≠ 44 → KeepTag t w1 W := by
 have s0 : ∀ t, t ≠ 41 → KeepTag t w1 ((w1.setCell ⟨w.heap.size, 0, none⟩ x0).setCell ⟨w.heap.size, 1, none⟩ x1) := fun t ht => (KeepTag.set hr ht 0 x0).trans (KeepTag.set (hr.set20 x0) ht 1 x1)
 have f0 := hf.keep (s0 _ (by decide))
 have s1 : ∀ t, t ≠ 44 → KeepTag t _ _ := fun t ht => (KeepTag.set f0 ht 0 a).trans (KeepTag.set (f0.put0 a) ht 1 c)
 exact ⟨((hr.set20 x0).set21 x1).keep (s1 _ (by decide)), f0.put2 a c, below_set (below_set (below_set (below_set hb (Nat.le_refl _) _) (Nat.le_refl _) _) (Nat.le_succ _) _) (Nat.le_succ _) _, fun t h1 h2 => (s0 t h1).trans (s1 t h2)⟩
set_option maxHeartbeats 20000000 in
set_option maxRecDepth 100000 in
theorem Parse_any (s : ByteArray) (w : World) (hs : s.size ≤ maxLen) (hE : ErrIs w) : Calls Tryz.prog 16 #[.string s] w (ParsePost (parseL s.data.toList) w) := by
 have HL := Lib.hid (fun w hE => Lex_any s w hs hE)
 have hEl := hE.lt
 have hE1 : ∀ o1 o2, ErrIs ((w.alloc o1).alloc o2) := fun o1 o2 => hE.kept (((Below.refl _ _).alloc (Nat.le_refl _) _).alloc (by simp) _)
 generalize hX : parseL s.data.toList = X
 unfold parseL at hX
 unfold maxLen at hs
 go_enter Tryz.func16, Tryz.ntmps16
 go_wp2_with fail
 refine (HL.out _ (hE1 _ _)).mono ?_
 intro en w1 hp
 have hRb : Blk w1 w.heap.size 41 #[.slice none 0 0, .slice none 0 0] ∧ Blk w1 (w.heap.size + 1) 44 #[.int .i64 0, .int .i64 0] ∧ Below w.heap.size w w1 := by
  obtain ⟨q1, q2⟩ := two_here w (.cells #[.slice none 0 0, .slice none 0 0] 41) (.cells #[.int .i64 0, .int .i64 0] 44)
  have hb0 : Below w.heap.size w ((w.alloc (.cells #[.slice none 0 0, .slice none 0 0] 41)).alloc (.cells #[.int .i64 0, .int .i64 0] 44)) := ((Below.refl _ _).alloc (Nat.le_refl _) _).alloc (by simp) _
  have hb1 : Below ((w.alloc (.cells #[.slice none 0 0, .slice none 0 0] 41)).alloc (.cells #[.int .i64 0, .int .i64 0] 44)).heap.size ((w.alloc (.cells #[.slice none 0 0, .slice none 0 0] 41)).alloc (.cells #[.int .i64 0, .int .i64 0] 44)) w1 := by
   rcases hp with ⟨v, toks, hlex, he, hown, hb⟩ | ⟨k, c, hlex, he, hb⟩ <;> exact hb
  exact ⟨Blk.keep q1 (KeepTag.below hb1), Blk.keep q2 (KeepTag.below hb1), hb0.trans (hb1.mono hb0.size)⟩
 obtain ⟨hres, hflt, hbw⟩ := hRb
 have hsz1 := hflt.lt
 have hsz0 := hres.lt
 have hEr1 := hE.kept hbw
 have HR := Lib.hid (And.intro hres (And.intro hflt (And.intro hbw hEr1)))
 have r0 : w1.cell? ⟨w.heap.size, 0, none⟩ = some (.slice none 0 0) := hres.cell 0
 have r1 : w1.cell? ⟨w.heap.size, 1, none⟩ = some (.slice none 0 0) := hres.cell 1
 have rf0 : w1.frozen? ⟨w.heap.size, 0, none⟩ = false := hres.froz 0
 have rf1 : w1.frozen? ⟨w.heap.size, 1, none⟩ = false := hres.froz 1
 have q0 : w1.cell? ⟨w.heap.size + 1, 0, none⟩ = some (.int .i64 0) := hflt.cell 0
 have q1 : w1.cell? ⟨w.heap.size + 1, 1, none⟩ = some (.int .i64 0) := hflt.cell 1
 have qf0 : w1.frozen? ⟨w.heap.size + 1, 0, none⟩ = false := hflt.froz 0
 have qf1 : w1.frozen? ⟨w.heap.size + 1, 1, none⟩ = false := hflt.froz 1
 clear hres hflt hbw hEr1 HL hE1
 rcases hp with ⟨v, toks, hlex, rfl, hown, hb1⟩ | ⟨k, c, hlex, rfl, hb1⟩
 ·rw [hlex] at hX
  have hX : linesX s.data.toList.length toks Prg.none 0 false = X := hX
  have hTs := TokS.of_own hown
  have hwl : ∀ t ∈ toks, t.word.length ≤ maxLen := by
   intro t ht
   have h1 := lexAt_words s.data.toList.length 0 s.data.toList toks (Nat.le_refl _) ((lexL_ok_iff _ _).1 hlex).2 t ht
   have h2 : s.data.toList.length ≤ 9223372036854775807 := by rw [← size_list]; omega
   unfold maxLen
   omega
  have HT := Lib.hid hTs
  have HW := Lib.hid hwl
  have HX := Lib.hid hX
  obtain ⟨b1, hb1'⟩ : ∃ b, b = w1.heap.size := ⟨_, rfl⟩
  have HA : Hid (Chg (fun k => b1 ≤ k) w1 ((w1.alloc (.cells #[.int .i64 0, .int .i64 0] 44)).alloc (.cells #[.slice none 0 0, .slice none 0 0] 41)) ∧ Blk ((w1.alloc (.cells #[.int .i64 0, .int .i64 0] 44)).alloc (.cells #[.slice none 0 0, .slice none 0 0] 41)) w1.heap.size 44 #[.int .i64 0, .int .i64 0] ∧ PrgS ((w1.alloc (.cells #[.int .i64 0, .int .i64 0] 44)).alloc (.cells #[.slice none 0 0, .slice none 0 0] 41)) (w1.heap.size + 1) (w1.heap.size + 1) Prg.none) := by
   apply Lib.hid
   obtain ⟨x1, x2⟩ := two_here w1 (.cells #[.int .i64 0, .int .i64 0] 44) (.cells #[.slice none 0 0, .slice none 0 0] 41)
   exact ⟨Chg.below (((Below.refl _ _).alloc (Nat.le_refl _) _).alloc (by simp) _), x1, _, _, x2, [], [], World.ownsRow_nil _ _ _ _, RowC.nil _ _, World.ownsRow_nil _ _ _ _, RowC.nil _ _⟩
  have HRA : Hid (∀ W, Chg (fun k => w1.heap.size ≤ k) w1 W → Blk W w.heap.size 41 #[.slice none 0 0, .slice none 0 0] ∧ Blk W (w.heap.size + 1) 44 #[.int .i64 0, .int .i64 0] ∧ Below w.heap.size w W ∧ ErrIs W) := by
   apply Lib.hid
   intro W hch
   obtain ⟨g1, g2, g3, g4⟩ := HR.out
   exact ⟨hch.blk g1 (by omega), hch.blk g2 (by omega), g3.trans ⟨hch.os, hch.tape, hch.output, hch.size, fun k hk => hch.block k (by omega) (by omega)⟩, g4.chg hch (by omega)⟩
  clear hlex hX hb1 hown hTs hwl
  go_wp2_with fail
  go_loopg [4, 7, 8] toks.length (fun g s4 s7 s8 wr => ∃ l p lines over, g = l.length ∧ s7 = .int .i64 (lines : Nat) ∧ s8 = .bool over ∧ TokS wr w1.heap.size s4 l ∧ Chg (fun k => w1.heap.size ≤ k) w1 wr ∧ Blk wr w1.heap.size 44 #[.int .i64 0, .int .i64 0] ∧ PrgS wr (w1.heap.size + 1) (w1.heap.size + 1) p ∧
    p.inputs.length + p.lines.length ≤ lines ∧ lines ≤ 64 ∧ linesX s.data.toList.length l p lines over = X ∧ ∀ t ∈ l, t.word.length ≤ maxLen)
  case atStart => 
   refine ⟨toks, Prg.none, 0, false, rfl, rfl, rfl, ?_, ?_, HA.out.2.1, HA.out.2.2, by simp [Prg.none], by omega, HX.out, HW.out⟩
   ·exact run_gone HT.out (Chg.below (((Below.refl _ _).alloc (Nat.le_refl _) _).alloc (by simp) _))
   ·exact Chg.below (((Below.refl _ _).alloc (Nat.le_refl _) _).alloc (by simp) _)
  case round =>
   obtain ⟨l, p, lines, over, rfl, rfl, rfl, hT, hch, hbx, hP, hpn, hlm, hX, hW⟩ := hrel
   clear HT HW HX HA
   have HX := Lib.hid hX
   have HC := Lib.hid (And.intro hT (And.intro hch (And.intro hbx (And.intro hP hW))))
   have hszr := hch.size
   have HR2 : Hid (Blk wr w.heap.size 41 #[.slice none 0 0, .slice none 0 0] ∧ Blk wr (w.heap.size + 1) 44 #[.int .i64 0, .int .i64 0] ∧ Below w.heap.size w wr ∧ ErrIs wr) := by
    apply Lib.hid
    obtain ⟨g1, g2, g3, g4⟩ := HR.out
    exact ⟨hch.blk g1 (by omega), hch.blk g2 (by omega), g3.trans ⟨hch.os, hch.tape, hch.output, hch.size, fun k hk => hch.block k (by omega) (by omega)⟩, g4.chg hch (by omega)⟩
   have r0 : wr.cell? ⟨w.heap.size, 0, none⟩ = some (.slice none 0 0) := HR2.out.1.cell 0
   have r1 : wr.cell? ⟨w.heap.size, 1, none⟩ = some (.slice none 0 0) := HR2.out.1.cell 1
   have rf0 : wr.frozen? ⟨w.heap.size, 0, none⟩ = false := HR2.out.1.froz 0
   have rf1 : wr.frozen? ⟨w.heap.size, 1, none⟩ = false := HR2.out.1.froz 1
   have q0 : wr.cell? ⟨w.heap.size + 1, 0, none⟩ = some (.int .i64 0) := HR2.out.2.1.cell 0
   have q1 : wr.cell? ⟨w.heap.size + 1, 1, none⟩ = some (.int .i64 0) := HR2.out.2.1.cell 1
   have qf0 : wr.frozen? ⟨w.heap.size + 1, 0, none⟩ = false := HR2.out.2.1.froz 0
   have qf1 : wr.frozen? ⟨w.heap.size + 1, 1, none⟩ = false := HR2.out.2.1.froz 1
   obtain ⟨a, cap, rfl, hcap, hcm, hcells⟩ := hT
   clear hch hbx hP hX hW
   cases l with
   | nil =>
    clear hcells
    cases over with
    | false =>
     have HX2 : Hid (Except.error ((s.size : Int), 42) = X) := HX
     go_wp2
     obtain ⟨z1, z2, z3, -⟩ := parse_end HR2.out.1 HR2.out.2.1 HR2.out.2.2.1 (.slice none 0 0) (.slice none 0 0) (.int .i64 s.size) (.int .i64 42)
     have y0 := z1.cell 0
     have y1 := z1.cell 1
     have y2 := z2.cell 0
     have y3 := z2.cell 1
     simp at y0 y1 y2 y3
     refine bodyPost_ret (v := .tuple #[.agg #[.slice none 0 0, .slice none 0 0], .agg #[.int .i64 s.size, .int .i64 42]]) (by simp [results, Tryz.results16, go_sem, y0, y1, y2, y3]) rfl ?_
     rw [← HX2.out]
     exact ⟨z3, rfl⟩
    | true =>
     have HX2 : Hid (Except.ok p = X) := HX
     obtain ⟨-, -, -, ⟨vi, vl, hPb, hPv⟩, -⟩ := HC.out
     have p0 : wr.cell? ⟨w1.heap.size + 1, 0, none⟩ = some vi := hPb.cell 0
     have p1 : wr.cell? ⟨w1.heap.size + 1, 1, none⟩ = some vl := hPb.cell 1
     have HPv := Lib.hid hPv
     obtain ⟨_, _, o1, _, o3, _⟩ := hPv
     obtain ⟨ai, capi, rfl⟩ := own_form o1
     obtain ⟨al, capl, rfl⟩ := own_form o3
     clear hPb o1 o3
     go_wp2
     obtain ⟨z1, z2, z3, z4⟩ := parse_end HR2.out.1 HR2.out.2.1 HR2.out.2.2.1 (.slice ai p.inputs.length capi) (.slice al p.lines.length capl) (.int .i64 0) (.int .i64 0)
     have y0 := z1.cell 0
     have y1 := z1.cell 1
     have y2 := z2.cell 0
     have y3 := z2.cell 1
     simp at y0 y1 y2 y3
     refine bodyPost_ret (v := .tuple #[.agg #[.slice ai p.inputs.length capi, .slice al p.lines.length capl], .agg #[.int .i64 0, .int .i64 0]]) (by simp [results, Tryz.results16, go_sem, y0, y1, y2, y3]) rfl ?_
     rw [← HX2.out]
     exact ⟨z3, _, _, rfl, (HPv.out.keep (fun t _ h1 _ h2 => z4 t h2 h1)).base (by omega)⟩
   | cons t r =>
    obtain ⟨l, hl⟩ : ∃ l, l = t :: r := ⟨_, rfl⟩
    rw [← hl] at HX HC hcap hcells ⊢
    have hpos : 0 < l.length := by rw [hl]; simp
    obtain ⟨g, o, rfl, hg, hcell⟩ := hcells hpos
    obtain ⟨n, hn⟩ : ∃ n, n = l.length := ⟨_, rfl⟩
    rw [← hn] at hpos hcap ⊢
    have HL := Lib.hid hl
    have HN := Lib.hid hn
    have HCell := Lib.hid hcell
    unfold maxLen at hcm
    clear hl hn hcells hcell
    have HLn : Hid (LineIs (wr.alloc (.cells #[.slice none 0 0, .int .i64 0, .int .i64 s.size] 58)) wr.heap.size (.slice none 0 0) 0 s.size) := Lib.hid (heap_alloc_new wr _)
    have HBl : Hid (Below wr.heap.size wr (wr.alloc (.cells #[.slice none 0 0, .int .i64 0, .int .i64 s.size] 58))) := Lib.hid ((Below.refl _ _).alloc (Nat.le_refl _) _)
    have hgr : g < wr.heap.size := by omega
    have HCell2 : Hid (∀ (i : Nat) (t : Tok), l[i]? = some t → (wr.alloc (.cells #[.slice none 0 0, .int .i64 0, .int .i64 s.size] 58)).cell? ⟨g, o + i * 4, none⟩ = some (.int .i64 t.kind) ∧ (wr.alloc (.cells #[.slice none 0 0, .int .i64 0, .int .i64 s.size] 58)).cell? ⟨g, o + i * 4 + 1, none⟩ = some (.int .i64 t.at_)) := Lib.hid (fun i t ht => by
     obtain ⟨c0, c1, -, -⟩ := HCell.out i t ht
     exact ⟨(World.cell?_alloc_lt _ _ _ hgr).trans c0, (World.cell?_alloc_lt _ _ _ hgr).trans c1⟩)
    go_upto_region 8 with fail
    generalize (wr.alloc (.cells #[.slice none 0 0, .int .i64 0, .int .i64 s.size] 58)) = W9 at HLn HBl HCell2 ⊢
    obtain ⟨Lb, hLb⟩ : ∃ x, x = wr.heap.size := ⟨_, rfl⟩
    rw [← hLb] at HLn ⊢
    have HLb := Lib.hid hLb
    have hLb1 : w1.heap.size < Lb := by
     have := HC.out.2.2.1.lt
     omega
    have hLw : w.heap.size + 1 < Lb := by omega
    clear hLb r0 r1 rf0 rf1 q0 q1 qf0 qf1
    go_upto_block 2 with fail
    go_cut [10] from 21 to 97 (fun s10 wx => ∃ m, s10 = .int .i64 (m : Nat) ∧ m ≤ n ∧ l.takeWhile notLine = l.take m ∧ l.dropWhile notLine = l.drop m ∧ wx = W9)
    case first =>
     go_wp2_with fail
     go_loopg [10] n (fun gg s10 wx => ∃ m, gg = n - m ∧ s10 = .int .i64 (m : Nat) ∧ m ≤ n ∧ (∀ i t, i < m → l[i]? = some t → notLine t = true) ∧ wx = W9)
     case atStart => exact ⟨0, rfl, rfl, Nat.zero_le _, fun i t hi => absurd hi (Nat.not_lt_zero _), rfl⟩
     case round =>
      obtain ⟨m, rfl, rfl, hmn, hown, rfl⟩ := hrel
      have HOwn := Lib.hid hown
      clear hown
      by_cases hlt : m < n
      ·have hlt' : (m : Int) < (n : Int) := by omega
       have hltb : decide ((m : Int) < (n : Int)) = true := by simpa using hlt'
       obtain ⟨T, hT⟩ : ∃ t, l[m]? = some t := ⟨l[m]'(by have := HN.out; omega), List.getElem?_eq_getElem _⟩
       obtain ⟨d0, d1⟩ := HCell2.out m T hT
       have HT := Lib.hid hT
       clear hT
       by_cases h4 : T.kind = 4
       ·have h4b : (T.kind != 4) = false := by simpa using h4
        have HM := Lib.hid (take_line l m HOwn.out (.inr ⟨T, HT.out, by unfold notLine; exact h4b⟩))
        clear h4
        go_wp2_with fail
        go_meet
        case rel => exact ⟨m, rfl, hmn, HM.out.1, HM.out.2, rfl⟩
       ·have h4b : (T.kind != 4) = true := by simpa using h4
        go_wp2_with fail
        go_roundg (n - (m + 1))
        case measure => omega
        case rel =>
         refine ⟨m + 1, rfl, by rw [Int.natCast_add]; rfl, by omega, fun i t hi ht => ?_, rfl⟩
         rcases Nat.lt_succ_iff_lt_or_eq.1 hi with h | rfl
         ·exact HOwn.out i t h ht
         ·rw [HT.out] at ht
          injection ht with ht
          subst ht
          unfold notLine
          exact h4b
      ·obtain rfl : m = n := by omega
       have hlt' : ¬ (m : Int) < (m : Int) := by omega
       have HM := Lib.hid (take_line l m HOwn.out (.inl HN.out))
       go_wp2_with fail
       go_meet
       case rel => exact ⟨m, rfl, hmn, HM.out.1, HM.out.2, rfl⟩
    case rest =>
     obtain ⟨m, rfl, hmn, htw, hdw, rfl⟩ := hcut
     have HM := Lib.hid (And.intro htw hdw)
     clear htw hdw
     obtain ⟨c0, c1, c2, f0, f1, f2⟩ := HLn.out.cells
     have hLl := HLn.out.lt
     have hmc : m ≤ cap := by omega
     have hm0 : (0 : Int) ≤ (m : Int) := by omega
     have hm1 : (m : Int) ≤ (cap : Int) := by omega
     have HL10 := Lib.hid (HLn.out.put0 (.slice (some ⟨g, o, none⟩) m cap))
     have hgL : ¬ g = Lb := by omega
     have HC10 : Hid (Chg (fun k => wr.heap.size ≤ k) wr (wc.setCell ⟨Lb, 0, none⟩ (.slice (some ⟨g, o, none⟩) m cap))) := Lib.hid (Chg.trans (Chg.below HBl.out) (Chg.set (S := fun k => wr.heap.size ≤ k) (by rw [HLb.out]; exact Nat.le_refl _) 0 _) (fun _ _ h => h))
     have HCell3 : Hid (∀ (i : Nat) (t : Tok), l[i]? = some t → (wc.setCell ⟨Lb, 0, none⟩ (.slice (some ⟨g, o, none⟩) m cap)).cell? ⟨g, o + i * 4 + 1, none⟩ = some (.int .i64 t.at_)) := Lib.hid (fun i t ht => (World.cell?_of_block (a := ⟨g, _, none⟩) (Below.heap_setCell wc ⟨Lb, 0, none⟩ _ g hgL)).trans (HCell2.out i t ht).2)
     go_upto_if 51 with fail
     generalize (wc.setCell ⟨Lb, 0, none⟩ (.slice (some ⟨g, o, none⟩) m cap)) = W10 at HL10 HC10 HCell3 ⊢
     clear c0 c1 c2 f0 f1 f2 hLl HLn HCell2 HBl
     go_cut [10] from 21 to 97 (fun s10 wx => ∃ m2, s10 = .int .i64 (m2 : Nat) ∧ m2 ≤ n ∧ m ≤ m2 ∧ l.drop m2 = (l.drop m).tail ∧ LineIs wx Lb (.slice (some ⟨g, o, none⟩) m cap) 0 (placeP s.size (l.drop m)) ∧ Chg (fun k => wr.heap.size ≤ k) wr wx)
     case first =>
      obtain ⟨c0, c1, c2, f0, f1, f2⟩ := HL10.out.cells
      by_cases hlt : m < n
      ·have hlt' : (m : Int) < (n : Int) := by omega
       have hltb : decide ((m : Int) < (n : Int)) = true := by simpa using hlt'
       obtain ⟨T, hT⟩ : ∃ t, l[m]? = some t := ⟨l[m]'(by have := HN.out; omega), List.getElem?_eq_getElem _⟩
       have d1 := HCell3.out m T hT
       have HT := Lib.hid hT
       clear hT
       go_wp2_with fail
       go_meet
       case rel =>
        obtain ⟨hk, ht⟩ := List.getElem?_eq_some_iff.1 HT.out
        have hd : l.drop m = T :: l.drop (m + 1) := by rw [List.drop_eq_getElem_cons hk, ht]
        refine ⟨m + 1, by rw [Int.natCast_add]; rfl, by omega, by omega, by rw [hd]; rfl, ?_, Chg.trans HC10.out (Chg.set (S := fun k => wr.heap.size ≤ k) (by rw [HLb.out]; exact Nat.le_refl _) 2 _) (fun _ _ h => h)⟩
        rw [hd]
        exact HL10.out.put2 T.at_
      ·obtain rfl : m = n := by omega
       have hlt' : ¬ (m : Int) < (m : Int) := by omega
       go_wp2_with fail
       go_meet
       case rel =>
        have hd : l.drop m = [] := List.drop_eq_nil_of_le (by have := HN.out; omega)
        refine ⟨m, rfl, Nat.le_refl _, Nat.le_refl _, by rw [hd]; rfl, ?_, HC10.out⟩
        rw [hd]
        exact HL10.out
     case rest =>
      obtain ⟨m2, rfl, hm2n, hmm2, hd2, hl2, hc2⟩ := hcut
      clear HL10 HC10 HCell3
      have hm20 : (0 : Int) ≤ (m2 : Int) := by omega
      have hm21 : (m2 : Int) ≤ (n : Int) := by omega
      obtain ⟨c0, c1, c2, f0, f1, f2⟩ := hl2.cells
      have HL2 := Lib.hid hl2
      have HC2 := Lib.hid hc2
      have HD2 := Lib.hid hd2
      clear hl2 hc2 hd2 c1 c2 f0 f1 f2
      have HT0 : Hid (TokS wr w1.heap.size (.slice (some ⟨g, o, none⟩) n cap) l) := by
       apply Lib.hid
       have := HC.out.1
       rw [← HN.out] at this
       exact this
      go_upto_region 15 with fail
      go_cut [4] from 21 to 97 (fun s4 wx => TokS wr w1.heap.size s4 (l.drop m2) ∧ wx = wc)
      case first =>
       by_cases hcm2 : cap = m2
       ·have hnm2 : n = m2 := by omega
        have hTe := toks_end HT0.out (m := m2) (by omega)
        have HTe := Lib.hid hTe
        clear hTe
        subst hcm2
        subst hnm2
        go_wp2_with fail
        go_meet
        case rel =>
         have := HTe.out
         rw [Nat.sub_self] at this
         exact ⟨this, rfl⟩
       ·have HTd := Lib.hid (HT0.out.drop m2 (by omega))
        go_wp2_with fail
        go_meet
        case rel => exact ⟨HTd.out, rfl⟩
      case rest =>
       obtain ⟨hT4, rfl⟩ := hcut
       obtain ⟨a4, n4, cap4, rfl⟩ : ∃ a n4 c, u4 = .slice a n4 c := let ⟨a, c, h, _⟩ := hT4; ⟨a, _, c, h⟩
       have HT4 := Lib.hid hT4
       clear hT4
       by_cases hm0' : m = 0
       ·subst hm0'
        go_wp2_with fail
        have hlen2 : (l.drop m2).length < l.length := by
         rw [HD2.out, List.length_tail, List.length_drop]
         have := HN.out
         omega
        go_roundg (l.drop m2).length
        case measure => rw [← HL.out]; exact hlen2
        case rel =>
         obtain ⟨hT, hch, hbx, hP, hW⟩ := HC.out
         have hk := keep_new HC2.out
         refine ⟨l.drop m2, p, lines, over, rfl, rfl, rfl, run_gone HT4.out (HC2.out.mono (fun k hk => by omega)), hch.trans HC2.out (fun _ _ hk => by omega), hbx.keep (hk _), hP.keep (fun t _ _ _ => hk t), hpn, hlm, ?_, fun t ht => hW t (List.mem_of_mem_drop ht)⟩
         have hX := HX.out
         rw [HL.out, linesX_cons, ← HL.out, HM.out.1, HM.out.2, if_pos (by simp), ← HD2.out] at hX
         exact hX
       ·have hlen2 : (l.drop m2).length < l.length := by
         rw [HD2.out, List.length_tail, List.length_drop]
         have := HN.out
         omega
        have hm1' : ((m : Int) == 0) = false := by rw [beq_eq_false_iff_ne]; omega
        obtain ⟨n2, hn2⟩ : ∃ x, x = (l.drop m2).length := ⟨_, rfl⟩
        have hne : l.take m ≠ [] := by
         intro h
         have h1 := congrArg List.length h
         rw [List.length_take, List.length_nil] at h1
         have := HN.out
         omega
        have HIn : Hid (Calls Tryz.prog 20 #[.pointer (some ⟨Lb, 0, none⟩), .pointer (some ⟨w1.heap.size + 1, 0, none⟩), .int .i64 lines, .bool over] wc (IntoPost Lb (w1.heap.size + 1) (w1.heap.size + 1) (intoP (placeP s.size (l.drop m)) (l.take m) p lines over) wc)) := by
         apply Lib.hid
         obtain ⟨hT, hch, hbx, hP, hW⟩ := HC.out
         have hk := keep_new HC2.out
         have hcs := HC2.out.size
         have hE2 := (HRA.out wc (hch.trans HC2.out (fun _ _ hk => by omega))).2.2.2
         have hTk := (run_gone HT0.out (HC2.out.mono (fun k hk => by omega) : Chg (fun k => w1.heap.size ≤ k) wr wc)).take m (by have := HN.out; omega)
         exact into_any Lb (w1.heap.size + 1) (w1.heap.size + 1) (.slice (some ⟨g, o, none⟩) m cap) (l.take m) (placeP s.size (l.drop m)) p lines over wc ⟨HL2.out, hTk.mono (by omega), HL2.out.lt, Nat.le_refl _⟩ (hP.keep (fun t _ _ _ => hk t)) (by have := HL2.out.lt; omega) (Nat.le_refl _) hne
          (fun t ht => hW t (List.mem_of_mem_take ht)) (fun t ht => by
           rw [← HM.out.1] at ht
           have := mem_while ht
           simpa [notLine] using this) hE2 (by omega) (by omega) hpn hlm
        have HWell := Lib.hid (fun y h => @into_fault (placeP s.size (l.drop m)) (l.take m) p lines over y h)
        have HCnt := Lib.hid (fun q h => @into_count (placeP s.size (l.drop m)) (l.take m) p q lines over hne h)
        have HX3 : Hid ((match intoP (placeP s.size (l.drop m)) (l.take m) p lines over with
          | .error x => .error x
          | .ok q => linesX s.data.toList.length (l.drop m2) q (lines + 1) (overP q)) = X) := by
         apply Lib.hid
         have hX := HX.out
         rw [HL.out, linesX_cons, ← HL.out, HM.out.1, HM.out.2, if_neg hne, ← HD2.out] at hX
         exact hX
        generalize intoP (placeP s.size (l.drop m)) (l.take m) p lines over = XI at HIn HWell HCnt HX3
        have hLbs := HL2.out.lt
        clear hne HX hn2
        go_wp2_with fail
        refine HIn.out.mono ?_
        rintro en w9 ⟨hfr, hpost⟩
        have hbx9 : Blk w9 w1.heap.size 44 #[.int .i64 0, .int .i64 0] := by
         obtain ⟨hT, hch, hbx, hP, hW⟩ := HC.out
         exact Chg.blk hfr (hbx.keep (keep_new HC2.out _)) (by rintro (h | h) <;> omega)
        have hch9 : Chg (fun k => w1.heap.size ≤ k) w1 w9 := by
         obtain ⟨hT, hch, hbx, hP, hW⟩ := HC.out
         exact (hch.trans HC2.out (fun _ _ hk => by omega)).trans hfr (fun x _ hk => by
          have hk : x = Lb ∨ w1.heap.size + 1 ≤ x := hk
          show w1.heap.size ≤ x
          omega)
        have b0 : w9.cell? ⟨w1.heap.size, 0, none⟩ = some (.int .i64 0) := hbx9.cell 0
        have b1' : w9.cell? ⟨w1.heap.size, 1, none⟩ = some (.int .i64 0) := hbx9.cell 1
        have bf0 : w9.frozen? ⟨w1.heap.size, 0, none⟩ = false := hbx9.froz 0
        have bf1 : w9.frozen? ⟨w1.heap.size, 1, none⟩ = false := hbx9.froz 1
        have HB9 := Lib.hid hbx9
        have HCh9 := Lib.hid hch9
        have HFr := Lib.hid hfr
        clear hbx9 hch9 hfr HIn c0
        cases XI with
        | error y =>
         obtain ⟨ya, yc⟩ := y
         obtain rfl := hpost
         have hc0 : ¬ (yc : Int) = 0 := by have := (HWell.out _ rfl).2.1; dsimp only at this; omega
         have hc0b : ((yc : Int) == 0) = false := by rw [beq_eq_false_iff_ne]; exact hc0
         have HChW := Lib.hid (HCh9.out.trans (Chg.trans (Chg.set (S := fun k => w1.heap.size ≤ k) (Nat.le_refl _) 0 (.int .i64 ya)) (Chg.set (S := fun k => w1.heap.size ≤ k) (Nat.le_refl _) 1 (.int .i64 (yc : Int))) (fun _ _ h => h)) (fun _ _ h => h))
         have HBW := Lib.hid (HB9.out.put2 (.int .i64 ya) (.int .i64 (yc : Int)))
         clear HWell HCnt
         dsimp only
         go_upto_region 18 with fail
         generalize ((w9.setCell ⟨w1.heap.size, 0, none⟩ (.int .i64 ya)).setCell ⟨w1.heap.size, 1, none⟩ (.int .i64 (yc : Int))) = W11 at HChW HBW ⊢
         have HRW := Lib.hid (HRA.out W11 HChW.out)
         clear b0 b1' bf0 bf1
         have b0 : W11.cell? ⟨w1.heap.size, 0, none⟩ = some (.int .i64 ya) := HBW.out.cell 0
         have b1' : W11.cell? ⟨w1.heap.size, 1, none⟩ = some (.int .i64 yc) := HBW.out.cell 1
         have r0 : W11.cell? ⟨w.heap.size, 0, none⟩ = some (.slice none 0 0) := HRW.out.1.cell 0
         have r1 : W11.cell? ⟨w.heap.size, 1, none⟩ = some (.slice none 0 0) := HRW.out.1.cell 1
         have rf0 : W11.frozen? ⟨w.heap.size, 0, none⟩ = false := HRW.out.1.froz 0
         have rf1 : W11.frozen? ⟨w.heap.size, 1, none⟩ = false := HRW.out.1.froz 1
         have q0 : W11.cell? ⟨w.heap.size + 1, 0, none⟩ = some (.int .i64 0) := HRW.out.2.1.cell 0
         have q1 : W11.cell? ⟨w.heap.size + 1, 1, none⟩ = some (.int .i64 0) := HRW.out.2.1.cell 1
         have qf0 : W11.frozen? ⟨w.heap.size + 1, 0, none⟩ = false := HRW.out.2.1.froz 0
         have qf1 : W11.frozen? ⟨w.heap.size + 1, 1, none⟩ = false := HRW.out.2.1.froz 1
         go_wp2_with fail
         go_region
         go_wp2
         obtain ⟨z1, z2, z3, -⟩ := parse_end HRW.out.1 HRW.out.2.1 HRW.out.2.2.1 (.slice none 0 0) (.slice none 0 0) (.int .i64 ya) (.int .i64 yc)
         have y0 := z1.cell 0
         have y1 := z1.cell 1
         have y2 := z2.cell 0
         have y3 := z2.cell 1
         simp at y0 y1 y2 y3
         refine bodyPost_ret (v := .tuple #[.agg #[.slice none 0 0, .slice none 0 0], .agg #[.int .i64 ya, .int .i64 yc]]) (by simp [results, Tryz.results16, go_sem, y0, y1, y2, y3]) rfl ?_
         rw [← HX3.out]
         exact ⟨z3.drew, rfl⟩
        | ok q =>
         obtain ⟨rfl, hPq⟩ := hpost
         obtain ⟨h64, hcnt⟩ := HCnt.out q rfl
         have HChW := Lib.hid (HCh9.out.trans (Chg.trans (Chg.set (S := fun k => w1.heap.size ≤ k) (Nat.le_refl _) 0 (.int .i64 0)) (Chg.set (S := fun k => w1.heap.size ≤ k) (Nat.le_refl _) 1 (.int .i64 0)) (fun _ _ h => h)) (fun _ _ h => h))
         have HSt0 : Hid (Chg (fun k => w1.heap.size ≤ k) w9 ((w9.setCell ⟨w1.heap.size, 0, none⟩ (.int .i64 0)).setCell ⟨w1.heap.size, 1, none⟩ (.int .i64 0))) := Lib.hid (Chg.trans (Chg.set (S := fun k => w1.heap.size ≤ k) (Nat.le_refl _) 0 (.int .i64 0)) (Chg.set (S := fun k => w1.heap.size ≤ k) (Nat.le_refl _) 1 (.int .i64 0)) (fun _ _ h => h))
         have HBW := Lib.hid (HB9.out.put2 (.int .i64 0) (.int .i64 0))
         have HPW := Lib.hid (hPq.keep (fun t _ ht _ => (KeepTag.set HB9.out ht 0 (.int .i64 0)).trans (KeepTag.set (HB9.out.put0 (.int .i64 0)) ht 1 (.int .i64 0))))
         clear HWell HCnt hPq
         go_upto_region 18 with fail
         generalize ((w9.setCell ⟨w1.heap.size, 0, none⟩ (.int .i64 0)).setCell ⟨w1.heap.size, 1, none⟩ (.int .i64 0)) = W11 at HChW HBW HPW HSt0 ⊢
         clear b0 b1' bf0 bf1
         have b0 : W11.cell? ⟨w1.heap.size, 0, none⟩ = some (.int .i64 0) := HBW.out.cell 0
         have b1' : W11.cell? ⟨w1.heap.size, 1, none⟩ = some (.int .i64 0) := HBW.out.cell 1
         obtain ⟨vi, vl, hPb, ci, cl, o1, o2, o3, o4⟩ := HPW.out
         have hlines : lines + 1 ≤ 64 := by omega
         have HSt : Hid (Chg (fun k => w1.heap.size ≤ k) w9 W11) := HSt0
         rcases List.eq_nil_or_concat q.lines with hq | ⟨ls, x, hq⟩
         ·have HOv : Hid (overP q = false) := Lib.hid (by unfold overP; rw [hq]; rfl)
          obtain ⟨al, capl, rfl⟩ := own_form o3
          rw [hq, List.length_nil] at hPb
          have p1 : W11.cell? ⟨w1.heap.size + 1, 1, none⟩ = some (.slice al 0 capl) := hPb.cell 1
          have hcnt2 : q.inputs.length + q.lines.length ≤ lines + 1 := by omega
          clear hPb o1 o2 o3 o4 hq hcnt
          go_wp2_with fail
          go_roundg (l.drop m2).length
          case measure => rw [← HL.out]; exact hlen2
          case rel =>
           have hkk := keep_new HC2.out
           obtain ⟨hT, hch, hbx, hP, hW⟩ := HC.out
           refine ⟨l.drop m2, q, lines + 1, false, rfl, by rw [Int.natCast_add]; rfl, rfl, ?_, HChW.out, HBW.out, HPW.out, by omega, hlines, ?_, fun t ht => hW t (List.mem_of_mem_drop ht)⟩
           ·exact run_gone (run_gone HT4.out (HC2.out.mono (fun k hk => by omega) : Chg (fun k => w1.heap.size ≤ k) wr wc)) ((HFr.out.mono (fun x hk => by
             have hk : x = Lb ∨ w1.heap.size + 1 ≤ x := hk
             show w1.heap.size ≤ x
             omega)).trans HSt.out (fun _ _ h => h))
           ·have := HX3.out
            rw [HOv.out] at this
            exact this
         ·rw [List.concat_eq_append] at hq
          have HOv : Hid (overP q = (x.name == [])) := Lib.hid (over_last hq)
          have hql : q.lines.length = ls.length + 1 := by rw [hq]; simp
          rw [hql] at o3
          obtain ⟨gl, capl, rfl, hgl1, hgl2, hgl3, hgl4, hgc, -⟩ := own_cells o3 (by omega)
          have p1 : W11.cell? ⟨w1.heap.size + 1, 1, none⟩ = some (.slice (some ⟨gl, 0, none⟩) (ls.length + 1) capl) := hPb.cell 1
          obtain ⟨c, hcl, ⟨vx, cx, rfl, -⟩, hcj⟩ := o4.2 ls.length x (by rw [hq]; simp)
          have x0 : W11.cell? ⟨gl, 0 + ls.length * 3, none⟩ = some (.string (mkS x.name)) := by
           rw [Nat.zero_add, hgc _ (by omega)]
           exact hcj 0 _ rfl
          have x0' : W11.cell? ⟨gl, ls.length * 3, none⟩ = some (.string (mkS x.name)) := by
           rw [Nat.zero_add] at x0
           exact x0
          have hi1 : ((ls.length + 1 : Nat) : Int) - 1 = (ls.length : Int) := by omega
          have hlt1 : ls.length < ls.length + 1 := Nat.lt_succ_self _
          have hcnt2 : q.inputs.length + q.lines.length ≤ lines + 1 := by omega
          have hlsb : ls.length ≤ 100 := by omega
          have hlsi : (ls.length : Int) ≤ 100 := by omega
          clear hPb o1 o2 o3 o4 hq hcnt hgc hcj hcl hql
          cases hnm : x.name == [] with
          | true =>
           have hne0 : (mkS x.name).toList.isEmpty = true := by rw [ByteArray.toList_eq, mkS_toList, beq_iff_eq.1 hnm]; rfl
           have hne1 : (mkS x.name).toList = [] := by rw [ByteArray.toList_eq, mkS_toList, beq_iff_eq.1 hnm]
           rw [hnm] at HOv
           clear hnm
           go_wp2_with fail
           go_roundg (l.drop m2).length
           case measure => rw [← HL.out]; exact hlen2
           case rel =>
            have hkk := keep_new HC2.out
            obtain ⟨hT, hch, hbx, hP, hW⟩ := HC.out
            refine ⟨l.drop m2, q, lines + 1, true, rfl, by rw [Int.natCast_add]; rfl, rfl, ?_, HChW.out, HBW.out, HPW.out, by omega, hlines, ?_, fun t ht => hW t (List.mem_of_mem_drop ht)⟩
            ·exact run_gone (run_gone HT4.out (HC2.out.mono (fun k hk => by omega) : Chg (fun k => w1.heap.size ≤ k) wr wc)) ((HFr.out.mono (fun x hk => by
              have hk : x = Lb ∨ w1.heap.size + 1 ≤ x := hk
              show w1.heap.size ≤ x
              omega)).trans HSt.out (fun _ _ h => h))
            ·have := HX3.out
             rw [HOv.out] at this
             exact this
          | false =>
           have hne0 : (mkS x.name).toList.isEmpty = false := by
            rw [ByteArray.toList_eq, mkS_toList]
            cases hx : x.name with
            | nil => rw [hx] at hnm; cases hnm
            | cons a b => rfl
           have hne1 : ¬ (mkS x.name).toList = [] := by
            rw [ByteArray.toList_eq, mkS_toList]
            exact fun h => by rw [h] at hnm; cases hnm
           rw [hnm] at HOv
           clear hnm
           go_wp2_with fail
           go_roundg (l.drop m2).length
           case measure => rw [← HL.out]; exact hlen2
           case rel =>
            have hkk := keep_new HC2.out
            obtain ⟨hT, hch, hbx, hP, hW⟩ := HC.out
            refine ⟨l.drop m2, q, lines + 1, false, rfl, by rw [Int.natCast_add]; rfl, rfl, ?_, HChW.out, HBW.out, HPW.out, by omega, hlines, ?_, fun t ht => hW t (List.mem_of_mem_drop ht)⟩
            ·exact run_gone (run_gone HT4.out (HC2.out.mono (fun k hk => by omega) : Chg (fun k => w1.heap.size ≤ k) wr wc)) ((HFr.out.mono (fun x hk => by
              have hk : x = Lb ∨ w1.heap.size + 1 ≤ x := hk
              show w1.heap.size ≤ x
              omega)).trans HSt.out (fun _ _ h => h))
            ·have := HX3.out
             rw [HOv.out] at this
             exact this
 ·have hc0 : ¬ (c : Int) = 0 := by have := lexL_bad hlex; omega
  have hc0b : ((c : Int) == 0) = false := by rw [beq_eq_false_iff_ne]; exact hc0
  rw [hlex] at hX
  have HX := Lib.hid hX
  clear hlex hX hb1
  go_wp2_with fail
  go_region
  go_wp2
  obtain ⟨z1, z2, z3, -⟩ := parse_end HR.out.1 HR.out.2.1 HR.out.2.2.1 (.slice none 0 0) (.slice none 0 0) (.int .i64 k) (.int .i64 c)
  have ka : ∀ t, KeepTag t _ (((((w1.setCell ⟨w.heap.size, 0, none⟩ (.slice none 0 0)).setCell ⟨w.heap.size, 1, none⟩ (.slice none 0 0)).setCell ⟨w.heap.size + 1, 0, none⟩ (.int .i64 k)).setCell ⟨w.heap.size + 1, 1, none⟩ (.int .i64 c)).alloc (.cells #[.int .i64 k, .int .i64 c] 44)) := fun t => KeepTag.alloc _
  have y0 := (z1.keep (ka _)).cell 0
  have y1 := (z1.keep (ka _)).cell 1
  have y2 := (z2.keep (ka _)).cell 0
  have y3 := (z2.keep (ka _)).cell 1
  simp at y0 y1 y2 y3
  refine bodyPost_ret (v := .tuple #[.agg #[.slice none 0 0, .slice none 0 0], .agg #[.int .i64 k, .int .i64 c]]) (by simp [results, Tryz.results16, go_sem, y0, y1, y2, y3]) rfl ?_
  rw [← HX.out]
  exact ⟨(z3.alloc z3.size _).drew, rfl⟩
end Go.Proofs.YtknnleiinhdklaaGreatDoor
