/-
  Walk of package lex: Spell. Condition: Go's own variables hold what their initialisers lay; the token's numbers are such, its text no longer than a string may be.
-/
import Derived.Lib.QuietBelow
import Derived.BigQuiet
import Derived.Test.YtknnleiinhdklaaGreatDoorPk03
import Derived.Test.YtknnleiinhdklaaGreatDoorPk04
import Derived.Test.YtknnleiinhdklaaGreatDoorPk08
namespace Go.Proofs.YtknnleiinhdklaaGreatDoor
open Go.RowKit Go.Shelf Go.Sort
theorem set_alloc_other {w : World} {b i g j : Nat} {u x : Value} (o : Obj) (hg : g < w.heap.size) (hne : g ≠ b ∨ j ≠ i) (h : w.cell? ⟨g, j, none⟩ = some x) : ((w.setCell ⟨b, i, none⟩ u).alloc o).cell? ⟨g, j, none⟩ = some x := by
 rw [World.cell?_alloc_lt _ _ _ (by simpa using hg), World.cell?_setCell_other w ⟨b, i, none⟩ ⟨g, j, none⟩ u (by intro e; simp at e; omega)]
 exact h
theorem set_alloc_same {w : World} {b i : Nat} {u x : Value} (o : Obj) (hb : b < w.heap.size) (h : w.cell? ⟨b, i, none⟩ = some x) : ((w.setCell ⟨b, i, none⟩ u).alloc o).cell? ⟨b, i, none⟩ = some u := by
 rw [World.cell?_alloc_lt _ _ _ (by simpa using hb)]
 exact World.cell?_setCell_same _ _ _ h
theorem spell_no {t : Tok} (h : spellP t = ([], false)) : Ending.returned (.tuple #[.string ⟨#[]⟩, .bool false]) = .returned (.tuple #[.string (mkS (spellP t).1), .bool (spellP t).2]) := by rw [h]; rfl
theorem spell_yes {t : Tok} {S : List UInt8} (h : spellP t = (S, true)) : Ending.returned (.tuple #[.string (mkS S), .bool true]) = .returned (.tuple #[.string (mkS (spellP t).1), .bool (spellP t).2]) := by rw [h]
def SpellPost (t : Tok) (w : World) (e : Ending) (w' : World) : Prop := e = .returned (.tuple #[.string (mkS (spellP t).1), .bool (spellP t).2]) ∧ Below w.heap.size w w'
set_option maxRecDepth 100000 in
set_option maxHeartbeats 4000000 in
/-- A word or a sign, or what is none: the text is the word. -/
theorem Spell_word (kd pl nn : Int) (wd : List UInt8) (w : World) (hE : Env w) (hw : wd.length ≤ 9223372036854775807) (hk2 : kd ≠ 2) (hk4 : kd ≠ 4) :
  Calls Tryz.prog 115 #[.agg #[.int .i64 kd, .int .i64 pl, .string (mkS wd), .int .i64 nn]] w (SpellPost ⟨kd, pl, wd, nn⟩ w) := by
 unfold SpellPost
 have h2 : (kd == 2) = false := by rw [beq_eq_false_iff_ne]; exact hk2
 have h4 : (kd == 4) = false := by rw [beq_eq_false_iff_ne]; exact hk4
 have h4' : (kd != 4) = true := by rw [bne_iff_ne]; exact hk4
 have hS : spellS ⟨kd, pl, wd, nn⟩ = wd := by simp [spellS, hk2, hk4]
 have hL := Lex_any (mkS wd)
 rw [mkS_toList] at hL
 have HLx := Lib.hid hL
 clear hL
 have hbel0 : ∀ o, Below w.heap.size w (w.alloc o) := fun o => (Below.refl _ _).alloc (Nat.le_refl _) o
 have hle0 : ∀ o, w.heap.size ≤ (w.alloc o).heap.size := fun o => by simp
 go_enter Tryz.func115, Tryz.ntmps115
 go_wp2_with fail
 have hbel0 := hbel0 (.cells #[.int .i64 kd, .int .i64 pl, .string (mkS wd), .int .i64 nn] 60)
 have hle0 := hle0 (.cells #[.int .i64 kd, .int .i64 pl, .string (mkS wd), .int .i64 nn] 60)
 refine (HLx.out _ (by rw [mkS_size]; unfold maxLen; omega) (hE.kept ((Below.refl _ _).alloc (Nat.le_refl _) _)).err).mono ?_
 clear HLx
 intro e w1 hp
 rcases hp with ⟨v, toks, hlex, rfl, hown, hb⟩ | ⟨k, c, hlex, rfl, hb⟩
 ·have hbel := hbel0.trans (hb.mono hle0)
  match toks, hlex, hown with
  | [], hlex, hown =>
   obtain ⟨a, cap, rfl⟩ := own_form hown
   simp only [List.length_nil]
   go_wp2
   go_ret2
   exact ⟨spell_no (spellP_nil (by rw [hS]; exact hlex)), hbel.alloc (by have := hbel.size; omega) _⟩
  | x :: y :: r, hlex, hown =>
   obtain ⟨a, cap, rfl⟩ := own_form hown
   have hfin := Lib.hid (spell_no (spellP_two (t := ⟨kd, pl, wd, nn⟩) (by rw [hS]; exact hlex)))
   have hn : (((x :: y :: r).length : Int) != 1) = true := by rw [bne_iff_ne]; simp only [List.length_cons]; omega
   clear hlex hown
   generalize (x :: y :: r).length = n at *
   go_wp2
   go_ret2
   exact ⟨hfin.out, hbel.alloc (by have := hbel.size; omega) _⟩
  | [⟨xk, xa, xw, xn⟩], hlex, hown =>
   obtain ⟨g, cap, rfl, hg1, hg2, hcap, _, hcell, _⟩ := own_cells hown (by simp)
   simp only [List.length_cons, List.length_nil]
   have k0 : w1.cell? ⟨g, 0, none⟩ = some (.int .i64 xk) := hcell 0 (by simp)
   have k1 : w1.cell? ⟨g, 1, none⟩ = some (.int .i64 xa) := hcell 1 (by simp)
   have k2 : w1.cell? ⟨g, 2, none⟩ = some (.string (mkS xw)) := hcell 2 (by simp)
   have k3 : w1.cell? ⟨g, 3, none⟩ = some (.int .i64 xn) := hcell 3 (by simp)
   have hg0 : w.heap.size + 1 ≤ g := by simpa using hg1
   have hlt : w.heap.size < w1.heap.size := by omega
   have b0 : w1.cell? ⟨w.heap.size, 0, none⟩ = some (.int .i64 kd) := by rw [hb.cell (p := ⟨w.heap.size, 0, none⟩) (by simp)]; simp
   have b1 : w1.cell? ⟨w.heap.size, 1, none⟩ = some (.int .i64 pl) := by rw [hb.cell (p := ⟨w.heap.size, 1, none⟩) (by simp)]; simp
   have b2 : w1.cell? ⟨w.heap.size, 2, none⟩ = some (.string (mkS wd)) := by rw [hb.cell (p := ⟨w.heap.size, 2, none⟩) (by simp)]; simp
   have b3 : w1.cell? ⟨w.heap.size, 3, none⟩ = some (.int .i64 nn) := by rw [hb.cell (p := ⟨w.heap.size, 3, none⟩) (by simp)]; simp
   have f1 : w1.frozen? ⟨w.heap.size, 1, none⟩ = false := by rw [hb.frozen (p := ⟨w.heap.size, 1, none⟩) (by simp)]; simp
   clear hg1 hb hcell hown
   have HL := Lib.hid hlex
   clear hlex
   by_cases hlen : 24 < wd.length
   ·go_wp2
    go_ret2
    exact ⟨spell_no (spellP_long (by rw [hS]; exact HL.out) (by rw [hS]; exact hlen)), hbel.alloc (by have := hbel.size; omega) _⟩
   ·have hEW : ∀ o, Env ((w1.setCell ⟨w.heap.size, 1, none⟩ (.int .i64 0)).alloc o) := fun o => hE.kept ((below_set hbel (Nat.le_refl _) _).alloc (by have := hbel.size; simp; omega) _)
    have HE := Lib.hid hEW
    clear hEW
    have c0 := fun o => cell_regrown (set_alloc_other (u := .int .i64 0) (b := w.heap.size) (i := 1) o hg2 (.inl (by omega)) k0)
    have c1 := fun o => cell_regrown (set_alloc_other (u := .int .i64 0) (b := w.heap.size) (i := 1) o hg2 (.inl (by omega)) k1)
    have c2 := fun o => cell_regrown (set_alloc_other (u := .int .i64 0) (b := w.heap.size) (i := 1) o hg2 (.inl (by omega)) k2)
    have c3 := fun o => cell_regrown (set_alloc_other (u := .int .i64 0) (b := w.heap.size) (i := 1) o hg2 (.inl (by omega)) k3)
    have d0 := fun o => cell_regrown (set_alloc_other (u := .int .i64 0) (b := w.heap.size) (i := 1) o hlt (.inr (by omega)) b0)
    have d1 := fun o => cell_regrown (set_alloc_same (u := .int .i64 0) o hlt b1)
    have d2 := fun o => cell_regrown (set_alloc_other (u := .int .i64 0) (b := w.heap.size) (i := 1) o hlt (.inr (by omega)) b2)
    have d3 := fun o => cell_regrown (set_alloc_other (u := .int .i64 0) (b := w.heap.size) (i := 1) o hlt (.inr (by omega)) b3)
    by_cases q0 : xk = kd
    ·have z0 := q0.symm
     subst z0
     by_cases q1 : xa = 0
     ·have z1 := q1.symm
      subst z1
      by_cases q2 : xw = wd
      ·have z2 := q2.symm
       subst z2
       by_cases q3 : xn = nn
       ·have z3 := q3.symm
        subst z3
        have hcT := fun o d os => Calls.regrown_of (trim_any (mkS wd) (grow (redrawn ((w1.setCell ⟨w.heap.size, 1, none⟩ (.int .i64 0)).alloc o) d) os) ((HE.out o).kept (below_regrown _ d os)) (by rw [mkS_size]; unfold maxLen; omega))
        have hcH := fun o d os => Calls.regrown_of ((hash_any (mkS wd) (grow (redrawn ((w1.setCell ⟨w.heap.size, 1, none⟩ (.int .i64 0)).alloc o) d) os) ((HE.out o).kept (below_regrown _ d os)) (by rw [mkS_size]; omega)).mono fun e w' ⟨he, hw⟩ => ⟨he, hw ▸ Below.refl _ _⟩)
        rw [mkS_toList] at hcT hcH
        have CT := Lib.hid hcT
        have CH := Lib.hid hcH
        clear hcT hcH
        by_cases ht : Lib.trimSpaceD wd = wd
        ·rw [ht] at CT
         have HT := Lib.hid ht
         clear ht
         cases hh : Lib.contains wd [35]
         ·rw [hh] at CH
          have HH := Lib.hid hh
          clear hh
          go_wp2
          refine wp_region_quiet_below (by kernel_rfl) (by kernel_rfl) ?_
          repeat (first | go_big_quiet_step ((first | exact CT.out _ _ _ | exact CH.out _ _ _)) | quiet_step ((first | exact CT.out _ _ _ | exact CH.out _ _ _)))
          refine wpQuiet_nil ?_
          intro _ hw'
          obtain ⟨⟨dq, osq⟩, hw''⟩ := hw'
          subst hw''
          go_wp2
          go_ret2
          refine ⟨spell_yes ((spellP_ok (by rw [hS]; exact HL.out) (by rw [hS]; exact hlen) rfl (.inl (by rw [hS]; exact HT.out)) (by rw [hS]; exact HH.out)).trans (by rw [hS])), ((below_set hbel (Nat.le_refl _) _).alloc (by have := hbel.size; simp; omega) _).trans ((below_regrown _ _ _).mono (by have := hbel.size; simp; omega))⟩
         ·rw [hh] at CH
          have HH := Lib.hid hh
          clear hh
          go_wp2
          refine wp_region_quiet_below (by kernel_rfl) (by kernel_rfl) ?_
          repeat (first | go_big_quiet_step ((first | exact CT.out _ _ _ | exact CH.out _ _ _)) | quiet_step ((first | exact CT.out _ _ _ | exact CH.out _ _ _)))
          refine wpQuiet_nil ?_
          intro _ hw'
          obtain ⟨⟨dq, osq⟩, hw''⟩ := hw'
          subst hw''
          go_wp2
          go_ret2
          refine ⟨spell_no (spellP_hash (by rw [hS]; exact HL.out) (by rw [hS]; exact HH.out)), ((below_set hbel (Nat.le_refl _) _).alloc (by have := hbel.size; simp; omega) _).trans ((below_regrown _ _ _).mono (by have := hbel.size; simp; omega))⟩
        ·have ht2 := mkS_ne ht
         have ht3 : ((mkS (Lib.trimSpaceD wd)).toList == (mkS wd).toList) = false := by rw [beq_eq_false_iff_ne]; exact ht2
         have HF2 := Lib.hid (spell_no (spellP_trim (t := ⟨kd, pl, wd, nn⟩) (by rw [hS]; exact HL.out) (by rw [hS]; exact ht) hk4))
         clear ht CH
         generalize Lib.trimSpaceD wd = T at *
         go_wp2
         refine wp_region_quiet_below (by kernel_rfl) (by kernel_rfl) ?_
         repeat (first | go_big_quiet_step ((exact CT.out _ _ _)) | quiet_step ((exact CT.out _ _ _)))
         refine wpQuiet_nil ?_
         intro _ hw'
         obtain ⟨⟨dq, osq⟩, hw''⟩ := hw'
         subst hw''
         go_wp2
         go_ret2
         refine ⟨HF2.out, ((below_set hbel (Nat.le_refl _) _).alloc (by have := hbel.size; simp; omega) _).trans ((below_regrown _ _ _).mono (by have := hbel.size; simp; omega))⟩
       ·go_wp2
        refine wp_region_quiet_below (by kernel_rfl) (by kernel_rfl) ?_
        repeat (first | go_big_quiet_step (fail) | quiet_step (fail))
        refine wpQuiet_nil ?_
        intro _ hw'
        obtain ⟨⟨dq, osq⟩, hw''⟩ := hw'
        subst hw''
        go_wp2
        go_ret2
        refine ⟨spell_no (spellP_ne (by rw [hS]; exact HL.out) (by intro e; injection e with e0 e1 e2 e3; exact q3 e3)), ((below_set hbel (Nat.le_refl _) _).alloc (by have := hbel.size; simp; omega) _).trans ((below_regrown _ _ _).mono (by have := hbel.size; simp; omega))⟩
      ·have q2' := mkS_ne q2
       go_wp2
       refine wp_region_quiet_below (by kernel_rfl) (by kernel_rfl) ?_
       repeat (first | go_big_quiet_step (fail) | quiet_step (fail))
       refine wpQuiet_nil ?_
       intro _ hw'
       obtain ⟨⟨dq, osq⟩, hw''⟩ := hw'
       subst hw''
       go_wp2
       go_ret2
       refine ⟨spell_no (spellP_ne (by rw [hS]; exact HL.out) (by intro e; injection e with e0 e1 e2 e3; exact q2 e2)), ((below_set hbel (Nat.le_refl _) _).alloc (by have := hbel.size; simp; omega) _).trans ((below_regrown _ _ _).mono (by have := hbel.size; simp; omega))⟩
     ·go_wp2
      refine wp_region_quiet_below (by kernel_rfl) (by kernel_rfl) ?_
      repeat (first | go_big_quiet_step (fail) | quiet_step (fail))
      refine wpQuiet_nil ?_
      intro _ hw'
      obtain ⟨⟨dq, osq⟩, hw''⟩ := hw'
      subst hw''
      go_wp2
      go_ret2
      refine ⟨spell_no (spellP_ne (by rw [hS]; exact HL.out) (by intro e; injection e with e0 e1 e2 e3; exact q1 e1)), ((below_set hbel (Nat.le_refl _) _).alloc (by have := hbel.size; simp; omega) _).trans ((below_regrown _ _ _).mono (by have := hbel.size; simp; omega))⟩
    ·go_wp2
     refine wp_region_quiet_below (by kernel_rfl) (by kernel_rfl) ?_
     repeat (first | go_big_quiet_step (fail) | quiet_step (fail))
     refine wpQuiet_nil ?_
     intro _ hw'
     obtain ⟨⟨dq, osq⟩, hw''⟩ := hw'
     subst hw''
     go_wp2
     go_ret2
     refine ⟨spell_no (spellP_ne (by rw [hS]; exact HL.out) (by intro e; injection e with e0 e1 e2 e3; exact q0 e0)), ((below_set hbel (Nat.le_refl _) _).alloc (by have := hbel.size; simp; omega) _).trans ((below_regrown _ _ _).mono (by have := hbel.size; simp; omega))⟩
 ·have hc0 : ((c : Int) == 0) = false := by rw [beq_eq_false_iff_ne]; have := lexL_bad hlex; omega
  have hbel := hbel0.trans (hb.mono hle0)
  have hfin := Lib.hid (spell_no (spellP_bad (t := ⟨kd, pl, wd, nn⟩) (by rw [hS]; exact hlex)))
  clear hlex
  go_wp2
  go_ret2
  exact ⟨hfin.out, hbel.alloc (by have := hbel.size; omega) _⟩
set_option maxRecDepth 100000 in
set_option maxHeartbeats 4000000 in
/-- A number. -/
theorem Spell_number (pl nn : Int) (wd : List UInt8) (w : World) (hE : Env w) (hn0 : -9223372036854775808 ≤ nn) (hn1 : nn ≤ 9223372036854775807) :
  Calls Tryz.prog 115 #[.agg #[.int .i64 2, .int .i64 pl, .string (mkS wd), .int .i64 nn]] w (SpellPost ⟨2, pl, wd, nn⟩ w) := by
 unfold SpellPost
 have hk4 : (2 : Int) ≠ 4 := by decide
 have hS : spellS ⟨2, pl, wd, nn⟩ = numT nn := by simp [spellS]
 have hnl : (numT nn).length ≤ 65536 := by
  have h1 := Lib.itoa_length_le nn hn0 hn1
  have h2 : (numT nn).length = (Lib.itoa nn).length := by unfold numT Lib.itoa; split <;> simp
  omega
 have hL := Lex_any (mkS (numT nn))
 rw [mkS_toList] at hL
 have HLx := Lib.hid hL
 have HF := Lib.hid (fmt_any nn)
 have HR := Lib.hid (repl_any nn)
 have HM0 := Lib.hid hn0
 have HM1 := Lib.hid hn1
 clear hL hn0 hn1
 go_enter Tryz.func115, Tryz.ntmps115
 go_wp2_with fail
 refine (HF.out _ (hE.kept ((Below.refl _ _).alloc (Nat.le_refl _) _)) HM0.out HM1.out).mono ?_
 rintro e u1 ⟨rfl, hu1⟩
 have hz1 : w.heap.size < u1.heap.size := by have := hu1.size; simp at this; omega
 have hb1 : Below w.heap.size w u1 := ((Below.refl _ _).alloc (Nat.le_refl _) _).trans (hu1.mono (by simp))
 go_wp2_with fail
 refine (HR.out _ (hE.kept hb1) HM0.out HM1.out).mono ?_
 rintro e u2 ⟨rfl, hu2⟩
 have a0 : u2.cell? ⟨w.heap.size, 0, none⟩ = some (.int .i64 2) := by rw [hu2.cell (p := ⟨w.heap.size, 0, none⟩) hz1, hu1.cell (p := ⟨w.heap.size, 0, none⟩) (by simp)]; simp
 have a1 : u2.cell? ⟨w.heap.size, 1, none⟩ = some (.int .i64 pl) := by rw [hu2.cell (p := ⟨w.heap.size, 1, none⟩) hz1, hu1.cell (p := ⟨w.heap.size, 1, none⟩) (by simp)]; simp
 have a2 : u2.cell? ⟨w.heap.size, 2, none⟩ = some (.string (mkS wd)) := by rw [hu2.cell (p := ⟨w.heap.size, 2, none⟩) hz1, hu1.cell (p := ⟨w.heap.size, 2, none⟩) (by simp)]; simp
 have a3 : u2.cell? ⟨w.heap.size, 3, none⟩ = some (.int .i64 nn) := by rw [hu2.cell (p := ⟨w.heap.size, 3, none⟩) hz1, hu1.cell (p := ⟨w.heap.size, 3, none⟩) (by simp)]; simp
 have af : u2.frozen? ⟨w.heap.size, 1, none⟩ = false := by rw [hu2.frozen (p := ⟨w.heap.size, 1, none⟩) hz1, hu1.frozen (p := ⟨w.heap.size, 1, none⟩) (by simp)]; simp
 have hlt0 : w.heap.size < u2.heap.size := Nat.lt_of_lt_of_le hz1 hu2.size
 have hbel0 : Below w.heap.size w u2 := hb1.trans (hu2.mono (Nat.le_of_lt hz1))
 have hle0 : w.heap.size ≤ u2.heap.size := Nat.le_of_lt hlt0
 clear hu1 hu2 hb1 hz1 HF HR
 go_wp2_with fail
 refine (HLx.out _ (by rw [mkS_size]; unfold maxLen; omega) (hE.kept hbel0).err).mono ?_
 clear HLx
 intro e w1 hp
 rcases hp with ⟨v, toks, hlex, rfl, hown, hb⟩ | ⟨k, c, hlex, rfl, hb⟩
 ·have hbel := hbel0.trans (hb.mono hle0)
  match toks, hlex, hown with
  | [], hlex, hown =>
   obtain ⟨a, cap, rfl⟩ := own_form hown
   simp only [List.length_nil]
   go_wp2
   go_ret2
   exact ⟨spell_no (spellP_nil (by rw [hS]; exact hlex)), hbel.alloc (by have := hbel.size; omega) _⟩
  | x :: y :: r, hlex, hown =>
   obtain ⟨a, cap, rfl⟩ := own_form hown
   have hfin := Lib.hid (spell_no (spellP_two (t := ⟨2, pl, wd, nn⟩) (by rw [hS]; exact hlex)))
   have hn : (((x :: y :: r).length : Int) != 1) = true := by rw [bne_iff_ne]; simp only [List.length_cons]; omega
   clear hlex hown
   generalize (x :: y :: r).length = n at *
   go_wp2
   go_ret2
   exact ⟨hfin.out, hbel.alloc (by have := hbel.size; omega) _⟩
  | [⟨xk, xa, xw, xn⟩], hlex, hown =>
   obtain ⟨g, cap, rfl, hg1, hg2, hcap, _, hcell, _⟩ := own_cells hown (by simp)
   simp only [List.length_cons, List.length_nil]
   have k0 : w1.cell? ⟨g, 0, none⟩ = some (.int .i64 xk) := hcell 0 (by simp)
   have k1 : w1.cell? ⟨g, 1, none⟩ = some (.int .i64 xa) := hcell 1 (by simp)
   have k2 : w1.cell? ⟨g, 2, none⟩ = some (.string (mkS xw)) := hcell 2 (by simp)
   have k3 : w1.cell? ⟨g, 3, none⟩ = some (.int .i64 xn) := hcell 3 (by simp)
   have hg0 : w.heap.size + 1 ≤ g := by have := hg1; omega
   have hlt : w.heap.size < w1.heap.size := by omega
   have b0 : w1.cell? ⟨w.heap.size, 0, none⟩ = some (.int .i64 2) := (hb.cell (p := ⟨w.heap.size, 0, none⟩) hlt0).trans a0
   have b1 : w1.cell? ⟨w.heap.size, 1, none⟩ = some (.int .i64 pl) := (hb.cell (p := ⟨w.heap.size, 1, none⟩) hlt0).trans a1
   have b2 : w1.cell? ⟨w.heap.size, 2, none⟩ = some (.string (mkS wd)) := (hb.cell (p := ⟨w.heap.size, 2, none⟩) hlt0).trans a2
   have b3 : w1.cell? ⟨w.heap.size, 3, none⟩ = some (.int .i64 nn) := (hb.cell (p := ⟨w.heap.size, 3, none⟩) hlt0).trans a3
   have f1 : w1.frozen? ⟨w.heap.size, 1, none⟩ = false := (hb.frozen (p := ⟨w.heap.size, 1, none⟩) hlt0).trans af
   clear hg1 hb hcell hown
   have HL := Lib.hid hlex
   clear hlex
   by_cases hlen : 24 < (numT nn).length
   ·go_wp2
    go_ret2
    exact ⟨spell_no (spellP_long (by rw [hS]; exact HL.out) (by rw [hS]; exact hlen)), hbel.alloc (by have := hbel.size; omega) _⟩
   ·have hEW : ∀ o, Env ((w1.setCell ⟨w.heap.size, 1, none⟩ (.int .i64 0)).alloc o) := fun o => hE.kept ((below_set hbel (Nat.le_refl _) _).alloc (by have := hbel.size; simp; omega) _)
    have HE := Lib.hid hEW
    clear hEW
    have c0 := fun o => cell_regrown (set_alloc_other (u := .int .i64 0) (b := w.heap.size) (i := 1) o hg2 (.inl (by omega)) k0)
    have c1 := fun o => cell_regrown (set_alloc_other (u := .int .i64 0) (b := w.heap.size) (i := 1) o hg2 (.inl (by omega)) k1)
    have c2 := fun o => cell_regrown (set_alloc_other (u := .int .i64 0) (b := w.heap.size) (i := 1) o hg2 (.inl (by omega)) k2)
    have c3 := fun o => cell_regrown (set_alloc_other (u := .int .i64 0) (b := w.heap.size) (i := 1) o hg2 (.inl (by omega)) k3)
    have d0 := fun o => cell_regrown (set_alloc_other (u := .int .i64 0) (b := w.heap.size) (i := 1) o hlt (.inr (by omega)) b0)
    have d1 := fun o => cell_regrown (set_alloc_same (u := .int .i64 0) o hlt b1)
    have d2 := fun o => cell_regrown (set_alloc_other (u := .int .i64 0) (b := w.heap.size) (i := 1) o hlt (.inr (by omega)) b2)
    have d3 := fun o => cell_regrown (set_alloc_other (u := .int .i64 0) (b := w.heap.size) (i := 1) o hlt (.inr (by omega)) b3)
    by_cases q0 : xk = 2
    ·have z0 := q0.symm
     subst z0
     by_cases q1 : xa = 0
     ·have z1 := q1.symm
      subst z1
      by_cases q2 : xw = wd
      ·have z2 := q2.symm
       subst z2
       by_cases q3 : xn = nn
       ·have z3 := q3.symm
        subst z3
        have hcT := fun o d os => Calls.regrown_of (trim_any (mkS (numT nn)) (grow (redrawn ((w1.setCell ⟨w.heap.size, 1, none⟩ (.int .i64 0)).alloc o) d) os) ((HE.out o).kept (below_regrown _ d os)) (by rw [mkS_size]; unfold maxLen; omega))
        have hcH := fun o d os => Calls.regrown_of ((hash_any (mkS (numT nn)) (grow (redrawn ((w1.setCell ⟨w.heap.size, 1, none⟩ (.int .i64 0)).alloc o) d) os) ((HE.out o).kept (below_regrown _ d os)) (by rw [mkS_size]; omega)).mono fun e w' ⟨he, hw⟩ => ⟨he, hw ▸ Below.refl _ _⟩)
        rw [mkS_toList] at hcT hcH
        have CT := Lib.hid hcT
        have CH := Lib.hid hcH
        clear hcT hcH
        by_cases ht : Lib.trimSpaceD (numT nn) = (numT nn)
        ·rw [ht] at CT
         have HT := Lib.hid ht
         clear ht
         cases hh : Lib.contains (numT nn) [35]
         ·rw [hh] at CH
          have HH := Lib.hid hh
          clear hh
          go_wp2
          refine wp_region_quiet_below (by kernel_rfl) (by kernel_rfl) ?_
          repeat (first | go_big_quiet_step ((first | exact CT.out _ _ _ | exact CH.out _ _ _)) | quiet_step ((first | exact CT.out _ _ _ | exact CH.out _ _ _)))
          refine wpQuiet_nil ?_
          intro _ hw'
          obtain ⟨⟨dq, osq⟩, hw''⟩ := hw'
          subst hw''
          go_wp2
          go_ret2
          refine ⟨spell_yes ((spellP_ok (by rw [hS]; exact HL.out) (by rw [hS]; exact hlen) rfl (.inl (by rw [hS]; exact HT.out)) (by rw [hS]; exact HH.out)).trans (by rw [hS])), ((below_set hbel (Nat.le_refl _) _).alloc (by have := hbel.size; simp; omega) _).trans ((below_regrown _ _ _).mono (by have := hbel.size; simp; omega))⟩
         ·rw [hh] at CH
          have HH := Lib.hid hh
          clear hh
          go_wp2
          refine wp_region_quiet_below (by kernel_rfl) (by kernel_rfl) ?_
          repeat (first | go_big_quiet_step ((first | exact CT.out _ _ _ | exact CH.out _ _ _)) | quiet_step ((first | exact CT.out _ _ _ | exact CH.out _ _ _)))
          refine wpQuiet_nil ?_
          intro _ hw'
          obtain ⟨⟨dq, osq⟩, hw''⟩ := hw'
          subst hw''
          go_wp2
          go_ret2
          refine ⟨spell_no (spellP_hash (by rw [hS]; exact HL.out) (by rw [hS]; exact HH.out)), ((below_set hbel (Nat.le_refl _) _).alloc (by have := hbel.size; simp; omega) _).trans ((below_regrown _ _ _).mono (by have := hbel.size; simp; omega))⟩
        ·have ht2 := mkS_ne ht
         have ht3 : ((mkS (Lib.trimSpaceD (numT nn))).toList == (mkS (numT nn)).toList) = false := by rw [beq_eq_false_iff_ne]; exact ht2
         have HF2 := Lib.hid (spell_no (spellP_trim (t := ⟨2, pl, wd, nn⟩) (by rw [hS]; exact HL.out) (by rw [hS]; exact ht) hk4))
         clear ht CH
         generalize Lib.trimSpaceD (numT nn) = T at *
         go_wp2
         refine wp_region_quiet_below (by kernel_rfl) (by kernel_rfl) ?_
         repeat (first | go_big_quiet_step ((exact CT.out _ _ _)) | quiet_step ((exact CT.out _ _ _)))
         refine wpQuiet_nil ?_
         intro _ hw'
         obtain ⟨⟨dq, osq⟩, hw''⟩ := hw'
         subst hw''
         go_wp2
         go_ret2
         refine ⟨HF2.out, ((below_set hbel (Nat.le_refl _) _).alloc (by have := hbel.size; simp; omega) _).trans ((below_regrown _ _ _).mono (by have := hbel.size; simp; omega))⟩
       ·go_wp2
        refine wp_region_quiet_below (by kernel_rfl) (by kernel_rfl) ?_
        repeat (first | go_big_quiet_step (fail) | quiet_step (fail))
        refine wpQuiet_nil ?_
        intro _ hw'
        obtain ⟨⟨dq, osq⟩, hw''⟩ := hw'
        subst hw''
        go_wp2
        go_ret2
        refine ⟨spell_no (spellP_ne (by rw [hS]; exact HL.out) (by intro e; injection e with e0 e1 e2 e3; exact q3 e3)), ((below_set hbel (Nat.le_refl _) _).alloc (by have := hbel.size; simp; omega) _).trans ((below_regrown _ _ _).mono (by have := hbel.size; simp; omega))⟩
      ·have q2' := mkS_ne q2
       go_wp2
       refine wp_region_quiet_below (by kernel_rfl) (by kernel_rfl) ?_
       repeat (first | go_big_quiet_step (fail) | quiet_step (fail))
       refine wpQuiet_nil ?_
       intro _ hw'
       obtain ⟨⟨dq, osq⟩, hw''⟩ := hw'
       subst hw''
       go_wp2
       go_ret2
       refine ⟨spell_no (spellP_ne (by rw [hS]; exact HL.out) (by intro e; injection e with e0 e1 e2 e3; exact q2 e2)), ((below_set hbel (Nat.le_refl _) _).alloc (by have := hbel.size; simp; omega) _).trans ((below_regrown _ _ _).mono (by have := hbel.size; simp; omega))⟩
     ·go_wp2
      refine wp_region_quiet_below (by kernel_rfl) (by kernel_rfl) ?_
      repeat (first | go_big_quiet_step (fail) | quiet_step (fail))
      refine wpQuiet_nil ?_
      intro _ hw'
      obtain ⟨⟨dq, osq⟩, hw''⟩ := hw'
      subst hw''
      go_wp2
      go_ret2
      refine ⟨spell_no (spellP_ne (by rw [hS]; exact HL.out) (by intro e; injection e with e0 e1 e2 e3; exact q1 e1)), ((below_set hbel (Nat.le_refl _) _).alloc (by have := hbel.size; simp; omega) _).trans ((below_regrown _ _ _).mono (by have := hbel.size; simp; omega))⟩
    ·go_wp2
     refine wp_region_quiet_below (by kernel_rfl) (by kernel_rfl) ?_
     repeat (first | go_big_quiet_step (fail) | quiet_step (fail))
     refine wpQuiet_nil ?_
     intro _ hw'
     obtain ⟨⟨dq, osq⟩, hw''⟩ := hw'
     subst hw''
     go_wp2
     go_ret2
     refine ⟨spell_no (spellP_ne (by rw [hS]; exact HL.out) (by intro e; injection e with e0 e1 e2 e3; exact q0 e0)), ((below_set hbel (Nat.le_refl _) _).alloc (by have := hbel.size; simp; omega) _).trans ((below_regrown _ _ _).mono (by have := hbel.size; simp; omega))⟩
 ·have hc0 : ((c : Int) == 0) = false := by rw [beq_eq_false_iff_ne]; have := lexL_bad hlex; omega
  have hbel := hbel0.trans (hb.mono hle0)
  have hfin := Lib.hid (spell_no (spellP_bad (t := ⟨2, pl, wd, nn⟩) (by rw [hS]; exact hlex)))
  clear hlex
  go_wp2
  go_ret2
  exact ⟨hfin.out, hbel.alloc (by have := hbel.size; omega) _⟩
end Go.Proofs.YtknnleiinhdklaaGreatDoor
