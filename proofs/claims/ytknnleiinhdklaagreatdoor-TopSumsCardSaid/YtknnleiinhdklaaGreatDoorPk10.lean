/-
  Walk of package lex: Spell at a line's end; Spell at any token. Condition: as for the other kinds.   Walks of package parse: two, one, verb, Verb, Name. Condition: a text is no longer than a string may be; for Name: strconv.ErrRange holds an error.   Walk of package parse: Name. Condition: a text is no longer than a string may be; strconv.ErrRange holds an error.   Walks of package parse: a line's at, peek, fault. Condition: the line lies in memory, its tokens too.
-/
import Derived.Lib.QuietBelow
import Derived.BigQuiet
import Derived.StillTailTactics
import Derived.Deep.QuietTactic
import Derived.RegionTactic
import Derived.BigRegion
import Derived.Test.YtknnleiinhdklaaGreatDoorPk03
import Derived.Test.YtknnleiinhdklaaGreatDoorPk04
import Derived.Test.YtknnleiinhdklaaGreatDoorPk06
import Derived.Test.YtknnleiinhdklaaGreatDoorPk09
namespace Go.Proofs.YtknnleiinhdklaaGreatDoor
section
open Go.RowKit Go.Shelf Go.Sort
theorem lex_line : lexL [10] = .ok [⟨4, 0, [], 0⟩] := by rfl
set_option maxRecDepth 100000 in
set_option maxHeartbeats 4000000 in
/-- A line's end. -/
theorem Spell_line (pl nn : Int) (wd : List UInt8) (w : World) (hE : Env w) :
  Calls Tryz.prog 115 #[.agg #[.int .i64 4, .int .i64 pl, .string (mkS wd), .int .i64 nn]] w (SpellPost ⟨4, pl, wd, nn⟩ w) := by
 unfold SpellPost
 have hS : spellS ⟨4, pl, wd, nn⟩ = [10] := by simp [spellS]
 have hL := Lex_any ⟨#[10]⟩
 rw [show (⟨#[10]⟩ : ByteArray).data.toList = [10] from rfl] at hL
 have HLx := Lib.hid hL
 clear hL
 have hbel0 : ∀ o, Below w.heap.size w (w.alloc o) := fun o => (Below.refl _ _).alloc (Nat.le_refl _) o
 have hle0 : ∀ o, w.heap.size ≤ (w.alloc o).heap.size := fun o => by simp
 go_enter Tryz.func115, Tryz.ntmps115
 go_wp2_with fail
 have hbel0 := hbel0 (.cells #[.int .i64 4, .int .i64 pl, .string (mkS wd), .int .i64 nn] 60)
 have hle0 := hle0 (.cells #[.int .i64 4, .int .i64 pl, .string (mkS wd), .int .i64 nn] 60)
 refine (HLx.out _ (by decide) (hE.kept ((Below.refl _ _).alloc (Nat.le_refl _) _)).err).mono ?_
 clear HLx
 intro e w1 hp
 obtain ⟨v, hown, hb, rfl⟩ : ∃ v, w1.ownsRow (w.alloc (.cells #[.int .i64 4, .int .i64 pl, .string (mkS wd), .int .i64 nn] 60)).heap.size 60 4 v 1 (tokCells [⟨4, 0, [], 0⟩]) ∧ Below (w.alloc (.cells #[.int .i64 4, .int .i64 pl, .string (mkS wd), .int .i64 nn] 60)).heap.size (w.alloc (.cells #[.int .i64 4, .int .i64 pl, .string (mkS wd), .int .i64 nn] 60)) w1 ∧ e = .returned (.tuple #[v, .agg #[.int .i64 0, .int .i64 0]]) := by
  rcases hp with ⟨v, toks, hlex, he, hown, hb⟩ | ⟨k, c, hlex, _⟩
  ·rw [lex_line] at hlex
   injection hlex with h
   subst h
   exact ⟨v, hown, hb, he⟩
  ·rw [lex_line] at hlex
   cases hlex
 have hbel := hbel0.trans (hb.mono hle0)
 obtain ⟨g, cap, rfl, hg1, hg2, hcap, _, hcell, _⟩ := own_cells hown (by simp)
 have k0 : w1.cell? ⟨g, 0, none⟩ = some (.int .i64 4) := hcell 0 (by simp)
 have k1 : w1.cell? ⟨g, 1, none⟩ = some (.int .i64 0) := hcell 1 (by simp)
 have k2 : w1.cell? ⟨g, 2, none⟩ = some (.string ⟨#[]⟩) := hcell 2 (by simp)
 have k3 : w1.cell? ⟨g, 3, none⟩ = some (.int .i64 0) := hcell 3 (by simp)
 have hg0 : w.heap.size + 1 ≤ g := by simpa using hg1
 have hlt : w.heap.size < w1.heap.size := by omega
 have b0 : w1.cell? ⟨w.heap.size, 0, none⟩ = some (.int .i64 4) := by rw [hb.cell (p := ⟨w.heap.size, 0, none⟩) (by simp)]; simp
 have b1 : w1.cell? ⟨w.heap.size, 1, none⟩ = some (.int .i64 pl) := by rw [hb.cell (p := ⟨w.heap.size, 1, none⟩) (by simp)]; simp
 have b2 : w1.cell? ⟨w.heap.size, 2, none⟩ = some (.string (mkS wd)) := by rw [hb.cell (p := ⟨w.heap.size, 2, none⟩) (by simp)]; simp
 have b3 : w1.cell? ⟨w.heap.size, 3, none⟩ = some (.int .i64 nn) := by rw [hb.cell (p := ⟨w.heap.size, 3, none⟩) (by simp)]; simp
 have f1 : w1.frozen? ⟨w.heap.size, 1, none⟩ = false := by rw [hb.frozen (p := ⟨w.heap.size, 1, none⟩) (by simp)]; simp
 clear hg1 hb hcell hown
 have hEW : ∀ o, Env ((w1.setCell ⟨w.heap.size, 1, none⟩ (.int .i64 0)).alloc o) := fun o => hE.kept ((below_set hbel (Nat.le_refl _) _).alloc (by have := hbel.size; simp; omega) _)
 have HE := Lib.hid hEW
 clear hEW
 have c0 := fun o => cell_regrown (set_alloc_other (u := .int .i64 0) (b := w.heap.size) (i := 1) o hg2 (.inl (by omega)) k0)
 have c1 := fun o => cell_regrown (set_alloc_other (u := .int .i64 0) (b := w.heap.size) (i := 1) o hg2 (.inl (by omega)) k1)
 have c2 := fun o => cell_regrown (set_alloc_other (u := .int .i64 0) (b := w.heap.size) (i := 1) o hg2 (.inl (by omega)) k2)
 have c3 := fun o => cell_regrown (set_alloc_other (u := .int .i64 0) (b := w.heap.size) (i := 1) o hg2 (.inl (by omega)) k3)
 have d0 := fun o => cell_regrown (set_alloc_other (u := .int .i64 0) (b := w.heap.size) (i := 1) o hlt (.inr (by omega)) b0)
 have d1 := fun o => cell_regrown (set_alloc_same (u := .int .i64 0) o hlt b1)
 have d2 := fun o => cell_regrown (set_alloc_other (u := .int .i64 0) (b := w.heap.size) (i := 1) o hlt (.inr (by omega)) b2)
 have d3 := fun o => cell_regrown (set_alloc_other (u := .int .i64 0) (b := w.heap.size) (i := 1) o hlt (.inr (by omega)) b3)
 by_cases q2 : wd = []
 ·subst q2
  by_cases q3 : nn = 0
  ·subst q3
   have me : (mkS []).toList = [] := by rw [ByteArray.toList_eq]; rfl
   have hcT := fun o d os => Calls.regrown_of (trim_any ⟨#[10]⟩ (grow (redrawn ((w1.setCell ⟨w.heap.size, 1, none⟩ (.int .i64 0)).alloc o) d) os) ((HE.out o).kept (below_regrown _ d os)) (by decide))
   have hcH := fun o d os => Calls.regrown_of ((hash_any ⟨#[10]⟩ (grow (redrawn ((w1.setCell ⟨w.heap.size, 1, none⟩ (.int .i64 0)).alloc o) d) os) ((HE.out o).kept (below_regrown _ d os)) (by decide)).mono fun e w' ⟨he, hw⟩ => ⟨he, hw ▸ Below.refl _ _⟩)
   rw [show (⟨#[10]⟩ : ByteArray).data.toList = [10] from rfl, show Lib.trimSpaceD [10] = [] by decide +kernel] at hcT
   rw [show (⟨#[10]⟩ : ByteArray).data.toList = [10] from rfl, show Lib.contains [10] [35] = false by decide] at hcH
   have CT := Lib.hid hcT
   have CH := Lib.hid hcH
   clear hcT hcH
   go_wp2
   refine wp_region_quiet_below (by kernel_rfl) (by kernel_rfl) ?_
   repeat (first | go_big_quiet_step ((first | exact CT.out _ _ _ | exact CH.out _ _ _)) | quiet_step ((first | exact CT.out _ _ _ | exact CH.out _ _ _)))
   refine wpQuiet_nil ?_
   intro _ hw'
   obtain ⟨⟨dq, osq⟩, hw''⟩ := hw'
   subst hw''
   go_wp2
   go_ret2
   refine ⟨spell_yes ((spellP_ok (by rw [hS]; exact lex_line) (by rw [hS]; decide) rfl (.inr rfl) (by rw [hS]; decide)).trans (by rw [hS])), ((below_set hbel (Nat.le_refl _) _).alloc (by have := hbel.size; simp; omega) _).trans ((below_regrown _ _ _).mono (by have := hbel.size; simp; omega))⟩
  ·have q3' : ¬ (0 : Int) = nn := fun e => q3 e.symm
   go_wp2
   refine wp_region_quiet_below (by kernel_rfl) (by kernel_rfl) ?_
   repeat (first | go_big_quiet_step (fail) | quiet_step (fail))
   refine wpQuiet_nil ?_
   intro _ hw'
   obtain ⟨⟨dq, osq⟩, hw''⟩ := hw'
   subst hw''
   go_wp2
   go_ret2
   refine ⟨spell_no (spellP_ne (by rw [hS]; exact lex_line) (by intro e; injection e with e0 e1 e2 e3; exact q3' e3)), ((below_set hbel (Nat.le_refl _) _).alloc (by have := hbel.size; simp; omega) _).trans ((below_regrown _ _ _).mono (by have := hbel.size; simp; omega))⟩
 ·have q2' : ¬ [] = (mkS wd).toList := fun e => q2 (by rw [ByteArray.toList_eq, mkS_toList] at e; exact e.symm)
  have q2'' : ¬ (mkS wd).toList = [] := fun e => q2' e.symm
  go_wp2
  refine wp_region_quiet_below (by kernel_rfl) (by kernel_rfl) ?_
  repeat (first | go_big_quiet_step (fail) | quiet_step (fail))
  refine wpQuiet_nil ?_
  intro _ hw'
  obtain ⟨⟨dq, osq⟩, hw''⟩ := hw'
  subst hw''
  go_wp2
  go_ret2
  refine ⟨spell_no (spellP_ne (by rw [hS]; exact lex_line) (by intro e; injection e with e0 e1 e2 e3; exact q2 e2.symm)), ((below_set hbel (Nat.le_refl _) _).alloc (by have := hbel.size; simp; omega) _).trans ((below_regrown _ _ _).mono (by have := hbel.size; simp; omega))⟩
/-- Any token. -/
theorem Spell_any (t : Tok) (w : World) (hE : Env w) (ht : t.ok) : Calls Tryz.prog 115 #[t.val] w (SpellPost t w) := by
 obtain ⟨kd, pl, wd, nn⟩ := t
 obtain ⟨h0, h1, h2⟩ := ht
 by_cases k2 : kd = 2
 ·subst k2
  exact Spell_number pl nn wd w hE h0 h1
 ·by_cases k4 : kd = 4
  ·subst k4
   exact Spell_line pl nn wd w hE
  ·exact Spell_word kd pl nn wd w hE h2 k2 k4
end
section
open Go.RowKit Go.Shelf Go.Sort
set_option maxHeartbeats 1000000 in
set_option maxRecDepth 100000 in
theorem two_any (s : ByteArray) (w : World) : Calls Tryz.prog 79 #[.string s] w fun e w' => e = .returned (.int .u8 (twoF s.data.toList)) ∧ w = w' := by
 go_enter Tryz.func79, Tryz.ntmps79
 go_wp2
 all_goals
  go_ret
  refine ⟨ret_int ?_, rfl⟩
  simp only [ByteArray.toList_eq, beq_iff_eq, beq_eq_false_iff_ne, ne_eq] at *
  simp [twoF, *]
set_option maxHeartbeats 2000000 in
set_option maxRecDepth 100000 in
theorem one_any (s : ByteArray) (w : World) : Calls Tryz.prog 78 #[.string s] w fun e w' => e = .returned (.int .u8 (oneF s.data.toList)) ∧ w = w' := by
 go_enter Tryz.func78, Tryz.ntmps78
 go_wp2_with (go_at_call 79; refine (two_any _ _).mono ?_; rintro e w' ⟨rfl, rfl⟩)
 all_goals
  go_ret
  refine ⟨ret_int ?_, rfl⟩
  simp only [ByteArray.toList_eq, beq_iff_eq, beq_eq_false_iff_ne, ne_eq] at *
  first
   | (exfalso; simp_all; done)
   | simp [oneF, *]
theorem two_lt (s : List UInt8) : twoF s ≤ 40 := by
 rcases verb_cases s with h | ⟨h, _⟩
 ·have H : ∀ s ∈ verbTexts, twoF s ≤ 40 := by decide
  exact H s h
 ·omega
theorem one_lt (s : List UInt8) : oneF s ≤ 40 := by
 rcases verb_cases s with h | ⟨_, h, _⟩
 ·have H : ∀ s ∈ verbTexts, oneF s ≤ 40 := by decide
  exact H s h
 ·omega
theorem verb_any (s : ByteArray) (w : World) : Calls Tryz.prog 50 #[.string s] w fun e w' => e = .returned (.bool (verbB s.data.toList)) ∧ w = w' := by
 have H1 := Lib.hid (fun w => one_any s w)
 have H2 := Lib.hid (fun w => two_any s w)
 unfold verbB
 have l1 := one_lt s.data.toList
 have l2 := two_lt s.data.toList
 generalize oneF s.data.toList = a at *
 generalize twoF s.data.toList = b at *
 by_cases ha : a = 0
 ·have h1 : ((a : Int) != 0) = false := by rw [ha]; rfl
  subst ha
  go_enter Tryz.func50, Tryz.ntmps50
  go_wp2_with (first | (go_at_call 78; refine (H1.out _).mono ?_; rintro e w' ⟨rfl, rfl⟩) | (go_at_call 79; refine (H2.out _).mono ?_; rintro e w' ⟨rfl, rfl⟩))
  go_ret
  refine ⟨ret_bool ?_, rfl⟩
  rw [Bool.eq_iff_iff]
  simp
 ·have h1 : ((a : Int) != 0) = true := by rw [bne_iff_ne]; omega
  go_enter Tryz.func50, Tryz.ntmps50
  go_wp2_with (first | (go_at_call 78; refine (H1.out _).mono ?_; rintro e w' ⟨rfl, rfl⟩) | (go_at_call 79; refine (H2.out _).mono ?_; rintro e w' ⟨rfl, rfl⟩))
  go_ret
  refine ⟨ret_bool ?_, rfl⟩
  simp [ha]
theorem Verb_any (s : ByteArray) (two : Bool) (w : World) : Calls Tryz.prog 80 #[.string s, .bool two] w fun e w' => e = .returned (.tuple #[.int .u8 (verbF s.data.toList two), .bool (verbF s.data.toList two != 0)]) ∧ w = w' := by
 have H1 := Lib.hid (fun w => one_any s w)
 have H2 := Lib.hid (fun w => two_any s w)
 unfold verbF
 have l1 := one_lt s.data.toList
 have l2 := two_lt s.data.toList
 generalize oneF s.data.toList = a at *
 generalize twoF s.data.toList = b at *
 cases two
 ·go_enter Tryz.func80, Tryz.ntmps80
  go_wp2_with (first | (go_at_call 78; refine (H1.out _).mono ?_; rintro e w' ⟨rfl, rfl⟩) | (go_at_call 79; refine (H2.out _).mono ?_; rintro e w' ⟨rfl, rfl⟩))
  go_ret2
  refine ⟨?_, rfl⟩
  have : ((a : Int) != 0) = (a != 0) := by rw [Bool.eq_iff_iff]; simp
  rw [← this]
  rfl
 ·go_enter Tryz.func80, Tryz.ntmps80
  go_wp2_with (first | (go_at_call 78; refine (H1.out _).mono ?_; rintro e w' ⟨rfl, rfl⟩) | (go_at_call 79; refine (H2.out _).mono ?_; rintro e w' ⟨rfl, rfl⟩))
  go_ret2
  refine ⟨?_, rfl⟩
  have : ((b : Int) != 0) = (b != 0) := by rw [Bool.eq_iff_iff]; simp
  rw [← this]
  rfl
end
section
open Go.RowKit Go.Shelf Go.Sort
theorem wordIs_bad {l : List UInt8} {e : Nat × Nat} (h : lexL l = .error e) : wordIs l = false := by unfold wordIs; rw [h]
theorem wordIs_nil {l : List UInt8} (h : lexL l = .ok []) : wordIs l = false := by unfold wordIs; rw [h]
theorem wordIs_two {l : List UInt8} {x y : Tok} {r : List Tok} (h : lexL l = .ok (x :: y :: r)) : wordIs l = false := by unfold wordIs; rw [h]
theorem wordIs_one {l : List UInt8} {x : Tok} (h : lexL l = .ok [x]) : wordIs l = (x.kind == 1 && x.word == l) := by unfold wordIs; rw [h]
set_option maxHeartbeats 1000000 in
set_option maxRecDepth 100000 in
theorem Name_any (s : ByteArray) (w : World) (hs : s.size ≤ maxLen) (hE : ErrIs w) : Calls Tryz.prog 30 #[.string s] w fun e w' => e = .returned (.bool (nameB s.data.toList)) ∧ Below w.heap.size w w' := by
 have V := Lib.hid (fun w => verb_any s w)
 have L := Lib.hid (fun w h => Lex_any s w hs h)
 have htl : s.toList = s.data.toList := ByteArray.toList_eq s
 cases hv : verbB s.data.toList
 ·by_cases h1 : s.data.toList = [105, 110]
  ·have c1 : (s.toList == [105, 110]) = true := by rw [htl, h1]; rfl
   have HF : Hid (nameB s.data.toList = false) := by apply Lib.hid; unfold nameB; rw [h1]; simp
   have HV := Lib.hid hv
   clear h1 htl hv
   go_enter Tryz.func30, Tryz.ntmps30
   go_wp2_with fail
   refine (V.out _).mono ?_
   rintro e w1 ⟨rfl, rfl⟩
   rw [HV.out]
   go_wp2
   go_ret
   exact ⟨by rw [HF.out]; rfl, Below.refl _ _⟩
  ·have c1 : (s.toList == [105, 110]) = false := by rw [htl, beq_eq_false_iff_ne]; exact h1
   by_cases h2 : s.data.toList = [111, 117, 116]
   ·have c2 : (s.toList == [111, 117, 116]) = true := by rw [htl, h2]; rfl
    have HF : Hid (nameB s.data.toList = false) := by apply Lib.hid; unfold nameB; rw [h2]; simp
    have HV := Lib.hid hv
    clear h1 h2 htl hv
    go_enter Tryz.func30, Tryz.ntmps30
    go_wp2_with fail
    refine (V.out _).mono ?_
    rintro e w1 ⟨rfl, rfl⟩
    rw [HV.out]
    go_wp2
    go_ret
    exact ⟨by rw [HF.out]; rfl, Below.refl _ _⟩
   ·have c2 : (s.toList == [111, 117, 116]) = false := by rw [htl, beq_eq_false_iff_ne]; exact h2
    have HF : Hid (nameB s.data.toList = wordIs s.data.toList) := by apply Lib.hid; unfold nameB; rw [hv]; simp [h1, h2]
    have HV := Lib.hid hv
    have HT := Lib.hid htl
    clear h1 h2 htl hv
    go_enter Tryz.func30, Tryz.ntmps30
    go_wp2_with fail
    refine (V.out _).mono ?_
    rintro e w1 ⟨rfl, rfl⟩
    rw [HV.out]
    go_wp2_with fail
    refine (L.out _ hE).mono ?_
    intro e w1 hp
    rcases hp with ⟨v, toks, hlex, rfl, hown, hb⟩ | ⟨k, c, hlex, rfl, hb⟩
    ·match toks, hlex, hown with
     | [], hlex, hown =>
      have HR := Lib.hid (HF.out.trans (wordIs_nil hlex))
      obtain ⟨a, cap, rfl⟩ := own_form hown
      clear hlex hown
      go_wp2
      go_ret
      exact ⟨by rw [HR.out]; rfl, hb.alloc hb.size _⟩
     | x :: y :: r, hlex, hown =>
      have HR := Lib.hid (HF.out.trans (wordIs_two hlex))
      obtain ⟨a, cap, rfl⟩ := own_form hown
      have hl2 : 2 ≤ (x :: y :: r).length := by simp
      clear hlex hown
      generalize (x :: y :: r).length = n at *
      have hn : ((n : Int) == 1) = false := by rw [beq_eq_false_iff_ne]; omega
      have hn' : ¬ (n : Int) = 1 := by omega
      go_wp2
      go_ret
      exact ⟨by rw [HR.out]; rfl, hb.alloc hb.size _⟩
     | [⟨kd, pl, wd, nn⟩], hlex, hown =>
      have HR := Lib.hid (HF.out.trans (wordIs_one hlex))
      obtain ⟨g, cap, rfl, hg1, hg2, hcap, _, hcell, _⟩ := own_cells hown (by simp)
      simp only [List.length_cons, List.length_nil]
      have k0 : w1.cell? ⟨g, 0, none⟩ = some (.int .i64 kd) := hcell 0 (by simp)
      have k2 : w1.cell? ⟨g, 2, none⟩ = some (.string (mkS wd)) := hcell 2 (by simp)
      clear hlex hown hcell
      by_cases hk : kd = 1
      ·have d1 : (kd == 1) = true := by rw [hk]; rfl
       by_cases hw : wd = s.data.toList
       ·have d2 : ((mkS wd).toList == s.toList) = true := by rw [hw, mkS_of]; simp
        have d2' : (mkS wd).toList = s.toList := by rw [hw, mkS_of]
        have HR2 : Hid (nameB s.data.toList = true) := by apply Lib.hid; rw [HR.out, hk, hw]; simp
        clear hk hw
        go_wp2
        go_ret
        exact ⟨by rw [HR2.out]; rfl, hb.alloc hb.size _⟩
       ·have d2' : ¬ (mkS wd).toList = s.toList := by rw [HT.out, ByteArray.toList_eq, mkS_toList]; exact hw
        have d2 : ((mkS wd).toList == s.toList) = false := by rw [beq_eq_false_iff_ne]; exact d2'
        have HR2 : Hid (nameB s.data.toList = false) := by apply Lib.hid; rw [HR.out]; simp [hw]
        clear hk hw
        go_wp2
        go_ret
        exact ⟨by rw [HR2.out]; rfl, hb.alloc hb.size _⟩
      ·have d1 : (kd == 1) = false := by rw [beq_eq_false_iff_ne]; exact hk
       have HR2 : Hid (nameB s.data.toList = false) := by apply Lib.hid; rw [HR.out, d1]; simp
       clear hk
       go_wp2
       go_ret
       exact ⟨by rw [HR2.out]; rfl, hb.alloc hb.size _⟩
    ·have HR := Lib.hid (HF.out.trans (wordIs_bad hlex))
     have hc0 : ((c : Int) == 0) = false := by rw [beq_eq_false_iff_ne]; have := lexL_bad hlex; omega
     have hc1 : ¬ (c : Int) = 0 := by have := lexL_bad hlex; omega
     clear hlex
     by_cases hk : (k : Int) = 0
     ·have hk0 : ((k : Int) == 0) = true := by rw [hk]; rfl
      go_wp2
      go_ret
      exact ⟨by rw [HR.out]; rfl, hb.alloc hb.size _⟩
     ·have hk0 : ((k : Int) == 0) = false := by rw [beq_eq_false_iff_ne]; exact hk
      go_wp2
      go_ret
      exact ⟨by rw [HR.out]; rfl, hb.alloc hb.size _⟩
 ·have HF : Hid (nameB s.data.toList = false) := by apply Lib.hid; unfold nameB; rw [hv]; simp
  have HV := Lib.hid hv
  clear htl hv
  go_enter Tryz.func30, Tryz.ntmps30
  go_wp2_with fail
  refine (V.out _).mono ?_
  rintro e w1 ⟨rfl, rfl⟩
  rw [HV.out]
  go_wp2
  go_ret
  exact ⟨by rw [HF.out]; rfl, Below.refl _ _⟩
end
section
open Go.RowKit Go.Shelf Go.Sort
theorem below_drewN' {B : Nat} {a w : World} (h : Below B a w) (n : Nat) : Below B a (w.drewN n) := h.trans ⟨rfl, rfl, rfl, Nat.le_refl _, fun _ _ => rfl⟩
/-- A line lies in block L: its tokens, the next one's number, the place of its end. -/
def LineIs (w : World) (L : Nat) (vt : Value) (k : Nat) (e : Int) : Prop := w.heap[L]? = some (.cells #[vt, .int .i64 k, .int .i64 e] 58 (0, 0))
theorem LineIs.lt {w : World} {L : Nat} {vt : Value} {k : Nat} {e : Int} (h : LineIs w L vt k e) : L < w.heap.size := (Array.getElem?_eq_some_iff.1 h).1
theorem LineIs.below {w w' : World} {L : Nat} {vt : Value} {k : Nat} {e : Int} (h : LineIs w L vt k e) (hb : Below w.heap.size w w') : LineIs w' L vt k e := (hb.block L h.lt).trans h
theorem LineIs.cells {w : World} {L : Nat} {vt : Value} {k : Nat} {e : Int} (h : LineIs w L vt k e) :
  w.cell? ⟨L, 0, none⟩ = some vt ∧ w.cell? ⟨L, 1, none⟩ = some (.int .i64 k) ∧ w.cell? ⟨L, 2, none⟩ = some (.int .i64 e) ∧ w.frozen? ⟨L, 0, none⟩ = false ∧ w.frozen? ⟨L, 1, none⟩ = false ∧ w.frozen? ⟨L, 2, none⟩ = false := by
 unfold LineIs at h
 simp [World.cell?, World.frozen?, h]
def peekT (toks : List Tok) (k : Nat) : Tok := match toks.drop k with | [] => ⟨4, 0, [], 0⟩ | t :: _ => t
theorem peek_in {toks : List Tok} {k : Nat} {t : Tok} (h : toks[k]? = some t) : peekT toks k = t := by
 obtain ⟨hk, ht⟩ := List.getElem?_eq_some_iff.1 h
 unfold peekT
 rw [List.drop_eq_getElem_cons hk, ht]
theorem peek_out {toks : List Tok} {k : Nat} (h : toks.length ≤ k) : peekT toks k = ⟨4, 0, [], 0⟩ := by
 unfold peekT
 rw [List.drop_eq_nil_of_le h]
theorem place_in {toks : List Tok} {k : Nat} {t : Tok} (e : Int) (h : toks[k]? = some t) : placeP e (toks.drop k) = t.at_ := by
 obtain ⟨hk, ht⟩ := List.getElem?_eq_some_iff.1 h
 unfold placeP
 rw [List.drop_eq_getElem_cons hk, ht]
theorem place_out {toks : List Tok} {k : Nat} (e : Int) (h : toks.length ≤ k) : placeP e (toks.drop k) = e := by
 unfold placeP
 rw [List.drop_eq_nil_of_le h]
set_option maxHeartbeats 1000000 in
set_option maxRecDepth 100000 in
theorem at_any (L : Nat) (vt : Value) (toks : List Tok) (k : Nat) (e : Int) (w : World) (hL : LineIs w L vt k e) (hT : TokS w w.heap.size vt toks) :
  Calls Tryz.prog 49 #[.pointer (some ⟨L, 0, none⟩)] w fun e' w' => e' = .returned (.int .i64 (placeP e (toks.drop k))) ∧ Below w.heap.size w w' := by
 obtain ⟨c0, c1, c2, -, -, -⟩ := hL.cells
 have hlt := hL.lt
 obtain ⟨a, cap, rfl, hc, hm, hcells⟩ := hT
 have HC := Lib.hid hcells
 clear hcells hL
 obtain ⟨n, hn⟩ : ∃ n, n = toks.length := ⟨_, rfl⟩
 rw [← hn] at hc HC c0
 unfold maxLen at hm
 by_cases hk : k < n
 ·have hk2 : (k : Int) < n := by omega
  have hk3 : decide ((k : Int) < n) = true := by rw [decide_eq_true_iff]; exact hk2
  obtain ⟨g, o, rfl, hg, hcell⟩ := HC.out (by omega)
  obtain ⟨t, ht⟩ : ∃ t, toks[k]? = some t := ⟨toks[k]'(by omega), List.getElem?_eq_getElem _⟩
  obtain ⟨d0, d1, d2, d3⟩ := hcell k t ht
  have HP := Lib.hid (place_in e ht)
  clear hcell ht d0 d2 d3 hn
  go_enter Tryz.func49, Tryz.ntmps49
  go_wp2
  go_quiet (fail)
  go_wp2
  go_quiet (fail)
  go_wp2
  go_ret
  exact ⟨by rw [HP.out]; rfl, by repeat (first | exact Below.refl _ _ | refine below_drewN' ?_ _)⟩
 ·have hk2 : ¬ (k : Int) < n := by omega
  have hk3 : decide ((k : Int) < n) = false := by rw [decide_eq_false_iff_not]; exact hk2
  have HP := Lib.hid (place_out (toks := toks) (k := k) e (by omega))
  clear hn
  go_enter Tryz.func49, Tryz.ntmps49
  go_wp2
  go_quiet (fail)
  go_wp2
  go_ret
  exact ⟨by rw [HP.out]; rfl, by repeat (first | exact Below.refl _ _ | refine below_drewN' ?_ _)⟩
set_option maxHeartbeats 1000000 in
set_option maxRecDepth 100000 in
theorem peek_any (L : Nat) (vt : Value) (toks : List Tok) (k : Nat) (e : Int) (w : World) (hL : LineIs w L vt k e) (hT : TokS w w.heap.size vt toks) :
  Calls Tryz.prog 27 #[.pointer (some ⟨L, 0, none⟩)] w fun e' w' => e' = .returned (peekT toks k).val ∧ Below w.heap.size w w' := by
 obtain ⟨c0, c1, c2, -, -, -⟩ := hL.cells
 have hlt := hL.lt
 obtain ⟨a, cap, rfl, hc, hm, hcells⟩ := hT
 have HC := Lib.hid hcells
 clear hcells hL
 obtain ⟨n, hn⟩ : ∃ n, n = toks.length := ⟨_, rfl⟩
 rw [← hn] at hc HC c0
 unfold maxLen at hm
 by_cases hk : k < n
 ·have hk2 : (k : Int) < n := by omega
  have hk3 : decide ((k : Int) < n) = true := by rw [decide_eq_true_iff]; exact hk2
  obtain ⟨g, o, rfl, hg, hcell⟩ := HC.out (by omega)
  obtain ⟨t, ht⟩ : ∃ t, toks[k]? = some t := ⟨toks[k]'(by omega), List.getElem?_eq_getElem _⟩
  obtain ⟨d0, d1, d2, d3⟩ := hcell k t ht
  have HP := Lib.hid (peek_in ht)
  obtain ⟨kd, pl, wd, nn⟩ := t
  clear hcell ht hn
  go_enter Tryz.func27, Tryz.ntmps27
  go_wp2
  go_quiet (fail)
  go_wp2
  go_region
  go_wp2
  refine bodyPost_ret (v := .agg #[.int .i64 kd, .int .i64 pl, .string (mkS wd), .int .i64 nn]) (by simp [results, Tryz.results27, go_sem]) rfl ⟨by rw [HP.out]; rfl, by repeat (first | exact Below.refl _ _ | refine below_drewN' ?_ _ | refine below_set ?_ (Nat.le_refl _) _ | refine Below.alloc ?_ (Nat.le_refl _) _)⟩
 ·have hk2 : ¬ (k : Int) < n := by omega
  have hk3 : decide ((k : Int) < n) = false := by rw [decide_eq_false_iff_not]; exact hk2
  have HP := Lib.hid (peek_out (toks := toks) (k := k) (by omega))
  clear hn
  go_enter Tryz.func27, Tryz.ntmps27
  go_wp2
  go_quiet (fail)
  go_wp2
  refine bodyPost_ret (v := .agg #[.int .i64 4, .int .i64 0, .string ⟨#[]⟩, .int .i64 0]) (by simp [results, Tryz.results27, go_sem]) rfl ⟨by rw [HP.out]; rfl, by repeat (first | exact Below.refl _ _ | refine below_drewN' ?_ _ | refine below_set ?_ (Nat.le_refl _) _ | refine Below.alloc ?_ (Nat.le_refl _) _)⟩
set_option maxHeartbeats 1000000 in
set_option maxRecDepth 100000 in
theorem fault_any (L : Nat) (vt : Value) (toks : List Tok) (k : Nat) (e : Int) (c : Int) (w : World) (hL : LineIs w L vt k e) (hT : TokS w w.heap.size vt toks) :
  Calls Tryz.prog 28 #[.pointer (some ⟨L, 0, none⟩), .int .i64 c] w fun e' w' => e' = .returned (.agg #[.int .i64 (placeP e (toks.drop k)), .int .i64 c]) ∧ Below w.heap.size w w' := by
 have HA := Lib.hid (fun wx (hb : Below w.heap.size w wx) => at_any L vt toks k e wx (hL.below hb) ((hT.below hb).mono hb.size))
 clear hL hT
 generalize placeP e (toks.drop k) = p at *
 go_enter Tryz.func28, Tryz.ntmps28
 go_wp2_with fail
 refine (HA.out _ (by exact (Below.refl _ _).alloc (Nat.le_refl _) _)).mono ?_
 rintro e1 w1 ⟨rfl, hb⟩
 have hbel : Below w.heap.size w w1 := ((Below.refl _ _).alloc (Nat.le_refl _) _).trans (hb.mono (by simp))
 have f0 : w1.frozen? ⟨w.heap.size, 0, none⟩ = false := by rw [hb.frozen (p := ⟨w.heap.size, 0, none⟩) (by simp)]; simp
 have f1 : w1.frozen? ⟨w.heap.size, 1, none⟩ = false := by rw [hb.frozen (p := ⟨w.heap.size, 1, none⟩) (by simp)]; simp
 have c0 : w1.cell? ⟨w.heap.size, 0, none⟩ = some (.int .i64 0) := by rw [hb.cell (p := ⟨w.heap.size, 0, none⟩) (by simp)]; simp
 have c1 : w1.cell? ⟨w.heap.size, 1, none⟩ = some (.int .i64 0) := by rw [hb.cell (p := ⟨w.heap.size, 1, none⟩) (by simp)]; simp
 clear hb
 go_wp2
 refine bodyPost_ret (v := .agg #[.int .i64 p, .int .i64 c]) (by simp [results, Tryz.results28, go_sem, c0, c1]) rfl ⟨rfl, by repeat (first | exact hbel | refine below_set ?_ (Nat.le_refl _) _)⟩
end
end Go.Proofs.YtknnleiinhdklaaGreatDoor
