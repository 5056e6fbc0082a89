/-
  Walk of package lex: Spell at a line's end; Spell at any token. Condition: as for the other kinds.
-/
import Derived.Test.YtacpaabhheejdaaDoorLexE
namespace Go.Proofs.YtacpaabhheejdaaDoor
open Go.RowKit Go.Shelf Go.Sort
theorem lex_line : lexL [10] = .ok [⟨4, 0, [], 0⟩] := by rfl
set_option maxRecDepth 100000 in
set_option maxHeartbeats 4000000 in
/-- A line's end. -/
theorem Spell_line (pl nn : Int) (wd : List UInt8) (w : World) (hE : Env w) :
    Calls Tryd.prog 15 #[.agg #[.int .i64 4, .int .i64 pl, .string (mkS wd), .int .i64 nn]] w (SpellPost ⟨4, pl, wd, nn⟩ w) := by
  unfold SpellPost
  have hS : spellS ⟨4, pl, wd, nn⟩ = [10] := by simp [spellS]
  have hL := Lex_any ⟨#[10]⟩
  rw [show (⟨#[10]⟩ : ByteArray).data.toList = [10] from rfl] at hL
  have HLx := Lib.hid hL
  clear hL
  have hbel0 : ∀ o, Below w.heap.size w (w.alloc o) := fun o => (Below.refl _ _).alloc (Nat.le_refl _) o
  have hle0 : ∀ o, w.heap.size ≤ (w.alloc o).heap.size := fun o => by simp
  go_enter Tryd.func15, Tryd.ntmps15
  go_wp2_with fail
  have hbel0 := hbel0 (.cells #[.int .i64 4, .int .i64 pl, .string (mkS wd), .int .i64 nn] 32)
  have hle0 := hle0 (.cells #[.int .i64 4, .int .i64 pl, .string (mkS wd), .int .i64 nn] 32)
  refine (HLx.out _ (by decide) (hE.kept ((Below.refl _ _).alloc (Nat.le_refl _) _)).err).mono ?_
  clear HLx
  intro e w1 hp
  obtain ⟨v, hown, hb, rfl⟩ : ∃ v, w1.ownsRow (w.alloc (.cells #[.int .i64 4, .int .i64 pl, .string (mkS wd), .int .i64 nn] 32)).heap.size 32 4 v 1 (tokCells [⟨4, 0, [], 0⟩]) ∧ Below (w.alloc (.cells #[.int .i64 4, .int .i64 pl, .string (mkS wd), .int .i64 nn] 32)).heap.size (w.alloc (.cells #[.int .i64 4, .int .i64 pl, .string (mkS wd), .int .i64 nn] 32)) w1 ∧ e = .returned (.tuple #[v, .agg #[.int .i64 0, .int .i64 0]]) := by
    rcases hp with ⟨v, toks, hlex, he, hown, hb⟩ | ⟨k, c, hlex, _⟩
    · rw [lex_line] at hlex
      injection hlex with h
      subst h
      exact ⟨v, hown, hb, he⟩
    · rw [lex_line] at hlex
      cases hlex
  have hbel := hbel0.trans (hb.mono hle0)
  obtain ⟨g, cap, rfl, hg1, hg2, hcap, _, hcell, _⟩ := own_cells hown (by simp)
  have k0 : w1.cell? ⟨g, 0, none⟩ = some (.int .i64 4) := hcell 0 (by simp)
  have k1 : w1.cell? ⟨g, 1, none⟩ = some (.int .i64 0) := hcell 1 (by simp)
  have k2 : w1.cell? ⟨g, 2, none⟩ = some (.string ⟨#[]⟩) := hcell 2 (by simp)
  have k3 : w1.cell? ⟨g, 3, none⟩ = some (.int .i64 0) := hcell 3 (by simp)
  have hg0 : w.heap.size + 1 ≤ g := by simpa using hg1
  have hlt : w.heap.size < w1.heap.size := by omega
  have b0 : w1.cell? ⟨w.heap.size, 0, none⟩ = some (.int .i64 4) := by rw [hb.cell (p := ⟨w.heap.size, 0, none⟩) (by simp)]; simp
  have b1 : w1.cell? ⟨w.heap.size, 1, none⟩ = some (.int .i64 pl) := by rw [hb.cell (p := ⟨w.heap.size, 1, none⟩) (by simp)]; simp
  have b2 : w1.cell? ⟨w.heap.size, 2, none⟩ = some (.string (mkS wd)) := by rw [hb.cell (p := ⟨w.heap.size, 2, none⟩) (by simp)]; simp
  have b3 : w1.cell? ⟨w.heap.size, 3, none⟩ = some (.int .i64 nn) := by rw [hb.cell (p := ⟨w.heap.size, 3, none⟩) (by simp)]; simp
  have f1 : w1.frozen? ⟨w.heap.size, 1, none⟩ = false := by rw [hb.frozen (p := ⟨w.heap.size, 1, none⟩) (by simp)]; simp
  clear hg1 hb hcell hown
  have hEW : ∀ o, Env ((w1.setCell ⟨w.heap.size, 1, none⟩ (.int .i64 0)).alloc o) := fun o => hE.kept ((below_set hbel (Nat.le_refl _) _).alloc (by have := hbel.size; simp; omega) _)
  have HE := Lib.hid hEW
  clear hEW
  have c0 := fun o => cell_regrown (set_alloc_other (u := .int .i64 0) (b := w.heap.size) (i := 1) o hg2 (.inl (by omega)) k0)
  have c1 := fun o => cell_regrown (set_alloc_other (u := .int .i64 0) (b := w.heap.size) (i := 1) o hg2 (.inl (by omega)) k1)
  have c2 := fun o => cell_regrown (set_alloc_other (u := .int .i64 0) (b := w.heap.size) (i := 1) o hg2 (.inl (by omega)) k2)
  have c3 := fun o => cell_regrown (set_alloc_other (u := .int .i64 0) (b := w.heap.size) (i := 1) o hg2 (.inl (by omega)) k3)
  have d0 := fun o => cell_regrown (set_alloc_other (u := .int .i64 0) (b := w.heap.size) (i := 1) o hlt (.inr (by omega)) b0)
  have d1 := fun o => cell_regrown (set_alloc_same (u := .int .i64 0) o hlt b1)
  have d2 := fun o => cell_regrown (set_alloc_other (u := .int .i64 0) (b := w.heap.size) (i := 1) o hlt (.inr (by omega)) b2)
  have d3 := fun o => cell_regrown (set_alloc_other (u := .int .i64 0) (b := w.heap.size) (i := 1) o hlt (.inr (by omega)) b3)
  by_cases q2 : wd = []
  · subst q2
    by_cases q3 : nn = 0
    · subst q3
      have me : (mkS []).toList = [] := by rw [ByteArray.toList_eq]; rfl
      have hcT := fun o d os => Calls.regrown_of (trim_any ⟨#[10]⟩ (grow (redrawn ((w1.setCell ⟨w.heap.size, 1, none⟩ (.int .i64 0)).alloc o) d) os) ((HE.out o).kept (below_regrown _ d os)) (by decide))
      have hcH := fun o d os => Calls.regrown_of ((hash_any ⟨#[10]⟩ (grow (redrawn ((w1.setCell ⟨w.heap.size, 1, none⟩ (.int .i64 0)).alloc o) d) os) ((HE.out o).kept (below_regrown _ d os)) (by decide)).mono fun e w' ⟨he, hw⟩ => ⟨he, hw ▸ Below.refl _ _⟩)
      rw [show (⟨#[10]⟩ : ByteArray).data.toList = [10] from rfl, show Lib.trimSpaceD [10] = [] by decide +kernel] at hcT
      rw [show (⟨#[10]⟩ : ByteArray).data.toList = [10] from rfl, show Lib.contains [10] [35] = false by decide] at hcH
      have CT := Lib.hid hcT
      have CH := Lib.hid hcH
      clear hcT hcH
      go_wp2
      refine wp_region_quiet_below (by kernel_rfl) (by kernel_rfl) ?_
      repeat (first | go_big_quiet_step ((first | exact CT.out _ _ _ | exact CH.out _ _ _)) | quiet_step ((first | exact CT.out _ _ _ | exact CH.out _ _ _)))
      refine wpQuiet_nil ?_
      intro _ hw'
      obtain ⟨⟨dq, osq⟩, hw''⟩ := hw'
      subst hw''
      go_wp2
      go_ret2
      refine ⟨spell_yes ((spellP_ok (by rw [hS]; exact lex_line) (by rw [hS]; decide) rfl (.inr rfl) (by rw [hS]; decide)).trans (by rw [hS])), ((below_set hbel (Nat.le_refl _) _).alloc (by have := hbel.size; simp; omega) _).trans ((below_regrown _ _ _).mono (by have := hbel.size; simp; omega))⟩
    · have q3' : ¬ (0 : Int) = nn := fun e => q3 e.symm
      go_wp2
      refine wp_region_quiet_below (by kernel_rfl) (by kernel_rfl) ?_
      repeat (first | go_big_quiet_step (fail) | quiet_step (fail))
      refine wpQuiet_nil ?_
      intro _ hw'
      obtain ⟨⟨dq, osq⟩, hw''⟩ := hw'
      subst hw''
      go_wp2
      go_ret2
      refine ⟨spell_no (spellP_ne (by rw [hS]; exact lex_line) (by intro e; injection e with e0 e1 e2 e3; exact q3' e3)), ((below_set hbel (Nat.le_refl _) _).alloc (by have := hbel.size; simp; omega) _).trans ((below_regrown _ _ _).mono (by have := hbel.size; simp; omega))⟩
  · have q2' : ¬ [] = (mkS wd).toList := fun e => q2 (by rw [ByteArray.toList_eq, mkS_toList] at e; exact e.symm)
    have q2'' : ¬ (mkS wd).toList = [] := fun e => q2' e.symm
    go_wp2
    refine wp_region_quiet_below (by kernel_rfl) (by kernel_rfl) ?_
    repeat (first | go_big_quiet_step (fail) | quiet_step (fail))
    refine wpQuiet_nil ?_
    intro _ hw'
    obtain ⟨⟨dq, osq⟩, hw''⟩ := hw'
    subst hw''
    go_wp2
    go_ret2
    refine ⟨spell_no (spellP_ne (by rw [hS]; exact lex_line) (by intro e; injection e with e0 e1 e2 e3; exact q2 e2.symm)), ((below_set hbel (Nat.le_refl _) _).alloc (by have := hbel.size; simp; omega) _).trans ((below_regrown _ _ _).mono (by have := hbel.size; simp; omega))⟩

/-- Any token. -/
theorem Spell_any (t : Tok) (w : World) (hE : Env w) (ht : t.ok) : Calls Tryd.prog 15 #[t.val] w (SpellPost t w) := by
  obtain ⟨kd, pl, wd, nn⟩ := t
  obtain ⟨h0, h1, h2⟩ := ht
  by_cases k2 : kd = 2
  · subst k2
    exact Spell_number pl nn wd w hE h0 h1
  · by_cases k4 : kd = 4
    · subst k4
      exact Spell_line pl nn wd w hE
    · exact Spell_word kd pl nn wd w hE h2 k2 k4
end Go.Proofs.YtacpaabhheejdaaDoor
