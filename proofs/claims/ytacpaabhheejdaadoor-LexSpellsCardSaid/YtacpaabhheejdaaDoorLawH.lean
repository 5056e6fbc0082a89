/-
  Walk of the law LexSpells. Condition: Go's own variables hold what their initialisers lay.
-/
import Derived.Test.YtacpaabhheejdaaDoorLexM
import Derived.Test.YtacpaabhheejdaaDoorLawA
namespace Go.Proofs.YtacpaabhheejdaaDoor
open Go.RowKit Go.Shelf Go.Sort

set_option maxRecDepth 100000 in
set_option maxHeartbeats 4000000 in
theorem Spells_any (t : Tok) (w : World) (ht : t.ok) (hE : Env w) : Calls Tryd.prog 4 #[t.val] w fun e w' => e = .returned (.bool true) ∧ Below w.heap.size w w' := by
  have S := Lib.hid (fun w h => shown_any w h)
  have A := Lib.hid (fun w h => Spell_any t w h ht)
  have B := Lib.hid (fun w => RSpell_any t w ht)
  unfold SpellPost at A
  unfold RSpellPost at B
  rw [spellR_eq t ht.1 ht.2.1] at B
  obtain ⟨kd, pl, wd, nn⟩ := t
  unfold Tok.val at *
  clear ht
  generalize spellP ⟨kd, pl, wd, nn⟩ = r at *
  obtain ⟨l, is⟩ := r
  dsimp only at *
  generalize mkS wd = s at *
  generalize mkS l = q at *
  have hE0 : ∀ o, Env (w.alloc o) := fun o => hE.kept ((Below.refl _ _).alloc (Nat.le_refl _) o)
  have HE := Lib.hid hE0
  clear hE0
  go_enter Tryd.func4, Tryd.ntmps4
  go_wp2_with fail
  refine (S.out _ (HE.out _)).mono ?_
  rintro e w1 ⟨rfl, hb⟩
  have e1 : Below w.heap.size w w1 := ((Below.refl _ _).alloc (Nat.le_refl _) _).trans (hb.mono (by simp))
  have a0 : w1.cell? ⟨w.heap.size, 0, none⟩ = some (.int .i64 kd) := by rw [hb.cell (p := ⟨w.heap.size, 0, none⟩) (by simp)]; simp
  have a1 : w1.cell? ⟨w.heap.size, 1, none⟩ = some (.int .i64 pl) := by rw [hb.cell (p := ⟨w.heap.size, 1, none⟩) (by simp)]; simp
  have a2 : w1.cell? ⟨w.heap.size, 2, none⟩ = some (.string s) := by rw [hb.cell (p := ⟨w.heap.size, 2, none⟩) (by simp)]; simp
  have a3 : w1.cell? ⟨w.heap.size, 3, none⟩ = some (.int .i64 nn) := by rw [hb.cell (p := ⟨w.heap.size, 3, none⟩) (by simp)]; simp
  have hlt : w.heap.size < w1.heap.size := by have := hb.size; simp at this; omega
  clear hb
  go_wp2_with fail
  refine (A.out _ (hE.kept e1)).mono ?_
  rintro e w2 ⟨rfl, hb⟩
  have e2 : Below w.heap.size w w2 := e1.trans (hb.mono e1.size)
  have b0 := (hb.cell (p := ⟨w.heap.size, 0, none⟩) hlt).trans a0
  have b1 := (hb.cell (p := ⟨w.heap.size, 1, none⟩) hlt).trans a1
  have b2 := (hb.cell (p := ⟨w.heap.size, 2, none⟩) hlt).trans a2
  have b3 := (hb.cell (p := ⟨w.heap.size, 3, none⟩) hlt).trans a3
  clear hb a0 a1 a2 a3
  go_wp2_with fail
  refine (B.out _).mono ?_
  rintro e w3 ⟨rfl, hb⟩
  have e3 : Below w.heap.size w w3 := e2.trans (hb.mono e2.size)
  clear hb b0 b1 b2 b3
  go_wp2
  go_ret
  exact ⟨by first | rfl | (cases is <;> rfl), e3⟩
end Go.Proofs.YtacpaabhheejdaaDoor
