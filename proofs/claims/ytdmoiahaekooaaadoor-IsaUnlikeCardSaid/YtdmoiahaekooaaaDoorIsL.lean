/-
  Walk of the law IsaUnlike. Condition: Go's own variables hold what their initialisers lay.
-/
import Derived.Test.YtdmoiahaekooaaaDoorIsH
namespace Go.Proofs.YtdmoiahaekooaaaDoor
open Go.RowKit Go.Shelf Go.Sort

theorem ins_ne {i j : Ins} (h : i ≠ j) : ¬ (i.op = j.op ∧ i.a = j.a ∧ i.b = j.b ∧ i.c = j.c ∧ i.imm = j.imm) := by
  rintro ⟨h1, h2, h3, h4, h5⟩
  exact h (by cases i; cases j; simp_all)
set_option maxRecDepth 100000 in
set_option maxHeartbeats 4000000 in
theorem Unlike_any (i j : Ins) (w : World) (hi : i.ok) (hj : j.ok) (hE : IsEnv w) : Calls Tryd.prog 5 #[insV i, insV j] w fun e w' => e = .returned (.bool true) ∧ Below w.heap.size w w' := by
  have HE := Lib.hid hE
  clear hE
  have HEi := Lib.hid (fun w => Encode_any i hi w)
  have HEj := Lib.hid (fun w => Encode_any j hj w)
  have HTi := Lib.hid (fun w hE => Text_any i hi w hE)
  have HTj := Lib.hid (fun w hE => Text_any j hj w hE)
  unfold EncPost at HEi HEj
  unfold TextPost at HTi HTj
  have HWI := Lib.hid (word_inj hi hj)
  have HTI := Lib.hid (fun a b => text_inj hi hj a b)
  generalize rightI i = ri at *
  generalize rightI j = rj at *
  generalize wordI i = wi at *
  generalize wordI j = wj at *
  generalize textI i = ti at *
  generalize textI j = tj at *
  clear hi hj
  have HNe := Lib.hid (fun h => ins_ne (i := i) (j := j) h)
  obtain ⟨op1, a1, b1, c1, m1⟩ := i
  obtain ⟨op2, a2, b2, c2, m2⟩ := j
  unfold insV insA at *
  dsimp only at HEi HEj HTi HTj HNe ⊢
  cases ri
  · cases rj
    · simp only [Bool.false_eq_true, if_false] at HEi HEj HTi HTj
      have HI := Lib.hid ((Blk.new w 23 (insA ⟨op1, a1, b1, c1, m1⟩) rfl).alloc (.cells (insA ⟨op2, a2, b2, c2, m2⟩) 23))
      have HJ := Lib.hid (Blk.new (w.alloc (.cells (insA ⟨op1, a1, b1, c1, m1⟩) 23)) 23 (insA ⟨op2, a2, b2, c2, m2⟩) (b := w.heap.size + 1) (by simp))
      have Z0 := Lib.hid (((Below.refl _ w).alloc (Nat.le_refl _) (.cells (insA ⟨op1, a1, b1, c1, m1⟩) 23)).alloc (by simp) (.cells (insA ⟨op2, a2, b2, c2, m2⟩) 23))
      go_enter Tryd.func5, Tryd.ntmps5
      go_wp2_with fail
      refine (shown_any _ (HE.out.kept Z0.out)).mono ?_
      rintro _ x1 ⟨rfl, y1⟩
      have HI := Lib.hid (HI.out.below y1)
      have HJ := Lib.hid (HJ.out.below y1)
      have Z0 := Lib.hid (Z0.out.trans (y1.mono Z0.out.size))
      clear y1
      have kI0 : x1.cell? ⟨w.heap.size, 0, none⟩ = some (.int .u8 op1) := HI.out.cell 0
      have kI1 : x1.cell? ⟨w.heap.size, 1, none⟩ = some (.int .u8 a1) := HI.out.cell 1
      have kI2 : x1.cell? ⟨w.heap.size, 2, none⟩ = some (.int .u8 b1) := HI.out.cell 2
      have kI3 : x1.cell? ⟨w.heap.size, 3, none⟩ = some (.int .u8 c1) := HI.out.cell 3
      have kI4 : x1.cell? ⟨w.heap.size, 4, none⟩ = some (.int .i32 m1) := HI.out.cell 4
      have kJ0 : x1.cell? ⟨w.heap.size + 1, 0, none⟩ = some (.int .u8 op2) := HJ.out.cell 0
      have kJ1 : x1.cell? ⟨w.heap.size + 1, 1, none⟩ = some (.int .u8 a2) := HJ.out.cell 1
      have kJ2 : x1.cell? ⟨w.heap.size + 1, 2, none⟩ = some (.int .u8 b2) := HJ.out.cell 2
      have kJ3 : x1.cell? ⟨w.heap.size + 1, 3, none⟩ = some (.int .u8 c2) := HJ.out.cell 3
      have kJ4 : x1.cell? ⟨w.heap.size + 1, 4, none⟩ = some (.int .i32 m2) := HJ.out.cell 4
      go_wp2_with fail
      refine (HEi.out _).mono ?_
      rintro _ x2 ⟨rfl, y2⟩
      clear kI0 kI1 kI2 kI3 kI4 kJ0 kJ1 kJ2 kJ3 kJ4
      have HI := Lib.hid (HI.out.below y2)
      have HJ := Lib.hid (HJ.out.below y2)
      have Z0 := Lib.hid (Z0.out.trans (y2.mono Z0.out.size))
      clear y2
      have kI0 : x2.cell? ⟨w.heap.size, 0, none⟩ = some (.int .u8 op1) := HI.out.cell 0
      have kI1 : x2.cell? ⟨w.heap.size, 1, none⟩ = some (.int .u8 a1) := HI.out.cell 1
      have kI2 : x2.cell? ⟨w.heap.size, 2, none⟩ = some (.int .u8 b1) := HI.out.cell 2
      have kI3 : x2.cell? ⟨w.heap.size, 3, none⟩ = some (.int .u8 c1) := HI.out.cell 3
      have kI4 : x2.cell? ⟨w.heap.size, 4, none⟩ = some (.int .i32 m1) := HI.out.cell 4
      have kJ0 : x2.cell? ⟨w.heap.size + 1, 0, none⟩ = some (.int .u8 op2) := HJ.out.cell 0
      have kJ1 : x2.cell? ⟨w.heap.size + 1, 1, none⟩ = some (.int .u8 a2) := HJ.out.cell 1
      have kJ2 : x2.cell? ⟨w.heap.size + 1, 2, none⟩ = some (.int .u8 b2) := HJ.out.cell 2
      have kJ3 : x2.cell? ⟨w.heap.size + 1, 3, none⟩ = some (.int .u8 c2) := HJ.out.cell 3
      have kJ4 : x2.cell? ⟨w.heap.size + 1, 4, none⟩ = some (.int .i32 m2) := HJ.out.cell 4
      go_wp2_with fail
      refine (HEj.out _).mono ?_
      rintro _ x3 ⟨rfl, y3⟩
      clear kI0 kI1 kI2 kI3 kI4 kJ0 kJ1 kJ2 kJ3 kJ4
      have HI := Lib.hid (HI.out.below y3)
      have HJ := Lib.hid (HJ.out.below y3)
      have Z0 := Lib.hid (Z0.out.trans (y3.mono Z0.out.size))
      clear y3
      have kI0 : x3.cell? ⟨w.heap.size, 0, none⟩ = some (.int .u8 op1) := HI.out.cell 0
      have kI1 : x3.cell? ⟨w.heap.size, 1, none⟩ = some (.int .u8 a1) := HI.out.cell 1
      have kI2 : x3.cell? ⟨w.heap.size, 2, none⟩ = some (.int .u8 b1) := HI.out.cell 2
      have kI3 : x3.cell? ⟨w.heap.size, 3, none⟩ = some (.int .u8 c1) := HI.out.cell 3
      have kI4 : x3.cell? ⟨w.heap.size, 4, none⟩ = some (.int .i32 m1) := HI.out.cell 4
      have kJ0 : x3.cell? ⟨w.heap.size + 1, 0, none⟩ = some (.int .u8 op2) := HJ.out.cell 0
      have kJ1 : x3.cell? ⟨w.heap.size + 1, 1, none⟩ = some (.int .u8 a2) := HJ.out.cell 1
      have kJ2 : x3.cell? ⟨w.heap.size + 1, 2, none⟩ = some (.int .u8 b2) := HJ.out.cell 2
      have kJ3 : x3.cell? ⟨w.heap.size + 1, 3, none⟩ = some (.int .u8 c2) := HJ.out.cell 3
      have kJ4 : x3.cell? ⟨w.heap.size + 1, 4, none⟩ = some (.int .i32 m2) := HJ.out.cell 4
      go_wp2_with fail
      refine (HTi.out _ (HE.out.kept Z0.out)).mono ?_
      rintro _ x4 ⟨rfl, y4⟩
      clear kI0 kI1 kI2 kI3 kI4 kJ0 kJ1 kJ2 kJ3 kJ4
      have HI := Lib.hid (HI.out.below y4)
      have HJ := Lib.hid (HJ.out.below y4)
      have Z0 := Lib.hid (Z0.out.trans (y4.mono Z0.out.size))
      clear y4
      have kI0 : x4.cell? ⟨w.heap.size, 0, none⟩ = some (.int .u8 op1) := HI.out.cell 0
      have kI1 : x4.cell? ⟨w.heap.size, 1, none⟩ = some (.int .u8 a1) := HI.out.cell 1
      have kI2 : x4.cell? ⟨w.heap.size, 2, none⟩ = some (.int .u8 b1) := HI.out.cell 2
      have kI3 : x4.cell? ⟨w.heap.size, 3, none⟩ = some (.int .u8 c1) := HI.out.cell 3
      have kI4 : x4.cell? ⟨w.heap.size, 4, none⟩ = some (.int .i32 m1) := HI.out.cell 4
      have kJ0 : x4.cell? ⟨w.heap.size + 1, 0, none⟩ = some (.int .u8 op2) := HJ.out.cell 0
      have kJ1 : x4.cell? ⟨w.heap.size + 1, 1, none⟩ = some (.int .u8 a2) := HJ.out.cell 1
      have kJ2 : x4.cell? ⟨w.heap.size + 1, 2, none⟩ = some (.int .u8 b2) := HJ.out.cell 2
      have kJ3 : x4.cell? ⟨w.heap.size + 1, 3, none⟩ = some (.int .u8 c2) := HJ.out.cell 3
      have kJ4 : x4.cell? ⟨w.heap.size + 1, 4, none⟩ = some (.int .i32 m2) := HJ.out.cell 4
      go_wp2_with fail
      refine (HTj.out _ (HE.out.kept Z0.out)).mono ?_
      rintro _ x5 ⟨rfl, y5⟩
      clear kI0 kI1 kI2 kI3 kI4 kJ0 kJ1 kJ2 kJ3 kJ4
      have HI := Lib.hid (HI.out.below y5)
      have HJ := Lib.hid (HJ.out.below y5)
      have Z0 := Lib.hid (Z0.out.trans (y5.mono Z0.out.size))
      clear y5
      have kI0 : x5.cell? ⟨w.heap.size, 0, none⟩ = some (.int .u8 op1) := HI.out.cell 0
      have kI1 : x5.cell? ⟨w.heap.size, 1, none⟩ = some (.int .u8 a1) := HI.out.cell 1
      have kI2 : x5.cell? ⟨w.heap.size, 2, none⟩ = some (.int .u8 b1) := HI.out.cell 2
      have kI3 : x5.cell? ⟨w.heap.size, 3, none⟩ = some (.int .u8 c1) := HI.out.cell 3
      have kI4 : x5.cell? ⟨w.heap.size, 4, none⟩ = some (.int .i32 m1) := HI.out.cell 4
      have kJ0 : x5.cell? ⟨w.heap.size + 1, 0, none⟩ = some (.int .u8 op2) := HJ.out.cell 0
      have kJ1 : x5.cell? ⟨w.heap.size + 1, 1, none⟩ = some (.int .u8 a2) := HJ.out.cell 1
      have kJ2 : x5.cell? ⟨w.heap.size + 1, 2, none⟩ = some (.int .u8 b2) := HJ.out.cell 2
      have kJ3 : x5.cell? ⟨w.heap.size + 1, 3, none⟩ = some (.int .u8 c2) := HJ.out.cell 3
      have kJ4 : x5.cell? ⟨w.heap.size + 1, 4, none⟩ = some (.int .i32 m2) := HJ.out.cell 4
      go_wp2_with fail
      go_ret
      exact ⟨rfl, Z0.out⟩
    · simp only [Bool.false_eq_true, if_false, if_true] at HEi HEj HTi HTj
      have HI := Lib.hid ((Blk.new w 23 (insA ⟨op1, a1, b1, c1, m1⟩) rfl).alloc (.cells (insA ⟨op2, a2, b2, c2, m2⟩) 23))
      have HJ := Lib.hid (Blk.new (w.alloc (.cells (insA ⟨op1, a1, b1, c1, m1⟩) 23)) 23 (insA ⟨op2, a2, b2, c2, m2⟩) (b := w.heap.size + 1) (by simp))
      have Z0 := Lib.hid (((Below.refl _ w).alloc (Nat.le_refl _) (.cells (insA ⟨op1, a1, b1, c1, m1⟩) 23)).alloc (by simp) (.cells (insA ⟨op2, a2, b2, c2, m2⟩) 23))
      go_enter Tryd.func5, Tryd.ntmps5
      go_wp2_with fail
      refine (shown_any _ (HE.out.kept Z0.out)).mono ?_
      rintro _ x1 ⟨rfl, y1⟩
      have HI := Lib.hid (HI.out.below y1)
      have HJ := Lib.hid (HJ.out.below y1)
      have Z0 := Lib.hid (Z0.out.trans (y1.mono Z0.out.size))
      clear y1
      have kI0 : x1.cell? ⟨w.heap.size, 0, none⟩ = some (.int .u8 op1) := HI.out.cell 0
      have kI1 : x1.cell? ⟨w.heap.size, 1, none⟩ = some (.int .u8 a1) := HI.out.cell 1
      have kI2 : x1.cell? ⟨w.heap.size, 2, none⟩ = some (.int .u8 b1) := HI.out.cell 2
      have kI3 : x1.cell? ⟨w.heap.size, 3, none⟩ = some (.int .u8 c1) := HI.out.cell 3
      have kI4 : x1.cell? ⟨w.heap.size, 4, none⟩ = some (.int .i32 m1) := HI.out.cell 4
      have kJ0 : x1.cell? ⟨w.heap.size + 1, 0, none⟩ = some (.int .u8 op2) := HJ.out.cell 0
      have kJ1 : x1.cell? ⟨w.heap.size + 1, 1, none⟩ = some (.int .u8 a2) := HJ.out.cell 1
      have kJ2 : x1.cell? ⟨w.heap.size + 1, 2, none⟩ = some (.int .u8 b2) := HJ.out.cell 2
      have kJ3 : x1.cell? ⟨w.heap.size + 1, 3, none⟩ = some (.int .u8 c2) := HJ.out.cell 3
      have kJ4 : x1.cell? ⟨w.heap.size + 1, 4, none⟩ = some (.int .i32 m2) := HJ.out.cell 4
      go_wp2_with fail
      refine (HEi.out _).mono ?_
      rintro _ x2 ⟨rfl, y2⟩
      clear kI0 kI1 kI2 kI3 kI4 kJ0 kJ1 kJ2 kJ3 kJ4
      have HI := Lib.hid (HI.out.below y2)
      have HJ := Lib.hid (HJ.out.below y2)
      have Z0 := Lib.hid (Z0.out.trans (y2.mono Z0.out.size))
      clear y2
      have kI0 : x2.cell? ⟨w.heap.size, 0, none⟩ = some (.int .u8 op1) := HI.out.cell 0
      have kI1 : x2.cell? ⟨w.heap.size, 1, none⟩ = some (.int .u8 a1) := HI.out.cell 1
      have kI2 : x2.cell? ⟨w.heap.size, 2, none⟩ = some (.int .u8 b1) := HI.out.cell 2
      have kI3 : x2.cell? ⟨w.heap.size, 3, none⟩ = some (.int .u8 c1) := HI.out.cell 3
      have kI4 : x2.cell? ⟨w.heap.size, 4, none⟩ = some (.int .i32 m1) := HI.out.cell 4
      have kJ0 : x2.cell? ⟨w.heap.size + 1, 0, none⟩ = some (.int .u8 op2) := HJ.out.cell 0
      have kJ1 : x2.cell? ⟨w.heap.size + 1, 1, none⟩ = some (.int .u8 a2) := HJ.out.cell 1
      have kJ2 : x2.cell? ⟨w.heap.size + 1, 2, none⟩ = some (.int .u8 b2) := HJ.out.cell 2
      have kJ3 : x2.cell? ⟨w.heap.size + 1, 3, none⟩ = some (.int .u8 c2) := HJ.out.cell 3
      have kJ4 : x2.cell? ⟨w.heap.size + 1, 4, none⟩ = some (.int .i32 m2) := HJ.out.cell 4
      go_wp2_with fail
      refine (HEj.out _).mono ?_
      rintro _ x3 ⟨rfl, y3⟩
      clear kI0 kI1 kI2 kI3 kI4 kJ0 kJ1 kJ2 kJ3 kJ4
      have HI := Lib.hid (HI.out.below y3)
      have HJ := Lib.hid (HJ.out.below y3)
      have Z0 := Lib.hid (Z0.out.trans (y3.mono Z0.out.size))
      clear y3
      have kI0 : x3.cell? ⟨w.heap.size, 0, none⟩ = some (.int .u8 op1) := HI.out.cell 0
      have kI1 : x3.cell? ⟨w.heap.size, 1, none⟩ = some (.int .u8 a1) := HI.out.cell 1
      have kI2 : x3.cell? ⟨w.heap.size, 2, none⟩ = some (.int .u8 b1) := HI.out.cell 2
      have kI3 : x3.cell? ⟨w.heap.size, 3, none⟩ = some (.int .u8 c1) := HI.out.cell 3
      have kI4 : x3.cell? ⟨w.heap.size, 4, none⟩ = some (.int .i32 m1) := HI.out.cell 4
      have kJ0 : x3.cell? ⟨w.heap.size + 1, 0, none⟩ = some (.int .u8 op2) := HJ.out.cell 0
      have kJ1 : x3.cell? ⟨w.heap.size + 1, 1, none⟩ = some (.int .u8 a2) := HJ.out.cell 1
      have kJ2 : x3.cell? ⟨w.heap.size + 1, 2, none⟩ = some (.int .u8 b2) := HJ.out.cell 2
      have kJ3 : x3.cell? ⟨w.heap.size + 1, 3, none⟩ = some (.int .u8 c2) := HJ.out.cell 3
      have kJ4 : x3.cell? ⟨w.heap.size + 1, 4, none⟩ = some (.int .i32 m2) := HJ.out.cell 4
      go_wp2_with fail
      refine (HTi.out _ (HE.out.kept Z0.out)).mono ?_
      rintro _ x4 ⟨rfl, y4⟩
      clear kI0 kI1 kI2 kI3 kI4 kJ0 kJ1 kJ2 kJ3 kJ4
      have HI := Lib.hid (HI.out.below y4)
      have HJ := Lib.hid (HJ.out.below y4)
      have Z0 := Lib.hid (Z0.out.trans (y4.mono Z0.out.size))
      clear y4
      have kI0 : x4.cell? ⟨w.heap.size, 0, none⟩ = some (.int .u8 op1) := HI.out.cell 0
      have kI1 : x4.cell? ⟨w.heap.size, 1, none⟩ = some (.int .u8 a1) := HI.out.cell 1
      have kI2 : x4.cell? ⟨w.heap.size, 2, none⟩ = some (.int .u8 b1) := HI.out.cell 2
      have kI3 : x4.cell? ⟨w.heap.size, 3, none⟩ = some (.int .u8 c1) := HI.out.cell 3
      have kI4 : x4.cell? ⟨w.heap.size, 4, none⟩ = some (.int .i32 m1) := HI.out.cell 4
      have kJ0 : x4.cell? ⟨w.heap.size + 1, 0, none⟩ = some (.int .u8 op2) := HJ.out.cell 0
      have kJ1 : x4.cell? ⟨w.heap.size + 1, 1, none⟩ = some (.int .u8 a2) := HJ.out.cell 1
      have kJ2 : x4.cell? ⟨w.heap.size + 1, 2, none⟩ = some (.int .u8 b2) := HJ.out.cell 2
      have kJ3 : x4.cell? ⟨w.heap.size + 1, 3, none⟩ = some (.int .u8 c2) := HJ.out.cell 3
      have kJ4 : x4.cell? ⟨w.heap.size + 1, 4, none⟩ = some (.int .i32 m2) := HJ.out.cell 4
      go_wp2_with fail
      refine (HTj.out _ (HE.out.kept Z0.out)).mono ?_
      rintro _ x5 ⟨rfl, y5⟩
      clear kI0 kI1 kI2 kI3 kI4 kJ0 kJ1 kJ2 kJ3 kJ4
      have HI := Lib.hid (HI.out.below y5)
      have HJ := Lib.hid (HJ.out.below y5)
      have Z0 := Lib.hid (Z0.out.trans (y5.mono Z0.out.size))
      clear y5
      have kI0 : x5.cell? ⟨w.heap.size, 0, none⟩ = some (.int .u8 op1) := HI.out.cell 0
      have kI1 : x5.cell? ⟨w.heap.size, 1, none⟩ = some (.int .u8 a1) := HI.out.cell 1
      have kI2 : x5.cell? ⟨w.heap.size, 2, none⟩ = some (.int .u8 b1) := HI.out.cell 2
      have kI3 : x5.cell? ⟨w.heap.size, 3, none⟩ = some (.int .u8 c1) := HI.out.cell 3
      have kI4 : x5.cell? ⟨w.heap.size, 4, none⟩ = some (.int .i32 m1) := HI.out.cell 4
      have kJ0 : x5.cell? ⟨w.heap.size + 1, 0, none⟩ = some (.int .u8 op2) := HJ.out.cell 0
      have kJ1 : x5.cell? ⟨w.heap.size + 1, 1, none⟩ = some (.int .u8 a2) := HJ.out.cell 1
      have kJ2 : x5.cell? ⟨w.heap.size + 1, 2, none⟩ = some (.int .u8 b2) := HJ.out.cell 2
      have kJ3 : x5.cell? ⟨w.heap.size + 1, 3, none⟩ = some (.int .u8 c2) := HJ.out.cell 3
      have kJ4 : x5.cell? ⟨w.heap.size + 1, 4, none⟩ = some (.int .i32 m2) := HJ.out.cell 4
      go_wp2_with fail
      go_ret
      exact ⟨rfl, Z0.out⟩
  · cases rj
    · simp only [Bool.false_eq_true, if_false, if_true] at HEi HEj HTi HTj
      have HI := Lib.hid ((Blk.new w 23 (insA ⟨op1, a1, b1, c1, m1⟩) rfl).alloc (.cells (insA ⟨op2, a2, b2, c2, m2⟩) 23))
      have HJ := Lib.hid (Blk.new (w.alloc (.cells (insA ⟨op1, a1, b1, c1, m1⟩) 23)) 23 (insA ⟨op2, a2, b2, c2, m2⟩) (b := w.heap.size + 1) (by simp))
      have Z0 := Lib.hid (((Below.refl _ w).alloc (Nat.le_refl _) (.cells (insA ⟨op1, a1, b1, c1, m1⟩) 23)).alloc (by simp) (.cells (insA ⟨op2, a2, b2, c2, m2⟩) 23))
      go_enter Tryd.func5, Tryd.ntmps5
      go_wp2_with fail
      refine (shown_any _ (HE.out.kept Z0.out)).mono ?_
      rintro _ x1 ⟨rfl, y1⟩
      have HI := Lib.hid (HI.out.below y1)
      have HJ := Lib.hid (HJ.out.below y1)
      have Z0 := Lib.hid (Z0.out.trans (y1.mono Z0.out.size))
      clear y1
      have kI0 : x1.cell? ⟨w.heap.size, 0, none⟩ = some (.int .u8 op1) := HI.out.cell 0
      have kI1 : x1.cell? ⟨w.heap.size, 1, none⟩ = some (.int .u8 a1) := HI.out.cell 1
      have kI2 : x1.cell? ⟨w.heap.size, 2, none⟩ = some (.int .u8 b1) := HI.out.cell 2
      have kI3 : x1.cell? ⟨w.heap.size, 3, none⟩ = some (.int .u8 c1) := HI.out.cell 3
      have kI4 : x1.cell? ⟨w.heap.size, 4, none⟩ = some (.int .i32 m1) := HI.out.cell 4
      have kJ0 : x1.cell? ⟨w.heap.size + 1, 0, none⟩ = some (.int .u8 op2) := HJ.out.cell 0
      have kJ1 : x1.cell? ⟨w.heap.size + 1, 1, none⟩ = some (.int .u8 a2) := HJ.out.cell 1
      have kJ2 : x1.cell? ⟨w.heap.size + 1, 2, none⟩ = some (.int .u8 b2) := HJ.out.cell 2
      have kJ3 : x1.cell? ⟨w.heap.size + 1, 3, none⟩ = some (.int .u8 c2) := HJ.out.cell 3
      have kJ4 : x1.cell? ⟨w.heap.size + 1, 4, none⟩ = some (.int .i32 m2) := HJ.out.cell 4
      go_wp2_with fail
      refine (HEi.out _).mono ?_
      rintro _ x2 ⟨rfl, y2⟩
      clear kI0 kI1 kI2 kI3 kI4 kJ0 kJ1 kJ2 kJ3 kJ4
      have HI := Lib.hid (HI.out.below y2)
      have HJ := Lib.hid (HJ.out.below y2)
      have Z0 := Lib.hid (Z0.out.trans (y2.mono Z0.out.size))
      clear y2
      have kI0 : x2.cell? ⟨w.heap.size, 0, none⟩ = some (.int .u8 op1) := HI.out.cell 0
      have kI1 : x2.cell? ⟨w.heap.size, 1, none⟩ = some (.int .u8 a1) := HI.out.cell 1
      have kI2 : x2.cell? ⟨w.heap.size, 2, none⟩ = some (.int .u8 b1) := HI.out.cell 2
      have kI3 : x2.cell? ⟨w.heap.size, 3, none⟩ = some (.int .u8 c1) := HI.out.cell 3
      have kI4 : x2.cell? ⟨w.heap.size, 4, none⟩ = some (.int .i32 m1) := HI.out.cell 4
      have kJ0 : x2.cell? ⟨w.heap.size + 1, 0, none⟩ = some (.int .u8 op2) := HJ.out.cell 0
      have kJ1 : x2.cell? ⟨w.heap.size + 1, 1, none⟩ = some (.int .u8 a2) := HJ.out.cell 1
      have kJ2 : x2.cell? ⟨w.heap.size + 1, 2, none⟩ = some (.int .u8 b2) := HJ.out.cell 2
      have kJ3 : x2.cell? ⟨w.heap.size + 1, 3, none⟩ = some (.int .u8 c2) := HJ.out.cell 3
      have kJ4 : x2.cell? ⟨w.heap.size + 1, 4, none⟩ = some (.int .i32 m2) := HJ.out.cell 4
      go_wp2_with fail
      refine (HEj.out _).mono ?_
      rintro _ x3 ⟨rfl, y3⟩
      clear kI0 kI1 kI2 kI3 kI4 kJ0 kJ1 kJ2 kJ3 kJ4
      have HI := Lib.hid (HI.out.below y3)
      have HJ := Lib.hid (HJ.out.below y3)
      have Z0 := Lib.hid (Z0.out.trans (y3.mono Z0.out.size))
      clear y3
      have kI0 : x3.cell? ⟨w.heap.size, 0, none⟩ = some (.int .u8 op1) := HI.out.cell 0
      have kI1 : x3.cell? ⟨w.heap.size, 1, none⟩ = some (.int .u8 a1) := HI.out.cell 1
      have kI2 : x3.cell? ⟨w.heap.size, 2, none⟩ = some (.int .u8 b1) := HI.out.cell 2
      have kI3 : x3.cell? ⟨w.heap.size, 3, none⟩ = some (.int .u8 c1) := HI.out.cell 3
      have kI4 : x3.cell? ⟨w.heap.size, 4, none⟩ = some (.int .i32 m1) := HI.out.cell 4
      have kJ0 : x3.cell? ⟨w.heap.size + 1, 0, none⟩ = some (.int .u8 op2) := HJ.out.cell 0
      have kJ1 : x3.cell? ⟨w.heap.size + 1, 1, none⟩ = some (.int .u8 a2) := HJ.out.cell 1
      have kJ2 : x3.cell? ⟨w.heap.size + 1, 2, none⟩ = some (.int .u8 b2) := HJ.out.cell 2
      have kJ3 : x3.cell? ⟨w.heap.size + 1, 3, none⟩ = some (.int .u8 c2) := HJ.out.cell 3
      have kJ4 : x3.cell? ⟨w.heap.size + 1, 4, none⟩ = some (.int .i32 m2) := HJ.out.cell 4
      go_wp2_with fail
      refine (HTi.out _ (HE.out.kept Z0.out)).mono ?_
      rintro _ x4 ⟨rfl, y4⟩
      clear kI0 kI1 kI2 kI3 kI4 kJ0 kJ1 kJ2 kJ3 kJ4
      have HI := Lib.hid (HI.out.below y4)
      have HJ := Lib.hid (HJ.out.below y4)
      have Z0 := Lib.hid (Z0.out.trans (y4.mono Z0.out.size))
      clear y4
      have kI0 : x4.cell? ⟨w.heap.size, 0, none⟩ = some (.int .u8 op1) := HI.out.cell 0
      have kI1 : x4.cell? ⟨w.heap.size, 1, none⟩ = some (.int .u8 a1) := HI.out.cell 1
      have kI2 : x4.cell? ⟨w.heap.size, 2, none⟩ = some (.int .u8 b1) := HI.out.cell 2
      have kI3 : x4.cell? ⟨w.heap.size, 3, none⟩ = some (.int .u8 c1) := HI.out.cell 3
      have kI4 : x4.cell? ⟨w.heap.size, 4, none⟩ = some (.int .i32 m1) := HI.out.cell 4
      have kJ0 : x4.cell? ⟨w.heap.size + 1, 0, none⟩ = some (.int .u8 op2) := HJ.out.cell 0
      have kJ1 : x4.cell? ⟨w.heap.size + 1, 1, none⟩ = some (.int .u8 a2) := HJ.out.cell 1
      have kJ2 : x4.cell? ⟨w.heap.size + 1, 2, none⟩ = some (.int .u8 b2) := HJ.out.cell 2
      have kJ3 : x4.cell? ⟨w.heap.size + 1, 3, none⟩ = some (.int .u8 c2) := HJ.out.cell 3
      have kJ4 : x4.cell? ⟨w.heap.size + 1, 4, none⟩ = some (.int .i32 m2) := HJ.out.cell 4
      go_wp2_with fail
      refine (HTj.out _ (HE.out.kept Z0.out)).mono ?_
      rintro _ x5 ⟨rfl, y5⟩
      clear kI0 kI1 kI2 kI3 kI4 kJ0 kJ1 kJ2 kJ3 kJ4
      have HI := Lib.hid (HI.out.below y5)
      have HJ := Lib.hid (HJ.out.below y5)
      have Z0 := Lib.hid (Z0.out.trans (y5.mono Z0.out.size))
      clear y5
      have kI0 : x5.cell? ⟨w.heap.size, 0, none⟩ = some (.int .u8 op1) := HI.out.cell 0
      have kI1 : x5.cell? ⟨w.heap.size, 1, none⟩ = some (.int .u8 a1) := HI.out.cell 1
      have kI2 : x5.cell? ⟨w.heap.size, 2, none⟩ = some (.int .u8 b1) := HI.out.cell 2
      have kI3 : x5.cell? ⟨w.heap.size, 3, none⟩ = some (.int .u8 c1) := HI.out.cell 3
      have kI4 : x5.cell? ⟨w.heap.size, 4, none⟩ = some (.int .i32 m1) := HI.out.cell 4
      have kJ0 : x5.cell? ⟨w.heap.size + 1, 0, none⟩ = some (.int .u8 op2) := HJ.out.cell 0
      have kJ1 : x5.cell? ⟨w.heap.size + 1, 1, none⟩ = some (.int .u8 a2) := HJ.out.cell 1
      have kJ2 : x5.cell? ⟨w.heap.size + 1, 2, none⟩ = some (.int .u8 b2) := HJ.out.cell 2
      have kJ3 : x5.cell? ⟨w.heap.size + 1, 3, none⟩ = some (.int .u8 c2) := HJ.out.cell 3
      have kJ4 : x5.cell? ⟨w.heap.size + 1, 4, none⟩ = some (.int .i32 m2) := HJ.out.cell 4
      go_wp2_with fail
      go_ret
      exact ⟨rfl, Z0.out⟩
    · simp only [if_true] at HEi HEj HTi HTj
      by_cases hij : (⟨op1, a1, b1, c1, m1⟩ : Ins) = ⟨op2, a2, b2, c2, m2⟩
      · have h1 := HWI.out.2 hij
        have h2 := (HTI.out rfl rfl).2 hij
        injection hij with e1 e2 e3 e4 e5
        subst h1 h2 e1 e2 e3 e4 e5
        clear HWI HTI HNe
        have HI := Lib.hid ((Blk.new w 23 (insA ⟨op1, a1, b1, c1, m1⟩) rfl).alloc (.cells (insA ⟨op1, a1, b1, c1, m1⟩) 23))
        have HJ := Lib.hid (Blk.new (w.alloc (.cells (insA ⟨op1, a1, b1, c1, m1⟩) 23)) 23 (insA ⟨op1, a1, b1, c1, m1⟩) (b := w.heap.size + 1) (by simp))
        have Z0 := Lib.hid (((Below.refl _ w).alloc (Nat.le_refl _) (.cells (insA ⟨op1, a1, b1, c1, m1⟩) 23)).alloc (by simp) (.cells (insA ⟨op1, a1, b1, c1, m1⟩) 23))
        go_enter Tryd.func5, Tryd.ntmps5
        go_wp2_with fail
        refine (shown_any _ (HE.out.kept Z0.out)).mono ?_
        rintro _ x1 ⟨rfl, y1⟩
        have HI := Lib.hid (HI.out.below y1)
        have HJ := Lib.hid (HJ.out.below y1)
        have Z0 := Lib.hid (Z0.out.trans (y1.mono Z0.out.size))
        clear y1
        have kI0 : x1.cell? ⟨w.heap.size, 0, none⟩ = some (.int .u8 op1) := HI.out.cell 0
        have kI1 : x1.cell? ⟨w.heap.size, 1, none⟩ = some (.int .u8 a1) := HI.out.cell 1
        have kI2 : x1.cell? ⟨w.heap.size, 2, none⟩ = some (.int .u8 b1) := HI.out.cell 2
        have kI3 : x1.cell? ⟨w.heap.size, 3, none⟩ = some (.int .u8 c1) := HI.out.cell 3
        have kI4 : x1.cell? ⟨w.heap.size, 4, none⟩ = some (.int .i32 m1) := HI.out.cell 4
        have kJ0 : x1.cell? ⟨w.heap.size + 1, 0, none⟩ = some (.int .u8 op1) := HJ.out.cell 0
        have kJ1 : x1.cell? ⟨w.heap.size + 1, 1, none⟩ = some (.int .u8 a1) := HJ.out.cell 1
        have kJ2 : x1.cell? ⟨w.heap.size + 1, 2, none⟩ = some (.int .u8 b1) := HJ.out.cell 2
        have kJ3 : x1.cell? ⟨w.heap.size + 1, 3, none⟩ = some (.int .u8 c1) := HJ.out.cell 3
        have kJ4 : x1.cell? ⟨w.heap.size + 1, 4, none⟩ = some (.int .i32 m1) := HJ.out.cell 4
        go_wp2_with fail
        refine (HEi.out _).mono ?_
        rintro _ x2 ⟨rfl, y2⟩
        clear kI0 kI1 kI2 kI3 kI4 kJ0 kJ1 kJ2 kJ3 kJ4
        have HI := Lib.hid (HI.out.below y2)
        have HJ := Lib.hid (HJ.out.below y2)
        have Z0 := Lib.hid (Z0.out.trans (y2.mono Z0.out.size))
        clear y2
        have kI0 : x2.cell? ⟨w.heap.size, 0, none⟩ = some (.int .u8 op1) := HI.out.cell 0
        have kI1 : x2.cell? ⟨w.heap.size, 1, none⟩ = some (.int .u8 a1) := HI.out.cell 1
        have kI2 : x2.cell? ⟨w.heap.size, 2, none⟩ = some (.int .u8 b1) := HI.out.cell 2
        have kI3 : x2.cell? ⟨w.heap.size, 3, none⟩ = some (.int .u8 c1) := HI.out.cell 3
        have kI4 : x2.cell? ⟨w.heap.size, 4, none⟩ = some (.int .i32 m1) := HI.out.cell 4
        have kJ0 : x2.cell? ⟨w.heap.size + 1, 0, none⟩ = some (.int .u8 op1) := HJ.out.cell 0
        have kJ1 : x2.cell? ⟨w.heap.size + 1, 1, none⟩ = some (.int .u8 a1) := HJ.out.cell 1
        have kJ2 : x2.cell? ⟨w.heap.size + 1, 2, none⟩ = some (.int .u8 b1) := HJ.out.cell 2
        have kJ3 : x2.cell? ⟨w.heap.size + 1, 3, none⟩ = some (.int .u8 c1) := HJ.out.cell 3
        have kJ4 : x2.cell? ⟨w.heap.size + 1, 4, none⟩ = some (.int .i32 m1) := HJ.out.cell 4
        go_wp2_with fail
        refine (HEj.out _).mono ?_
        rintro _ x3 ⟨rfl, y3⟩
        clear kI0 kI1 kI2 kI3 kI4 kJ0 kJ1 kJ2 kJ3 kJ4
        have HI := Lib.hid (HI.out.below y3)
        have HJ := Lib.hid (HJ.out.below y3)
        have Z0 := Lib.hid (Z0.out.trans (y3.mono Z0.out.size))
        clear y3
        have kI0 : x3.cell? ⟨w.heap.size, 0, none⟩ = some (.int .u8 op1) := HI.out.cell 0
        have kI1 : x3.cell? ⟨w.heap.size, 1, none⟩ = some (.int .u8 a1) := HI.out.cell 1
        have kI2 : x3.cell? ⟨w.heap.size, 2, none⟩ = some (.int .u8 b1) := HI.out.cell 2
        have kI3 : x3.cell? ⟨w.heap.size, 3, none⟩ = some (.int .u8 c1) := HI.out.cell 3
        have kI4 : x3.cell? ⟨w.heap.size, 4, none⟩ = some (.int .i32 m1) := HI.out.cell 4
        have kJ0 : x3.cell? ⟨w.heap.size + 1, 0, none⟩ = some (.int .u8 op1) := HJ.out.cell 0
        have kJ1 : x3.cell? ⟨w.heap.size + 1, 1, none⟩ = some (.int .u8 a1) := HJ.out.cell 1
        have kJ2 : x3.cell? ⟨w.heap.size + 1, 2, none⟩ = some (.int .u8 b1) := HJ.out.cell 2
        have kJ3 : x3.cell? ⟨w.heap.size + 1, 3, none⟩ = some (.int .u8 c1) := HJ.out.cell 3
        have kJ4 : x3.cell? ⟨w.heap.size + 1, 4, none⟩ = some (.int .i32 m1) := HJ.out.cell 4
        go_wp2_with fail
        refine (HTi.out _ (HE.out.kept Z0.out)).mono ?_
        rintro _ x4 ⟨rfl, y4⟩
        clear kI0 kI1 kI2 kI3 kI4 kJ0 kJ1 kJ2 kJ3 kJ4
        have HI := Lib.hid (HI.out.below y4)
        have HJ := Lib.hid (HJ.out.below y4)
        have Z0 := Lib.hid (Z0.out.trans (y4.mono Z0.out.size))
        clear y4
        have kI0 : x4.cell? ⟨w.heap.size, 0, none⟩ = some (.int .u8 op1) := HI.out.cell 0
        have kI1 : x4.cell? ⟨w.heap.size, 1, none⟩ = some (.int .u8 a1) := HI.out.cell 1
        have kI2 : x4.cell? ⟨w.heap.size, 2, none⟩ = some (.int .u8 b1) := HI.out.cell 2
        have kI3 : x4.cell? ⟨w.heap.size, 3, none⟩ = some (.int .u8 c1) := HI.out.cell 3
        have kI4 : x4.cell? ⟨w.heap.size, 4, none⟩ = some (.int .i32 m1) := HI.out.cell 4
        have kJ0 : x4.cell? ⟨w.heap.size + 1, 0, none⟩ = some (.int .u8 op1) := HJ.out.cell 0
        have kJ1 : x4.cell? ⟨w.heap.size + 1, 1, none⟩ = some (.int .u8 a1) := HJ.out.cell 1
        have kJ2 : x4.cell? ⟨w.heap.size + 1, 2, none⟩ = some (.int .u8 b1) := HJ.out.cell 2
        have kJ3 : x4.cell? ⟨w.heap.size + 1, 3, none⟩ = some (.int .u8 c1) := HJ.out.cell 3
        have kJ4 : x4.cell? ⟨w.heap.size + 1, 4, none⟩ = some (.int .i32 m1) := HJ.out.cell 4
        go_wp2_with fail
        refine (HTj.out _ (HE.out.kept Z0.out)).mono ?_
        rintro _ x5 ⟨rfl, y5⟩
        clear kI0 kI1 kI2 kI3 kI4 kJ0 kJ1 kJ2 kJ3 kJ4
        have HI := Lib.hid (HI.out.below y5)
        have HJ := Lib.hid (HJ.out.below y5)
        have Z0 := Lib.hid (Z0.out.trans (y5.mono Z0.out.size))
        clear y5
        have kI0 : x5.cell? ⟨w.heap.size, 0, none⟩ = some (.int .u8 op1) := HI.out.cell 0
        have kI1 : x5.cell? ⟨w.heap.size, 1, none⟩ = some (.int .u8 a1) := HI.out.cell 1
        have kI2 : x5.cell? ⟨w.heap.size, 2, none⟩ = some (.int .u8 b1) := HI.out.cell 2
        have kI3 : x5.cell? ⟨w.heap.size, 3, none⟩ = some (.int .u8 c1) := HI.out.cell 3
        have kI4 : x5.cell? ⟨w.heap.size, 4, none⟩ = some (.int .i32 m1) := HI.out.cell 4
        have kJ0 : x5.cell? ⟨w.heap.size + 1, 0, none⟩ = some (.int .u8 op1) := HJ.out.cell 0
        have kJ1 : x5.cell? ⟨w.heap.size + 1, 1, none⟩ = some (.int .u8 a1) := HJ.out.cell 1
        have kJ2 : x5.cell? ⟨w.heap.size + 1, 2, none⟩ = some (.int .u8 b1) := HJ.out.cell 2
        have kJ3 : x5.cell? ⟨w.heap.size + 1, 3, none⟩ = some (.int .u8 c1) := HJ.out.cell 3
        have kJ4 : x5.cell? ⟨w.heap.size + 1, 4, none⟩ = some (.int .i32 m1) := HJ.out.cell 4
        go_wp2_with fail
        go_ret
        exact ⟨rfl, Z0.out⟩
      · have h1 : ¬ wi = wj := fun h => hij (HWI.out.1 h)
        have h2 : ¬ ti = tj := fun h => hij ((HTI.out rfl rfl).1 h)
        have HN2 := Lib.hid (HNe.out hij)
        clear HWI HTI HNe hij
        have i1 : ¬ (wi : Int) = wj := by omega
        have i2 : ((wi : Int) == wj) = false := by rw [beq_eq_false_iff_ne]; exact i1
        have e4 : ¬ (mkS ti).toList = (mkS tj).toList := by rw [ByteArray.toList_eq, ByteArray.toList_eq, mkS_toList, mkS_toList]; exact h2
        have e5 : ((mkS ti).toList == (mkS tj).toList) = false := by rw [beq_eq_false_iff_ne]; exact e4
        clear h1 h2
        have HI := Lib.hid ((Blk.new w 23 (insA ⟨op1, a1, b1, c1, m1⟩) rfl).alloc (.cells (insA ⟨op2, a2, b2, c2, m2⟩) 23))
        have HJ := Lib.hid (Blk.new (w.alloc (.cells (insA ⟨op1, a1, b1, c1, m1⟩) 23)) 23 (insA ⟨op2, a2, b2, c2, m2⟩) (b := w.heap.size + 1) (by simp))
        have Z0 := Lib.hid (((Below.refl _ w).alloc (Nat.le_refl _) (.cells (insA ⟨op1, a1, b1, c1, m1⟩) 23)).alloc (by simp) (.cells (insA ⟨op2, a2, b2, c2, m2⟩) 23))
        go_enter Tryd.func5, Tryd.ntmps5
        go_wp2_with fail
        refine (shown_any _ (HE.out.kept Z0.out)).mono ?_
        rintro _ x1 ⟨rfl, y1⟩
        have HI := Lib.hid (HI.out.below y1)
        have HJ := Lib.hid (HJ.out.below y1)
        have Z0 := Lib.hid (Z0.out.trans (y1.mono Z0.out.size))
        clear y1
        have kI0 : x1.cell? ⟨w.heap.size, 0, none⟩ = some (.int .u8 op1) := HI.out.cell 0
        have kI1 : x1.cell? ⟨w.heap.size, 1, none⟩ = some (.int .u8 a1) := HI.out.cell 1
        have kI2 : x1.cell? ⟨w.heap.size, 2, none⟩ = some (.int .u8 b1) := HI.out.cell 2
        have kI3 : x1.cell? ⟨w.heap.size, 3, none⟩ = some (.int .u8 c1) := HI.out.cell 3
        have kI4 : x1.cell? ⟨w.heap.size, 4, none⟩ = some (.int .i32 m1) := HI.out.cell 4
        have kJ0 : x1.cell? ⟨w.heap.size + 1, 0, none⟩ = some (.int .u8 op2) := HJ.out.cell 0
        have kJ1 : x1.cell? ⟨w.heap.size + 1, 1, none⟩ = some (.int .u8 a2) := HJ.out.cell 1
        have kJ2 : x1.cell? ⟨w.heap.size + 1, 2, none⟩ = some (.int .u8 b2) := HJ.out.cell 2
        have kJ3 : x1.cell? ⟨w.heap.size + 1, 3, none⟩ = some (.int .u8 c2) := HJ.out.cell 3
        have kJ4 : x1.cell? ⟨w.heap.size + 1, 4, none⟩ = some (.int .i32 m2) := HJ.out.cell 4
        go_wp2_with fail
        refine (HEi.out _).mono ?_
        rintro _ x2 ⟨rfl, y2⟩
        clear kI0 kI1 kI2 kI3 kI4 kJ0 kJ1 kJ2 kJ3 kJ4
        have HI := Lib.hid (HI.out.below y2)
        have HJ := Lib.hid (HJ.out.below y2)
        have Z0 := Lib.hid (Z0.out.trans (y2.mono Z0.out.size))
        clear y2
        have kI0 : x2.cell? ⟨w.heap.size, 0, none⟩ = some (.int .u8 op1) := HI.out.cell 0
        have kI1 : x2.cell? ⟨w.heap.size, 1, none⟩ = some (.int .u8 a1) := HI.out.cell 1
        have kI2 : x2.cell? ⟨w.heap.size, 2, none⟩ = some (.int .u8 b1) := HI.out.cell 2
        have kI3 : x2.cell? ⟨w.heap.size, 3, none⟩ = some (.int .u8 c1) := HI.out.cell 3
        have kI4 : x2.cell? ⟨w.heap.size, 4, none⟩ = some (.int .i32 m1) := HI.out.cell 4
        have kJ0 : x2.cell? ⟨w.heap.size + 1, 0, none⟩ = some (.int .u8 op2) := HJ.out.cell 0
        have kJ1 : x2.cell? ⟨w.heap.size + 1, 1, none⟩ = some (.int .u8 a2) := HJ.out.cell 1
        have kJ2 : x2.cell? ⟨w.heap.size + 1, 2, none⟩ = some (.int .u8 b2) := HJ.out.cell 2
        have kJ3 : x2.cell? ⟨w.heap.size + 1, 3, none⟩ = some (.int .u8 c2) := HJ.out.cell 3
        have kJ4 : x2.cell? ⟨w.heap.size + 1, 4, none⟩ = some (.int .i32 m2) := HJ.out.cell 4
        go_wp2_with fail
        refine (HEj.out _).mono ?_
        rintro _ x3 ⟨rfl, y3⟩
        clear kI0 kI1 kI2 kI3 kI4 kJ0 kJ1 kJ2 kJ3 kJ4
        have HI := Lib.hid (HI.out.below y3)
        have HJ := Lib.hid (HJ.out.below y3)
        have Z0 := Lib.hid (Z0.out.trans (y3.mono Z0.out.size))
        clear y3
        have kI0 : x3.cell? ⟨w.heap.size, 0, none⟩ = some (.int .u8 op1) := HI.out.cell 0
        have kI1 : x3.cell? ⟨w.heap.size, 1, none⟩ = some (.int .u8 a1) := HI.out.cell 1
        have kI2 : x3.cell? ⟨w.heap.size, 2, none⟩ = some (.int .u8 b1) := HI.out.cell 2
        have kI3 : x3.cell? ⟨w.heap.size, 3, none⟩ = some (.int .u8 c1) := HI.out.cell 3
        have kI4 : x3.cell? ⟨w.heap.size, 4, none⟩ = some (.int .i32 m1) := HI.out.cell 4
        have kJ0 : x3.cell? ⟨w.heap.size + 1, 0, none⟩ = some (.int .u8 op2) := HJ.out.cell 0
        have kJ1 : x3.cell? ⟨w.heap.size + 1, 1, none⟩ = some (.int .u8 a2) := HJ.out.cell 1
        have kJ2 : x3.cell? ⟨w.heap.size + 1, 2, none⟩ = some (.int .u8 b2) := HJ.out.cell 2
        have kJ3 : x3.cell? ⟨w.heap.size + 1, 3, none⟩ = some (.int .u8 c2) := HJ.out.cell 3
        have kJ4 : x3.cell? ⟨w.heap.size + 1, 4, none⟩ = some (.int .i32 m2) := HJ.out.cell 4
        go_wp2_with fail
        refine (HTi.out _ (HE.out.kept Z0.out)).mono ?_
        rintro _ x4 ⟨rfl, y4⟩
        clear kI0 kI1 kI2 kI3 kI4 kJ0 kJ1 kJ2 kJ3 kJ4
        have HI := Lib.hid (HI.out.below y4)
        have HJ := Lib.hid (HJ.out.below y4)
        have Z0 := Lib.hid (Z0.out.trans (y4.mono Z0.out.size))
        clear y4
        have kI0 : x4.cell? ⟨w.heap.size, 0, none⟩ = some (.int .u8 op1) := HI.out.cell 0
        have kI1 : x4.cell? ⟨w.heap.size, 1, none⟩ = some (.int .u8 a1) := HI.out.cell 1
        have kI2 : x4.cell? ⟨w.heap.size, 2, none⟩ = some (.int .u8 b1) := HI.out.cell 2
        have kI3 : x4.cell? ⟨w.heap.size, 3, none⟩ = some (.int .u8 c1) := HI.out.cell 3
        have kI4 : x4.cell? ⟨w.heap.size, 4, none⟩ = some (.int .i32 m1) := HI.out.cell 4
        have kJ0 : x4.cell? ⟨w.heap.size + 1, 0, none⟩ = some (.int .u8 op2) := HJ.out.cell 0
        have kJ1 : x4.cell? ⟨w.heap.size + 1, 1, none⟩ = some (.int .u8 a2) := HJ.out.cell 1
        have kJ2 : x4.cell? ⟨w.heap.size + 1, 2, none⟩ = some (.int .u8 b2) := HJ.out.cell 2
        have kJ3 : x4.cell? ⟨w.heap.size + 1, 3, none⟩ = some (.int .u8 c2) := HJ.out.cell 3
        have kJ4 : x4.cell? ⟨w.heap.size + 1, 4, none⟩ = some (.int .i32 m2) := HJ.out.cell 4
        go_wp2_with fail
        refine (HTj.out _ (HE.out.kept Z0.out)).mono ?_
        rintro _ x5 ⟨rfl, y5⟩
        clear kI0 kI1 kI2 kI3 kI4 kJ0 kJ1 kJ2 kJ3 kJ4
        have HI := Lib.hid (HI.out.below y5)
        have HJ := Lib.hid (HJ.out.below y5)
        have Z0 := Lib.hid (Z0.out.trans (y5.mono Z0.out.size))
        clear y5
        have kI0 : x5.cell? ⟨w.heap.size, 0, none⟩ = some (.int .u8 op1) := HI.out.cell 0
        have kI1 : x5.cell? ⟨w.heap.size, 1, none⟩ = some (.int .u8 a1) := HI.out.cell 1
        have kI2 : x5.cell? ⟨w.heap.size, 2, none⟩ = some (.int .u8 b1) := HI.out.cell 2
        have kI3 : x5.cell? ⟨w.heap.size, 3, none⟩ = some (.int .u8 c1) := HI.out.cell 3
        have kI4 : x5.cell? ⟨w.heap.size, 4, none⟩ = some (.int .i32 m1) := HI.out.cell 4
        have kJ0 : x5.cell? ⟨w.heap.size + 1, 0, none⟩ = some (.int .u8 op2) := HJ.out.cell 0
        have kJ1 : x5.cell? ⟨w.heap.size + 1, 1, none⟩ = some (.int .u8 a2) := HJ.out.cell 1
        have kJ2 : x5.cell? ⟨w.heap.size + 1, 2, none⟩ = some (.int .u8 b2) := HJ.out.cell 2
        have kJ3 : x5.cell? ⟨w.heap.size + 1, 3, none⟩ = some (.int .u8 c2) := HJ.out.cell 3
        have kJ4 : x5.cell? ⟨w.heap.size + 1, 4, none⟩ = some (.int .i32 m2) := HJ.out.cell 4
        go_wp2_with fail
        all_goals first
          | (go_ret; exact ⟨rfl, Z0.out⟩)
          | (exfalso; exact HN2.out ⟨by omega, by omega, by omega, by omega, by omega⟩)
end Go.Proofs.YtdmoiahaekooaaaDoor
