/-
  Walk of the law IsaTexts. Condition: Go's own variables hold what their initialisers lay.
-/
import Derived.Test.YtdmoiahaekooaaaDoorIs4
import Derived.Test.YtdmoiahaekooaaaDoorIsH
namespace Go.Proofs.YtdmoiahaekooaaaDoor
open Go.RowKit Go.Shelf Go.Sort

set_option maxRecDepth 100000 in
set_option maxHeartbeats 4000000 in
theorem Texts_any (i : Ins) (s : ByteArray) (w : World) (hi : i.ok) (hs : s.size ≤ maxLen) (hE : IsEnv w) : Calls Tryd.prog 3 #[insV i, .string s] w fun e w' => e = .returned (.bool true) ∧ Below w.heap.size w w' := by
  obtain ⟨l, rfl⟩ : ∃ l, s = mkS l := ⟨s.data.toList, (mkS_of s).symm⟩
  rw [mkS_size] at hs
  have HE := Lib.hid hE
  clear hE
  have HTi := Lib.hid (fun w hE => Text_any i hi w hE)
  have HFi := Lib.hid (fun w => rText_any i hi w)
  have HRs := Lib.hid (fun w hE => Read_any l hs w hE)
  have HGs := Lib.hid (fun w => rRead_any l hs w)
  unfold ReadPost at HRs HGs
  unfold TextPost at HTi HFi
  clear hi hs
  generalize (readI l).getD Ins.none = j at HRs HGs
  generalize (if (readI l).isSome = true then (0 : Int) else 151) = ej at HRs HGs
  generalize mkS (if rightI i = true then textI i else []) = ti at HTi HFi
  generalize (if rightI i = true then (0 : Int) else 150) = ei at HTi HFi
  generalize mkS l = s at *
  obtain ⟨op1, a1, b1, c1, m1⟩ := i
  obtain ⟨op2, a2, b2, c2, m2⟩ := j
  have HRx : Hid (∀ w, IsEnv w → Calls Tryd.prog 12 #[.string s] w fun e w' => e = .returned (.tuple #[.agg #[.int .u8 op2, .int .u8 a2, .int .u8 b2, .int .u8 c2, .int .i32 m2], .int .i64 ej]) ∧ Below w.heap.size w w') := Lib.hid HRs.out
  have HGx : Hid (∀ w, Calls Tryd.prog 13 #[.string s] w fun e w' => e = .returned (.tuple #[.agg #[.int .u8 op2, .int .u8 a2, .int .u8 b2, .int .u8 c2, .int .i32 m2], .int .i64 ej]) ∧ Below w.heap.size w w') := Lib.hid HGs.out
  unfold insV insA at HTi HFi ⊢
  dsimp only at HTi HFi ⊢
  have HI := Lib.hid (Blk.new w 23 (insA ⟨op1, a1, b1, c1, m1⟩) rfl)
  have Z0 := Lib.hid ((Below.refl _ w).alloc (Nat.le_refl _) (.cells (insA ⟨op1, a1, b1, c1, m1⟩) 23))
  go_enter Tryd.func3, Tryd.ntmps3
  go_wp2_with fail
  refine (shown_any _ (HE.out.kept Z0.out)).mono ?_
  rintro _ x1 ⟨rfl, y1⟩
  have HI := Lib.hid (HI.out.below y1)
  have Z0 := Lib.hid (Z0.out.trans (y1.mono Z0.out.size))
  clear y1
  have kI0 : x1.cell? ⟨w.heap.size, 0, none⟩ = some (.int .u8 op1) := HI.out.cell 0
  have kI1 : x1.cell? ⟨w.heap.size, 1, none⟩ = some (.int .u8 a1) := HI.out.cell 1
  have kI2 : x1.cell? ⟨w.heap.size, 2, none⟩ = some (.int .u8 b1) := HI.out.cell 2
  have kI3 : x1.cell? ⟨w.heap.size, 3, none⟩ = some (.int .u8 c1) := HI.out.cell 3
  have kI4 : x1.cell? ⟨w.heap.size, 4, none⟩ = some (.int .i32 m1) := HI.out.cell 4
  go_wp2_with fail
  refine (HTi.out _ (HE.out.kept Z0.out)).mono ?_
  rintro _ x2 ⟨rfl, y2⟩
  clear kI0 kI1 kI2 kI3 kI4
  have HI := Lib.hid (HI.out.below y2)
  have Z0 := Lib.hid (Z0.out.trans (y2.mono Z0.out.size))
  clear y2
  have kI0 : x2.cell? ⟨w.heap.size, 0, none⟩ = some (.int .u8 op1) := HI.out.cell 0
  have kI1 : x2.cell? ⟨w.heap.size, 1, none⟩ = some (.int .u8 a1) := HI.out.cell 1
  have kI2 : x2.cell? ⟨w.heap.size, 2, none⟩ = some (.int .u8 b1) := HI.out.cell 2
  have kI3 : x2.cell? ⟨w.heap.size, 3, none⟩ = some (.int .u8 c1) := HI.out.cell 3
  have kI4 : x2.cell? ⟨w.heap.size, 4, none⟩ = some (.int .i32 m1) := HI.out.cell 4
  go_wp2_with fail
  refine (HFi.out _).mono ?_
  rintro _ x3 ⟨rfl, y3⟩
  clear kI0 kI1 kI2 kI3 kI4
  have HI := Lib.hid (HI.out.below y3)
  have Z0 := Lib.hid (Z0.out.trans (y3.mono Z0.out.size))
  clear y3
  have kI0 : x3.cell? ⟨w.heap.size, 0, none⟩ = some (.int .u8 op1) := HI.out.cell 0
  have kI1 : x3.cell? ⟨w.heap.size, 1, none⟩ = some (.int .u8 a1) := HI.out.cell 1
  have kI2 : x3.cell? ⟨w.heap.size, 2, none⟩ = some (.int .u8 b1) := HI.out.cell 2
  have kI3 : x3.cell? ⟨w.heap.size, 3, none⟩ = some (.int .u8 c1) := HI.out.cell 3
  have kI4 : x3.cell? ⟨w.heap.size, 4, none⟩ = some (.int .i32 m1) := HI.out.cell 4
  go_wp2_with fail
  refine (HRx.out _ (HE.out.kept Z0.out)).mono ?_
  rintro _ x4 ⟨rfl, y4⟩
  clear kI0 kI1 kI2 kI3 kI4
  have HI := Lib.hid (HI.out.below y4)
  have Z0 := Lib.hid (Z0.out.trans (y4.mono Z0.out.size))
  clear y4
  have kI0 : x4.cell? ⟨w.heap.size, 0, none⟩ = some (.int .u8 op1) := HI.out.cell 0
  have kI1 : x4.cell? ⟨w.heap.size, 1, none⟩ = some (.int .u8 a1) := HI.out.cell 1
  have kI2 : x4.cell? ⟨w.heap.size, 2, none⟩ = some (.int .u8 b1) := HI.out.cell 2
  have kI3 : x4.cell? ⟨w.heap.size, 3, none⟩ = some (.int .u8 c1) := HI.out.cell 3
  have kI4 : x4.cell? ⟨w.heap.size, 4, none⟩ = some (.int .i32 m1) := HI.out.cell 4
  have HI := Lib.hid (HI.out.alloc (.cells (insA ⟨op2, a2, b2, c2, m2⟩) 23))
  have HK := Lib.hid (Blk.new x4 23 (insA ⟨op2, a2, b2, c2, m2⟩) rfl)
  have Z0 := Lib.hid (Z0.out.alloc Z0.out.size (.cells (insA ⟨op2, a2, b2, c2, m2⟩) 23))
  go_wp2_with fail
  refine (HGx.out _).mono ?_
  rintro _ x5 ⟨rfl, y5⟩
  clear kI0 kI1 kI2 kI3 kI4
  have HI := Lib.hid (HI.out.below y5)
  have HK := Lib.hid (HK.out.below y5)
  have Z0 := Lib.hid (Z0.out.trans (y5.mono Z0.out.size))
  clear y5
  have kI0 : x5.cell? ⟨w.heap.size, 0, none⟩ = some (.int .u8 op1) := HI.out.cell 0
  have kI1 : x5.cell? ⟨w.heap.size, 1, none⟩ = some (.int .u8 a1) := HI.out.cell 1
  have kI2 : x5.cell? ⟨w.heap.size, 2, none⟩ = some (.int .u8 b1) := HI.out.cell 2
  have kI3 : x5.cell? ⟨w.heap.size, 3, none⟩ = some (.int .u8 c1) := HI.out.cell 3
  have kI4 : x5.cell? ⟨w.heap.size, 4, none⟩ = some (.int .i32 m1) := HI.out.cell 4
  have hlK : x4.heap.size < x5.heap.size := HK.out.lt
  have kK0 : x5.cell? ⟨x4.heap.size, 0, none⟩ = some (.int .u8 op2) := HK.out.cell 0
  have kK1 : x5.cell? ⟨x4.heap.size, 1, none⟩ = some (.int .u8 a2) := HK.out.cell 1
  have kK2 : x5.cell? ⟨x4.heap.size, 2, none⟩ = some (.int .u8 b2) := HK.out.cell 2
  have kK3 : x5.cell? ⟨x4.heap.size, 3, none⟩ = some (.int .u8 c2) := HK.out.cell 3
  have kK4 : x5.cell? ⟨x4.heap.size, 4, none⟩ = some (.int .i32 m2) := HK.out.cell 4
  have Z9 := Lib.hid (Z0.out.alloc Z0.out.size (.cells (insA ⟨op2, a2, b2, c2, m2⟩) 23))
  go_wp2_with fail
  go_ret
  exact ⟨rfl, Z9.out⟩
end Go.Proofs.YtdmoiahaekooaaaDoor
