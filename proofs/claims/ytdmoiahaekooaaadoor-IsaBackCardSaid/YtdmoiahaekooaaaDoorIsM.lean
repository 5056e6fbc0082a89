/-
  Walk of the law IsaBack. Condition: Go's own variables hold what their initialisers lay.
-/
import Derived.Test.YtdmoiahaekooaaaDoorIsH
namespace Go.Proofs.YtdmoiahaekooaaaDoor
open Go.RowKit Go.Shelf Go.Sort

set_option maxRecDepth 100000 in
set_option maxHeartbeats 4000000 in
theorem Back_any (i : Ins) (v : Nat) (w : World) (hi : i.ok) (hv : v < 18446744073709551616) (hE : IsEnv w) : Calls Tryd.prog 8 #[insV i, .int .u64 v] w fun e w' => e = .returned (.bool true) ∧ Below w.heap.size w w' := by
  have HE := Lib.hid hE
  clear hE
  have HEi := Lib.hid (fun w => Encode_any i hi w)
  have HRi := Lib.hid (fun w => Right_any i hi w)
  have HDw := Lib.hid (fun w => Decode_any v hv w)
  have HDi : Hid (rightI i = true → ∀ w, Calls Tryd.prog 18 #[.int .u64 (wordI i)] w fun e w' => e = .returned (.tuple #[insV i, .int .i64 0]) ∧ Below w.heap.size w w') := Lib.hid (fun hr w => (Decode_any (wordI i) (word_lt hi) w).mono (fun e w' h => ⟨by have h1 := h.1; unfold DecPost at h1; rw [h1, ins_word hi, hr]; rfl, h.2⟩))
  obtain ⟨hw1, hw2⟩ := word_ins hv
  have HEj : Hid (rightI (insI v) = true → ∀ w, Calls Tryd.prog 14 #[insV (insI v)] w fun e w' => e = .returned (.tuple #[.int .u64 v, .int .i64 0]) ∧ Below w.heap.size w w') := Lib.hid (fun hr w => (Encode_any (insI v) hw2 w).mono (fun e w' h => ⟨by have h1 := h.1; unfold EncPost at h1; rw [h1, hr, hw1]; rfl, h.2⟩))
  have HRj := Lib.hid (fun w => Right_any (insI v) hw2 w)
  unfold DecPost at HDw
  unfold EncPost at HEi
  clear hw1 hw2 hv
  generalize wordI i = wi at *
  obtain ⟨op1, a1, b1, c1, m1⟩ := i
  cases hri : rightI ⟨op1, a1, b1, c1, m1⟩ with
  | false =>
    rw [hri] at HEi HDi HRi
    simp only [Bool.false_eq_true, if_false] at HEi
    unfold insV insA at HEi HRi ⊢
    dsimp only at HEi HRi ⊢
    clear hri HDi hi
    cases hrw : rightI (insI v) with
    | false =>
      rw [hrw] at HDw
      clear hrw HEj HRj
      have HDx : Hid (∀ w, Calls Tryd.prog 18 #[.int .u64 v] w fun e w' => e = .returned (.tuple #[.agg #[.int .u8 0, .int .u8 0, .int .u8 0, .int .u8 0, .int .i32 0], .int .i64 150]) ∧ Below w.heap.size w w') := Lib.hid HDw.out
      have HI := Lib.hid (Blk.new w 23 (insA ⟨op1, a1, b1, c1, m1⟩) rfl)
      have Z0 := Lib.hid ((Below.refl _ w).alloc (Nat.le_refl _) (.cells (insA ⟨op1, a1, b1, c1, m1⟩) 23))
      go_enter Tryd.func8, Tryd.ntmps8
      go_wp2_with fail
      refine (shown_any _ (HE.out.kept Z0.out)).mono ?_
      rintro _ x1 ⟨rfl, y1⟩
      have HI := Lib.hid (HI.out.below y1)
      have Z0 := Lib.hid (Z0.out.trans (y1.mono Z0.out.size))
      clear y1
      have kI0 : x1.cell? ⟨w.heap.size, 0, none⟩ = some (.int .u8 op1) := HI.out.cell 0
      have kI1 : x1.cell? ⟨w.heap.size, 1, none⟩ = some (.int .u8 a1) := HI.out.cell 1
      have kI2 : x1.cell? ⟨w.heap.size, 2, none⟩ = some (.int .u8 b1) := HI.out.cell 2
      have kI3 : x1.cell? ⟨w.heap.size, 3, none⟩ = some (.int .u8 c1) := HI.out.cell 3
      have kI4 : x1.cell? ⟨w.heap.size, 4, none⟩ = some (.int .i32 m1) := HI.out.cell 4
      have lI : w.heap.size < x1.heap.size := HI.out.lt
      go_wp2_with fail
      refine (HEi.out _).mono ?_
      rintro _ x2 ⟨rfl, y2⟩
      clear kI0 kI1 kI2 kI3 kI4 lI
      have HI := Lib.hid (HI.out.below y2)
      have Z0 := Lib.hid (Z0.out.trans (y2.mono Z0.out.size))
      clear y2
      have kI0 : x2.cell? ⟨w.heap.size, 0, none⟩ = some (.int .u8 op1) := HI.out.cell 0
      have kI1 : x2.cell? ⟨w.heap.size, 1, none⟩ = some (.int .u8 a1) := HI.out.cell 1
      have kI2 : x2.cell? ⟨w.heap.size, 2, none⟩ = some (.int .u8 b1) := HI.out.cell 2
      have kI3 : x2.cell? ⟨w.heap.size, 3, none⟩ = some (.int .u8 c1) := HI.out.cell 3
      have kI4 : x2.cell? ⟨w.heap.size, 4, none⟩ = some (.int .i32 m1) := HI.out.cell 4
      have lI : w.heap.size < x2.heap.size := HI.out.lt
      go_wp2_with fail
      refine (HDx.out _).mono ?_
      rintro _ x3 ⟨rfl, y3⟩
      clear kI0 kI1 kI2 kI3 kI4 lI
      have HI := Lib.hid (HI.out.below y3)
      have Z0 := Lib.hid (Z0.out.trans (y3.mono Z0.out.size))
      clear y3
      have kI0 : x3.cell? ⟨w.heap.size, 0, none⟩ = some (.int .u8 op1) := HI.out.cell 0
      have kI1 : x3.cell? ⟨w.heap.size, 1, none⟩ = some (.int .u8 a1) := HI.out.cell 1
      have kI2 : x3.cell? ⟨w.heap.size, 2, none⟩ = some (.int .u8 b1) := HI.out.cell 2
      have kI3 : x3.cell? ⟨w.heap.size, 3, none⟩ = some (.int .u8 c1) := HI.out.cell 3
      have kI4 : x3.cell? ⟨w.heap.size, 4, none⟩ = some (.int .i32 m1) := HI.out.cell 4
      have lI : w.heap.size < x3.heap.size := HI.out.lt
      have HI := Lib.hid (HI.out.alloc (.cells (insA ⟨0, 0, 0, 0, 0⟩) 23))
      have HK := Lib.hid (Blk.new x3 23 (insA ⟨0, 0, 0, 0, 0⟩) rfl)
      have Z0 := Lib.hid (Z0.out.alloc Z0.out.size (.cells (insA ⟨0, 0, 0, 0, 0⟩) 23))
      go_wp2_with fail
      refine (HRi.out _).mono ?_
      rintro _ x4 ⟨rfl, y4⟩
      clear kI0 kI1 kI2 kI3 kI4 lI
      have HI := Lib.hid (HI.out.below y4)
      have HK := Lib.hid (HK.out.below y4)
      have Z0 := Lib.hid (Z0.out.trans (y4.mono Z0.out.size))
      clear y4
      have kI0 : x4.cell? ⟨w.heap.size, 0, none⟩ = some (.int .u8 op1) := HI.out.cell 0
      have kI1 : x4.cell? ⟨w.heap.size, 1, none⟩ = some (.int .u8 a1) := HI.out.cell 1
      have kI2 : x4.cell? ⟨w.heap.size, 2, none⟩ = some (.int .u8 b1) := HI.out.cell 2
      have kI3 : x4.cell? ⟨w.heap.size, 3, none⟩ = some (.int .u8 c1) := HI.out.cell 3
      have kI4 : x4.cell? ⟨w.heap.size, 4, none⟩ = some (.int .i32 m1) := HI.out.cell 4
      have lI : w.heap.size < x4.heap.size := HI.out.lt
      have kK0 : x4.cell? ⟨x3.heap.size, 0, none⟩ = some (.int .u8 0) := HK.out.cell 0
      have kK1 : x4.cell? ⟨x3.heap.size, 1, none⟩ = some (.int .u8 0) := HK.out.cell 1
      have kK2 : x4.cell? ⟨x3.heap.size, 2, none⟩ = some (.int .u8 0) := HK.out.cell 2
      have kK3 : x4.cell? ⟨x3.heap.size, 3, none⟩ = some (.int .u8 0) := HK.out.cell 3
      have kK4 : x4.cell? ⟨x3.heap.size, 4, none⟩ = some (.int .i32 0) := HK.out.cell 4
      have lK : x3.heap.size < x4.heap.size := HK.out.lt
      go_wp2_with fail
      go_ret
      exact ⟨rfl, Z0.out⟩
    | true =>
      rw [hrw] at HDw
      have HEq := Lib.hid (HEj.out hrw)
      clear HEj
      rw [hrw] at HRj
      clear hrw
      generalize insI v = j at *
      obtain ⟨op2, a2, b2, c2, m2⟩ := j
      have HDx : Hid (∀ w, Calls Tryd.prog 18 #[.int .u64 v] w fun e w' => e = .returned (.tuple #[.agg #[.int .u8 op2, .int .u8 a2, .int .u8 b2, .int .u8 c2, .int .i32 m2], .int .i64 0]) ∧ Below w.heap.size w w') := Lib.hid HDw.out
      unfold insV insA at HEq HRj
      dsimp only at HEq HRj
      have HI := Lib.hid (Blk.new w 23 (insA ⟨op1, a1, b1, c1, m1⟩) rfl)
      have Z0 := Lib.hid ((Below.refl _ w).alloc (Nat.le_refl _) (.cells (insA ⟨op1, a1, b1, c1, m1⟩) 23))
      go_enter Tryd.func8, Tryd.ntmps8
      go_wp2_with fail
      refine (shown_any _ (HE.out.kept Z0.out)).mono ?_
      rintro _ x1 ⟨rfl, y1⟩
      have HI := Lib.hid (HI.out.below y1)
      have Z0 := Lib.hid (Z0.out.trans (y1.mono Z0.out.size))
      clear y1
      have kI0 : x1.cell? ⟨w.heap.size, 0, none⟩ = some (.int .u8 op1) := HI.out.cell 0
      have kI1 : x1.cell? ⟨w.heap.size, 1, none⟩ = some (.int .u8 a1) := HI.out.cell 1
      have kI2 : x1.cell? ⟨w.heap.size, 2, none⟩ = some (.int .u8 b1) := HI.out.cell 2
      have kI3 : x1.cell? ⟨w.heap.size, 3, none⟩ = some (.int .u8 c1) := HI.out.cell 3
      have kI4 : x1.cell? ⟨w.heap.size, 4, none⟩ = some (.int .i32 m1) := HI.out.cell 4
      have lI : w.heap.size < x1.heap.size := HI.out.lt
      go_wp2_with fail
      refine (HEi.out _).mono ?_
      rintro _ x2 ⟨rfl, y2⟩
      clear kI0 kI1 kI2 kI3 kI4 lI
      have HI := Lib.hid (HI.out.below y2)
      have Z0 := Lib.hid (Z0.out.trans (y2.mono Z0.out.size))
      clear y2
      have kI0 : x2.cell? ⟨w.heap.size, 0, none⟩ = some (.int .u8 op1) := HI.out.cell 0
      have kI1 : x2.cell? ⟨w.heap.size, 1, none⟩ = some (.int .u8 a1) := HI.out.cell 1
      have kI2 : x2.cell? ⟨w.heap.size, 2, none⟩ = some (.int .u8 b1) := HI.out.cell 2
      have kI3 : x2.cell? ⟨w.heap.size, 3, none⟩ = some (.int .u8 c1) := HI.out.cell 3
      have kI4 : x2.cell? ⟨w.heap.size, 4, none⟩ = some (.int .i32 m1) := HI.out.cell 4
      have lI : w.heap.size < x2.heap.size := HI.out.lt
      go_wp2_with fail
      refine (HDx.out _).mono ?_
      rintro _ x3 ⟨rfl, y3⟩
      clear kI0 kI1 kI2 kI3 kI4 lI
      have HI := Lib.hid (HI.out.below y3)
      have Z0 := Lib.hid (Z0.out.trans (y3.mono Z0.out.size))
      clear y3
      have kI0 : x3.cell? ⟨w.heap.size, 0, none⟩ = some (.int .u8 op1) := HI.out.cell 0
      have kI1 : x3.cell? ⟨w.heap.size, 1, none⟩ = some (.int .u8 a1) := HI.out.cell 1
      have kI2 : x3.cell? ⟨w.heap.size, 2, none⟩ = some (.int .u8 b1) := HI.out.cell 2
      have kI3 : x3.cell? ⟨w.heap.size, 3, none⟩ = some (.int .u8 c1) := HI.out.cell 3
      have kI4 : x3.cell? ⟨w.heap.size, 4, none⟩ = some (.int .i32 m1) := HI.out.cell 4
      have lI : w.heap.size < x3.heap.size := HI.out.lt
      have HI := Lib.hid (HI.out.alloc (.cells (insA ⟨op2, a2, b2, c2, m2⟩) 23))
      have HK := Lib.hid (Blk.new x3 23 (insA ⟨op2, a2, b2, c2, m2⟩) rfl)
      have Z0 := Lib.hid (Z0.out.alloc Z0.out.size (.cells (insA ⟨op2, a2, b2, c2, m2⟩) 23))
      go_wp2_with fail
      refine (HEq.out _).mono ?_
      rintro _ x4 ⟨rfl, y4⟩
      clear kI0 kI1 kI2 kI3 kI4 lI
      have HI := Lib.hid (HI.out.below y4)
      have HK := Lib.hid (HK.out.below y4)
      have Z0 := Lib.hid (Z0.out.trans (y4.mono Z0.out.size))
      clear y4
      have kI0 : x4.cell? ⟨w.heap.size, 0, none⟩ = some (.int .u8 op1) := HI.out.cell 0
      have kI1 : x4.cell? ⟨w.heap.size, 1, none⟩ = some (.int .u8 a1) := HI.out.cell 1
      have kI2 : x4.cell? ⟨w.heap.size, 2, none⟩ = some (.int .u8 b1) := HI.out.cell 2
      have kI3 : x4.cell? ⟨w.heap.size, 3, none⟩ = some (.int .u8 c1) := HI.out.cell 3
      have kI4 : x4.cell? ⟨w.heap.size, 4, none⟩ = some (.int .i32 m1) := HI.out.cell 4
      have lI : w.heap.size < x4.heap.size := HI.out.lt
      have kK0 : x4.cell? ⟨x3.heap.size, 0, none⟩ = some (.int .u8 op2) := HK.out.cell 0
      have kK1 : x4.cell? ⟨x3.heap.size, 1, none⟩ = some (.int .u8 a2) := HK.out.cell 1
      have kK2 : x4.cell? ⟨x3.heap.size, 2, none⟩ = some (.int .u8 b2) := HK.out.cell 2
      have kK3 : x4.cell? ⟨x3.heap.size, 3, none⟩ = some (.int .u8 c2) := HK.out.cell 3
      have kK4 : x4.cell? ⟨x3.heap.size, 4, none⟩ = some (.int .i32 m2) := HK.out.cell 4
      have lK : x3.heap.size < x4.heap.size := HK.out.lt
      go_wp2_with fail
      refine (HRj.out _).mono ?_
      rintro _ x5 ⟨rfl, y5⟩
      clear kI0 kI1 kI2 kI3 kI4 lI kK0 kK1 kK2 kK3 kK4 lK
      have HI := Lib.hid (HI.out.below y5)
      have HK := Lib.hid (HK.out.below y5)
      have Z0 := Lib.hid (Z0.out.trans (y5.mono Z0.out.size))
      clear y5
      have kI0 : x5.cell? ⟨w.heap.size, 0, none⟩ = some (.int .u8 op1) := HI.out.cell 0
      have kI1 : x5.cell? ⟨w.heap.size, 1, none⟩ = some (.int .u8 a1) := HI.out.cell 1
      have kI2 : x5.cell? ⟨w.heap.size, 2, none⟩ = some (.int .u8 b1) := HI.out.cell 2
      have kI3 : x5.cell? ⟨w.heap.size, 3, none⟩ = some (.int .u8 c1) := HI.out.cell 3
      have kI4 : x5.cell? ⟨w.heap.size, 4, none⟩ = some (.int .i32 m1) := HI.out.cell 4
      have lI : w.heap.size < x5.heap.size := HI.out.lt
      have kK0 : x5.cell? ⟨x3.heap.size, 0, none⟩ = some (.int .u8 op2) := HK.out.cell 0
      have kK1 : x5.cell? ⟨x3.heap.size, 1, none⟩ = some (.int .u8 a2) := HK.out.cell 1
      have kK2 : x5.cell? ⟨x3.heap.size, 2, none⟩ = some (.int .u8 b2) := HK.out.cell 2
      have kK3 : x5.cell? ⟨x3.heap.size, 3, none⟩ = some (.int .u8 c2) := HK.out.cell 3
      have kK4 : x5.cell? ⟨x3.heap.size, 4, none⟩ = some (.int .i32 m2) := HK.out.cell 4
      have lK : x3.heap.size < x5.heap.size := HK.out.lt
      go_wp2_with fail
      go_ret
      exact ⟨rfl, Z0.out⟩
  | true =>
    rw [hri] at HEi HDi HRi
    have HDq := Lib.hid (HDi.out rfl)
    clear HDi
    simp only [if_true] at HEi
    unfold insV insA at HEi HRi HDq ⊢
    dsimp only at HEi HRi HDq ⊢
    clear hri hi
    cases hrw : rightI (insI v) with
    | false =>
      rw [hrw] at HDw
      clear hrw HEj HRj
      have HDx : Hid (∀ w, Calls Tryd.prog 18 #[.int .u64 v] w fun e w' => e = .returned (.tuple #[.agg #[.int .u8 0, .int .u8 0, .int .u8 0, .int .u8 0, .int .i32 0], .int .i64 150]) ∧ Below w.heap.size w w') := Lib.hid HDw.out
      have HI := Lib.hid (Blk.new w 23 (insA ⟨op1, a1, b1, c1, m1⟩) rfl)
      have Z0 := Lib.hid ((Below.refl _ w).alloc (Nat.le_refl _) (.cells (insA ⟨op1, a1, b1, c1, m1⟩) 23))
      go_enter Tryd.func8, Tryd.ntmps8
      go_wp2_with fail
      refine (shown_any _ (HE.out.kept Z0.out)).mono ?_
      rintro _ x1 ⟨rfl, y1⟩
      have HI := Lib.hid (HI.out.below y1)
      have Z0 := Lib.hid (Z0.out.trans (y1.mono Z0.out.size))
      clear y1
      have kI0 : x1.cell? ⟨w.heap.size, 0, none⟩ = some (.int .u8 op1) := HI.out.cell 0
      have kI1 : x1.cell? ⟨w.heap.size, 1, none⟩ = some (.int .u8 a1) := HI.out.cell 1
      have kI2 : x1.cell? ⟨w.heap.size, 2, none⟩ = some (.int .u8 b1) := HI.out.cell 2
      have kI3 : x1.cell? ⟨w.heap.size, 3, none⟩ = some (.int .u8 c1) := HI.out.cell 3
      have kI4 : x1.cell? ⟨w.heap.size, 4, none⟩ = some (.int .i32 m1) := HI.out.cell 4
      have lI : w.heap.size < x1.heap.size := HI.out.lt
      go_wp2_with fail
      refine (HEi.out _).mono ?_
      rintro _ x2 ⟨rfl, y2⟩
      clear kI0 kI1 kI2 kI3 kI4 lI
      have HI := Lib.hid (HI.out.below y2)
      have Z0 := Lib.hid (Z0.out.trans (y2.mono Z0.out.size))
      clear y2
      have kI0 : x2.cell? ⟨w.heap.size, 0, none⟩ = some (.int .u8 op1) := HI.out.cell 0
      have kI1 : x2.cell? ⟨w.heap.size, 1, none⟩ = some (.int .u8 a1) := HI.out.cell 1
      have kI2 : x2.cell? ⟨w.heap.size, 2, none⟩ = some (.int .u8 b1) := HI.out.cell 2
      have kI3 : x2.cell? ⟨w.heap.size, 3, none⟩ = some (.int .u8 c1) := HI.out.cell 3
      have kI4 : x2.cell? ⟨w.heap.size, 4, none⟩ = some (.int .i32 m1) := HI.out.cell 4
      have lI : w.heap.size < x2.heap.size := HI.out.lt
      go_wp2_with fail
      refine (HDq.out _).mono ?_
      rintro _ x3 ⟨rfl, y3⟩
      clear kI0 kI1 kI2 kI3 kI4 lI
      have HI := Lib.hid (HI.out.below y3)
      have Z0 := Lib.hid (Z0.out.trans (y3.mono Z0.out.size))
      clear y3
      have kI0 : x3.cell? ⟨w.heap.size, 0, none⟩ = some (.int .u8 op1) := HI.out.cell 0
      have kI1 : x3.cell? ⟨w.heap.size, 1, none⟩ = some (.int .u8 a1) := HI.out.cell 1
      have kI2 : x3.cell? ⟨w.heap.size, 2, none⟩ = some (.int .u8 b1) := HI.out.cell 2
      have kI3 : x3.cell? ⟨w.heap.size, 3, none⟩ = some (.int .u8 c1) := HI.out.cell 3
      have kI4 : x3.cell? ⟨w.heap.size, 4, none⟩ = some (.int .i32 m1) := HI.out.cell 4
      have lI : w.heap.size < x3.heap.size := HI.out.lt
      have HI := Lib.hid (HI.out.alloc (.cells (insA ⟨op1, a1, b1, c1, m1⟩) 23))
      have HJ := Lib.hid (Blk.new x3 23 (insA ⟨op1, a1, b1, c1, m1⟩) rfl)
      have Z0 := Lib.hid (Z0.out.alloc Z0.out.size (.cells (insA ⟨op1, a1, b1, c1, m1⟩) 23))
      go_wp2_with fail
      refine (HDx.out _).mono ?_
      rintro _ x4 ⟨rfl, y4⟩
      clear kI0 kI1 kI2 kI3 kI4 lI
      have HI := Lib.hid (HI.out.below y4)
      have HJ := Lib.hid (HJ.out.below y4)
      have Z0 := Lib.hid (Z0.out.trans (y4.mono Z0.out.size))
      clear y4
      have kI0 : x4.cell? ⟨w.heap.size, 0, none⟩ = some (.int .u8 op1) := HI.out.cell 0
      have kI1 : x4.cell? ⟨w.heap.size, 1, none⟩ = some (.int .u8 a1) := HI.out.cell 1
      have kI2 : x4.cell? ⟨w.heap.size, 2, none⟩ = some (.int .u8 b1) := HI.out.cell 2
      have kI3 : x4.cell? ⟨w.heap.size, 3, none⟩ = some (.int .u8 c1) := HI.out.cell 3
      have kI4 : x4.cell? ⟨w.heap.size, 4, none⟩ = some (.int .i32 m1) := HI.out.cell 4
      have lI : w.heap.size < x4.heap.size := HI.out.lt
      have kJ0 : x4.cell? ⟨x3.heap.size, 0, none⟩ = some (.int .u8 op1) := HJ.out.cell 0
      have kJ1 : x4.cell? ⟨x3.heap.size, 1, none⟩ = some (.int .u8 a1) := HJ.out.cell 1
      have kJ2 : x4.cell? ⟨x3.heap.size, 2, none⟩ = some (.int .u8 b1) := HJ.out.cell 2
      have kJ3 : x4.cell? ⟨x3.heap.size, 3, none⟩ = some (.int .u8 c1) := HJ.out.cell 3
      have kJ4 : x4.cell? ⟨x3.heap.size, 4, none⟩ = some (.int .i32 m1) := HJ.out.cell 4
      have lJ : x3.heap.size < x4.heap.size := HJ.out.lt
      have HI := Lib.hid (HI.out.alloc (.cells (insA ⟨0, 0, 0, 0, 0⟩) 23))
      have HJ := Lib.hid (HJ.out.alloc (.cells (insA ⟨0, 0, 0, 0, 0⟩) 23))
      have HK := Lib.hid (Blk.new x4 23 (insA ⟨0, 0, 0, 0, 0⟩) rfl)
      have Z0 := Lib.hid (Z0.out.alloc Z0.out.size (.cells (insA ⟨0, 0, 0, 0, 0⟩) 23))
      go_wp2_with fail
      refine (HRi.out _).mono ?_
      rintro _ x5 ⟨rfl, y5⟩
      clear kI0 kI1 kI2 kI3 kI4 lI kJ0 kJ1 kJ2 kJ3 kJ4 lJ
      have HI := Lib.hid (HI.out.below y5)
      have HJ := Lib.hid (HJ.out.below y5)
      have HK := Lib.hid (HK.out.below y5)
      have Z0 := Lib.hid (Z0.out.trans (y5.mono Z0.out.size))
      clear y5
      have kI0 : x5.cell? ⟨w.heap.size, 0, none⟩ = some (.int .u8 op1) := HI.out.cell 0
      have kI1 : x5.cell? ⟨w.heap.size, 1, none⟩ = some (.int .u8 a1) := HI.out.cell 1
      have kI2 : x5.cell? ⟨w.heap.size, 2, none⟩ = some (.int .u8 b1) := HI.out.cell 2
      have kI3 : x5.cell? ⟨w.heap.size, 3, none⟩ = some (.int .u8 c1) := HI.out.cell 3
      have kI4 : x5.cell? ⟨w.heap.size, 4, none⟩ = some (.int .i32 m1) := HI.out.cell 4
      have lI : w.heap.size < x5.heap.size := HI.out.lt
      have kJ0 : x5.cell? ⟨x3.heap.size, 0, none⟩ = some (.int .u8 op1) := HJ.out.cell 0
      have kJ1 : x5.cell? ⟨x3.heap.size, 1, none⟩ = some (.int .u8 a1) := HJ.out.cell 1
      have kJ2 : x5.cell? ⟨x3.heap.size, 2, none⟩ = some (.int .u8 b1) := HJ.out.cell 2
      have kJ3 : x5.cell? ⟨x3.heap.size, 3, none⟩ = some (.int .u8 c1) := HJ.out.cell 3
      have kJ4 : x5.cell? ⟨x3.heap.size, 4, none⟩ = some (.int .i32 m1) := HJ.out.cell 4
      have lJ : x3.heap.size < x5.heap.size := HJ.out.lt
      have kK0 : x5.cell? ⟨x4.heap.size, 0, none⟩ = some (.int .u8 0) := HK.out.cell 0
      have kK1 : x5.cell? ⟨x4.heap.size, 1, none⟩ = some (.int .u8 0) := HK.out.cell 1
      have kK2 : x5.cell? ⟨x4.heap.size, 2, none⟩ = some (.int .u8 0) := HK.out.cell 2
      have kK3 : x5.cell? ⟨x4.heap.size, 3, none⟩ = some (.int .u8 0) := HK.out.cell 3
      have kK4 : x5.cell? ⟨x4.heap.size, 4, none⟩ = some (.int .i32 0) := HK.out.cell 4
      have lK : x4.heap.size < x5.heap.size := HK.out.lt
      go_wp2_with fail
      go_ret
      exact ⟨rfl, Z0.out⟩
    | true =>
      rw [hrw] at HDw
      have HEq := Lib.hid (HEj.out hrw)
      clear HEj
      rw [hrw] at HRj
      clear hrw
      generalize insI v = j at *
      obtain ⟨op2, a2, b2, c2, m2⟩ := j
      have HDx : Hid (∀ w, Calls Tryd.prog 18 #[.int .u64 v] w fun e w' => e = .returned (.tuple #[.agg #[.int .u8 op2, .int .u8 a2, .int .u8 b2, .int .u8 c2, .int .i32 m2], .int .i64 0]) ∧ Below w.heap.size w w') := Lib.hid HDw.out
      unfold insV insA at HEq HRj
      dsimp only at HEq HRj
      have HI := Lib.hid (Blk.new w 23 (insA ⟨op1, a1, b1, c1, m1⟩) rfl)
      have Z0 := Lib.hid ((Below.refl _ w).alloc (Nat.le_refl _) (.cells (insA ⟨op1, a1, b1, c1, m1⟩) 23))
      go_enter Tryd.func8, Tryd.ntmps8
      go_wp2_with fail
      refine (shown_any _ (HE.out.kept Z0.out)).mono ?_
      rintro _ x1 ⟨rfl, y1⟩
      have HI := Lib.hid (HI.out.below y1)
      have Z0 := Lib.hid (Z0.out.trans (y1.mono Z0.out.size))
      clear y1
      have kI0 : x1.cell? ⟨w.heap.size, 0, none⟩ = some (.int .u8 op1) := HI.out.cell 0
      have kI1 : x1.cell? ⟨w.heap.size, 1, none⟩ = some (.int .u8 a1) := HI.out.cell 1
      have kI2 : x1.cell? ⟨w.heap.size, 2, none⟩ = some (.int .u8 b1) := HI.out.cell 2
      have kI3 : x1.cell? ⟨w.heap.size, 3, none⟩ = some (.int .u8 c1) := HI.out.cell 3
      have kI4 : x1.cell? ⟨w.heap.size, 4, none⟩ = some (.int .i32 m1) := HI.out.cell 4
      have lI : w.heap.size < x1.heap.size := HI.out.lt
      go_wp2_with fail
      refine (HEi.out _).mono ?_
      rintro _ x2 ⟨rfl, y2⟩
      clear kI0 kI1 kI2 kI3 kI4 lI
      have HI := Lib.hid (HI.out.below y2)
      have Z0 := Lib.hid (Z0.out.trans (y2.mono Z0.out.size))
      clear y2
      have kI0 : x2.cell? ⟨w.heap.size, 0, none⟩ = some (.int .u8 op1) := HI.out.cell 0
      have kI1 : x2.cell? ⟨w.heap.size, 1, none⟩ = some (.int .u8 a1) := HI.out.cell 1
      have kI2 : x2.cell? ⟨w.heap.size, 2, none⟩ = some (.int .u8 b1) := HI.out.cell 2
      have kI3 : x2.cell? ⟨w.heap.size, 3, none⟩ = some (.int .u8 c1) := HI.out.cell 3
      have kI4 : x2.cell? ⟨w.heap.size, 4, none⟩ = some (.int .i32 m1) := HI.out.cell 4
      have lI : w.heap.size < x2.heap.size := HI.out.lt
      go_wp2_with fail
      refine (HDq.out _).mono ?_
      rintro _ x3 ⟨rfl, y3⟩
      clear kI0 kI1 kI2 kI3 kI4 lI
      have HI := Lib.hid (HI.out.below y3)
      have Z0 := Lib.hid (Z0.out.trans (y3.mono Z0.out.size))
      clear y3
      have kI0 : x3.cell? ⟨w.heap.size, 0, none⟩ = some (.int .u8 op1) := HI.out.cell 0
      have kI1 : x3.cell? ⟨w.heap.size, 1, none⟩ = some (.int .u8 a1) := HI.out.cell 1
      have kI2 : x3.cell? ⟨w.heap.size, 2, none⟩ = some (.int .u8 b1) := HI.out.cell 2
      have kI3 : x3.cell? ⟨w.heap.size, 3, none⟩ = some (.int .u8 c1) := HI.out.cell 3
      have kI4 : x3.cell? ⟨w.heap.size, 4, none⟩ = some (.int .i32 m1) := HI.out.cell 4
      have lI : w.heap.size < x3.heap.size := HI.out.lt
      have HI := Lib.hid (HI.out.alloc (.cells (insA ⟨op1, a1, b1, c1, m1⟩) 23))
      have HJ := Lib.hid (Blk.new x3 23 (insA ⟨op1, a1, b1, c1, m1⟩) rfl)
      have Z0 := Lib.hid (Z0.out.alloc Z0.out.size (.cells (insA ⟨op1, a1, b1, c1, m1⟩) 23))
      go_wp2_with fail
      refine (HDx.out _).mono ?_
      rintro _ x4 ⟨rfl, y4⟩
      clear kI0 kI1 kI2 kI3 kI4 lI
      have HI := Lib.hid (HI.out.below y4)
      have HJ := Lib.hid (HJ.out.below y4)
      have Z0 := Lib.hid (Z0.out.trans (y4.mono Z0.out.size))
      clear y4
      have kI0 : x4.cell? ⟨w.heap.size, 0, none⟩ = some (.int .u8 op1) := HI.out.cell 0
      have kI1 : x4.cell? ⟨w.heap.size, 1, none⟩ = some (.int .u8 a1) := HI.out.cell 1
      have kI2 : x4.cell? ⟨w.heap.size, 2, none⟩ = some (.int .u8 b1) := HI.out.cell 2
      have kI3 : x4.cell? ⟨w.heap.size, 3, none⟩ = some (.int .u8 c1) := HI.out.cell 3
      have kI4 : x4.cell? ⟨w.heap.size, 4, none⟩ = some (.int .i32 m1) := HI.out.cell 4
      have lI : w.heap.size < x4.heap.size := HI.out.lt
      have kJ0 : x4.cell? ⟨x3.heap.size, 0, none⟩ = some (.int .u8 op1) := HJ.out.cell 0
      have kJ1 : x4.cell? ⟨x3.heap.size, 1, none⟩ = some (.int .u8 a1) := HJ.out.cell 1
      have kJ2 : x4.cell? ⟨x3.heap.size, 2, none⟩ = some (.int .u8 b1) := HJ.out.cell 2
      have kJ3 : x4.cell? ⟨x3.heap.size, 3, none⟩ = some (.int .u8 c1) := HJ.out.cell 3
      have kJ4 : x4.cell? ⟨x3.heap.size, 4, none⟩ = some (.int .i32 m1) := HJ.out.cell 4
      have lJ : x3.heap.size < x4.heap.size := HJ.out.lt
      have HI := Lib.hid (HI.out.alloc (.cells (insA ⟨op2, a2, b2, c2, m2⟩) 23))
      have HJ := Lib.hid (HJ.out.alloc (.cells (insA ⟨op2, a2, b2, c2, m2⟩) 23))
      have HK := Lib.hid (Blk.new x4 23 (insA ⟨op2, a2, b2, c2, m2⟩) rfl)
      have Z0 := Lib.hid (Z0.out.alloc Z0.out.size (.cells (insA ⟨op2, a2, b2, c2, m2⟩) 23))
      go_wp2_with fail
      refine (HEq.out _).mono ?_
      rintro _ x5 ⟨rfl, y5⟩
      clear kI0 kI1 kI2 kI3 kI4 lI kJ0 kJ1 kJ2 kJ3 kJ4 lJ
      have HI := Lib.hid (HI.out.below y5)
      have HJ := Lib.hid (HJ.out.below y5)
      have HK := Lib.hid (HK.out.below y5)
      have Z0 := Lib.hid (Z0.out.trans (y5.mono Z0.out.size))
      clear y5
      have kI0 : x5.cell? ⟨w.heap.size, 0, none⟩ = some (.int .u8 op1) := HI.out.cell 0
      have kI1 : x5.cell? ⟨w.heap.size, 1, none⟩ = some (.int .u8 a1) := HI.out.cell 1
      have kI2 : x5.cell? ⟨w.heap.size, 2, none⟩ = some (.int .u8 b1) := HI.out.cell 2
      have kI3 : x5.cell? ⟨w.heap.size, 3, none⟩ = some (.int .u8 c1) := HI.out.cell 3
      have kI4 : x5.cell? ⟨w.heap.size, 4, none⟩ = some (.int .i32 m1) := HI.out.cell 4
      have lI : w.heap.size < x5.heap.size := HI.out.lt
      have kJ0 : x5.cell? ⟨x3.heap.size, 0, none⟩ = some (.int .u8 op1) := HJ.out.cell 0
      have kJ1 : x5.cell? ⟨x3.heap.size, 1, none⟩ = some (.int .u8 a1) := HJ.out.cell 1
      have kJ2 : x5.cell? ⟨x3.heap.size, 2, none⟩ = some (.int .u8 b1) := HJ.out.cell 2
      have kJ3 : x5.cell? ⟨x3.heap.size, 3, none⟩ = some (.int .u8 c1) := HJ.out.cell 3
      have kJ4 : x5.cell? ⟨x3.heap.size, 4, none⟩ = some (.int .i32 m1) := HJ.out.cell 4
      have lJ : x3.heap.size < x5.heap.size := HJ.out.lt
      have kK0 : x5.cell? ⟨x4.heap.size, 0, none⟩ = some (.int .u8 op2) := HK.out.cell 0
      have kK1 : x5.cell? ⟨x4.heap.size, 1, none⟩ = some (.int .u8 a2) := HK.out.cell 1
      have kK2 : x5.cell? ⟨x4.heap.size, 2, none⟩ = some (.int .u8 b2) := HK.out.cell 2
      have kK3 : x5.cell? ⟨x4.heap.size, 3, none⟩ = some (.int .u8 c2) := HK.out.cell 3
      have kK4 : x5.cell? ⟨x4.heap.size, 4, none⟩ = some (.int .i32 m2) := HK.out.cell 4
      have lK : x4.heap.size < x5.heap.size := HK.out.lt
      go_wp2_with fail
      refine (HRj.out _).mono ?_
      rintro _ x6 ⟨rfl, y6⟩
      clear kI0 kI1 kI2 kI3 kI4 lI kJ0 kJ1 kJ2 kJ3 kJ4 lJ kK0 kK1 kK2 kK3 kK4 lK
      have HI := Lib.hid (HI.out.below y6)
      have HJ := Lib.hid (HJ.out.below y6)
      have HK := Lib.hid (HK.out.below y6)
      have Z0 := Lib.hid (Z0.out.trans (y6.mono Z0.out.size))
      clear y6
      have kI0 : x6.cell? ⟨w.heap.size, 0, none⟩ = some (.int .u8 op1) := HI.out.cell 0
      have kI1 : x6.cell? ⟨w.heap.size, 1, none⟩ = some (.int .u8 a1) := HI.out.cell 1
      have kI2 : x6.cell? ⟨w.heap.size, 2, none⟩ = some (.int .u8 b1) := HI.out.cell 2
      have kI3 : x6.cell? ⟨w.heap.size, 3, none⟩ = some (.int .u8 c1) := HI.out.cell 3
      have kI4 : x6.cell? ⟨w.heap.size, 4, none⟩ = some (.int .i32 m1) := HI.out.cell 4
      have lI : w.heap.size < x6.heap.size := HI.out.lt
      have kJ0 : x6.cell? ⟨x3.heap.size, 0, none⟩ = some (.int .u8 op1) := HJ.out.cell 0
      have kJ1 : x6.cell? ⟨x3.heap.size, 1, none⟩ = some (.int .u8 a1) := HJ.out.cell 1
      have kJ2 : x6.cell? ⟨x3.heap.size, 2, none⟩ = some (.int .u8 b1) := HJ.out.cell 2
      have kJ3 : x6.cell? ⟨x3.heap.size, 3, none⟩ = some (.int .u8 c1) := HJ.out.cell 3
      have kJ4 : x6.cell? ⟨x3.heap.size, 4, none⟩ = some (.int .i32 m1) := HJ.out.cell 4
      have lJ : x3.heap.size < x6.heap.size := HJ.out.lt
      have kK0 : x6.cell? ⟨x4.heap.size, 0, none⟩ = some (.int .u8 op2) := HK.out.cell 0
      have kK1 : x6.cell? ⟨x4.heap.size, 1, none⟩ = some (.int .u8 a2) := HK.out.cell 1
      have kK2 : x6.cell? ⟨x4.heap.size, 2, none⟩ = some (.int .u8 b2) := HK.out.cell 2
      have kK3 : x6.cell? ⟨x4.heap.size, 3, none⟩ = some (.int .u8 c2) := HK.out.cell 3
      have kK4 : x6.cell? ⟨x4.heap.size, 4, none⟩ = some (.int .i32 m2) := HK.out.cell 4
      have lK : x4.heap.size < x6.heap.size := HK.out.lt
      go_wp2_with fail
      go_ret
      exact ⟨rfl, Z0.out⟩
end Go.Proofs.YtdmoiahaekooaaaDoor
