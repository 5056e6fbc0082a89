/-
  Walk of the law IsaWords. Condition: Go's own variables hold what their initialisers lay.
-/
import Derived.Test.YtdmoiahaekooaaaDoorIsQ
import Derived.Test.YtdmoiahaekooaaaDoorIsH
import Derived.Deep.RegionHeld3
import Derived.Deep.CutRange
namespace Go.Proofs.YtdmoiahaekooaaaDoor
open Go.RowKit Go.Shelf Go.Sort

/-- An instruction's five cells, in memory. -/
theorem Blk.cells5 {w : World} {b : Nat} {t : TypeId} {i : Ins} (h : Blk w b t (insA i)) : w.cell? ⟨b, 0, none⟩ = some (.int .u8 i.op) ∧ w.cell? ⟨b, 1, none⟩ = some (.int .u8 i.a) ∧ w.cell? ⟨b, 2, none⟩ = some (.int .u8 i.b) ∧ w.cell? ⟨b, 3, none⟩ = some (.int .u8 i.c) ∧ w.cell? ⟨b, 4, none⟩ = some (.int .i32 i.imm) :=
  ⟨h.cell 0, h.cell 1, h.cell 2, h.cell 3, h.cell 4⟩
/-- What the last region of the law leaves: three instructions in memory, and old memory as it was. -/
structure WInv (w0 w : World) (b1 b2 b3 : Nat) (i j : Ins) : Prop where
  hI : Blk w b1 23 (insA i)
  hK : Blk w b2 23 (insA j)
  hL : Blk w b3 23 (insA j)
  hZ : Below w0.heap.size w0 w
theorem WInv.drew {w0 w : World} {b1 b2 b3 : Nat} {i j : Ins} (h : WInv w0 w b1 b2 b3 i j) : WInv w0 w.drew b1 b2 b3 i j := ⟨h.hI, h.hK, h.hL, h.hZ.drew⟩
theorem WInv.drewN {w0 w : World} {b1 b2 b3 : Nat} {i j : Ins} (h : WInv w0 w b1 b2 b3 i j) (n : Nat) : WInv w0 (w.drewN n) b1 b2 b3 i j := ⟨h.hI, h.hK, h.hL, below_drewN' h.hZ n⟩
theorem WInv.next {w0 w w' : World} {b1 b2 b3 : Nat} {i j : Ins} (h : WInv w0 w b1 b2 b3 i j) (hb : Below w.heap.size w w') : WInv w0 w' b1 b2 b3 i j := ⟨h.hI.below hb, h.hK.below hb, h.hL.below hb, h.hZ.trans (hb.mono h.hZ.size)⟩
set_option maxRecDepth 100000 in
set_option maxHeartbeats 4000000 in
theorem Words_any (i : Ins) (v : Nat) (w : World) (hi : i.ok) (hv : v < 18446744073709551616) (hE : IsEnv w) : Calls Tryd.prog 7 #[insV i, .int .u64 v] w fun e w' => e = .returned (.bool true) ∧ Below w.heap.size w w' := by
  have HE := Lib.hid hE
  clear hE
  have HEi := Lib.hid (fun w => Encode_any i hi w)
  have HFi := Lib.hid (fun w => rEncode_any i hi w)
  have HDw := Lib.hid (fun w => Decode_any v hv w)
  have HGw := Lib.hid (fun w => rDecode_any v hv w)
  have HRi := Lib.hid (fun W w0 b1 b2 b3 j (h : WInv w0 W b1 b2 b3 i j) => (Right_any i hi W).mono (fun e w' (q : e = .returned (.bool (rightI i)) ∧ Below W.heap.size W w') => (⟨q.1, h.next q.2⟩ : e = .returned (.bool (rightI i)) ∧ WInv w0 w' b1 b2 b3 i j)))
  have HQi := Lib.hid (fun W w0 b1 b2 b3 j (h : WInv w0 W b1 b2 b3 i j) => (rRight_any i hi W).mono (fun e w' (q : e = .returned (.bool (rightI i)) ∧ Below W.heap.size W w') => (⟨q.1, h.next q.2⟩ : e = .returned (.bool (rightI i)) ∧ WInv w0 w' b1 b2 b3 i j)))
  unfold DecPost at HDw HGw
  unfold EncPost at HEi HFi
  clear hv hi
  generalize (if rightI (insI v) = true then insI v else Ins.none) = j at HDw HGw
  generalize (if rightI (insI v) = true then (0 : Int) else 150) = ej at HDw HGw
  generalize (if rightI i = true then ((wordI i : Nat) : Int) else 0) = wi at HEi HFi
  generalize (if rightI i = true then (0 : Int) else 150) = ei at HEi HFi
  generalize rightI i = ri at HRi HQi
  obtain ⟨op1, a1, b1, c1, m1⟩ := i
  obtain ⟨op2, a2, b2, c2, m2⟩ := j
  have HDx : Hid (∀ w, Calls Tryd.prog 18 #[.int .u64 v] w fun e w' => e = .returned (.tuple #[.agg #[.int .u8 op2, .int .u8 a2, .int .u8 b2, .int .u8 c2, .int .i32 m2], .int .i64 ej]) ∧ Below w.heap.size w w') := Lib.hid HDw.out
  have HGx : Hid (∀ w, Calls Tryd.prog 19 #[.int .u64 v] w fun e w' => e = .returned (.tuple #[.agg #[.int .u8 op2, .int .u8 a2, .int .u8 b2, .int .u8 c2, .int .i32 m2], .int .i64 ej]) ∧ Below w.heap.size w w') := Lib.hid HGw.out
  unfold insV insA at HEi HFi HRi HQi ⊢
  dsimp only at HEi HFi HRi HQi ⊢
  have HI := Lib.hid (Blk.new w 23 (insA ⟨op1, a1, b1, c1, m1⟩) rfl)
  have Z0 := Lib.hid ((Below.refl _ w).alloc (Nat.le_refl _) (.cells (insA ⟨op1, a1, b1, c1, m1⟩) 23))
  go_enter Tryd.func7, Tryd.ntmps7
  go_wp2_with fail
  refine (shown_any _ (HE.out.kept Z0.out)).mono ?_
  rintro _ x1 ⟨rfl, y1⟩
  have HI := Lib.hid (HI.out.below y1)
  have Z0 := Lib.hid (Z0.out.trans (y1.mono Z0.out.size))
  clear y1
  have kI0 : x1.cell? ⟨w.heap.size, 0, none⟩ = some (.int .u8 op1) := HI.out.cell 0
  have kI1 : x1.cell? ⟨w.heap.size, 1, none⟩ = some (.int .u8 a1) := HI.out.cell 1
  have kI2 : x1.cell? ⟨w.heap.size, 2, none⟩ = some (.int .u8 b1) := HI.out.cell 2
  have kI3 : x1.cell? ⟨w.heap.size, 3, none⟩ = some (.int .u8 c1) := HI.out.cell 3
  have kI4 : x1.cell? ⟨w.heap.size, 4, none⟩ = some (.int .i32 m1) := HI.out.cell 4
  go_wp2_with fail
  refine (HEi.out _).mono ?_
  rintro _ x2 ⟨rfl, y2⟩
  clear kI0 kI1 kI2 kI3 kI4
  have HI := Lib.hid (HI.out.below y2)
  have Z0 := Lib.hid (Z0.out.trans (y2.mono Z0.out.size))
  clear y2
  have kI0 : x2.cell? ⟨w.heap.size, 0, none⟩ = some (.int .u8 op1) := HI.out.cell 0
  have kI1 : x2.cell? ⟨w.heap.size, 1, none⟩ = some (.int .u8 a1) := HI.out.cell 1
  have kI2 : x2.cell? ⟨w.heap.size, 2, none⟩ = some (.int .u8 b1) := HI.out.cell 2
  have kI3 : x2.cell? ⟨w.heap.size, 3, none⟩ = some (.int .u8 c1) := HI.out.cell 3
  have kI4 : x2.cell? ⟨w.heap.size, 4, none⟩ = some (.int .i32 m1) := HI.out.cell 4
  go_wp2_with fail
  refine (HFi.out _).mono ?_
  rintro _ x3 ⟨rfl, y3⟩
  clear kI0 kI1 kI2 kI3 kI4
  have HI := Lib.hid (HI.out.below y3)
  have Z0 := Lib.hid (Z0.out.trans (y3.mono Z0.out.size))
  clear y3
  have kI0 : x3.cell? ⟨w.heap.size, 0, none⟩ = some (.int .u8 op1) := HI.out.cell 0
  have kI1 : x3.cell? ⟨w.heap.size, 1, none⟩ = some (.int .u8 a1) := HI.out.cell 1
  have kI2 : x3.cell? ⟨w.heap.size, 2, none⟩ = some (.int .u8 b1) := HI.out.cell 2
  have kI3 : x3.cell? ⟨w.heap.size, 3, none⟩ = some (.int .u8 c1) := HI.out.cell 3
  have kI4 : x3.cell? ⟨w.heap.size, 4, none⟩ = some (.int .i32 m1) := HI.out.cell 4
  go_wp2_with fail
  refine (HDx.out _).mono ?_
  rintro _ x4 ⟨rfl, y4⟩
  clear kI0 kI1 kI2 kI3 kI4
  have HI := Lib.hid (HI.out.below y4)
  have Z0 := Lib.hid (Z0.out.trans (y4.mono Z0.out.size))
  clear y4
  have kI0 : x4.cell? ⟨w.heap.size, 0, none⟩ = some (.int .u8 op1) := HI.out.cell 0
  have kI1 : x4.cell? ⟨w.heap.size, 1, none⟩ = some (.int .u8 a1) := HI.out.cell 1
  have kI2 : x4.cell? ⟨w.heap.size, 2, none⟩ = some (.int .u8 b1) := HI.out.cell 2
  have kI3 : x4.cell? ⟨w.heap.size, 3, none⟩ = some (.int .u8 c1) := HI.out.cell 3
  have kI4 : x4.cell? ⟨w.heap.size, 4, none⟩ = some (.int .i32 m1) := HI.out.cell 4
  have HI := Lib.hid (HI.out.alloc (.cells (insA ⟨op2, a2, b2, c2, m2⟩) 23))
  have HK := Lib.hid (Blk.new x4 23 (insA ⟨op2, a2, b2, c2, m2⟩) rfl)
  have Z0 := Lib.hid (Z0.out.alloc Z0.out.size (.cells (insA ⟨op2, a2, b2, c2, m2⟩) 23))
  go_wp2_with fail
  refine (HGx.out _).mono ?_
  rintro _ x5 ⟨rfl, y5⟩
  clear kI0 kI1 kI2 kI3 kI4
  have HI := Lib.hid (HI.out.below y5)
  have HK := Lib.hid (HK.out.below y5)
  have Z0 := Lib.hid (Z0.out.trans (y5.mono Z0.out.size))
  clear y5
  have kI0 : x5.cell? ⟨w.heap.size, 0, none⟩ = some (.int .u8 op1) := HI.out.cell 0
  have kI1 : x5.cell? ⟨w.heap.size, 1, none⟩ = some (.int .u8 a1) := HI.out.cell 1
  have kI2 : x5.cell? ⟨w.heap.size, 2, none⟩ = some (.int .u8 b1) := HI.out.cell 2
  have kI3 : x5.cell? ⟨w.heap.size, 3, none⟩ = some (.int .u8 c1) := HI.out.cell 3
  have kI4 : x5.cell? ⟨w.heap.size, 4, none⟩ = some (.int .i32 m1) := HI.out.cell 4
  have hlK : x4.heap.size < x5.heap.size := HK.out.lt
  have hlI : w.heap.size < x5.heap.size := HI.out.lt
  have kK0 : x5.cell? ⟨x4.heap.size, 0, none⟩ = some (.int .u8 op2) := HK.out.cell 0
  have kK1 : x5.cell? ⟨x4.heap.size, 1, none⟩ = some (.int .u8 a2) := HK.out.cell 1
  have kK2 : x5.cell? ⟨x4.heap.size, 2, none⟩ = some (.int .u8 b2) := HK.out.cell 2
  have kK3 : x5.cell? ⟨x4.heap.size, 3, none⟩ = some (.int .u8 c2) := HK.out.cell 3
  have kK4 : x5.cell? ⟨x4.heap.size, 4, none⟩ = some (.int .i32 m2) := HK.out.cell 4
  have HV : Hid (WInv w (x5.alloc (.cells (insA ⟨op2, a2, b2, c2, m2⟩) 23)) w.heap.size x4.heap.size x5.heap.size ⟨op1, a1, b1, c1, m1⟩ ⟨op2, a2, b2, c2, m2⟩) := Lib.hid ⟨HI.out.alloc _, HK.out.alloc _, Blk.new x5 _ _ rfl, Z0.out.alloc Z0.out.size _⟩
  go_upto_region 6 with fail
  go_region_held3 (fun wy => wy.cell? ⟨w.heap.size, 0, none⟩ = some (.int .u8 op1) ∧ wy.cell? ⟨w.heap.size, 1, none⟩ = some (.int .u8 a1) ∧ wy.cell? ⟨w.heap.size, 2, none⟩ = some (.int .u8 b1) ∧ wy.cell? ⟨w.heap.size, 3, none⟩ = some (.int .u8 c1) ∧ wy.cell? ⟨w.heap.size, 4, none⟩ = some (.int .i32 m1) ∧ wy.cell? ⟨x4.heap.size, 0, none⟩ = some (.int .u8 op2) ∧ wy.cell? ⟨x4.heap.size, 1, none⟩ = some (.int .u8 a2) ∧ wy.cell? ⟨x4.heap.size, 2, none⟩ = some (.int .u8 b2) ∧ wy.cell? ⟨x4.heap.size, 3, none⟩ = some (.int .u8 c2) ∧ wy.cell? ⟨x4.heap.size, 4, none⟩ = some (.int .i32 m2) ∧ wy.cell? ⟨x5.heap.size, 0, none⟩ = some (.int .u8 op2) ∧ wy.cell? ⟨x5.heap.size, 1, none⟩ = some (.int .u8 a2) ∧ wy.cell? ⟨x5.heap.size, 2, none⟩ = some (.int .u8 b2) ∧ wy.cell? ⟨x5.heap.size, 3, none⟩ = some (.int .u8 c2) ∧ wy.cell? ⟨x5.heap.size, 4, none⟩ = some (.int .i32 m2))
    (first | go_keep)
    (first
      | (go_at_call 15; refine (HRi.out _ w w.heap.size x4.heap.size x5.heap.size ⟨op2, a2, b2, c2, m2⟩ (by first | exact hy | exact hy.drew | exact hy.drew.drew | exact HV.out | exact HV.out.drew | exact HV.out.drew.drew)).mono ?_; rintro _ y9 ⟨rfl, hy⟩; obtain ⟨ca, cb, cc, cd, ce⟩ := hy.hI.cells5; obtain ⟨da, db, dc, dd, de⟩ := hy.hK.cells5; obtain ⟨ea, eb, ec, ed, ee⟩ := hy.hL.cells5)
      | (go_at_call 20; refine (HQi.out _ w w.heap.size x4.heap.size x5.heap.size ⟨op2, a2, b2, c2, m2⟩ (by first | exact hy | exact hy.drew | exact hy.drew.drew | exact HV.out | exact HV.out.drew | exact HV.out.drew.drew)).mono ?_; rintro _ y9 ⟨rfl, hy⟩; obtain ⟨ca, cb, cc, cd, ce⟩ := hy.hI.cells5; obtain ⟨da, db, dc, dd, de⟩ := hy.hK.cells5; obtain ⟨ea, eb, ec, ed, ee⟩ := hy.hL.cells5))
  all_goals
    go_wp2_with fail
    go_ret
    exact ⟨rfl, by first | exact hy.hZ | exact hy.hZ.drew | exact hy.hZ.drew.drew⟩
end Go.Proofs.YtdmoiahaekooaaaDoor
