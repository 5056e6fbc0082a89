/-
  Walk of the examples of layer 16 (shown). Condition: Go's own variables hold what their initialisers lay.
-/
import Derived.Test.YtdmoiahaekooaaaDoorIsG
namespace Go.Proofs.YtdmoiahaekooaaaDoor
open Go.RowKit Go.Shelf Go.Sort

theorem digs1 (u : Nat) (h : u < 10) : Lib.decDigits u = [UInt8.ofNat (48 + u)] := by rw [Lib.decDigits, dif_pos h]
theorem digs15 : Lib.decDigits 15 = [49, 53] := by
  rw [Lib.decDigits, dif_neg (by decide), digs1 (15 / 10) (by decide)]
  rfl
theorem ex_a : rightI ⟨2, 3, 0, 0, -1⟩ = true ∧ wordI ⟨2, 3, 0, 0, -1⟩ = 144959617300955135 := by decide +kernel
theorem ex_b : rightI ⟨131, 1, 2, 15, 0⟩ = true ∧ wordI ⟨131, 1, 2, 15, 0⟩ = 9439828557393035264 := by decide +kernel
theorem ex_c : rightI ⟨0, 0, 0, 0, 1⟩ = false := by decide +kernel
theorem ex_t : textI ⟨131, 1, 2, 15, 0⟩ = [116, 119, 111, 32, 51, 44, 32, 114, 49, 44, 32, 114, 50, 44, 32, 114, 49, 53] := by
  have h : (hasI 131).2 = [110, 97, 98, 99] := by decide +kernel
  have h1 : (hasI 131).1 = [116, 119, 111] := by decide +kernel
  unfold textI
  dsimp only
  rw [h, h1, if_neg (List.cons_ne_nil _ _)]
  have p1 : partI ⟨131, 1, 2, 15, 0⟩ 110 = [51] := by
    show Lib.decDigits (131 % 64) = _
    rw [digs1 _ (by decide)]
    rfl
  have p2 : partI ⟨131, 1, 2, 15, 0⟩ 97 = [114, 49] := by
    show 114 :: Lib.decDigits 1 = _
    rw [digs1 _ (by decide)]
    rfl
  have p3 : partI ⟨131, 1, 2, 15, 0⟩ 98 = [114, 50] := by
    show 114 :: Lib.decDigits 2 = _
    rw [digs1 _ (by decide)]
    rfl
  have p4 : partI ⟨131, 1, 2, 15, 0⟩ 99 = [114, 49, 53] := by
    show 114 :: Lib.decDigits 15 = _
    rw [digs15]
  simp only [List.map_cons, List.map_nil, p1, p2, p3, p4]
  rfl
theorem ex_i : readI [99, 111, 110, 115, 116, 32, 114, 51, 44, 45, 49] = none := by
  have h : candI [99, 111, 110, 115, 116, 32, 114, 51, 44, 45, 49] = none := by decide +kernel
  unfold readI
  rw [h]
theorem ex_j : readI [102, 97, 105, 108, 32, 45, 48] = none := by
  have h : candI [102, 97, 105, 108, 32, 45, 48] = some ⟨1, 0, 0, 0, 0⟩ := by decide +kernel
  unfold readI
  rw [h]
  dsimp only
  rw [if_neg]
  rintro ⟨-, h⟩
  have e : textI ⟨1, 0, 0, 0, 0⟩ = [102, 97, 105, 108, 32, 48] := by
    have h : (hasI 1).2 = [105] := by decide +kernel
    have h1 : (hasI 1).1 = [102, 97, 105, 108] := by decide +kernel
    unfold textI
    dsimp only
    rw [h, h1, if_neg (List.cons_ne_nil _ _)]
    have p1 : partI ⟨1, 0, 0, 0, 0⟩ 105 = [48] := by
      show Lib.decDigits 0 = _
      rw [digs1 _ (by decide)]
      rfl
    simp only [List.map_cons, List.map_nil, p1]
    rfl
  rw [e] at h
  exact absurd h (by decide)
theorem enc_a (w : World) : Calls Tryd.prog 14 #[.agg #[.int .u8 2, .int .u8 3, .int .u8 0, .int .u8 0, .int .i32 (-1)]] w fun e w' => e = .returned (.tuple #[.int .u64 144959617300955135, .int .i64 0]) ∧ Below w.heap.size w w' :=
  (Encode_any ⟨2, 3, 0, 0, -1⟩ ⟨by decide, by decide, by decide, by decide, by decide, by decide⟩ w).mono fun e w' ⟨he, hb⟩ => ⟨by unfold EncPost at he; rw [he, ex_a.1, ex_a.2]; rfl, hb⟩
theorem enc_b (w : World) : Calls Tryd.prog 14 #[.agg #[.int .u8 131, .int .u8 1, .int .u8 2, .int .u8 15, .int .i32 0]] w fun e w' => e = .returned (.tuple #[.int .u64 9439828557393035264, .int .i64 0]) ∧ Below w.heap.size w w' :=
  (Encode_any ⟨131, 1, 2, 15, 0⟩ ⟨by decide, by decide, by decide, by decide, by decide, by decide⟩ w).mono fun e w' ⟨he, hb⟩ => ⟨by unfold EncPost at he; rw [he, ex_b.1, ex_b.2]; rfl, hb⟩
theorem enc_c (w : World) : Calls Tryd.prog 14 #[.agg #[.int .u8 0, .int .u8 0, .int .u8 0, .int .u8 0, .int .i32 1]] w fun e w' => e = .returned (.tuple #[.int .u64 0, .int .i64 150]) ∧ Below w.heap.size w w' :=
  (Encode_any ⟨0, 0, 0, 0, 1⟩ ⟨by decide, by decide, by decide, by decide, by decide, by decide⟩ w).mono fun e w' ⟨he, hb⟩ => ⟨by unfold EncPost at he; rw [he, ex_c]; rfl, hb⟩
theorem txt_b (w : World) (hE : IsEnv w) : Calls Tryd.prog 10 #[.agg #[.int .u8 131, .int .u8 1, .int .u8 2, .int .u8 15, .int .i32 0]] w fun e w' => e = .returned (.tuple #[.string ⟨#[116, 119, 111, 32, 51, 44, 32, 114, 49, 44, 32, 114, 50, 44, 32, 114, 49, 53]⟩, .int .i64 0]) ∧ Below w.heap.size w w' :=
  (Text_any ⟨131, 1, 2, 15, 0⟩ ⟨by decide, by decide, by decide, by decide, by decide, by decide⟩ w hE).mono fun e w' ⟨he, hb⟩ => ⟨by unfold TextPost at he; rw [he, ex_b.1, ex_t]; rfl, hb⟩
theorem rd_i (w : World) (hE : IsEnv w) : Calls Tryd.prog 12 #[.string ⟨#[99, 111, 110, 115, 116, 32, 114, 51, 44, 45, 49]⟩] w fun e w' => e = .returned (.tuple #[.agg #[.int .u8 0, .int .u8 0, .int .u8 0, .int .u8 0, .int .i32 0], .int .i64 151]) ∧ Below w.heap.size w w' :=
  (Read_any [99, 111, 110, 115, 116, 32, 114, 51, 44, 45, 49] (by unfold maxLen; decide) w hE).mono fun e w' ⟨he, hb⟩ => ⟨by unfold ReadPost at he; rw [he, ex_i]; rfl, hb⟩
theorem rd_j (w : World) (hE : IsEnv w) : Calls Tryd.prog 12 #[.string ⟨#[102, 97, 105, 108, 32, 45, 48]⟩] w fun e w' => e = .returned (.tuple #[.agg #[.int .u8 0, .int .u8 0, .int .u8 0, .int .u8 0, .int .i32 0], .int .i64 151]) ∧ Below w.heap.size w w' :=
  (Read_any [102, 97, 105, 108, 32, 45, 48] (by unfold maxLen; decide) w hE).mono fun e w' ⟨he, hb⟩ => ⟨by unfold ReadPost at he; rw [he, ex_j]; rfl, hb⟩
set_option maxRecDepth 100000 in
set_option maxHeartbeats 4000000 in
theorem shown_any (w : World) (hE : IsEnv w) : Calls Tryd.prog 9 #[] w fun e w' => e = .returned (.bool true) ∧ Below w.heap.size w w' := by
  have HE := Lib.hid hE
  clear hE
  go_enter Tryd.func9, Tryd.ntmps9
  go_wp2_with fail
  with_reducible refine (enc_a _).mono ?_
  rintro _ w1 ⟨rfl, b1⟩
  have hs1 : w.heap.size + 1 < w1.heap.size := by have := b1.size; simp at this; omega
  have Z1 := Lib.hid ((((Below.refl _ w).alloc (Nat.le_refl _) (.cells #[.int .u8 2, .int .u8 3, .int .u8 0, .int .u8 0, .int .i32 (-1)] 23)).alloc (by simp) (.cells #[.int .u8 131, .int .u8 1, .int .u8 2, .int .u8 15, .int .i32 0] 23)).trans (b1.mono (by simp; omega)))
  have hB : Blk w1 (w.heap.size + 1) 23 #[.int .u8 131, .int .u8 1, .int .u8 2, .int .u8 15, .int .i32 0] := (Blk.new _ _ _ (by simp)).below b1
  have HB1 := Lib.hid hB
  have c0 : w1.cell? ⟨w.heap.size + 1, 0, none⟩ = some (.int .u8 131) := hB.cell 0
  have c1 : w1.cell? ⟨w.heap.size + 1, 1, none⟩ = some (.int .u8 1) := hB.cell 1
  have c2 : w1.cell? ⟨w.heap.size + 1, 2, none⟩ = some (.int .u8 2) := hB.cell 2
  have c3 : w1.cell? ⟨w.heap.size + 1, 3, none⟩ = some (.int .u8 15) := hB.cell 3
  have c4 : w1.cell? ⟨w.heap.size + 1, 4, none⟩ = some (.int .i32 0) := hB.cell 4
  clear hB b1
  go_wp2_with fail
  with_reducible refine (enc_b _).mono ?_
  rintro _ w2 ⟨rfl, b2⟩
  have Z2 := Lib.hid (Z1.out.trans (b2.mono Z1.out.size))
  have hB := HB1.out.below b2
  clear c0 c1 c2 c3 c4 b2 HB1 Z1
  have c0 : w2.cell? ⟨w.heap.size + 1, 0, none⟩ = some (.int .u8 131) := hB.cell 0
  have c1 : w2.cell? ⟨w.heap.size + 1, 1, none⟩ = some (.int .u8 1) := hB.cell 1
  have c2 : w2.cell? ⟨w.heap.size + 1, 2, none⟩ = some (.int .u8 2) := hB.cell 2
  have c3 : w2.cell? ⟨w.heap.size + 1, 3, none⟩ = some (.int .u8 15) := hB.cell 3
  have c4 : w2.cell? ⟨w.heap.size + 1, 4, none⟩ = some (.int .i32 0) := hB.cell 4
  clear hB
  go_wp2_with fail
  with_reducible refine (txt_b _ (HE.out.kept Z2.out)).mono ?_
  rintro _ w3 ⟨rfl, b3⟩
  have Z3 := Lib.hid (Z2.out.trans (b3.mono Z2.out.size))
  clear c0 c1 c2 c3 c4 b3 Z2
  go_wp2_with fail
  with_reducible refine (enc_c _).mono ?_
  rintro _ w4 ⟨rfl, b4⟩
  have Z4 := Lib.hid (Z3.out.trans (b4.mono Z3.out.size))
  clear b4 Z3
  go_wp2_with fail
  with_reducible refine (rd_i _ (HE.out.kept Z4.out)).mono ?_
  rintro _ w5 ⟨rfl, b5⟩
  have Z5 := Lib.hid (Z4.out.trans (b5.mono Z4.out.size))
  clear b5 Z4
  go_wp2_with fail
  have Z5a := Lib.hid (Z5.out.alloc Z5.out.size (.cells #[.int .u8 0, .int .u8 0, .int .u8 0, .int .u8 0, .int .i32 0] 23))
  with_reducible refine (rd_j _ (HE.out.kept Z5a.out)).mono ?_
  rintro _ w6 ⟨rfl, b6⟩
  have Z6 := Lib.hid (Z5a.out.trans (b6.mono Z5a.out.size))
  clear b6 Z5 Z5a
  go_wp2_with fail
  go_ret
  exact ⟨rfl, Z6.out.alloc Z6.out.size _⟩
end Go.Proofs.YtdmoiahaekooaaaDoor
