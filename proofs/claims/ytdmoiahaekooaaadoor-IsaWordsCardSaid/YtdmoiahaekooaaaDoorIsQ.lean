/-
  Walks of the document's Encode and Decode (windrowref16). No condition but that an instruction's fields, or a word, are such.
-/
import Derived.Test.YtdmoiahaekooaaaDoorIsO
namespace Go.Proofs.YtdmoiahaekooaaaDoor
open Go.RowKit Go.Shelf Go.Sort

set_option maxHeartbeats 2000000 in
set_option maxRecDepth 100000 in
theorem rEncode_any (i : Ins) (hk : i.ok) (w : World) : Calls Tryd.prog 17 #[insV i] w fun e w' => EncPost i e ∧ Below w.heap.size w w' := by
  have HR := Lib.hid (fun w => rRight_any i hk w)
  unfold EncPost
  obtain ⟨op, a, b, c, imm⟩ := i
  obtain ⟨k1, k2, k3, k4, k5, k6⟩ := hk
  dsimp only at k1 k2 k3 k4 k5 k6
  have HW : Hid (wordI ⟨op, a, b, c, imm⟩ = op * 72057594037927936 + a * 281474976710656 + b * 1099511627776 + c * 4294967296 + (imm % 4294967296).toNat) := Lib.hid rfl
  generalize wordI ⟨op, a, b, c, imm⟩ = W at HW ⊢
  generalize rightI ⟨op, a, b, c, imm⟩ = R at HR ⊢
  unfold insV insA at HR ⊢
  dsimp only at HR ⊢
  go_enter Tryd.func17, Tryd.ntmps17
  go_wp2_with fail
  refine (HR.out _).mono ?_
  rintro _ w1 ⟨rfl, hb⟩
  have Z := Lib.hid (((Below.refl _ w).alloc (Nat.le_refl _) _).trans (hb.mono (by simp)))
  have hB : Blk w1 w.heap.size 23 _ := (Blk.new w _ _ rfl).below hb
  have c0 : w1.cell? ⟨w.heap.size, 0, none⟩ = some (.int .u8 op) := hB.cell 0
  have c1 : w1.cell? ⟨w.heap.size, 1, none⟩ = some (.int .u8 a) := hB.cell 1
  have c2 : w1.cell? ⟨w.heap.size, 2, none⟩ = some (.int .u8 b) := hB.cell 2
  have c3 : w1.cell? ⟨w.heap.size, 3, none⟩ = some (.int .u8 c) := hB.cell 3
  have c4 : w1.cell? ⟨w.heap.size, 4, none⟩ = some (.int .i32 imm) := hB.cell 4
  clear hb hB HR
  cases R
  · go_wp2_with fail
    go_ret2
    exact ⟨rfl, Z.out⟩
  · by_cases hm : imm < 0
    · have hs : IntKind.u64.wrap (imm + 4294967296) = imm + 4294967296 := by rw [IntKind.wrap_u64]; omega
      go_wp2_with fail
      go_ret2
      refine ⟨ret_two ?_, Z.out⟩
      rw [HW.out]
      omega
    · have hs : IntKind.u64.wrap imm = imm := by rw [IntKind.wrap_u64]; omega
      go_wp2_with fail
      go_ret2
      refine ⟨ret_two ?_, Z.out⟩
      rw [HW.out]
      omega
set_option maxHeartbeats 2000000 in
set_option maxRecDepth 100000 in
theorem rDecode_any (v : Nat) (hv : v < 18446744073709551616) (w : World) : Calls Tryd.prog 19 #[.int .u64 v] w fun e w' => DecPost v e ∧ Below w.heap.size w w' := by
  have HR := Lib.hid (fun w => rRight_any (insI v) (word_ins hv).2 w)
  unfold DecPost
  obtain ⟨q, m, hq, hm, dv1, dv2⟩ : ∃ q m : Nat, q < 4294967296 ∧ m < 4294967296 ∧ (v : Int) % 4294967296 = (m : Int) ∧ (v : Int) / 4294967296 = (q : Int) := ⟨v / 4294967296, v % 4294967296, by omega, by omega, by omega, by omega⟩
  by_cases hs : m < 2147483648
  · have E0 : Hid ((q : Int) / 16777216 = ((insI v).op : Int)) := Lib.hid (by unfold insI; dsimp only; omega)
    have E1 : Hid ((q : Int) / 65536 % 256 = ((insI v).a : Int)) := Lib.hid (by unfold insI; dsimp only; omega)
    have E2 : Hid ((q : Int) / 256 % 256 = ((insI v).b : Int)) := Lib.hid (by unfold insI; dsimp only; omega)
    have E3 : Hid ((q : Int) % 256 = ((insI v).c : Int)) := Lib.hid (by unfold insI; dsimp only; omega)
    have E4 : Hid ((m : Int) = (insI v).imm) := Lib.hid (by unfold insI; dsimp only; split <;> omega)
    have hs1 : ¬ (m : Int) ≥ 2147483648 := by omega
    clear hv
    generalize insI v = j at HR E0 E1 E2 E3 E4 ⊢
    generalize rightI j = R at HR ⊢
    obtain ⟨op, a, b, c, imm⟩ := j
    unfold insV insA at *
    dsimp only at HR E0 E1 E2 E3 E4 ⊢
    go_enter Tryd.func19, Tryd.ntmps19
    go_wp2_with fail
    rw [E0.out, E1.out, E2.out, E3.out, E4.out]
    refine (HR.out _).mono ?_
    rintro _ w1 ⟨rfl, hb⟩
    have Z := Lib.hid ((((Below.refl _ w).alloc (Nat.le_refl _) (.cells #[.int .u8 0, .int .u8 0, .int .u8 0, .int .u8 0, .int .i32 0] 23)).alloc (by simp) (.cells #[.int .u8 op, .int .u8 a, .int .u8 b, .int .u8 c, .int .i32 imm] 23)).trans (hb.mono (by simp; omega)))
    have hB : Blk w1 (w.heap.size + 1) 23 (insA ⟨op, a, b, c, imm⟩) := (Blk.new _ _ _ (by simp)).below hb
    have hA : Blk w1 w.heap.size 23 (insA Ins.none) := ((Blk.new w _ _ rfl).alloc _).below hb
    have c0 : w1.cell? ⟨w.heap.size + 1, 0, none⟩ = some (.int .u8 op) := hB.cell 0
    have c1 : w1.cell? ⟨w.heap.size + 1, 1, none⟩ = some (.int .u8 a) := hB.cell 1
    have c2 : w1.cell? ⟨w.heap.size + 1, 2, none⟩ = some (.int .u8 b) := hB.cell 2
    have c3 : w1.cell? ⟨w.heap.size + 1, 3, none⟩ = some (.int .u8 c) := hB.cell 3
    have c4 : w1.cell? ⟨w.heap.size + 1, 4, none⟩ = some (.int .i32 imm) := hB.cell 4
    have f0 : w1.frozen? ⟨w.heap.size, 0, none⟩ = false := hA.froz 0
    have f1 : w1.frozen? ⟨w.heap.size, 1, none⟩ = false := hA.froz 1
    have f2 : w1.frozen? ⟨w.heap.size, 2, none⟩ = false := hA.froz 2
    have f3 : w1.frozen? ⟨w.heap.size, 3, none⟩ = false := hA.froz 3
    have f4 : w1.frozen? ⟨w.heap.size, 4, none⟩ = false := hA.froz 4
    have d0 : w1.cell? ⟨w.heap.size, 0, none⟩ = some (.int .u8 0) := hA.cell 0
    have d1 : w1.cell? ⟨w.heap.size, 1, none⟩ = some (.int .u8 0) := hA.cell 1
    have d2 : w1.cell? ⟨w.heap.size, 2, none⟩ = some (.int .u8 0) := hA.cell 2
    have d3 : w1.cell? ⟨w.heap.size, 3, none⟩ = some (.int .u8 0) := hA.cell 3
    have d4 : w1.cell? ⟨w.heap.size, 4, none⟩ = some (.int .i32 0) := hA.cell 4
    clear hb hB hA HR E0 E1 E2 E3 E4 dv1 dv2 hs1 hs hm hq
    cases R
    · go_wp2_with fail
      refine bodyPost_ret (v := .tuple #[.agg #[.int .u8 0, .int .u8 0, .int .u8 0, .int .u8 0, .int .i32 0], .int .i64 150]) (by simp [results, Tryd.results19, go_sem, d0, d1, d2, d3, d4]) rfl ⟨rfl, ?_⟩
      repeat (first | exact Z.out | refine below_set ?_ (Nat.le_refl _) _)
    · go_wp2_with fail
      refine bodyPost_ret (v := .tuple #[.agg #[.int .u8 op, .int .u8 a, .int .u8 b, .int .u8 c, .int .i32 imm], .int .i64 0]) (by simp [results, Tryd.results19, go_sem, d0, d1, d2, d3, d4]) rfl ⟨rfl, ?_⟩
      repeat (first | exact Z.out | refine below_set ?_ (Nat.le_refl _) _)
  · have E0 : Hid ((q : Int) / 16777216 = ((insI v).op : Int)) := Lib.hid (by unfold insI; dsimp only; omega)
    have E1 : Hid ((q : Int) / 65536 % 256 = ((insI v).a : Int)) := Lib.hid (by unfold insI; dsimp only; omega)
    have E2 : Hid ((q : Int) / 256 % 256 = ((insI v).b : Int)) := Lib.hid (by unfold insI; dsimp only; omega)
    have E3 : Hid ((q : Int) % 256 = ((insI v).c : Int)) := Lib.hid (by unfold insI; dsimp only; omega)
    have E4 : Hid ((m : Int) - 4294967296 = (insI v).imm) := Lib.hid (by unfold insI; dsimp only; split <;> omega)
    have hs1 : (m : Int) ≥ 2147483648 := by omega
    clear hv
    generalize insI v = j at HR E0 E1 E2 E3 E4 ⊢
    generalize rightI j = R at HR ⊢
    obtain ⟨op, a, b, c, imm⟩ := j
    unfold insV insA at *
    dsimp only at HR E0 E1 E2 E3 E4 ⊢
    go_enter Tryd.func19, Tryd.ntmps19
    go_wp2_with fail
    rw [E0.out, E1.out, E2.out, E3.out, E4.out]
    refine (HR.out _).mono ?_
    rintro _ w1 ⟨rfl, hb⟩
    have Z := Lib.hid ((((Below.refl _ w).alloc (Nat.le_refl _) (.cells #[.int .u8 0, .int .u8 0, .int .u8 0, .int .u8 0, .int .i32 0] 23)).alloc (by simp) (.cells #[.int .u8 op, .int .u8 a, .int .u8 b, .int .u8 c, .int .i32 imm] 23)).trans (hb.mono (by simp; omega)))
    have hB : Blk w1 (w.heap.size + 1) 23 (insA ⟨op, a, b, c, imm⟩) := (Blk.new _ _ _ (by simp)).below hb
    have hA : Blk w1 w.heap.size 23 (insA Ins.none) := ((Blk.new w _ _ rfl).alloc _).below hb
    have c0 : w1.cell? ⟨w.heap.size + 1, 0, none⟩ = some (.int .u8 op) := hB.cell 0
    have c1 : w1.cell? ⟨w.heap.size + 1, 1, none⟩ = some (.int .u8 a) := hB.cell 1
    have c2 : w1.cell? ⟨w.heap.size + 1, 2, none⟩ = some (.int .u8 b) := hB.cell 2
    have c3 : w1.cell? ⟨w.heap.size + 1, 3, none⟩ = some (.int .u8 c) := hB.cell 3
    have c4 : w1.cell? ⟨w.heap.size + 1, 4, none⟩ = some (.int .i32 imm) := hB.cell 4
    have f0 : w1.frozen? ⟨w.heap.size, 0, none⟩ = false := hA.froz 0
    have f1 : w1.frozen? ⟨w.heap.size, 1, none⟩ = false := hA.froz 1
    have f2 : w1.frozen? ⟨w.heap.size, 2, none⟩ = false := hA.froz 2
    have f3 : w1.frozen? ⟨w.heap.size, 3, none⟩ = false := hA.froz 3
    have f4 : w1.frozen? ⟨w.heap.size, 4, none⟩ = false := hA.froz 4
    have d0 : w1.cell? ⟨w.heap.size, 0, none⟩ = some (.int .u8 0) := hA.cell 0
    have d1 : w1.cell? ⟨w.heap.size, 1, none⟩ = some (.int .u8 0) := hA.cell 1
    have d2 : w1.cell? ⟨w.heap.size, 2, none⟩ = some (.int .u8 0) := hA.cell 2
    have d3 : w1.cell? ⟨w.heap.size, 3, none⟩ = some (.int .u8 0) := hA.cell 3
    have d4 : w1.cell? ⟨w.heap.size, 4, none⟩ = some (.int .i32 0) := hA.cell 4
    clear hb hB hA HR E0 E1 E2 E3 E4 dv1 dv2 hs1 hs hm hq
    cases R
    · go_wp2_with fail
      refine bodyPost_ret (v := .tuple #[.agg #[.int .u8 0, .int .u8 0, .int .u8 0, .int .u8 0, .int .i32 0], .int .i64 150]) (by simp [results, Tryd.results19, go_sem, d0, d1, d2, d3, d4]) rfl ⟨rfl, ?_⟩
      repeat (first | exact Z.out | refine below_set ?_ (Nat.le_refl _) _)
    · go_wp2_with fail
      refine bodyPost_ret (v := .tuple #[.agg #[.int .u8 op, .int .u8 a, .int .u8 b, .int .u8 c, .int .i32 imm], .int .i64 0]) (by simp [results, Tryd.results19, go_sem, d0, d1, d2, d3, d4]) rfl ⟨rfl, ?_⟩
      repeat (first | exact Z.out | refine below_set ?_ (Nat.le_refl _) _)
end Go.Proofs.YtdmoiahaekooaaaDoor
