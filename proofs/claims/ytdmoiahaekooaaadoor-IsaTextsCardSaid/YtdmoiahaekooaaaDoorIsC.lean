/-
  Walks of isa.Encode and Decode. No condition but that an instruction's fields, or a word, are such.
-/
import Derived.Test.YtdmoiahaekooaaaDoorIsB
import Derived.Laws.Bits64b
namespace Go.Proofs.YtdmoiahaekooaaaDoor
open Go.RowKit Go.Shelf Go.Sort

theorem below_set {B : Nat} {w w1 : World} (h : Below B w w1) {b o : Nat} (hb : B ≤ b) (v : Value) : Below B w (w1.setCell ⟨b, o, none⟩ v) := h.setCell (p := ⟨b, o, none⟩) hb v
theorem or_low (x i m lo : Nat) (hm : m = 2 ^ i) (h : lo < m) (hx : x * m < 18446744073709551616) (hl : lo < 18446744073709551616) : bits BinOp.or IntKind.u64 ((x * m : Nat) : Int) (lo : Nat) = ((x * m + lo : Nat) : Int) := by
  rw [bits_or_u64_nat (x * m) lo hx hl]
  subst hm
  rw [← Nat.shiftLeft_eq, Nat.shiftLeft_add_eq_or_of_lt h]
theorem word_sum (op a b c : Nat) (imm : Int) (k1 : op < 256) (k2 : a < 256) (k3 : b < 256) (k4 : c < 256) :
    bits BinOp.or IntKind.u64 (bits BinOp.or IntKind.u64 (bits BinOp.or IntKind.u64 (bits BinOp.or IntKind.u64 ((op : Int) * 72057594037927936) ((a : Int) * 281474976710656)) ((b : Int) * 1099511627776)) ((c : Int) * 4294967296)) (imm % 4294967296) = ((op * 72057594037927936 + a * 281474976710656 + b * 1099511627776 + c * 4294967296 + (imm % 4294967296).toNat : Nat) : Int) := by
  obtain ⟨m, hm, hml⟩ : ∃ m : Nat, (m : Int) = imm % 4294967296 ∧ m < 4294967296 := ⟨(imm % 4294967296).toNat, by omega, by omega⟩
  rw [← hm]
  have e0 : (op : Int) * 72057594037927936 = ((op * 72057594037927936 : Nat) : Int) := by omega
  have e1 : (a : Int) * 281474976710656 = ((a * 281474976710656 : Nat) : Int) := by omega
  have e2 : (b : Int) * 1099511627776 = ((b * 1099511627776 : Nat) : Int) := by omega
  have e3 : (c : Int) * 4294967296 = ((c * 4294967296 : Nat) : Int) := by omega
  rw [e0, e1, e2, e3, or_low op 56 72057594037927936 _ (by decide) (by omega) (by omega) (by omega)]
  rw [show op * 72057594037927936 + a * 281474976710656 = (op * 256 + a) * 281474976710656 by omega, or_low _ 48 281474976710656 _ (by decide) (by omega) (by omega) (by omega)]
  rw [show (op * 256 + a) * 281474976710656 + b * 1099511627776 = ((op * 256 + a) * 256 + b) * 1099511627776 by omega, or_low _ 40 1099511627776 _ (by decide) (by omega) (by omega) (by omega)]
  rw [show ((op * 256 + a) * 256 + b) * 1099511627776 + c * 4294967296 = (((op * 256 + a) * 256 + b) * 256 + c) * 4294967296 by omega, or_low _ 32 4294967296 _ (by decide) hml (by omega) (by omega)]
  omega
theorem ret_two {k : IntKind} {a b : Int} {c : Value} (h : a = b) : Ending.returned (.tuple #[.int k a, c]) = .returned (.tuple #[.int k b, c]) := by rw [h]
/-- What isa.Encode answers. -/
def EncPost (i : Ins) (e : Ending) : Prop := e = .returned (.tuple #[.int .u64 (if rightI i = true then (wordI i : Nat) else 0), .int .i64 (if rightI i = true then 0 else 150)])
set_option maxHeartbeats 2000000 in
set_option maxRecDepth 100000 in
theorem Encode_any (i : Ins) (hk : i.ok) (w : World) : Calls Tryd.prog 14 #[insV i] w fun e w' => EncPost i e ∧ Below w.heap.size w w' := by
  have HR := Lib.hid (fun w => Right_any i hk w)
  unfold EncPost
  obtain ⟨op, a, b, c, imm⟩ := i
  obtain ⟨k1, k2, k3, k4, k5, k6⟩ := hk
  dsimp only at k1 k2 k3 k4 k5 k6
  have HW : Hid (wordI ⟨op, a, b, c, imm⟩ = op * 72057594037927936 + a * 281474976710656 + b * 1099511627776 + c * 4294967296 + (imm % 4294967296).toNat) := Lib.hid rfl
  generalize wordI ⟨op, a, b, c, imm⟩ = W at HW ⊢
  generalize rightI ⟨op, a, b, c, imm⟩ = R at HR ⊢
  unfold insV insA at HR ⊢
  dsimp only at HR ⊢
  go_enter Tryd.func14, Tryd.ntmps14
  go_wp2_with fail
  refine (HR.out _).mono ?_
  rintro _ w1 ⟨rfl, hb⟩
  have Z := Lib.hid (((Below.refl _ w).alloc (Nat.le_refl _) _).trans (hb.mono (by simp)))
  have hB : Blk w1 w.heap.size 23 _ := (Blk.new w _ _ rfl).below hb
  have c0 : w1.cell? ⟨w.heap.size, 0, none⟩ = some (.int .u8 op) := hB.cell 0
  have c1 : w1.cell? ⟨w.heap.size, 1, none⟩ = some (.int .u8 a) := hB.cell 1
  have c2 : w1.cell? ⟨w.heap.size, 2, none⟩ = some (.int .u8 b) := hB.cell 2
  have c3 : w1.cell? ⟨w.heap.size, 3, none⟩ = some (.int .u8 c) := hB.cell 3
  have c4 : w1.cell? ⟨w.heap.size, 4, none⟩ = some (.int .i32 imm) := hB.cell 4
  clear hb hB HR
  cases R
  · go_wp2_with fail
    go_ret2
    exact ⟨rfl, Z.out⟩
  · go_wp2_with fail
    go_ret2
    refine ⟨?_, Z.out⟩
    refine ret_two ?_
    rw [HW.out]
    exact word_sum op a b c imm k1 k2 k3 k4

/-- What isa.Decode answers. -/
def DecPost (v : Nat) (e : Ending) : Prop := e = .returned (.tuple #[insV (if rightI (insI v) = true then insI v else Ins.none), .int .i64 (if rightI (insI v) = true then 0 else 150)])
set_option maxHeartbeats 2000000 in
set_option maxRecDepth 100000 in
theorem Decode_any (v : Nat) (hv : v < 18446744073709551616) (w : World) : Calls Tryd.prog 18 #[.int .u64 v] w fun e w' => DecPost v e ∧ Below w.heap.size w w' := by
  have HR := Lib.hid (fun w => Right_any (insI v) (word_ins hv).2 w)
  unfold DecPost
  have e0 : (v : Int) / 72057594037927936 = ((insI v).op : Int) := by unfold insI; dsimp only; omega
  have e1 : (v : Int) / 281474976710656 % 256 = ((insI v).a : Int) := by unfold insI; dsimp only; omega
  have e2 : (v : Int) / 1099511627776 % 256 = ((insI v).b : Int) := by unfold insI; dsimp only; omega
  have e3 : (v : Int) / 4294967296 % 256 = ((insI v).c : Int) := by unfold insI; dsimp only; omega
  have e4 : wrap32 ((v : Int) % 4294967296) = (insI v).imm := by
    unfold insI wrap32
    dsimp only
    split <;> omega
  have E0 := Lib.hid e0
  have E1 := Lib.hid e1
  have E2 := Lib.hid e2
  have E3 := Lib.hid e3
  have E4 := Lib.hid e4
  clear e0 e1 e2 e3 e4
  generalize insI v = j at HR E0 E1 E2 E3 E4 ⊢
  generalize rightI j = R at HR ⊢
  obtain ⟨op, a, b, c, imm⟩ := j
  unfold insV insA at *
  dsimp only at HR E0 E1 E2 E3 E4 ⊢
  go_enter Tryd.func18, Tryd.ntmps18
  go_wp2_with fail
  rw [E0.out, E1.out, E2.out, E3.out, E4.out]
  refine (HR.out _).mono ?_
  rintro _ w1 ⟨rfl, hb⟩
  have Z := Lib.hid ((((Below.refl _ w).alloc (Nat.le_refl _) (.cells #[.int .u8 0, .int .u8 0, .int .u8 0, .int .u8 0, .int .i32 0] 23)).alloc (by simp) (.cells #[.int .u8 op, .int .u8 a, .int .u8 b, .int .u8 c, .int .i32 imm] 23)).trans (hb.mono (by simp; omega)))
  have hB : Blk w1 (w.heap.size + 1) 23 (insA ⟨op, a, b, c, imm⟩) := (Blk.new _ _ _ (by simp)).below hb
  have hA : Blk w1 w.heap.size 23 (insA Ins.none) := ((Blk.new w _ _ rfl).alloc _).below hb
  have c0 : w1.cell? ⟨w.heap.size + 1, 0, none⟩ = some (.int .u8 op) := hB.cell 0
  have c1 : w1.cell? ⟨w.heap.size + 1, 1, none⟩ = some (.int .u8 a) := hB.cell 1
  have c2 : w1.cell? ⟨w.heap.size + 1, 2, none⟩ = some (.int .u8 b) := hB.cell 2
  have c3 : w1.cell? ⟨w.heap.size + 1, 3, none⟩ = some (.int .u8 c) := hB.cell 3
  have c4 : w1.cell? ⟨w.heap.size + 1, 4, none⟩ = some (.int .i32 imm) := hB.cell 4
  have f0 : w1.frozen? ⟨w.heap.size, 0, none⟩ = false := hA.froz 0
  have f1 : w1.frozen? ⟨w.heap.size, 1, none⟩ = false := hA.froz 1
  have f2 : w1.frozen? ⟨w.heap.size, 2, none⟩ = false := hA.froz 2
  have f3 : w1.frozen? ⟨w.heap.size, 3, none⟩ = false := hA.froz 3
  have f4 : w1.frozen? ⟨w.heap.size, 4, none⟩ = false := hA.froz 4
  have d0 : w1.cell? ⟨w.heap.size, 0, none⟩ = some (.int .u8 0) := hA.cell 0
  have d1 : w1.cell? ⟨w.heap.size, 1, none⟩ = some (.int .u8 0) := hA.cell 1
  have d2 : w1.cell? ⟨w.heap.size, 2, none⟩ = some (.int .u8 0) := hA.cell 2
  have d3 : w1.cell? ⟨w.heap.size, 3, none⟩ = some (.int .u8 0) := hA.cell 3
  have d4 : w1.cell? ⟨w.heap.size, 4, none⟩ = some (.int .i32 0) := hA.cell 4
  clear hb hB hA HR E0 E1 E2 E3 E4
  cases R
  · go_wp2_with fail
    refine bodyPost_ret (v := .tuple #[.agg #[.int .u8 0, .int .u8 0, .int .u8 0, .int .u8 0, .int .i32 0], .int .i64 150]) (by simp [results, Tryd.results18, go_sem, d0, d1, d2, d3, d4]) rfl ⟨rfl, ?_⟩
    repeat (first | exact Z.out | refine below_set ?_ (Nat.le_refl _) _)
  · go_wp2_with fail
    refine bodyPost_ret (v := .tuple #[.agg #[.int .u8 op, .int .u8 a, .int .u8 b, .int .u8 c, .int .i32 imm], .int .i64 0]) (by simp [results, Tryd.results18, go_sem, d0, d1, d2, d3, d4]) rfl ⟨rfl, ?_⟩
    repeat (first | exact Z.out | refine below_set ?_ (Nat.le_refl _) _)
end Go.Proofs.YtdmoiahaekooaaaDoor
