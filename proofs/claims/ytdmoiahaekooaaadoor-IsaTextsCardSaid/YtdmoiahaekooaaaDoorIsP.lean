/-
  Plain Lean, no program: instructions, their names and letters, their words. No condition.
-/
import Derived.Below
namespace Go.Proofs.YtdmoiahaekooaaaDoor
open Go

structure Ins where
  op : Nat
  a : Nat
  b : Nat
  c : Nat
  imm : Int
  deriving DecidableEq
def Ins.none : Ins := ⟨0, 0, 0, 0, 0⟩
/-- May a function of numbers take so many? -/
def fnB (f : Nat) (two : Bool) : Bool := if f < 1 ∨ 17 < f then false else if f = 16 then !two else two || decide (f ≤ 7)
/-- An Op's name, and its letters (a, b, c: 97 to 99; i: 105; n: 110). -/
def hasI (op : Nat) : List UInt8 × List UInt8 :=
  if op = 0 then ([104, 97, 108, 116], [])
  else if op = 1 then ([102, 97, 105, 108], [105])
  else if op = 7 then ([106, 117, 109, 112], [105])
  else if op = 2 then ([99, 111, 110, 115, 116], [97, 105])
  else if op = 3 then ([104, 105, 103, 104], [97, 105])
  else if op = 9 then ([122, 101, 114, 111], [97, 105])
  else if op = 4 then ([99, 111, 112, 121], [97, 98])
  else if op = 5 then ([108, 111, 97, 100], [97, 98, 105])
  else if op = 6 then ([115, 116, 111, 114, 101], [97, 98, 105])
  else if op = 8 then ([108, 101, 115, 115], [97, 98, 105])
  else if op = 10 then ([97, 100, 100], [97, 98, 105])
  else if 128 ≤ op ∧ fnB (op - 128) true = true then ([116, 119, 111], [110, 97, 98, 99])
  else if 64 ≤ op ∧ op < 128 ∧ fnB (op - 64) false = true then ([111, 110, 101], [110, 97, 98])
  else ([], [])
def rightI (i : Ins) : Bool :=
  !(hasI i.op).1.isEmpty && decide (i.a < 16) && decide (i.b < 16) && decide (i.c < 16) && ((hasI i.op).2.contains 97 || i.a == 0) && ((hasI i.op).2.contains 98 || i.b == 0) && ((hasI i.op).2.contains 99 || i.c == 0) && ((hasI i.op).2.contains 105 || i.imm == 0)
/-- An instruction whose fields are such. -/
def Ins.ok (i : Ins) : Prop := i.op < 256 ∧ i.a < 256 ∧ i.b < 256 ∧ i.c < 256 ∧ -2147483648 ≤ i.imm ∧ i.imm ≤ 2147483647
def wordI (i : Ins) : Nat := i.op * 72057594037927936 + i.a * 281474976710656 + i.b * 1099511627776 + i.c * 4294967296 + (i.imm % 4294967296).toNat
def insI (w : Nat) : Ins := ⟨w / 72057594037927936, w / 281474976710656 % 256, w / 1099511627776 % 256, w / 4294967296 % 256, if w % 4294967296 < 2147483648 then (w % 4294967296 : Nat) else ((w % 4294967296 : Nat) : Int) - 4294967296⟩
theorem word_lt {i : Ins} (h : i.ok) : wordI i < 18446744073709551616 := by
  obtain ⟨op, a, b, c, imm⟩ := i
  obtain ⟨h1, h2, h3, h4, h5, h6⟩ := h
  dsimp only at h1 h2 h3 h4 h5 h6
  unfold wordI
  dsimp only
  omega
theorem ins_word {i : Ins} (h : i.ok) : insI (wordI i) = i := by
  obtain ⟨op, a, b, c, imm⟩ := i
  obtain ⟨h1, h2, h3, h4, h5, h6⟩ := h
  dsimp only at h1 h2 h3 h4 h5 h6
  obtain ⟨m, hm, hml⟩ : ∃ m : Nat, (m : Int) = imm % 4294967296 ∧ m < 4294967296 := ⟨(imm % 4294967296).toNat, by omega, by omega⟩
  have hw : wordI ⟨op, a, b, c, imm⟩ = op * 72057594037927936 + a * 281474976710656 + b * 1099511627776 + c * 4294967296 + m := by
    unfold wordI
    dsimp only
    omega
  rw [hw]
  unfold insI
  have e1 : (op * 72057594037927936 + a * 281474976710656 + b * 1099511627776 + c * 4294967296 + m) % 4294967296 = m := by omega
  rw [e1]
  congr 1
  · omega
  · omega
  · omega
  · omega
  · split <;> omega
theorem word_ins {w : Nat} (h : w < 18446744073709551616) : wordI (insI w) = w ∧ (insI w).ok := by
  unfold wordI insI Ins.ok
  dsimp only
  by_cases hc : w % 4294967296 < 2147483648
  · rw [if_pos hc]
    omega
  · rw [if_neg hc]
    omega
theorem word_inj {i j : Ins} (hi : i.ok) (hj : j.ok) : wordI i = wordI j ↔ i = j :=
  ⟨fun h => by rw [← ins_word hi, ← ins_word hj, h], fun h => by rw [h]⟩
theorem right_op {i : Ins} (h : rightI i = true) : (hasI i.op).1 ≠ [] := by
  unfold rightI at h
  simp only [Bool.and_eq_true] at h
  obtain ⟨⟨⟨⟨⟨⟨⟨h, _⟩, _⟩, _⟩, _⟩, _⟩, _⟩, _⟩ := h
  intro e
  rw [e] at h
  cases h
end Go.Proofs.YtdmoiahaekooaaaDoor
