/-
  What the lexer's own calls of strconv and strings ask of the world: package-level variables of Go's library that hold what their initialisers lay; and those calls' contracts. Condition: that.
-/
import Derived.Shelf.Unicode.PredsPay
import Derived.Lib.AppendIntMem
import Derived.Lib.ItoaLen
import Derived.Test.YtknnleiinhdklaaGreatDoorPk03
namespace Go.Proofs.YtknnleiinhdklaaGreatDoor
open Go.RowKit Go.Shelf
structure Env (w : World) : Prop where
 err : ErrIs w
 pow : Lib.TabIs Tryz.prog w "internal/strconv.uint64pow10" .u64 Lib.pow10Tab
 spc : Lib.TabIs Tryz.prog w "strings.asciiSpace" .u8 Lib.asciiSpaceTab
 u8t : Lib.Utf8Tabs 5 6 w
 wht : Lib.WhiteTab 4 w
 top : ∃ m, w.cell? ⟨3, 0, none⟩ = some (.int .i64 m)
theorem Env.kept {w w' : World} (h : Env w) (hb : Below w.heap.size w w') : Env w' where
 err := h.err.kept hb
 pow := TabIs_below (g := 7) (by kernel_rfl) h.pow hb
 spc := TabIs_below (g := 0) (by kernel_rfl) h.spc hb
 u8t := Utf8Tabs_below h.u8t hb
 wht := WhiteTab_below h.wht hb
 top := by
  obtain ⟨m, hm⟩ := h.top
  exact ⟨m, (hb.cell (p := ⟨3, 0, none⟩) (World.block_lt_of_cell? _ _ hm)).trans hm⟩
theorem fmt_any (n : Int) (w : World) (h : Env w) (h0 : -9223372036854775808 ≤ n) (h1 : n ≤ 9223372036854775807) :
  Calls Tryz.prog 131 #[.int .i64 n, .int .i64 10] w fun e w' => e = .returned (.string (mkS (Lib.itoa n))) ∧ Below w.heap.size w w' :=
 (Tryz.strconv_FormatInt_10 n h0 h1 w h.pow).mono fun e w' ⟨he, k, os, hw⟩ => ⟨he, by rw [hw]; exact Lib.below_grow _ _ (Nat.le_refl _) _ _⟩
theorem repl_any (n : Int) (w : World) (h : Env w) (h0 : -9223372036854775808 ≤ n) (h1 : n ≤ 9223372036854775807) :
  Calls Tryz.prog 130 #[.string (mkS (Lib.itoa n)), .string ⟨#[45]⟩, .string ⟨#[95]⟩, .int .i64 1] w fun e w' => e = .returned (.string (mkS (numT n))) ∧ Below w.heap.size w w' := by
 obtain ⟨m, hm⟩ := h.top
 have hl := Lib.itoa_length_le n h0 h1
 have hc := Lib.count_le (Lib.itoa n) [45]
 refine (Tryz.strings_Replace (mkS (Lib.itoa n)) ⟨#[45]⟩ ⟨#[95]⟩ 1 m w (by rw [mkS_size]; omega) hm (by decide) ?_).mono fun e w' ⟨he, hb⟩ => ⟨?_, hb⟩
 ·have e : Lib.countB (mkS (Lib.itoa n)) ⟨#[45]⟩ = Lib.count (Lib.itoa n) [45] := by unfold Lib.countB; rw [mkS_toList]
  rw [e, mkS_size, show (⟨#[95]⟩ : ByteArray).size = 1 from rfl]
  omega
 ·rw [he, mkS_toList, replace_itoa]
  rfl
theorem trim_any (s : ByteArray) (w : World) (h : Env w) (hs : s.size ≤ maxLen) :
  Calls Tryz.prog 132 #[.string s] w fun e w' => e = .returned (.string (mkS (Lib.trimSpaceD s.data.toList))) ∧ Below w.heap.size w w' :=
 Tryz.strings_TrimSpace_any s w hs h.spc h.u8t h.wht
theorem hash_any (s : ByteArray) (w : World) (h : Env w) (hs : s.size ≤ 65536) :
  Calls Tryz.prog 133 #[.string s, .string ⟨#[35]⟩] w fun e w' => e = .returned (.bool (Lib.contains s.data.toList [35])) ∧ w = w' := by
 obtain ⟨m, hm⟩ := h.top
 exact (Tryz.strings_Contains s ⟨#[35]⟩ m w (by omega) hm).mono fun e w' ⟨he, hw⟩ => ⟨he, hw.symm⟩
end Go.Proofs.YtknnleiinhdklaaGreatDoor
