/-
  Walk of the law IsaKinds. Condition: Go's own variables hold what their initialisers lay.
-/
import Derived.Test.YtdmoiahaekooaaaDoorIsH
namespace Go.Proofs.YtdmoiahaekooaaaDoor
open Go.RowKit Go.Shelf Go.Sort

theorem kinds_low : ∀ op : Fin 64, rightI ⟨op.val, 0, 0, 0, 0⟩ = decide (op.val ≤ 10) := by decide +kernel
theorem kinds_one : ∀ op : Fin 256, 64 ≤ op.val → op.val < 128 → rightI ⟨op.val, 0, 0, 0, 0⟩ = fnB (op.val - 64) false := by decide +kernel
theorem kinds_two : ∀ op : Fin 256, 128 ≤ op.val → rightI ⟨op.val, 0, 0, 0, 0⟩ = fnB (op.val - 128) true := by decide +kernel
set_option maxRecDepth 100000 in
set_option maxHeartbeats 4000000 in
theorem Kinds_any (op : Nat) (w : World) (hop : op < 256) (hE : IsEnv w) : Calls Tryd.prog 6 #[.int .u8 op] w fun e w' => e = .returned (.bool true) ∧ Below w.heap.size w w' := by
  have HE := Lib.hid hE
  clear hE
  have HR := Lib.hid (fun w => Right_any ⟨op, 0, 0, 0, 0⟩ (zero_ok hop) w)
  unfold insV insA at HR
  dsimp only at HR
  by_cases h1 : op < 64
  · have hk := kinds_low ⟨op, h1⟩
    dsimp only at hk
    rw [hk] at HR
    clear hk
    have i1 : (op : Int) < 64 := by omega
    by_cases h10 : op ≤ 10
    · rw [decide_eq_true h10] at HR
      have i2 : (op : Int) ≤ 10 := by omega
      go_enter Tryd.func6, Tryd.ntmps6
      go_wp2_with fail
      with_reducible refine (shown_any _ HE.out).mono ?_
      rintro _ w1 ⟨rfl, b1⟩
      go_wp2_with fail
      refine (HR.out _).mono ?_
      rintro _ w2 ⟨rfl, b2⟩
      go_wp2_with fail
      go_ret
      exact ⟨rfl, b1.trans (b2.mono b1.size)⟩
    · rw [decide_eq_false h10] at HR
      have i2 : ¬ (op : Int) ≤ 10 := by omega
      have i2b : decide ((op : Int) ≤ 10) = false := decide_eq_false i2
      go_enter Tryd.func6, Tryd.ntmps6
      go_wp2_with fail
      with_reducible refine (shown_any _ HE.out).mono ?_
      rintro _ w1 ⟨rfl, b1⟩
      go_wp2_with fail
      refine (HR.out _).mono ?_
      rintro _ w2 ⟨rfl, b2⟩
      go_wp2_with fail
      go_ret
      exact ⟨rfl, b1.trans (b2.mono b1.size)⟩
  · have i1 : ¬ (op : Int) < 64 := by omega
    by_cases h2 : op < 128
    · have hk := kinds_one ⟨op, hop⟩ (by show 64 ≤ op; omega) h2
      dsimp only at hk
      rw [hk] at HR
      clear hk
      have i2 : (op : Int) < 128 := by omega
      have i3 : (64 : Int) ≤ op := by omega
      have HT : Hid (∀ w, Calls Tryd.prog 16 #[.int .u8 ((op : Int) - 64), .bool false] w fun e w' => e = .returned (.bool (fnB (op - 64) false)) ∧ w = w') := by
        refine Lib.hid fun w => ?_
        have := wtakes_any (op - 64) false w
        rwa [show ((op - 64 : Nat) : Int) = (op : Int) - 64 by omega] at this
      generalize fnB (op - 64) false = f at *
      go_enter Tryd.func6, Tryd.ntmps6
      go_wp2_with fail
      with_reducible refine (shown_any _ HE.out).mono ?_
      rintro _ w1 ⟨rfl, b1⟩
      go_wp2_with fail
      refine (HR.out _).mono ?_
      rintro _ w2 ⟨rfl, b2⟩
      go_wp2_with fail
      refine (HT.out _).mono ?_
      rintro _ _ ⟨rfl, rfl⟩
      have hff : (f == f) = true := beq_self_eq_true _
      go_wp2_with fail
      go_ret
      exact ⟨rfl, b1.trans (b2.mono b1.size)⟩
    · have hk := kinds_two ⟨op, hop⟩ (by show 128 ≤ op; omega)
      dsimp only at hk
      rw [hk] at HR
      clear hk
      have i2 : ¬ (op : Int) < 128 := by omega
      have i3 : (128 : Int) ≤ op := by omega
      have i4 : (op : Int) < 256 := by omega
      have HT : Hid (∀ w, Calls Tryd.prog 16 #[.int .u8 ((op : Int) - 128), .bool true] w fun e w' => e = .returned (.bool (fnB (op - 128) true)) ∧ w = w') := by
        refine Lib.hid fun w => ?_
        have := wtakes_any (op - 128) true w
        rwa [show ((op - 128 : Nat) : Int) = (op : Int) - 128 by omega] at this
      generalize fnB (op - 128) true = f at *
      go_enter Tryd.func6, Tryd.ntmps6
      go_wp2_with fail
      with_reducible refine (shown_any _ HE.out).mono ?_
      rintro _ w1 ⟨rfl, b1⟩
      go_wp2_with fail
      refine (HR.out _).mono ?_
      rintro _ w2 ⟨rfl, b2⟩
      go_wp2_with fail
      refine (HT.out _).mono ?_
      rintro _ _ ⟨rfl, rfl⟩
      have hff : (f == f) = true := beq_self_eq_true _
      go_wp2_with fail
      go_ret
      exact ⟨rfl, b1.trans (b2.mono b1.size)⟩
end Go.Proofs.YtdmoiahaekooaaaDoor
