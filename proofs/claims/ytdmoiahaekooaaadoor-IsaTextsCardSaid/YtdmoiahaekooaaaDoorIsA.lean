/-
  Walks of word.Takes and of isa.has: they answer as the plain functions. No condition but an Op's and a Fn's range.
-/
import Derived.Test.YtdmoiahaekooaaaDoorProg
import Derived.Test.YtdmoiahaekooaaaDoorIsU
import Derived.Test.YtdmoiahaekooaaaDoorPlain
import Derived.WalkKit
import Derived.WalkSpells
import Derived.WalkLawsBesides
import Derived.WalkSmall
import Derived.Lib.Hide
import Derived.Lib.QuietBelow
import Derived.BigQuiet
import Derived.Shelf.Abstract
namespace Go.Proofs.YtdmoiahaekooaaaDoor
open Go.RowKit Go.Shelf Go.Sort

theorem ret_bool {a b : Bool} (h : a = b) : Ending.returned (.bool a) = .returned (.bool b) := by rw [h]
set_option maxHeartbeats 1000000 in
set_option maxRecDepth 100000 in
theorem wtakes_any (f : Nat) (two : Bool) (w : World) : Calls Tryd.prog 16 #[.int .u8 f, .bool two] w fun e w' => e = .returned (.bool (fnB f two)) ∧ w = w' := by
  cases two
  all_goals
    go_enter Tryd.func16, Tryd.ntmps16
    go_wp2
    all_goals
      go_ret
      refine ⟨ret_bool ?_, rfl⟩
      try simp only [beq_iff_eq, beq_eq_false_iff_ne, ne_eq] at *
      rw [Bool.eq_iff_iff]
      unfold fnB
      (repeat' split) <;> (try simp) <;> (try omega)

/-- What isa.has answers at an Op. -/
def HasPost (op : Nat) (e : Ending) : Prop := e = .returned (.tuple #[.string (mkS (hasI op).1), .string (mkS (hasI op).2)])
set_option maxHeartbeats 2000000 in
set_option maxRecDepth 100000 in
theorem has_any (op : Nat) (hop : op < 256) (w : World) : Calls Tryd.prog 21 #[.int .u8 op] w fun e w' => HasPost op e ∧ w = w' := by
  by_cases hlo : op ≤ 10
  · have hall : op = 0 ∨ op = 1 ∨ op = 2 ∨ op = 3 ∨ op = 4 ∨ op = 5 ∨ op = 6 ∨ op = 7 ∨ op = 8 ∨ op = 9 ∨ op = 10 := by omega
    clear hop hlo
    rcases hall with rfl | rfl | rfl | rfl | rfl | rfl | rfl | rfl | rfl | rfl | rfl
    all_goals
      go_enter Tryd.func21, Tryd.ntmps21
      go_wp2
      go_ret2
      exact ⟨rfl, rfl⟩
  · have n0 : ¬ (op : Int) = 0 := by omega
    have n1 : ¬ (op : Int) = 1 := by omega
    have n2 : ¬ (op : Int) = 2 := by omega
    have n3 : ¬ (op : Int) = 3 := by omega
    have n4 : ¬ (op : Int) = 4 := by omega
    have n5 : ¬ (op : Int) = 5 := by omega
    have n6 : ¬ (op : Int) = 6 := by omega
    have n7 : ¬ (op : Int) = 7 := by omega
    have n8 : ¬ (op : Int) = 8 := by omega
    have n9 : ¬ (op : Int) = 9 := by omega
    have n10 : ¬ (op : Int) = 10 := by omega
    have HF : Hid (hasI op = if 128 ≤ op ∧ fnB (op - 128) true = true then ([116, 119, 111], [110, 97, 98, 99]) else if 64 ≤ op ∧ op < 128 ∧ fnB (op - 64) false = true then ([111, 110, 101], [110, 97, 98]) else ([], [])) := by
      refine Lib.hid ?_
      unfold hasI
      rw [if_neg (by omega), if_neg (by omega), if_neg (by omega), if_neg (by omega), if_neg (by omega), if_neg (by omega), if_neg (by omega), if_neg (by omega), if_neg (by omega), if_neg (by omega), if_neg (by omega)]
    unfold HasPost
    generalize hasI op = H at HF ⊢
    by_cases h2 : 128 ≤ op
    · have H2 : Hid (∀ w, Calls Tryd.prog 16 #[.int .u8 ((op : Int) - 128), .bool true] w fun e w' => e = .returned (.bool (fnB (op - 128) true)) ∧ w = w') := by
        refine Lib.hid fun w => ?_
        have := wtakes_any (op - 128) true w
        rwa [show ((op - 128 : Nat) : Int) = (op : Int) - 128 by omega] at this
      have hi : (op : Int) ≥ 128 := by omega
      have hu : (op : Int) < 256 := by omega
      have hnl : ¬ (op : Int) < 128 := by omega
      have HF1 : Hid (H = if fnB (op - 128) true = true then ([116, 119, 111], [110, 97, 98, 99]) else ([], [])) := by
        refine Lib.hid (HF.out.trans ?_)
        by_cases hf : fnB (op - 128) true = true
        · rw [if_pos ⟨h2, hf⟩, if_pos hf]
        · rw [if_neg (fun h => hf h.2), if_neg (fun h => by omega), if_neg hf]
      generalize fnB (op - 128) true = f at *
      clear HF hop hlo h2
      go_enter Tryd.func21, Tryd.ntmps21
      go_wp2_with fail
      refine (H2.out _).mono ?_
      rintro _ _ ⟨rfl, rfl⟩
      cases f
      all_goals
        have hH := HF1.out
        simp only [if_true, Bool.false_eq_true, if_false] at hH
        subst hH
        clear HF1 H2
        go_wp2
        go_ret2
        exact ⟨rfl, rfl⟩
    · by_cases h1 : 64 ≤ op
      · have H1 : Hid (∀ w, Calls Tryd.prog 16 #[.int .u8 ((op : Int) - 64), .bool false] w fun e w' => e = .returned (.bool (fnB (op - 64) false)) ∧ w = w') := by
          refine Lib.hid fun w => ?_
          have := wtakes_any (op - 64) false w
          rwa [show ((op - 64 : Nat) : Int) = (op : Int) - 64 by omega] at this
        have hi : ¬ (op : Int) ≥ 128 := by omega
        have hi' : (op : Int) < 128 := by omega
        have hu : (op : Int) ≥ 64 := by omega
        have HF1 : Hid (H = if fnB (op - 64) false = true then ([111, 110, 101], [110, 97, 98]) else ([], [])) := by
          refine Lib.hid (HF.out.trans ?_)
          rw [if_neg (fun h => h2 h.1)]
          by_cases hf : fnB (op - 64) false = true
          · rw [if_pos ⟨h1, by omega, hf⟩, if_pos hf]
          · rw [if_neg (fun h => hf h.2.2), if_neg hf]
        generalize fnB (op - 64) false = f at *
        clear HF hop hlo h2 h1
        go_enter Tryd.func21, Tryd.ntmps21
        go_wp2_with fail
        refine (H1.out _).mono ?_
        rintro _ _ ⟨rfl, rfl⟩
        cases f
        all_goals
          have hH := HF1.out
          simp only [if_true, Bool.false_eq_true, if_false] at hH
          subst hH
          clear HF1 H1
          go_wp2
          go_ret2
          exact ⟨rfl, rfl⟩
      · have hi : ¬ (op : Int) ≥ 128 := by omega
        have hi' : (op : Int) < 128 := by omega
        have hu : ¬ (op : Int) ≥ 64 := by omega
        have hu' : (op : Int) < 64 := by omega
        have hH := HF.out
        rw [if_neg (fun h => h2 h.1), if_neg (fun h => h1 h.1)] at hH
        subst hH
        clear HF hop hlo h2 h1
        go_enter Tryd.func21, Tryd.ntmps21
        go_wp2
        go_ret2
        exact ⟨rfl, rfl⟩
end Go.Proofs.YtdmoiahaekooaaaDoor
