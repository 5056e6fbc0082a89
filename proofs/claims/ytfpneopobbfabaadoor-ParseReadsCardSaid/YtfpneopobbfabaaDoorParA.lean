/-
  Walks of package parse: two, one, verb, Verb, Name. Condition: a text is no longer than a string may be; for Name: strconv.ErrRange holds an error.
-/
import Derived.Test.YtfpneopobbfabaaDoorLexD
import Derived.Test.YtfpneopobbfabaaDoorTokS
import Derived.Test.YtfpneopobbfabaaDoorParV
import Derived.Lib.QuietBelow
import Derived.BigQuiet
namespace Go.Proofs.YtfpneopobbfabaaDoor
open Go.RowKit Go.Shelf Go.Sort

set_option maxHeartbeats 1000000 in
set_option maxRecDepth 100000 in
theorem two_any (s : ByteArray) (w : World) : Calls Tryd.prog 29 #[.string s] w fun e w' => e = .returned (.int .u8 (twoF s.data.toList)) ∧ w = w' := by
  go_enter Tryd.func29, Tryd.ntmps29
  go_wp2
  all_goals
    go_ret
    refine ⟨ret_int ?_, rfl⟩
    simp only [ByteArray.toList_eq, beq_iff_eq, beq_eq_false_iff_ne, ne_eq] at *
    simp [twoF, *]
set_option maxHeartbeats 2000000 in
set_option maxRecDepth 100000 in
theorem one_any (s : ByteArray) (w : World) : Calls Tryd.prog 28 #[.string s] w fun e w' => e = .returned (.int .u8 (oneF s.data.toList)) ∧ w = w' := by
  go_enter Tryd.func28, Tryd.ntmps28
  go_wp2_with (go_at_call 29; refine (two_any _ _).mono ?_; rintro e w' ⟨rfl, rfl⟩)
  all_goals
    go_ret
    refine ⟨ret_int ?_, rfl⟩
    simp only [ByteArray.toList_eq, beq_iff_eq, beq_eq_false_iff_ne, ne_eq] at *
    first
      | (exfalso; simp_all; done)
      | simp [oneF, *]
theorem two_lt (s : List UInt8) : twoF s ≤ 40 := by
  rcases verb_cases s with h | ⟨h, _⟩
  · have H : ∀ s ∈ verbTexts, twoF s ≤ 40 := by decide
    exact H s h
  · omega
theorem one_lt (s : List UInt8) : oneF s ≤ 40 := by
  rcases verb_cases s with h | ⟨_, h, _⟩
  · have H : ∀ s ∈ verbTexts, oneF s ≤ 40 := by decide
    exact H s h
  · omega
theorem verb_any (s : ByteArray) (w : World) : Calls Tryd.prog 32 #[.string s] w fun e w' => e = .returned (.bool (verbB s.data.toList)) ∧ w = w' := by
  have H1 := Lib.hid (fun w => one_any s w)
  have H2 := Lib.hid (fun w => two_any s w)
  unfold verbB
  have l1 := one_lt s.data.toList
  have l2 := two_lt s.data.toList
  generalize oneF s.data.toList = a at *
  generalize twoF s.data.toList = b at *
  by_cases ha : a = 0
  · have h1 : ((a : Int) != 0) = false := by rw [ha]; rfl
    subst ha
    go_enter Tryd.func32, Tryd.ntmps32
    go_wp2_with (first | (go_at_call 28; refine (H1.out _).mono ?_; rintro e w' ⟨rfl, rfl⟩) | (go_at_call 29; refine (H2.out _).mono ?_; rintro e w' ⟨rfl, rfl⟩))
    go_ret
    refine ⟨ret_bool ?_, rfl⟩
    rw [Bool.eq_iff_iff]
    simp
  · have h1 : ((a : Int) != 0) = true := by rw [bne_iff_ne]; omega
    go_enter Tryd.func32, Tryd.ntmps32
    go_wp2_with (first | (go_at_call 28; refine (H1.out _).mono ?_; rintro e w' ⟨rfl, rfl⟩) | (go_at_call 29; refine (H2.out _).mono ?_; rintro e w' ⟨rfl, rfl⟩))
    go_ret
    refine ⟨ret_bool ?_, rfl⟩
    simp [ha]
theorem Verb_any (s : ByteArray) (two : Bool) (w : World) : Calls Tryd.prog 15 #[.string s, .bool two] w fun e w' => e = .returned (.tuple #[.int .u8 (verbF s.data.toList two), .bool (verbF s.data.toList two != 0)]) ∧ w = w' := by
  have H1 := Lib.hid (fun w => one_any s w)
  have H2 := Lib.hid (fun w => two_any s w)
  unfold verbF
  have l1 := one_lt s.data.toList
  have l2 := two_lt s.data.toList
  generalize oneF s.data.toList = a at *
  generalize twoF s.data.toList = b at *
  cases two
  · go_enter Tryd.func15, Tryd.ntmps15
    go_wp2_with (first | (go_at_call 28; refine (H1.out _).mono ?_; rintro e w' ⟨rfl, rfl⟩) | (go_at_call 29; refine (H2.out _).mono ?_; rintro e w' ⟨rfl, rfl⟩))
    go_ret2
    refine ⟨?_, rfl⟩
    have : ((a : Int) != 0) = (a != 0) := by rw [Bool.eq_iff_iff]; simp
    rw [← this]
    rfl
  · go_enter Tryd.func15, Tryd.ntmps15
    go_wp2_with (first | (go_at_call 28; refine (H1.out _).mono ?_; rintro e w' ⟨rfl, rfl⟩) | (go_at_call 29; refine (H2.out _).mono ?_; rintro e w' ⟨rfl, rfl⟩))
    go_ret2
    refine ⟨?_, rfl⟩
    have : ((b : Int) != 0) = (b != 0) := by rw [Bool.eq_iff_iff]; simp
    rw [← this]
    rfl
end Go.Proofs.YtfpneopobbfabaaDoor
