/-
  Walks of package lex: letter, digit, the two closures, run, sign. Each leaves the world as it was. Condition: a text is no longer than a string may be.
-/
import Derived.Test.YtfpneopobbfabaaDoorProg
import Derived.Test.YtfpneopobbfabaaDoorPlain
import Derived.Test.YtfpneopobbfabaaDoorShelf
import Derived.WalkKit
import Derived.WalkSpells
import Derived.WalkLawsBesides
import Derived.Lib.Hide
import Derived.Shelf.Abstract
namespace Go.Proofs.YtfpneopobbfabaaDoor
open Go.RowKit Go.Shelf

theorem ret_bool {a b : Bool} (h : a = b) : Ending.returned (.bool a) = .returned (.bool b) := by rw [h]
theorem ret_int {k : IntKind} {a b : Int} (h : a = b) : Ending.returned (.int k a) = .returned (.int k b) := by rw [h]

theorem letter_hi (b : UInt8) (h : (97 : Int) ≤ bits .or .u8 b.toNat 32) : decide (bits .or .u8 b.toNat 32 ≤ 122) = letterB b := by
  have H : ∀ n : Fin 256, (97 : Int) ≤ bits .or .u8 (n.val : Int) 32 → decide (bits .or .u8 (n.val : Int) 32 ≤ 122) = letterB (UInt8.ofNat n.val) := by decide +kernel
  have := H ⟨b.toNat, b.toNat_lt⟩ h
  rwa [UInt8.ofNat_toNat] at this
theorem letter_lo (b : UInt8) (h : bits .or .u8 b.toNat 32 < 97) : false = letterB b := by
  have H : ∀ n : Fin 256, bits .or .u8 (n.val : Int) 32 < 97 → false = letterB (UInt8.ofNat n.val) := by decide +kernel
  have := H ⟨b.toNat, b.toNat_lt⟩ h
  rwa [UInt8.ofNat_toNat] at this
theorem digit_hi (b : UInt8) (h : (48 : Int) ≤ b.toNat) : decide ((b.toNat : Int) ≤ 57) = digitB b := by
  have H : ∀ n : Fin 256, (48 : Int) ≤ (n.val : Int) → decide ((n.val : Int) ≤ 57) = digitB (UInt8.ofNat n.val) := by decide +kernel
  have := H ⟨b.toNat, b.toNat_lt⟩ h
  rwa [UInt8.ofNat_toNat] at this
theorem digit_lo (b : UInt8) (h : (b.toNat : Int) < 48) : false = digitB b := by
  have H : ∀ n : Fin 256, (n.val : Int) < 48 → false = digitB (UInt8.ofNat n.val) := by decide +kernel
  have := H ⟨b.toNat, b.toNat_lt⟩ h
  rwa [UInt8.ofNat_toNat] at this
theorem note_dec (b : UInt8) : ((b.toNat : Int) != 10) = noteB b := by
  have H : ∀ n : Fin 256, ((n.val : Int) != 10) = noteB (UInt8.ofNat n.val) := by decide +kernel
  have := H ⟨b.toNat, b.toNat_lt⟩
  rwa [UInt8.ofNat_toNat] at this

theorem letter_any (b : UInt8) (w : World) :
    Calls Tryd.prog 50 #[.int .u8 b.toNat] w fun e w' => e = .returned (.bool (letterB b)) ∧ w = w' := by
  go_enter Tryd.func50, Tryd.ntmps50
  go_wp2
  · go_ret
    exact ⟨ret_bool (letter_hi b ‹_›), rfl⟩
  · go_ret
    exact ⟨ret_bool (letter_lo b ‹_›), rfl⟩
theorem digit_any (b : UInt8) (w : World) :
    Calls Tryd.prog 52 #[.int .u8 b.toNat] w fun e w' => e = .returned (.bool (digitB b)) ∧ w = w' := by
  go_enter Tryd.func52, Tryd.ntmps52
  go_wp2
  · go_ret
    exact ⟨ret_bool (digit_hi b ‹_›), rfl⟩
  · go_ret
    exact ⟨ret_bool (digit_lo b ‹_›), rfl⟩
theorem note_any (b : UInt8) (w : World) :
    Calls Tryd.prog 37 #[.int .u8 b.toNat] w fun e w' => e = .returned (.bool (noteB b)) ∧ w = w' := by
  go_enter Tryd.func37, Tryd.ntmps37
  go_wp2
  go_ret
  exact ⟨ret_bool (note_dec b), rfl⟩
theorem alnum_any (b : UInt8) (w : World) :
    Calls Tryd.prog 51 #[.int .u8 b.toNat] w fun e w' => e = .returned (.bool (alnumB b)) ∧ w = w' := by
  by_cases hl : letterB b = true
  · go_enter Tryd.func51, Tryd.ntmps51
    go_wp2_with (first | (go_at_call 50; refine (letter_any _ _).mono ?_; rintro e w' ⟨rfl, rfl⟩) | (go_at_call 52; refine (digit_any _ _).mono ?_; rintro e w' ⟨rfl, rfl⟩))
    go_ret
    exact ⟨ret_bool (by rw [alnumB, hl]; rfl), rfl⟩
  · have hl' : letterB b = false := by simpa using hl
    clear hl
    go_enter Tryd.func51, Tryd.ntmps51
    go_wp2_with (first | (go_at_call 50; refine (letter_any _ _).mono ?_; rintro e w' ⟨rfl, rfl⟩) | (go_at_call 52; refine (digit_any _ _).mono ?_; rintro e w' ⟨rfl, rfl⟩))
    go_ret
    exact ⟨ret_bool (by rw [alnumB, hl']; rfl), rfl⟩

set_option maxHeartbeats 400000 in
theorem run_any (f : FuncId) (p : UInt8 → Bool) (s : ByteArray) (w : World) (hs : s.size ≤ maxLen)
   (he : ∀ args w, (callFunc f args).run Tryd.prog w = .ok (.enter f args) w)
   (hf : ∀ (b : UInt8) (w : World), Calls Tryd.prog f #[.int .u8 b.toNat] w fun e w' => e = .returned (.bool (p b)) ∧ w = w') :
    Calls Tryd.prog 36 #[.string s, .func (.func f) #[] #[]] w fun e w' => e = .returned (.int .i64 (runL p s.data.toList)) ∧ w = w' := by
  unfold maxLen at hs
  have HF := Lib.hid hf
  clear hf
  go_enter Tryd.func36, Tryd.ntmps36
  go_wp2
  go_loop [5] (fun i => ∃ k : Nat, k ≤ s.size ∧ i = .int .i64 k ∧ runL p s.data.toList = k + runL p (s.data.toList.drop k)) (fun i => s.size - (intOf i).toNat)
  case atStart => exact ⟨0, Nat.zero_le _, rfl, by simp⟩
  case round =>
    obtain ⟨k, hk, rfl, hp⟩ := hrel
    have HP := Lib.hid hp
    clear hp
    by_cases hlt : k < s.size
    · have hst := Lib.hid (runL_drop p s k hlt)
      by_cases hpk : p s[k] = true
      · go_wp2_with (go_at_fn f; refine (HF.out _ _).mono ?_; rintro e w' ⟨rfl, rfl⟩)
        go_round
        case rel => exact ⟨k + 1, by omega, by go_num, by rw [HP.out, hst.out, if_pos hpk]; omega⟩
        case measure => simp [intOf]; omega
      · have hpk' : p s[k] = false := by simpa using hpk
        go_wp2_with (go_at_fn f; refine (HF.out _ _).mono ?_; rintro e w' ⟨rfl, rfl⟩)
        go_ret
        exact ⟨by rw [HP.out, hst.out, if_neg hpk]; rfl, rfl⟩
    · have : k = s.size := by omega
      subst this
      go_wp2
      go_ret
      exact ⟨by rw [HP.out, List.drop_of_length_le (by rw [size_list]; exact Nat.le_refl _)]; rfl, rfl⟩
theorem run_letter (s : ByteArray) (w : World) (hs : s.size ≤ maxLen) : Calls Tryd.prog 36 #[.string s, .func (.func 51) #[] #[]] w fun e w' => e = .returned (.int .i64 (runL alnumB s.data.toList)) ∧ w = w' :=
  run_any 51 alnumB s w hs (enters_of Tryd.func51 (by kernel_rfl) rfl) alnum_any
theorem run_digit (s : ByteArray) (w : World) (hs : s.size ≤ maxLen) : Calls Tryd.prog 36 #[.string s, .func (.func 52) #[] #[]] w fun e w' => e = .returned (.int .i64 (runL digitB s.data.toList)) ∧ w = w' :=
  run_any 52 digitB s w hs (enters_of Tryd.func52 (by kernel_rfl) rfl) digit_any
theorem run_note (s : ByteArray) (w : World) (hs : s.size ≤ maxLen) : Calls Tryd.prog 36 #[.string s, .func (.func 37) #[] #[]] w fun e w' => e = .returned (.int .i64 (runL noteB s.data.toList)) ∧ w = w' :=
  run_any 37 noteB s w hs (enters_of Tryd.func37 (by kernel_rfl) rfl) note_any

end Go.Proofs.YtfpneopobbfabaaDoor
