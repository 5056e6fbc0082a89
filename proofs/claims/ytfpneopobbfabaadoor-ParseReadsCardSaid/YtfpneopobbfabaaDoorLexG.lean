/-
  Walks of the document's lexer (windrowref03): letter, digit, end, sign, value. Each leaves the world as it was. Condition: a text is no longer than a string may be; for value: digits alone.
-/
import Derived.Test.YtfpneopobbfabaaDoorLawP
namespace Go.Proofs.YtfpneopobbfabaaDoor
open Go.RowKit Go.Shelf

theorem letter_val (b : UInt8) : letterB b = decide ((97 ≤ (b.toNat : Int) ∧ (b.toNat : Int) ≤ 122) ∨ (65 ≤ (b.toNat : Int) ∧ (b.toNat : Int) ≤ 90)) := by
  have H : ∀ n : Fin 256, letterB (UInt8.ofNat n.val) = decide ((97 ≤ (n.val : Int) ∧ (n.val : Int) ≤ 122) ∨ (65 ≤ (n.val : Int) ∧ (n.val : Int) ≤ 90)) := by decide +kernel
  have := H ⟨b.toNat, b.toNat_lt⟩
  rwa [UInt8.ofNat_toNat] at this
theorem digit_val (b : UInt8) : digitB b = decide (48 ≤ (b.toNat : Int) ∧ (b.toNat : Int) ≤ 57) := by
  have H : ∀ n : Fin 256, digitB (UInt8.ofNat n.val) = decide (48 ≤ (n.val : Int) ∧ (n.val : Int) ≤ 57) := by decide +kernel
  have := H ⟨b.toNat, b.toNat_lt⟩
  rwa [UInt8.ofNat_toNat] at this
theorem sign_val (b : UInt8) : signB b = decide ((b.toNat : Int) = 43 ∨ (b.toNat : Int) = 45 ∨ (b.toNat : Int) = 42 ∨ (b.toNat : Int) = 37 ∨ (b.toNat : Int) = 124 ∨ (b.toNat : Int) = 61 ∨ (b.toNat : Int) = 126 ∨ (b.toNat : Int) = 60 ∨ (b.toNat : Int) = 62 ∨ (b.toNat : Int) = 47 ∨ (b.toNat : Int) = 92 ∨ (b.toNat : Int) = 46 ∨ (b.toNat : Int) = 58 ∨ (b.toNat : Int) = 40 ∨ (b.toNat : Int) = 41) := by
  have H : ∀ n : Fin 256, signB (UInt8.ofNat n.val) = decide ((n.val : Int) = 43 ∨ (n.val : Int) = 45 ∨ (n.val : Int) = 42 ∨ (n.val : Int) = 37 ∨ (n.val : Int) = 124 ∨ (n.val : Int) = 61 ∨ (n.val : Int) = 126 ∨ (n.val : Int) = 60 ∨ (n.val : Int) = 62 ∨ (n.val : Int) = 47 ∨ (n.val : Int) = 92 ∨ (n.val : Int) = 46 ∨ (n.val : Int) = 58 ∨ (n.val : Int) = 40 ∨ (n.val : Int) = 41) := by decide +kernel
  have := H ⟨b.toNat, b.toNat_lt⟩
  rwa [UInt8.ofNat_toNat] at this
theorem rletter_any (b : UInt8) (w : World) :
    Calls Tryd.prog 60 #[.int .u8 b.toNat] w fun e w' => e = .returned (.bool (letterB b)) ∧ w = w' := by
  go_enter Tryd.func60, Tryd.ntmps60
  go_wp2
  all_goals
    go_ret
    refine ⟨ret_bool ?_, rfl⟩
    rw [letter_val, Bool.eq_iff_iff]
    simp
    omega
theorem rdigit_any (b : UInt8) (w : World) :
    Calls Tryd.prog 69 #[.int .u8 b.toNat] w fun e w' => e = .returned (.bool (digitB b)) ∧ w = w' := by
  go_enter Tryd.func69, Tryd.ntmps69
  go_wp2
  all_goals
    go_ret
    refine ⟨ret_bool ?_, rfl⟩
    rw [digit_val, Bool.eq_iff_iff]
    simp
    omega
/-- Letters and digits, or digits alone. -/
def cls (L : Bool) : UInt8 → Bool := if L then alnumB else digitB
theorem cls_digit (L : Bool) (b : UInt8) (h : digitB b = true) : cls L b = true := by cases L <;> simp [cls, alnumB, h]
theorem cls_letter (b : UInt8) (h : digitB b = false) (L : Bool) : cls L b = (L && letterB b) := by cases L <;> simp [cls, alnumB, h]
set_option maxHeartbeats 400000 in
theorem end_any (s : ByteArray) (a : Nat) (L : Bool) (w : World) (hs : s.size ≤ maxLen) (ha : a ≤ s.size) :
    Calls Tryd.prog 61 #[.string s, .int .i64 a, .bool L] w fun e w' => e = .returned (.int .i64 ((a + runL (cls L) (s.data.toList.drop a) : Nat))) ∧ w = w' := by
  unfold maxLen at hs
  have HR := Lib.hid (fun k h => runL_drop (cls L) s k h)
  go_enter Tryd.func61, Tryd.ntmps61
  go_wp2
  go_loop [1] (fun i => ∃ k : Nat, k ≤ s.size ∧ i = .int .i64 k ∧ a + runL (cls L) (s.data.toList.drop a) = k + runL (cls L) (s.data.toList.drop k)) (fun i => s.size - (intOf i).toNat)
  case atStart => exact ⟨a, ha, rfl, rfl⟩
  case round =>
    obtain ⟨k, hk, rfl, hp⟩ := hrel
    have HP := Lib.hid hp
    clear hp
    by_cases hlt : k < s.size
    · have hst := Lib.hid (HR.out k hlt)
      have hlt2 : (k : Int) < s.size := by omega
      by_cases hd : digitB s[k] = true
      · have HD := Lib.hid (cls_digit L _ hd)
        go_wp2_with (first | (go_at_call 60; refine (rletter_any _ _).mono ?_; rintro e w' ⟨rfl, rfl⟩) | (go_at_call 69; refine (rdigit_any _ _).mono ?_; rintro e w' ⟨rfl, rfl⟩))
        go_round
        case rel => exact ⟨k + 1, by omega, by go_num, by rw [HP.out, hst.out, if_pos HD.out]; omega⟩
        case measure => simp [intOf]; omega
      · have hd' : digitB s[k] = false := by simpa using hd
        have HC := Lib.hid (cls_letter _ hd' L)
        clear hd
        by_cases hc : (L && letterB s[k]) = true
        · have hL : L = true := by cases L <;> simp at hc ⊢
          subst hL
          have hl : letterB s[k] = true := by simpa using hc
          clear hc
          go_wp2_with (first | (go_at_call 60; refine (rletter_any _ _).mono ?_; rintro e w' ⟨rfl, rfl⟩) | (go_at_call 69; refine (rdigit_any _ _).mono ?_; rintro e w' ⟨rfl, rfl⟩))
          go_round
          case rel => exact ⟨k + 1, by omega, by go_num, by rw [HP.out, hst.out, if_pos (by rw [HC.out, hl]; rfl)]; omega⟩
          case measure => simp [intOf]; omega
        · have hfin : Hid (a + runL (cls L) (s.data.toList.drop a) = k) := by
            apply Lib.hid
            rw [HP.out, hst.out, if_neg (by rw [HC.out]; exact hc)]; rfl
          cases L
          · clear hc
            go_wp2_with (first | (go_at_call 60; refine (rletter_any _ _).mono ?_; rintro e w' ⟨rfl, rfl⟩) | (go_at_call 69; refine (rdigit_any _ _).mono ?_; rintro e w' ⟨rfl, rfl⟩))
            go_ret
            exact ⟨ret_int (by have := hfin.out; omega), rfl⟩
          · have hl : letterB s[k] = false := by simpa using hc
            clear hc
            go_wp2_with (first | (go_at_call 60; refine (rletter_any _ _).mono ?_; rintro e w' ⟨rfl, rfl⟩) | (go_at_call 69; refine (rdigit_any _ _).mono ?_; rintro e w' ⟨rfl, rfl⟩))
            go_ret
            exact ⟨ret_int (by have := hfin.out; omega), rfl⟩
    · obtain rfl : k = s.size := by omega
      go_wp2
      go_ret
      have hz : runL (cls L) (s.data.toList.drop s.size) = 0 := by rw [List.drop_of_length_le (by rw [size_list]; exact Nat.le_refl _)]; rfl
      exact ⟨ret_int (by have := HP.out; omega), rfl⟩
theorem extract_from (s : ByteArray) (a n : Nat) : s.extract a (a + n) = mkS ((s.data.toList.drop a).take n) := by
  rw [extract_mkS]
  congr 1
  rw [List.drop_take]
  congr 1
  omega
theorem ret_str {a b : ByteArray} (h : a = b) : Ending.returned (.string a) = .returned (.string b) := by rw [h]
set_option maxHeartbeats 1000000 in
theorem rsign_any (s : ByteArray) (a : Nat) (w : World) (hs : s.size ≤ maxLen) (ha : a < s.size) :
    Calls Tryd.prog 63 #[.string s, .int .i64 a] w fun e w' => e = .returned (.string (mkS ((s.data.toList.drop a).take (signL (s.data.toList.drop a))))) ∧ w = w' := by
  unfold maxLen at hs
  have hx := Lib.hid (fun n => extract_from s a n)
  by_cases hn : a + 1 < s.size
  · have hdr : s.data.toList.drop a = s[a] :: s[a+1] :: s.data.toList.drop (a + 2) := by
      rw [drop_at _ a ha, drop_at _ (a+1) hn]; rfl
    have hsg := sign_two s[a] s[a+1] (s.data.toList.drop (a + 2))
    rw [← hdr] at hsg
    have HS := Lib.hid hsg
    clear hsg hdr
    have hn2 : (a : Int) + 1 < s.size := by omega
    generalize s.data.toList.drop a = l at *
    by_cases hc : (((60 : UInt8) == s[a] && (61 : UInt8) == s[a+1]) || ((62 : UInt8) == s[a] && (61 : UInt8) == s[a+1])) = true
    · have HC := Lib.hid hc
      simp only [Bool.or_eq_true, Bool.and_eq_true, beq_iff_eq] at hc
      have h61 : ((s[a+1].toNat : Int) == 61) = true := by rcases hc with ⟨_, h⟩ | ⟨_, h⟩ <;> rw [← h] <;> rfl
      rcases hc with ⟨h, _⟩ | ⟨h, _⟩
      · have h60 : ((s[a].toNat : Int) == 60) = true := by rw [← h]; rfl
        clear h
        go_enter Tryd.func63, Tryd.ntmps63
        go_wp2
        go_ret
        exact ⟨ret_str (by rw [HS.out, if_pos HC.out, ← hx.out]), rfl⟩
      · have h60 : ((s[a].toNat : Int) == 60) = false := by rw [← h]; rfl
        have h62 : ((s[a].toNat : Int) == 62) = true := by rw [← h]; rfl
        clear h
        go_enter Tryd.func63, Tryd.ntmps63
        go_wp2
        go_ret
        exact ⟨ret_str (by rw [HS.out, if_pos HC.out, ← hx.out]), rfl⟩
    · have HF : Hid (signL l = if signB s[a] then 1 else 0) := by
        apply Lib.hid
        rw [HS.out, if_neg hc]
      have hb1 : (((s[a].toNat : Int) == 60) = false ∧ ((s[a].toNat : Int) == 62) = false) ∨ ((s[a+1].toNat : Int) == 61) = false := by
        rcases Classical.em (s[a+1] = 61) with h61 | h61
        · left
          refine ⟨?_, ?_⟩
          · refine byte_ne _ 60 (fun h => hc ?_)
            rw [h, h61]; rfl
          · refine byte_ne _ 62 (fun h => hc ?_)
            rw [h, h61]; rfl
        · exact .inr (byte_ne _ 61 h61)
      have HV := Lib.hid (sign_val s[a])
      clear hc
      rcases hb1 with ⟨h60, h62⟩ | h61
      · go_enter Tryd.func63, Tryd.ntmps63
        go_wp2
        all_goals
          go_ret
          refine ⟨ret_str ?_, rfl⟩
          first
            | (refine (show s.extract a (a + 1) = _ from ?_)
               have hv : signB s[a] = true := by
                 rw [HV.out, decide_eq_true_iff]
                 simp only [beq_iff_eq, beq_eq_false_iff_ne, ne_eq] at *
                 omega
               rw [HF.out, if_pos hv, ← hx.out])
            | (have hv : ¬ signB s[a] = true := by
                 rw [HV.out, decide_eq_true_iff]
                 simp only [beq_eq_false_iff_ne, ne_eq] at *
                 omega
               rw [HF.out, if_neg hv]
               rfl)
      · cases h60 : ((s[a].toNat : Int) == 60)
        · cases h62 : ((s[a].toNat : Int) == 62)
          · go_enter Tryd.func63, Tryd.ntmps63
            go_wp2
            all_goals
              go_ret
              refine ⟨ret_str ?_, rfl⟩
              first
                | (refine (show s.extract a (a + 1) = _ from ?_)
                   have hv : signB s[a] = true := by
                     rw [HV.out, decide_eq_true_iff]
                     simp only [beq_iff_eq, beq_eq_false_iff_ne, ne_eq] at *
                     omega
                   rw [HF.out, if_pos hv, ← hx.out])
                | (have hv : ¬ signB s[a] = true := by
                     rw [HV.out, decide_eq_true_iff]
                     simp only [beq_eq_false_iff_ne, ne_eq] at *
                     omega
                   rw [HF.out, if_neg hv]
                   rfl)
          · go_enter Tryd.func63, Tryd.ntmps63
            go_wp2
            all_goals
              go_ret
              refine ⟨ret_str ?_, rfl⟩
              first
                | (refine (show s.extract a (a + 1) = _ from ?_)
                   have hv : signB s[a] = true := by
                     rw [HV.out, decide_eq_true_iff]
                     simp only [beq_iff_eq, beq_eq_false_iff_ne, ne_eq] at *
                     omega
                   rw [HF.out, if_pos hv, ← hx.out])
                | (have hv : ¬ signB s[a] = true := by
                     rw [HV.out, decide_eq_true_iff]
                     simp only [beq_eq_false_iff_ne, ne_eq] at *
                     omega
                   rw [HF.out, if_neg hv]
                   rfl)
        · go_enter Tryd.func63, Tryd.ntmps63
          go_wp2
          all_goals
            go_ret
            refine ⟨ret_str ?_, rfl⟩
            first
              | (refine (show s.extract a (a + 1) = _ from ?_)
                 have hv : signB s[a] = true := by
                   rw [HV.out, decide_eq_true_iff]
                   simp only [beq_iff_eq, beq_eq_false_iff_ne, ne_eq] at *
                   omega
                 rw [HF.out, if_pos hv, ← hx.out])
              | (have hv : ¬ signB s[a] = true := by
                   rw [HV.out, decide_eq_true_iff]
                   simp only [beq_eq_false_iff_ne, ne_eq] at *
                   omega
                 rw [HF.out, if_neg hv]
                 rfl)
  · have hdr : s.data.toList.drop a = [s[a]] := by
      rw [drop_at _ a ha, List.drop_eq_nil_of_le (by rw [← size_list]; omega)]; rfl
    have hsg := sign_one s[a] [] (by simp)
    rw [← hdr] at hsg
    have HF := Lib.hid hsg
    have HV := Lib.hid (sign_val s[a])
    clear hsg hdr
    generalize s.data.toList.drop a = l at *
    have hn2 : ¬ (a : Int) + 1 < s.size := by omega
    have hn3 : decide ((a : Int) + 1 < s.size) = false := by rw [decide_eq_false_iff_not]; exact hn2
    go_enter Tryd.func63, Tryd.ntmps63
    go_wp2
    all_goals
      go_ret
      refine ⟨ret_str ?_, rfl⟩
      first
        | (refine (show s.extract a (a + 1) = _ from ?_)
           have hv : signB s[a] = true := by
             rw [HV.out, decide_eq_true_iff]
             simp only [beq_iff_eq, beq_eq_false_iff_ne, ne_eq] at *
             omega
           rw [HF.out, if_pos hv, ← hx.out])
        | (have hv : ¬ signB s[a] = true := by
             rw [HV.out, decide_eq_true_iff]
             simp only [beq_eq_false_iff_ne, ne_eq] at *
             omega
           rw [HF.out, if_neg hv]
           rfl)
theorem decN_snoc (l : List UInt8) (c : UInt8) : ∀ acc, decN (l ++ [c]) acc = decN l acc * 10 + dv c := by
  induction l with
  | nil => intro acc; rfl
  | cons a l ih => intro acc; rw [List.cons_append, decN_cons, decN_cons, ih]
theorem decN_app (l r : List UInt8) : ∀ acc, decN (l ++ r) acc = decN r (decN l acc) := by
  induction l with
  | nil => intro acc; rfl
  | cons a l ih => intro acc; rw [List.cons_append, decN_cons, decN_cons, ih]
def topN (b : Bool) : Nat := if b then 9223372036854775808 else 9223372036854775807
def signed (b : Bool) (n : Nat) : Int := if b then -(n : Int) else n
end Go.Proofs.YtfpneopobbfabaaDoor
