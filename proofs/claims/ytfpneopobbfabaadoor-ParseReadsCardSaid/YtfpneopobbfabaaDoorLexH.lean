/-
  Walks of the document's lexer (windrowref03): value. Condition: digits alone.
-/
import Derived.Test.YtfpneopobbfabaaDoorLexG
namespace Go.Proofs.YtfpneopobbfabaaDoor
open Go.RowKit Go.Shelf
theorem ret_two {a b : Int} {c d : Bool} (h : a = b) (h2 : c = d) : Ending.returned (.tuple #[.int .i64 a, .bool c]) = .returned (.tuple #[.int .i64 b, .bool d]) := by rw [h, h2]
theorem i64_neg (n : Nat) (h : n ≤ 9223372036854775808) : wrap64 (IntKind.u64.wrap (-(n : Int))) = signed true n := by
  rw [IntKind.wrap_u64]
  unfold wrap64
  simp only [signed, if_true]
  omega
def ValPost (l : List UInt8) (b : Bool) (w : World) (e : Ending) (w' : World) : Prop :=
  e = .returned (if decN l 0 ≤ topN b then .tuple #[.int .i64 (signed b (decN l 0)), .bool true] else .tuple #[.int .i64 0, .bool false]) ∧ w = w'
set_option maxHeartbeats 1000000 in
set_option maxRecDepth 100000 in
theorem value_any (s : ByteArray) (b : Bool) (w : World) (hs : s.size ≤ maxLen) (hd : ∀ c ∈ s.data.toList, digitB c = true) :
    Calls Tryd.prog 62 #[.string s, .bool b] w (ValPost s.data.toList b w) := by
  unfold maxLen at hs
  have HD := Lib.hid hd
  clear hd
  cases b
  · go_enter Tryd.func62, Tryd.ntmps62
    go_wp2
    go_loop [6, 8] (fun n i => ∃ k : Nat, k ≤ s.size ∧ i = .int .i64 k ∧ n = .int .u64 (decN (s.data.toList.take k) 0) ∧ decN (s.data.toList.take k) 0 ≤ 9223372036854775807) (fun _ i => s.size - (intOf i).toNat)
    case atStart => exact ⟨0, Nat.zero_le _, rfl, rfl, Nat.zero_le _⟩
    case round =>
      obtain ⟨k, hk, rfl, rfl, hle⟩ := hrel
      by_cases hlt : k < s.size
      · have hlt2 : (k : Int) < s.size := by omega
        have hkl : k < s.data.toList.length := hlt
        have hdg : digitB s[k] = true := HD.out s[k] (List.getElem_mem (l := s.data.toList) hkl)
        rw [digit_val, decide_eq_true_iff] at hdg
        obtain ⟨h48, h57⟩ := hdg
        have hsn := decN_snoc (s.data.toList.take k) s.data.toList[k] 0
        rw [← List.take_succ_eq_append_getElem hkl] at hsn
        have HS := Lib.hid hsn
        have hwh := decN_app (s.data.toList.take (k + 1)) (s.data.toList.drop (k + 1)) 0
        rw [List.take_append_drop] at hwh
        have hge := decN_ge (s.data.toList.drop (k + 1)) (decN (s.data.toList.take (k + 1)) 0)
        rw [← hwh] at hge
        have HG := Lib.hid hge
        have hdv : Hid (dv s.data.toList[k] = s[k].toNat - 48) := rfl
        clear hsn hwh hge
        generalize decN (s.data.toList.take k) 0 = n at *
        go_wp2
        · have ht : 9223372036854775807 < n * 10 + (s[k].toNat - 48) := by omega
          go_ret2
          refine ⟨?_, rfl⟩
          have h1 := HS.out
          have h2 := HG.out
          have h3 := hdv.out
          rw [h3] at h1
          rw [if_neg (by unfold topN; simp only [Bool.false_eq_true, if_false]; omega)]
          rfl
        · have ht : n * 10 + (s[k].toNat - 48) ≤ 9223372036854775807 := by omega
          go_round
          case rel =>
            have h1 := HS.out
            rw [hdv.out] at h1
            exact ⟨k + 1, by omega, by go_num, by rw [h1]; go_num, by omega⟩
          case measure => simp [intOf]; omega
      · obtain rfl : k = s.size := by omega
        have hall : s.data.toList.take s.size = s.data.toList := List.take_length
        rw [hall] at hle ⊢
        have HL := Lib.hid hle
        generalize hn : decN s.data.toList 0 = n at *
        have HN := Lib.hid hn
        clear hn
        have hw0 : n ≤ 9223372036854775808 := by omega
        go_wp2
        go_ret2
        refine ⟨?_, rfl⟩
        rw [HN.out, if_pos (by unfold topN; simp only [Bool.false_eq_true, if_false]; exact HL.out)]
        rfl
  · go_enter Tryd.func62, Tryd.ntmps62
    go_wp2
    go_loop [6, 8] (fun n i => ∃ k : Nat, k ≤ s.size ∧ i = .int .i64 k ∧ n = .int .u64 (decN (s.data.toList.take k) 0) ∧ decN (s.data.toList.take k) 0 ≤ 9223372036854775808) (fun _ i => s.size - (intOf i).toNat)
    case atStart => exact ⟨0, Nat.zero_le _, rfl, rfl, Nat.zero_le _⟩
    case round =>
      obtain ⟨k, hk, rfl, rfl, hle⟩ := hrel
      by_cases hlt : k < s.size
      · have hlt2 : (k : Int) < s.size := by omega
        have hkl : k < s.data.toList.length := hlt
        have hdg : digitB s[k] = true := HD.out s[k] (List.getElem_mem (l := s.data.toList) hkl)
        rw [digit_val, decide_eq_true_iff] at hdg
        obtain ⟨h48, h57⟩ := hdg
        have hsn := decN_snoc (s.data.toList.take k) s.data.toList[k] 0
        rw [← List.take_succ_eq_append_getElem hkl] at hsn
        have HS := Lib.hid hsn
        have hwh := decN_app (s.data.toList.take (k + 1)) (s.data.toList.drop (k + 1)) 0
        rw [List.take_append_drop] at hwh
        have hge := decN_ge (s.data.toList.drop (k + 1)) (decN (s.data.toList.take (k + 1)) 0)
        rw [← hwh] at hge
        have HG := Lib.hid hge
        have hdv : Hid (dv s.data.toList[k] = s[k].toNat - 48) := rfl
        clear hsn hwh hge
        generalize decN (s.data.toList.take k) 0 = n at *
        go_wp2
        · have ht : 9223372036854775808 < n * 10 + (s[k].toNat - 48) := by omega
          go_ret2
          refine ⟨?_, rfl⟩
          have h1 := HS.out
          have h2 := HG.out
          have h3 := hdv.out
          rw [h3] at h1
          rw [if_neg (by unfold topN; simp only [if_true]; omega)]
          rfl
        · have ht : n * 10 + (s[k].toNat - 48) ≤ 9223372036854775808 := by omega
          go_round
          case rel =>
            have h1 := HS.out
            rw [hdv.out] at h1
            exact ⟨k + 1, by omega, by go_num, by rw [h1]; go_num, by omega⟩
          case measure => simp [intOf]; omega
      · obtain rfl : k = s.size := by omega
        have hall : s.data.toList.take s.size = s.data.toList := List.take_length
        rw [hall] at hle ⊢
        have HL := Lib.hid hle
        generalize hn : decN s.data.toList 0 = n at *
        have HN := Lib.hid hn
        clear hn
        have hw0 : n ≤ 9223372036854775808 := by omega
        go_wp2
        go_ret2
        refine ⟨?_, rfl⟩
        rw [HN.out, if_pos (by unfold topN; simp only [if_true]; exact HL.out)]
        exact ret_two (i64_neg n hw0) rfl
end Go.Proofs.YtfpneopobbfabaaDoor
