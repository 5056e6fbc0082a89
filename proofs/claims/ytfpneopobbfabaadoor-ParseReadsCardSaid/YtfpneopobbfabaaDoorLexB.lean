/-
  Walks of package lex: sign, number. Condition: the text is not empty; for number: no longer than 65536 bytes, and strconv.ErrRange holds an error.
-/
import Derived.Test.YtfpneopobbfabaaDoorLexA
namespace Go.Proofs.YtfpneopobbfabaaDoor
open Go.RowKit Go.Shelf

theorem signs_dec (b : UInt8) : decide ((0 : Int) ≤ Lib.indexByte [43, 45, 42, 37, 124, 61, 126, 60, 62, 47, 92, 46, 58, 40, 41] (b.toNat : Int).toNat.toUInt8) = signB b := by
  have H : ∀ n : Fin 256, decide ((0 : Int) ≤ Lib.indexByte [43, 45, 42, 37, 124, 61, 126, 60, 62, 47, 92, 46, 58, 40, 41] (n.val : Int).toNat.toUInt8) = signB (UInt8.ofNat n.val) := by decide +kernel
  have := H ⟨b.toNat, b.toNat_lt⟩
  rwa [UInt8.ofNat_toNat] at this
theorem head_get (s : ByteArray) (h : 0 < s.size) : s.data.toList.headD 0 = s[0] := by
  have e : s.data.toList = s[0] :: s.data.toList.drop 1 := by
    have := List.drop_eq_getElem_cons (i := 0) (l := s.data.toList) h
    rw [List.drop_zero] at this
    exact this
  rw [e]; rfl

theorem index_signs (b : UInt8) (w : World) : Calls Tryd.prog 68 #[.string ⟨#[43, 45, 42, 37, 124, 61, 126, 60, 62, 47, 92, 46, 58, 40, 41]⟩, .int .u8 b.toNat] w fun e w' => ∃ q : Int, (0 ≤ q ↔ signB b = true) ∧ e = .returned (.int .i64 q) ∧ w = w' :=
  (Tryd.strings_IndexByte ⟨#[43, 45, 42, 37, 124, 61, 126, 60, 62, 47, 92, 46, 58, 40, 41]⟩ b.toNat w).mono fun e w' ⟨he, hw⟩ => ⟨_, by rw [← signs_dec b]; simp, he, hw.symm⟩

set_option maxHeartbeats 400000 in
theorem sign_any (s : ByteArray) (w : World) (h0 : 0 < s.size) :
    Calls Tryd.prog 54 #[.string s] w fun e w' => e = .returned (.int .i64 (signL s.data.toList)) ∧ w = w' := by
  have hd := head_get s h0
  have c1 : ∀ w, Calls Tryd.prog 67 #[.string s, .string ⟨#[60, 61]⟩] w fun e w' => e = .returned (.bool (Lib.hasPrefix s.data.toList [60, 61])) ∧ w = w' := fun w => (Tryd.strings_HasPrefix s _ w).mono fun e w' ⟨he, hw⟩ => ⟨he, hw.symm⟩
  have c2 : ∀ w, Calls Tryd.prog 67 #[.string s, .string ⟨#[62, 61]⟩] w fun e w' => e = .returned (.bool (Lib.hasPrefix s.data.toList [62, 61])) ∧ w = w' := fun w => (Tryd.strings_HasPrefix s _ w).mono fun e w' ⟨he, hw⟩ => ⟨he, hw.symm⟩
  have C1 := Lib.hid c1
  have C2 := Lib.hid c2
  have fin : Hid (signL s.data.toList = if Lib.hasPrefix s.data.toList [60, 61] || Lib.hasPrefix s.data.toList [62, 61] then 2 else if signB s[0] then 1 else 0) := by
    rw [← hd]; exact Lib.hid rfl
  clear c1 c2 hd
  generalize Lib.hasPrefix s.data.toList [60, 61] = p1 at *
  generalize Lib.hasPrefix s.data.toList [62, 61] = p2 at *
  cases p1
  · cases p2
    · cases hb : signB s[0]
      all_goals
        have HB := Lib.hid hb
        clear hb
        go_enter Tryd.func54, Tryd.ntmps54
        go_wp2_with fail
        refine (C1.out _).mono ?_
        rintro e w1 ⟨rfl, rfl⟩
        go_wp2_with fail
        refine (C2.out _).mono ?_
        rintro e w2 ⟨rfl, rfl⟩
        go_wp2_with fail
        refine (index_signs _ _).mono ?_
        rintro e w3 ⟨q, hq, rfl, rfl⟩
        rw [HB.out] at hq
        have hq' : 0 ≤ q ∨ q < 0 := by omega
        simp at hq
        go_wp2
        go_ret
        refine ⟨ret_int ?_, rfl⟩
        rw [fin.out, HB.out]
        rfl
    · go_enter Tryd.func54, Tryd.ntmps54
      go_wp2_with fail
      refine (C1.out _).mono ?_
      rintro e w1 ⟨rfl, rfl⟩
      go_wp2_with fail
      refine (C2.out _).mono ?_
      rintro e w2 ⟨rfl, rfl⟩
      go_wp2
      go_ret
      exact ⟨ret_int (by rw [fin.out]; rfl), rfl⟩
  · go_enter Tryd.func54, Tryd.ntmps54
    go_wp2_with fail
    refine (C1.out _).mono ?_
    rintro e w1 ⟨rfl, rfl⟩
    go_wp2
    go_ret
    exact ⟨ret_int (by rw [fin.out]; rfl), rfl⟩

/-- strconv.ErrRange holds an error. -/
def ErrIs (w : World) : Prop := ∃ tp p, w.var? Tryd.prog "strconv.ErrRange" = some #[.iface tp p]
/-- What ParseInt gives: the number and nil, or some number and an error. -/
def Parsed (l : List UInt8) (w : World) (e : Ending) (w' : World) : Prop :=
  (∃ v, Lib.parseIntB 64 l = .ok v ∧ e = .returned (.tuple #[.int .i64 v, .nilIface]) ∧ Below w.heap.size w w') ∨
  (Lib.parseIntB 64 l = .range ∧ ∃ v t p, e = .returned (.tuple #[.int .i64 v, .iface t (.pointer (some p))]) ∧ Below w.heap.size w w')
theorem parse_any (s : ByteArray) (w : World) (hs : s.size ≤ 281474976710656) (hE : ErrIs w) (hn : Lib.parseIntB 64 s.data.toList = .range ∨ ∃ v, Lib.parseIntB 64 s.data.toList = .ok v) :
    Calls Tryd.prog 66 #[.string s, .int .i64 10, .int .i64 64] w (Parsed s.data.toList w) := by
  rcases hn with h | ⟨v, h⟩
  · obtain ⟨tp, p, hv⟩ := hE
    refine (Tryd.strconv_ParseInt_10_at64_range_var s hs h tp p w hv).mono ?_
    rintro e w' ⟨N, he, _, _, hb⟩
    exact .inr ⟨h, _, _, _, he, hb⟩
  · refine (Tryd.strconv_ParseInt_10_at64_ok s (by omega) v h w).mono ?_
    rintro e w' ⟨he, hw⟩
    refine .inl ⟨v, h, he, ?_⟩
    rcases hw with rfl | ⟨t, rfl⟩
    · exact Below.refl _ _
    · exact Lib.bytesWorld_below w _ t

theorem byte_ne (b c : UInt8) (h : b ≠ c) : ((b.toNat : Int) == (c.toNat : Int)) = false := by
  rw [beq_eq_false_iff_ne]; intro e; exact h (UInt8.toNat_inj.1 (by omega))
theorem head_eq (s : ByteArray) (h : 0 < s.size) (c : UInt8) : (s.data.toList.head? = some c) ↔ s[0] = c := by
  have := head_get s h
  cases hl : s.data.toList with
  | nil => rw [size_list, hl] at h; simp at h
  | cons a r => rw [hl] at this; simp at this; simp [this]
theorem concat_digits (m : List UInt8) (s : ByteArray) (n : Nat) : (mkS m ++ s.extract 0 n).data.toList = m ++ s.data.toList.take n := by
  rw [extract_mkS]; simp [ByteArray.data_append]
theorem ret3 {a b c a' b' c' : Int} {k : IntKind} (h1 : a = a') (h2 : b = b') (h3 : c = c') : Ending.returned (.tuple #[.int .i64 a, .int .i64 b, .int k c]) = .returned (.tuple #[.int .i64 a', .int .i64 b', .int k c']) := by rw [h1, h2, h3]

set_option maxHeartbeats 400000 in
theorem number_any (s : ByteArray) (w : World) (h0 : 0 < s.size) (hs : s.size ≤ 65536) (hE : ErrIs w) :
    Calls Tryd.prog 53 #[.string s] w fun e w' => e = .returned (.tuple #[.int .i64 (numL s.data.toList).1, .int .i64 (numL s.data.toList).2.1, .int .i64 (numL s.data.toList).2.2]) ∧ Below w.heap.size w w' := by
  by_cases hm : s[0] = 95
  · have hb : (((s[0]).toNat : Int) == 95) = true := by rw [hm]; rfl
    have ht : (s.extract 1 s.size).data.toList = s.data.toList.tail := by rw [extract_mkS, mkS_toList, size_list, List.take_length]; simp
    have hts : (s.extract 1 s.size).size = s.size - 1 := by simp
    have hN : numL s.data.toList = if runL digitB s.data.toList.tail = 0 then (0, 0, 0)
        else if decN (s.data.toList.tail.take (runL digitB s.data.toList.tail)) 0 ≤ 9223372036854775808 then (-(decN (s.data.toList.tail.take (runL digitB s.data.toList.tail)) 0 : Int), runL digitB s.data.toList.tail + 1, 0)
        else (0, 0, 32) := by rw [numL, if_pos ((head_eq s h0 95).2 hm)]
    have hlen : s.data.toList.tail.length = s.size - 1 := by rw [List.length_tail, ← size_list]
    have hrl := runL_le digitB s.data.toList.tail
    rw [hlen] at hrl
    have hrun := run_digit (s.extract 1 s.size) w (by rw [hts]; unfold maxLen; omega)
    rw [ht] at hrun
    have HN := Lib.hid hN
    have hall := Lib.hid (take_run_all digitB s.data.toList.tail)
    have hnee := Lib.hid (take_run_ne digitB s.data.toList.tail)
    have hcat := Lib.hid (concat_digits [45] (s.extract 1 s.size) (runL digitB s.data.toList.tail))
    rw [ht] at hcat
    clear ht
    have HR := Lib.hid hrun
    clear hrun hN hm
    generalize s.data.toList = S at *
    generalize S.tail = d at *
    generalize hr : runL digitB d = n at *
    clear hr
    by_cases hn : n = 0
    · have hn' : ((n : Int) == 0) = true := by subst hn; rfl
      clear hlen
      go_enter Tryd.func53, Tryd.ntmps53
      go_wp2_with fail
      refine HR.out.mono ?_
      rintro e w1 ⟨rfl, rfl⟩
      go_wp2
      go_ret3
      exact ⟨by rw [HN.out, if_pos hn]; rfl, Below.refl _ _⟩
    · have hn' : ((n : Int) == 0) = false := by rw [beq_eq_false_iff_ne]; omega
      have hsz : (mkS [45] ++ (s.extract 1 s.size).extract 0 n).size ≤ 281474976710656 := by
        rw [size_list, hcat.out]
        simp only [List.length_append, List.length_take, List.length_cons, List.length_nil]
        omega
      have hlaw := parseIntB64_minus (d.take n) (hnee.out hn) hall.out
      have hns : Lib.parseIntB 64 ([45] ++ d.take n) = .range ∨ ∃ v, Lib.parseIntB 64 ([45] ++ d.take n) = .ok v := by
        rw [show [45] ++ d.take n = 45 :: d.take n from rfl, hlaw]
        split
        · exact .inr ⟨_, rfl⟩
        · exact .inl rfl
      have hP := parse_any (mkS [45] ++ (s.extract 1 s.size).extract 0 n) w hsz hE (by rw [hcat.out]; exact hns)
      rw [hcat.out] at hP
      have HP := Lib.hid hP
      have HL := Lib.hid hlaw
      clear hP hlaw hns hsz hlen
      go_enter Tryd.func53, Tryd.ntmps53
      go_wp2_with fail
      refine HR.out.mono ?_
      rintro e w1 ⟨rfl, rfl⟩
      go_wp2_with fail
      refine HP.out.mono ?_
      intro e w2 hpost
      rcases hpost with ⟨v, hv, rfl, hbel⟩ | ⟨hv, v, t, p, rfl, hbel⟩
      · have HV := Lib.hid hv
        clear hv
        go_wp2
        go_ret3
        refine ⟨?_, hbel⟩
        have e1 : decN (List.take n d) 0 ≤ 9223372036854775808 ∧ v = -(decN (List.take n d) 0 : Int) := by
          have h2 := HL.out.symm.trans HV.out
          split at h2
          · rename_i hc; exact ⟨hc, by injection h2 with h2; exact h2.symm⟩
          · cases h2
        rw [HN.out, if_neg hn, if_pos e1.1, e1.2]
        simp
      · have HV := Lib.hid hv
        clear hv
        go_wp2
        go_ret3
        refine ⟨?_, hbel⟩
        have e1 : ¬ decN (List.take n d) 0 ≤ 9223372036854775808 := by
          intro hc
          have h2 := HL.out.symm.trans HV.out
          rw [if_pos hc] at h2
          cases h2
        rw [HN.out, if_neg hn, if_neg e1]
        rfl
  · have hb : (((s[0]).toNat : Int) == 95) = false := byte_ne _ 95 hm
    have hN : numL s.data.toList = if runL digitB s.data.toList = 0 then (0, 0, 0)
        else if decN (s.data.toList.take (runL digitB s.data.toList)) 0 < 9223372036854775808 then ((decN (s.data.toList.take (runL digitB s.data.toList)) 0 : Int), runL digitB s.data.toList, 0)
        else (0, 0, 32) := by rw [numL, if_neg (fun h => hm ((head_eq s h0 95).1 h))]
    have hlen : s.data.toList.length = s.size := rfl
    have hrl := runL_le digitB s.data.toList
    rw [hlen] at hrl
    have hrun := run_digit s w (by unfold maxLen; omega)
    have HN := Lib.hid hN
    have hall := Lib.hid (take_run_all digitB s.data.toList)
    have hnee := Lib.hid (take_run_ne digitB s.data.toList)
    have hcat := Lib.hid (concat_digits [] s (runL digitB s.data.toList))
    have HR := Lib.hid hrun
    clear hrun hN hm
    generalize s.data.toList = S at *
    obtain ⟨d, rfl⟩ : ∃ d, d = S := ⟨_, rfl⟩
    generalize hr : runL digitB d = n at *
    clear hr
    by_cases hn : n = 0
    · have hn' : ((n : Int) == 0) = true := by subst hn; rfl
      clear hlen
      go_enter Tryd.func53, Tryd.ntmps53
      go_wp2_with fail
      refine HR.out.mono ?_
      rintro e w1 ⟨rfl, rfl⟩
      go_wp2
      go_ret3
      exact ⟨by rw [HN.out, if_pos hn]; rfl, Below.refl _ _⟩
    · have hn' : ((n : Int) == 0) = false := by rw [beq_eq_false_iff_ne]; omega
      have hsz : (mkS [] ++ s.extract 0 n).size ≤ 281474976710656 := by
        rw [size_list, hcat.out]
        simp only [List.length_append, List.length_take, List.length_nil]
        omega
      have hlaw := parseIntB64_plain (d.take n) (hnee.out hn) hall.out
      have hns : Lib.parseIntB 64 ([] ++ d.take n) = .range ∨ ∃ v, Lib.parseIntB 64 ([] ++ d.take n) = .ok v := by
        rw [show [] ++ d.take n = d.take n from rfl, hlaw]
        split
        · exact .inr ⟨_, rfl⟩
        · exact .inl rfl
      have hP := parse_any (mkS [] ++ s.extract 0 n) w hsz hE (by rw [hcat.out]; exact hns)
      rw [hcat.out] at hP
      have HP := Lib.hid hP
      have HL := Lib.hid hlaw
      clear hP hlaw hns hsz hlen
      go_enter Tryd.func53, Tryd.ntmps53
      go_wp2_with fail
      refine HR.out.mono ?_
      rintro e w1 ⟨rfl, rfl⟩
      go_wp2_with fail
      refine HP.out.mono ?_
      intro e w2 hpost
      rcases hpost with ⟨v, hv, rfl, hbel⟩ | ⟨hv, v, t, p, rfl, hbel⟩
      · have HV := Lib.hid hv
        clear hv
        go_wp2
        go_ret3
        refine ⟨?_, hbel⟩
        have e1 : decN (List.take n d) 0 < 9223372036854775808 ∧ v = (decN (List.take n d) 0 : Int) := by
          have h2 := HL.out.symm.trans HV.out
          split at h2
          · rename_i hc; exact ⟨hc, by injection h2 with h2; exact h2.symm⟩
          · cases h2
        rw [HN.out, if_neg hn, if_pos e1.1, e1.2]
        rfl
      · have HV := Lib.hid hv
        clear hv
        go_wp2
        go_ret3
        refine ⟨?_, hbel⟩
        have e1 : ¬ decN (List.take n d) 0 < 9223372036854775808 := by
          intro hc
          have h2 := HL.out.symm.trans HV.out
          rw [if_pos hc] at h2
          cases h2
        rw [HN.out, if_neg hn, if_neg e1]
        rfl
end Go.Proofs.YtfpneopobbfabaaDoor
