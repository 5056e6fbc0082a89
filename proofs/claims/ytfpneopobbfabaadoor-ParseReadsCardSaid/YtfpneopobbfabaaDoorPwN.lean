/-
  Walks of the document's verbs and names (windrowref01.Takes, windrowref04: number, Verb, Any, Name). Condition: a text is no longer than a string may be.
-/
import Derived.Test.YtfpneopobbfabaaDoorParB
import Derived.Test.YtfpneopobbfabaaDoorLexM
namespace Go.Proofs.YtfpneopobbfabaaDoor
open Go.RowKit Go.Shelf Go.Sort

set_option maxHeartbeats 1000000 in
set_option maxRecDepth 100000 in
theorem rnumber_any (s : ByteArray) (two : Bool) (w : World) : Calls Tryd.prog 30 #[.string s, .bool two] w fun e w' => e = .returned (.int .u8 (numberF s.data.toList two)) ∧ w = w' := by
  cases two
  all_goals
    go_enter Tryd.func30, Tryd.ntmps30
    go_wp2
    all_goals
      go_ret
      refine ⟨ret_int ?_, rfl⟩
      simp only [ByteArray.toList_eq, beq_iff_eq, beq_eq_false_iff_ne, ne_eq] at *
      simp [numberF, *]
set_option maxHeartbeats 1000000 in
set_option maxRecDepth 100000 in
theorem rtakes_any (f : Nat) (two : Bool) (w : World) : Calls Tryd.prog 31 #[.int .u8 f, .bool two] w fun e w' => e = .returned (.bool (takesB f two)) ∧ w = w' := by
  cases two
  all_goals
    go_enter Tryd.func31, Tryd.ntmps31
    go_wp2
    all_goals
      go_ret
      refine ⟨ret_bool ?_, rfl⟩
      simp only [takesB]
      rw [Bool.eq_iff_iff]
      simp [*]
      try omega
theorem number_lt (s : List UInt8) (two : Bool) : numberF s two ≤ 40 := by
  rcases verb_cases s with h | ⟨_, _, h⟩
  · have H : ∀ s ∈ verbTexts, ∀ two, numberF s two ≤ 40 := by decide
    exact H s h two
  · rw [(h two).1]; omega
set_option maxHeartbeats 2000000 in
set_option maxRecDepth 100000 in
theorem rVerb_any (s : ByteArray) (two : Bool) (w : World) : Calls Tryd.prog 16 #[.string s, .bool two] w fun e w' => e = .returned (.tuple #[.int .u8 (verbF s.data.toList two), .bool (verbF s.data.toList two != 0)]) ∧ w = w' := by
  have HN := Lib.hid (fun w => rnumber_any s two w)
  have HV := Lib.hid (verbR_eq s.data.toList two)
  unfold verbR at HV
  generalize verbF s.data.toList two = F at *
  have hl := number_lt s.data.toList two
  by_cases h0 : numberF s.data.toList two = 0
  · rw [h0] at HN HV
    rw [if_neg (by simp)] at HV
    go_enter Tryd.func16, Tryd.ntmps16
    go_wp2_with fail
    refine (HN.out w).mono ?_
    rintro _ _ ⟨rfl, rfl⟩
    cases two
    all_goals
      go_wp2
      all_goals
        go_ret2
        refine ⟨?_, rfl⟩
        have HV2 := HV.out
        simp only [ByteArray.toList_eq, beq_iff_eq, beq_eq_false_iff_ne, ne_eq] at *
        first
          | (exfalso; simp_all; done)
          | (simp [arrTwo, arrOne, *] at HV2; obtain ⟨hq, -⟩ := HV2; subst hq; rfl)
          | (simp [arrTwo, arrOne, *] at HV2; subst HV2; rfl)
  · have HT := Lib.hid (fun w => rtakes_any (numberF s.data.toList two) two w)
    rw [if_pos h0] at HV
    generalize numberF s.data.toList two = f at *
    have hf : ((f : Int) != 0) = true := by rw [bne_iff_ne]; omega
    have hf0 : ¬ (f : Int) = 0 := by omega
    go_enter Tryd.func16, Tryd.ntmps16
    go_wp2_with fail
    refine (HN.out w).mono ?_
    rintro _ _ ⟨rfl, rfl⟩
    go_wp2_with fail
    refine (HT.out w).mono ?_
    rintro _ _ ⟨rfl, rfl⟩
    cases ht : takesB f two with
    | true =>
      rw [ht, if_pos rfl] at HV
      go_wp2
      go_ret2
      refine ⟨?_, rfl⟩
      have HV2 := HV.out
      injection HV2 with h1 h2
      rw [← h2, ← h1]
      rfl
    | false =>
      rw [ht, if_neg (by simp)] at HV
      go_wp2
      go_ret2
      refine ⟨?_, rfl⟩
      have HV2 := HV.out
      injection HV2 with h1 h2
      rw [← h2, ← h1]
      rfl
theorem verbB_two (s : List UInt8) : verbB s = (verbF s false != 0 || verbF s true != 0) := rfl
set_option maxHeartbeats 1000000 in
set_option maxRecDepth 100000 in
theorem rAny_any (s : ByteArray) (w : World) : Calls Tryd.prog 34 #[.string s] w fun e w' => e = .returned (.bool (verbB s.data.toList)) ∧ w = w' := by
  have HN := Lib.hid (fun w => rVerb_any s false w)
  have HT := Lib.hid (fun w => rVerb_any s true w)
  rw [verbB_two]
  generalize verbF s.data.toList false = a at *
  generalize verbF s.data.toList true = b at *
  go_enter Tryd.func34, Tryd.ntmps34
  go_wp2_with fail
  refine (HN.out w).mono ?_
  rintro _ _ ⟨rfl, rfl⟩
  go_wp2_with fail
  refine (HT.out w).mono ?_
  rintro _ _ ⟨rfl, rfl⟩
  cases ha : (a != 0)
  all_goals
    go_wp2
    go_ret
    exact ⟨ret_bool (by rw [ha]; rfl), rfl⟩
theorem spellR_word (s : List UInt8) : spellR ⟨1, 0, s, 0⟩ = if wordIs s then (s, true) else ([], false) := by
  have hs : spellS ⟨1, 0, s, 0⟩ = s := by simp [spellS]
  have hw := wordIs_spell s
  rw [← spellR_eq ⟨1, 0, s, 0⟩ (by show (-9223372036854775808 : Int) ≤ 0; decide) (by show (0 : Int) ≤ 9223372036854775807; decide)] at hw
  have hc : spellR ⟨1, 0, s, 0⟩ = ([], false) ∨ spellR ⟨1, 0, s, 0⟩ = (s, true) := by
    unfold spellR
    rw [hs]
    split
    · exact .inl rfl
    · split
      · exact .inr rfl
      · exact .inl rfl
  rcases hc with hc | hc <;> rw [hc] at hw ⊢ <;> rw [hw] <;> rfl
set_option maxHeartbeats 1000000 in
set_option maxRecDepth 100000 in
theorem rName_any (s : ByteArray) (w : World) (hs : s.size ≤ maxLen) : Calls Tryd.prog 18 #[.string s] w fun e w' => e = .returned (.bool (nameB s.data.toList)) ∧ Below w.heap.size w w' := by
  have HS := Lib.hid (fun w => RSpell_any ⟨1, 0, s.data.toList, 0⟩ w ⟨by show (-9223372036854775808 : Int) ≤ 0; decide, by show (0 : Int) ≤ 9223372036854775807; decide, hs⟩)
  have HA := Lib.hid (fun w => rAny_any s w)
  unfold RSpellPost at HS
  rw [spellR_word] at HS
  unfold Tok.val at HS
  dsimp only at HS
  rw [mkS_of] at HS
  have htl : s.toList = s.data.toList := ByteArray.toList_eq s
  have hN : nameB s.data.toList = (!(verbB s.data.toList || s.data.toList == [105, 110] || s.data.toList == [111, 117, 116]) && wordIs s.data.toList) := rfl
  have HNm := Lib.hid hN
  clear hN
  cases hw : wordIs s.data.toList with
  | false =>
    rw [hw, if_neg (by simp)] at HS
    rw [hw, Bool.and_false] at HNm
    clear hw
    go_enter Tryd.func18, Tryd.ntmps18
    go_wp2_with fail
    refine (HS.out _).mono ?_
    rintro _ w1 ⟨rfl, hb⟩
    have HB := Lib.hid hb
    clear hb
    go_wp2
    go_ret
    exact ⟨by rw [HNm.out]; rfl, HB.out⟩
  | true =>
    rw [hw, if_pos rfl] at HS
    rw [hw, Bool.and_true] at HNm
    dsimp only at HS
    rw [mkS_of] at HS
    clear hw
    go_enter Tryd.func18, Tryd.ntmps18
    go_wp2_with fail
    refine (HS.out _).mono ?_
    rintro _ w1 ⟨rfl, hb⟩
    have HB := Lib.hid hb
    clear hb
    go_wp2_with fail
    refine (HA.out _).mono ?_
    rintro _ _ ⟨rfl, rfl⟩
    cases hv : verbB s.data.toList with
    | true =>
      rw [hv] at HNm
      go_wp2
      go_ret
      exact ⟨by rw [HNm.out]; rfl, HB.out⟩
    | false =>
      rw [hv] at HNm
      go_wp2
      all_goals
        go_ret
        refine ⟨?_, HB.out⟩
        rw [HNm.out, ← htl]
        refine ret_bool ?_
        simp_all
end Go.Proofs.YtfpneopobbfabaaDoor
