/-
  Walk of the document's lexer (windrowref03): Next. Condition: the place lies in the text, which has at most 65536 bytes.
-/
import Derived.Test.YtfpneopobbfabaaDoorLexH
namespace Go.Proofs.YtfpneopobbfabaaDoor
open Go.RowKit Go.Shelf

/-- What the document's Next tells: the token at its place, the place behind it; or what is wrong. -/
def nextL (l : List UInt8) (k : Nat) : Tok × Nat × Nat :=
  if (tokL l).2.2 = 0 then ({ (tokL l).1 with at_ := k }, k + (tokL l).2.1, 0) else (Tok.none, 0, (tokL l).2.2)
theorem next_line (l : List UInt8) (k : Nat) (h : l.headD 0 = 10) : nextL l k = (⟨4, k, [], 0⟩, k + 1, 0) := by
  unfold nextL; rw [tok_line l h, if_pos rfl]
theorem next_word (l : List UInt8) (k : Nat) (h : l.headD 0 ≠ 10) (h2 : letterB (l.headD 0) = true) : nextL l k = if 16 < runL alnumB l then (Tok.none, 0, 33) else (⟨1, k, l.take (runL alnumB l), 0⟩, k + runL alnumB l, 0) := by
  unfold nextL
  rw [tok_word l h h2]
  by_cases h3 : 16 < runL alnumB l
  · rw [if_pos h3, if_pos h3, if_neg (by decide)]
  · rw [if_neg h3, if_neg h3, if_pos rfl]
theorem next_num (l : List UInt8) (k m : Nat) (v : Int) (h : l.headD 0 ≠ 10) (h2 : ¬ letterB (l.headD 0) = true) (hn : numL l = (v, m, 0)) (hm : 0 < m) : nextL l k = (⟨2, k, [], v⟩, k + m, 0) := by
  have e : tokL l = (⟨2, 0, [], v⟩, m, 0) := by rw [tok_rest l h h2, hn]; exact if_pos (Or.inl hm)
  unfold nextL
  rw [e]
  exact if_pos rfl
theorem next_numbad (l : List UInt8) (k : Nat) (h : l.headD 0 ≠ 10) (h2 : ¬ letterB (l.headD 0) = true) (hn : numL l = (0, 0, 32)) : nextL l k = (Tok.none, 0, 32) := by
  have e : tokL l = (⟨2, 0, [], 0⟩, 0, 32) := by rw [tok_rest l h h2, hn]; exact if_pos (Or.inr (by decide))
  unfold nextL
  rw [e]
  exact if_neg (by decide)
theorem next_sign (l : List UInt8) (k : Nat) (h : l.headD 0 ≠ 10) (h2 : ¬ letterB (l.headD 0) = true) (hn : numL l = (0, 0, 0)) : nextL l k = if signL l = 0 then (Tok.none, 0, 31) else (⟨3, k, l.take (signL l), 0⟩, k + signL l, 0) := by
  have e : tokL l = if signL l = 0 then (Tok.none, 0, 31) else (⟨3, 0, l.take (signL l), 0⟩, signL l, 0) := by rw [tok_rest l h h2, hn]; exact if_neg (by simp)
  unfold nextL
  rw [e]
  by_cases h3 : signL l = 0
  · rw [if_pos h3, if_pos h3]; exact if_neg (by decide)
  · rw [if_neg h3, if_neg h3]; exact if_pos rfl
theorem value_yes (s : ByteArray) (b : Bool) (l : List UInt8) (w : World) (hl : s.data.toList = l) (hs : s.size ≤ maxLen) (hd : ∀ c ∈ l, digitB c = true) (h : decN l 0 ≤ topN b) :
    Calls Tryd.prog 62 #[.string s, .bool b] w fun e w' => e = .returned (.tuple #[.int .i64 (signed b (decN l 0)), .bool true]) ∧ w = w' := by
  subst hl
  exact (value_any s b w hs hd).mono fun e w' ⟨he, hw⟩ => ⟨by rw [he, if_pos h], hw⟩
theorem value_no (s : ByteArray) (b : Bool) (l : List UInt8) (w : World) (hl : s.data.toList = l) (hs : s.size ≤ maxLen) (hd : ∀ c ∈ l, digitB c = true) (h : ¬ decN l 0 ≤ topN b) :
    Calls Tryd.prog 62 #[.string s, .bool b] w fun e w' => e = .returned (.tuple #[.int .i64 0, .bool false]) ∧ w = w' := by
  subst hl
  exact (value_any s b w hs hd).mono fun e w' ⟨he, hw⟩ => ⟨by rw [he, if_neg h], hw⟩
theorem end_to (s : ByteArray) (a T : Nat) (L : Bool) (hs : s.size ≤ maxLen) (ha : a ≤ s.size) (hT : a + runL (cls L) (s.data.toList.drop a) = T) (w : World) :
    Calls Tryd.prog 61 #[.string s, .int .i64 a, .bool L] w fun e w' => e = .returned (.int .i64 T) ∧ w = w' := by
  subst hT
  exact end_any s a L w hs ha
theorem end_next (s : ByteArray) (a T : Nat) (L : Bool) (hs : s.size ≤ maxLen) (ha : a + 1 ≤ s.size) (hT : a + 1 + runL (cls L) (s.data.toList.drop (a + 1)) = T) (w : World) :
    Calls Tryd.prog 61 #[.string s, .int .i64 ((a : Int) + 1), .bool L] w fun e w' => e = .returned (.int .i64 T) ∧ w = w' := by
  subst hT
  have := end_any s (a + 1) L w hs ha
  rwa [Int.natCast_add, Int.natCast_one] at this
theorem next_ret {t t' : Tok} {n n' c c' : Nat} (h : (t, n, c) = (t', n', c')) : Ending.returned (.tuple #[t.val, .int .i64 n, .int .i64 c]) = .returned (.tuple #[t'.val, .int .i64 n', .int .i64 c']) := by injection h with h1 h2; injection h2 with h2 h3; rw [h1, h2, h3]
def NextPost (l : List UInt8) (k : Nat) (w : World) (e : Ending) (w' : World) : Prop :=
  e = .returned (.tuple #[(nextL l k).1.val, .int .i64 (nextL l k).2.1, .int .i64 (nextL l k).2.2]) ∧ Below w.heap.size w w'
set_option maxHeartbeats 2000000 in
set_option maxRecDepth 100000 in
theorem Next_any (s : ByteArray) (a : Nat) (w : World) (ha : a < s.size) (hs : s.size ≤ 65536) :
    Calls Tryd.prog 43 #[.string s, .int .i64 a] w (NextPost (s.data.toList.drop a) a w) := by
  have hm : s.size ≤ maxLen := by unfold maxLen; omega
  have hcons : s.data.toList.drop a = s[a] :: s.data.toList.drop (a + 1) := by rw [drop_at _ a ha]; rfl
  have hd : (s.data.toList.drop a).headD 0 = s[a] := by rw [hcons]; rfl
  have hai : (a : Int) < s.size := by omega
  have hfr : Below w.heap.size w (w.alloc (.cells #[.int .i64 0, .int .i64 0, .string ⟨#[]⟩, .int .i64 0] 64)) := (Below.refl _ _).alloc (Nat.le_refl _) _
  by_cases h10 : s[a] = 10
  · have hb : (((s[a]).toNat : Int) == 10) = true := by rw [h10]; rfl
    have hT := Lib.hid (next_line (s.data.toList.drop a) a (by rw [hd, h10]))
    clear hd h10 hcons
    go_enter Tryd.func43, Tryd.ntmps43
    go_wp2
    refine bodyPost_ret (v := .tuple #[.agg #[.int .i64 4, .int .i64 a, .string ⟨#[]⟩, .int .i64 0], .int .i64 ((a + 1 : Nat) : Int), .int .i64 0]) (by simp [results, Tryd.results43, go_sem]) rfl ⟨?_, (Below.refl _ _).alloc (Nat.le_refl _) _⟩
    rw [hT.out]; rfl
  · have hb : (((s[a]).toNat : Int) == 10) = false := byte_ne _ 10 h10
    have hne : (s.data.toList.drop a).headD 0 ≠ 10 := by rw [hd]; exact h10
    by_cases hl : letterB s[a] = true
    · have hN := next_word (s.data.toList.drop a) a hne (by rw [hd]; exact hl)
      have hle := runL_le alnumB (s.data.toList.drop a)
      rw [List.length_drop, ← size_list] at hle
      obtain ⟨T, hT⟩ : ∃ T, a + runL (cls true) (s.data.toList.drop a) = T := ⟨_, rfl⟩
      have HE := Lib.hid (end_to s a T true hm (by omega) hT)
      have hTn : a + runL alnumB (s.data.toList.drop a) = T := hT
      have hx := extract_from s a (runL alnumB (s.data.toList.drop a))
      rw [hTn] at hx
      rw [hTn] at hN
      have HX := Lib.hid hx
      have HL := Lib.hid hl
      clear hx hl hT hd hne hcons h10
      generalize hlist : s.data.toList.drop a = l at *
      have Hlist := Lib.hid hlist
      clear hlist
      generalize runL alnumB l = n at *
      have hTl : (T : Int) ≤ s.size := by omega
      have hTa : (a : Int) ≤ T := by omega
      have hTs : a ≤ T := by omega
      have hTz : T ≤ s.size := by omega
      by_cases h16 : 16 < n
      · have h17 : decide ((16 : Int) < T - a) = true := by rw [decide_eq_true_iff]; omega
        have h18 : (16 : Int) < T - a := by omega
        rw [if_pos h16] at hN
        have HN := Lib.hid hN
        clear hN hTn h16 hle
        go_enter Tryd.func43, Tryd.ntmps43
        go_wp2_with fail
        refine (rletter_any _ _).mono ?_
        rintro e w1 ⟨rfl, rfl⟩
        rw [HL.out]
        go_wp2_with fail
        refine (HE.out _).mono ?_
        rintro e w1 ⟨rfl, rfl⟩
        go_wp2
        refine bodyPost_ret (v := .tuple #[.agg #[.int .i64 0, .int .i64 0, .string ⟨#[]⟩, .int .i64 0], .int .i64 0, .int .i64 33]) (by simp [results, Tryd.results43, go_sem]) rfl ⟨?_, (Below.refl _ _).alloc (Nat.le_refl _) _⟩
        rw [HN.out]; rfl
      · have h17 : decide ((16 : Int) < T - a) = false := by rw [decide_eq_false_iff_not]; omega
        have h18 : ¬ (16 : Int) < T - a := by omega
        rw [if_neg h16] at hN
        have HN := Lib.hid hN
        clear hN hTn h16 hle
        go_enter Tryd.func43, Tryd.ntmps43
        go_wp2_with fail
        refine (rletter_any _ _).mono ?_
        rintro e w1 ⟨rfl, rfl⟩
        rw [HL.out]
        go_wp2_with fail
        refine (HE.out _).mono ?_
        rintro e w1 ⟨rfl, rfl⟩
        go_wp2
        refine bodyPost_ret (v := .tuple #[.agg #[.int .i64 1, .int .i64 a, .string (s.extract a T), .int .i64 0], .int .i64 T, .int .i64 0]) (by simp [results, Tryd.results43, go_sem]) rfl ⟨?_, (Below.refl _ _).alloc (Nat.le_refl _) _⟩
        rw [HN.out, HX.out]; rfl
    · have hl0 : letterB s[a] = false := by simpa using hl
      have HL := Lib.hid hl0
      have hl2 : ¬ letterB ((s.data.toList.drop a).headD 0) = true := by rw [hd]; exact hl
      clear hl hl0
      by_cases h95 : s[a] = 95
      · have hb2 : (((s[a]).toNat : Int) == 95) = true := by rw [h95]; rfl
        have hrun := runL_le digitB (s.data.toList.drop (a + 1))
        rw [List.length_drop, ← size_list] at hrun
        obtain ⟨T, hT⟩ : ∃ T, a + 1 + runL (cls false) (s.data.toList.drop (a + 1)) = T := ⟨_, rfl⟩
        have HE := Lib.hid (end_next s a T false hm (by omega) hT)
        have hTn : a + 1 + runL digitB (s.data.toList.drop (a + 1)) = T := hT
        have hx := extract_from s (a + 1) (runL digitB (s.data.toList.drop (a + 1)))
        have hall := take_run_all digitB (s.data.toList.drop (a + 1))
        rw [hTn] at hx
        have HX := Lib.hid hx
        have HA := Lib.hid hall
        clear hx hall hT
        have hnum := num_under (s.data.toList.drop (a + 1))
        rw [← h95, ← hcons] at hnum
        clear h95
        have HNUM := Lib.hid hnum
        clear hnum
        have HS := Lib.hid (fun w => rsign_any s a w hm ha)
        have hsl := signL_le (s.data.toList.drop a) (by rw [hcons]; simp)
        rw [List.length_drop, ← size_list] at hsl
        have hns := next_sign (s.data.toList.drop a) a hne hl2
        have hnb := next_numbad (s.data.toList.drop a) a hne hl2
        have hny := fun v m => next_num (s.data.toList.drop a) a m v hne hl2
        have hxs := extract_from s a (signL (s.data.toList.drop a))
        have HXS := Lib.hid hxs
        have HNS := Lib.hid hns
        have HNB := Lib.hid hnb
        have HNY := Lib.hid hny
        clear hxs hns hnb hny hd hne hcons h10 hl2
        generalize hlist2 : s.data.toList.drop (a + 1) = l2 at *
        have Hlist2 := Lib.hid hlist2
        clear hlist2
        generalize hlist : s.data.toList.drop a = l at *
        have Hlist := Lib.hid hlist
        clear hlist
        generalize hn : runL digitB l2 = n at *
        have Hn := Lib.hid hn
        clear hn
        generalize hq : signL l = q at *
        have Hq := Lib.hid hq
        clear hq
        have hTl : (T : Int) ≤ s.size := by omega
        have hTz : T ≤ s.size := by omega
        have hTf : ((a : Int) + 1) ≤ T := by omega
        have hTf2 : a + 1 ≤ T := by omega
        by_cases h0 : n = 0
        · have h1 : ¬ ((a : Int) + 1) < T := by omega
          have h2 : decide (((a : Int) + 1) < T) = false := by rw [decide_eq_false_iff_not]; exact h1
          have HN := Lib.hid (HNS.out (by rw [HNUM.out, if_pos h0]))
          clear hTn h0 hrun
          by_cases hq0 : q = 0
          · rw [if_pos hq0] at HN
            rw [hq0, List.take_zero] at HS
            have HS2 : Hid (∀ w, Calls Tryd.prog 63 #[.string s, .int .i64 a] w fun e w' => e = .returned (.string ⟨#[]⟩) ∧ w = w') := HS
            clear hq0 HS
            go_enter Tryd.func43, Tryd.ntmps43
            go_wp2_with fail
            refine (rletter_any _ _).mono ?_
            rintro e w1 ⟨rfl, rfl⟩
            rw [HL.out]
            go_wp2_with fail
            refine (HE.out _).mono ?_
            rintro e w1 ⟨rfl, rfl⟩
            go_wp2_with fail
            refine (HS2.out _).mono ?_
            rintro e w1 ⟨rfl, rfl⟩
            go_wp2
            refine bodyPost_ret (v := .tuple #[.agg #[.int .i64 0, .int .i64 0, .string ⟨#[]⟩, .int .i64 0], .int .i64 0, .int .i64 31]) (by simp [results, Tryd.results43, go_sem]) rfl ⟨?_, (Below.refl _ _).alloc (Nat.le_refl _) _⟩
            rw [HN.out]; rfl
          · rw [if_neg hq0] at HN
            rw [← HXS.out] at HS
            have hqs : (a : Int) + q ≤ s.size := by omega
            have hsz : (s.extract a (a + q)).size = q := by rw [ByteArray.size_extract]; omega
            have hne2 : ((s.extract a (a + q)).toList == (⟨#[]⟩ : ByteArray).toList) = false := by
              rw [beq_eq_false_iff_ne]
              intro h
              rw [ByteArray.toList_eq, ByteArray.toList_eq] at h
              have := congrArg List.length h
              have h3 : (s.extract a (a + q)).data.toList.length = q := hsz
              rw [h3] at this
              simp at this
              omega
            have hne3 : (s.extract a (a + q)).toList ≠ [] := by
              intro h
              rw [ByteArray.toList_eq] at h
              have := congrArg List.length h
              have h3 : (s.extract a (a + q)).data.toList.length = q := hsz
              rw [h3] at this
              simp at this
              omega
            obtain ⟨W, hW⟩ : ∃ W, W = s.extract a (a + q) := ⟨_, rfl⟩
            rw [← hW] at HS hsz hne2 hne3 HXS
            have hWl : W.toList.isEmpty = false := by
              cases hx : W.toList with
              | nil => exact absurd hx hne3
              | cons _ _ => rfl
            have HW := Lib.hid hW
            clear hW hq0 hne2
            go_enter Tryd.func43, Tryd.ntmps43
            go_wp2_with fail
            refine (rletter_any _ _).mono ?_
            rintro e w1 ⟨rfl, rfl⟩
            rw [HL.out]
            go_wp2_with fail
            refine (HE.out _).mono ?_
            rintro e w1 ⟨rfl, rfl⟩
            go_wp2_with fail
            refine (HS.out _).mono ?_
            rintro e w1 ⟨rfl, rfl⟩
            go_wp2
            refine bodyPost_ret (v := .tuple #[.agg #[.int .i64 3, .int .i64 a, .string W, .int .i64 0], .int .i64 ((a + q : Nat) : Int), .int .i64 0]) (by simp [results, Tryd.results43, go_sem]) rfl ⟨?_, (Below.refl _ _).alloc (Nat.le_refl _) _⟩
            rw [HN.out, HXS.out]; rfl
        · have h1 : ((a : Int) + 1) < T := by omega
          have h2 : decide (((a : Int) + 1) < T) = true := by rw [decide_eq_true_iff]; exact h1
          rw [if_neg h0] at HNUM
          have hxl : (s.extract (a + 1) T).data.toList = l2.take n := by rw [HX.out, mkS_toList]
          have hxs : (s.extract (a + 1) T).size ≤ maxLen := by rw [ByteArray.size_extract]; unfold maxLen at *; omega
          by_cases hv : decN (l2.take n) 0 ≤ topN true
          · have HV := Lib.hid (fun w => value_yes (s.extract (a + 1) T) true (l2.take n) w hxl hxs HA.out hv)
            have HN := Lib.hid (HNY.out _ _ (HNUM.out.trans (if_pos hv)) (by omega))
            clear hxl hxs hv h0 hrun
            generalize decN (l2.take n) 0 = N at *
            go_enter Tryd.func43, Tryd.ntmps43
            go_wp2_with fail
            refine (rletter_any _ _).mono ?_
            rintro e w1 ⟨rfl, rfl⟩
            rw [HL.out]
            go_wp2_with fail
            refine (HE.out _).mono ?_
            rintro e w1 ⟨rfl, rfl⟩
            go_wp2_with fail
            rw [show decide ((a : Int) < a + 1) = true from by rw [decide_eq_true_iff]; omega]
            refine (HV.out _).mono ?_
            rintro e w1 ⟨rfl, rfl⟩
            go_wp2
            refine bodyPost_ret (v := .tuple #[.agg #[.int .i64 2, .int .i64 a, .string ⟨#[]⟩, .int .i64 (signed true N)], .int .i64 T, .int .i64 0]) (by simp [results, Tryd.results43, go_sem]) rfl ⟨?_, (Below.refl _ _).alloc (Nat.le_refl _) _⟩
            rw [HN.out, show a + (n + 1) = T by omega]
            rfl
          · have HV := Lib.hid (fun w => value_no (s.extract (a + 1) T) true (l2.take n) w hxl hxs HA.out hv)
            have HN := Lib.hid (HNB.out (HNUM.out.trans (if_neg hv)))
            clear hxl hxs hv h0 hrun
            go_enter Tryd.func43, Tryd.ntmps43
            go_wp2_with fail
            refine (rletter_any _ _).mono ?_
            rintro e w1 ⟨rfl, rfl⟩
            rw [HL.out]
            go_wp2_with fail
            refine (HE.out _).mono ?_
            rintro e w1 ⟨rfl, rfl⟩
            go_wp2_with fail
            rw [show decide ((a : Int) < a + 1) = true from by rw [decide_eq_true_iff]; omega]
            refine (HV.out _).mono ?_
            rintro e w1 ⟨rfl, rfl⟩
            go_wp2
            refine bodyPost_ret (v := .tuple #[.agg #[.int .i64 0, .int .i64 0, .string ⟨#[]⟩, .int .i64 0], .int .i64 0, .int .i64 32]) (by simp [results, Tryd.results43, go_sem]) rfl ⟨?_, (Below.refl _ _).alloc (Nat.le_refl _) _⟩
            rw [HN.out]; rfl
      · have hb2 : (((s[a]).toNat : Int) == 95) = false := byte_ne _ 95 h95
        have hrun := runL_le digitB (s.data.toList.drop (a))
        rw [List.length_drop, ← size_list] at hrun
        obtain ⟨T, hT⟩ : ∃ T, a + runL (cls false) (s.data.toList.drop (a)) = T := ⟨_, rfl⟩
        have HE := Lib.hid (end_to s a T false hm (by omega) hT)
        have hTn : a + runL digitB (s.data.toList.drop (a)) = T := hT
        have hx := extract_from s (a) (runL digitB (s.data.toList.drop (a)))
        have hall := take_run_all digitB (s.data.toList.drop (a))
        rw [hTn] at hx
        have HX := Lib.hid hx
        have HA := Lib.hid hall
        clear hx hall hT
        have hnum := num_plain (s.data.toList.drop a) (by rw [hcons]; simpa using h95)
        clear h95
        have HNUM := Lib.hid hnum
        clear hnum
        have HS := Lib.hid (fun w => rsign_any s a w hm ha)
        have hsl := signL_le (s.data.toList.drop a) (by rw [hcons]; simp)
        rw [List.length_drop, ← size_list] at hsl
        have hns := next_sign (s.data.toList.drop a) a hne hl2
        have hnb := next_numbad (s.data.toList.drop a) a hne hl2
        have hny := fun v m => next_num (s.data.toList.drop a) a m v hne hl2
        have hxs := extract_from s a (signL (s.data.toList.drop a))
        have HXS := Lib.hid hxs
        have HNS := Lib.hid hns
        have HNB := Lib.hid hnb
        have HNY := Lib.hid hny
        clear hxs hns hnb hny hd hne hcons h10 hl2
        generalize hlist2 : s.data.toList.drop a = l2 at *
        have Hlist2 := Lib.hid hlist2
        clear hlist2
        generalize hn : runL digitB l2 = n at *
        have Hn := Lib.hid hn
        clear hn
        generalize hq : signL l2 = q at *
        have Hq := Lib.hid hq
        clear hq
        have hTl : (T : Int) ≤ s.size := by omega
        have hTz : T ≤ s.size := by omega
        have hTf : ((a : Int)) ≤ T := by omega
        have hTf2 : a ≤ T := by omega
        by_cases h0 : n = 0
        · have h1 : ¬ ((a : Int)) < T := by omega
          have h2 : decide (((a : Int)) < T) = false := by rw [decide_eq_false_iff_not]; exact h1
          have HN := Lib.hid (HNS.out (by rw [HNUM.out, if_pos h0]))
          clear hTn h0 hrun
          by_cases hq0 : q = 0
          · rw [if_pos hq0] at HN
            rw [hq0, List.take_zero] at HS
            have HS2 : Hid (∀ w, Calls Tryd.prog 63 #[.string s, .int .i64 a] w fun e w' => e = .returned (.string ⟨#[]⟩) ∧ w = w') := HS
            clear hq0 HS
            go_enter Tryd.func43, Tryd.ntmps43
            go_wp2_with fail
            refine (rletter_any _ _).mono ?_
            rintro e w1 ⟨rfl, rfl⟩
            rw [HL.out]
            go_wp2_with fail
            refine (HE.out _).mono ?_
            rintro e w1 ⟨rfl, rfl⟩
            go_wp2_with fail
            refine (HS2.out _).mono ?_
            rintro e w1 ⟨rfl, rfl⟩
            go_wp2
            refine bodyPost_ret (v := .tuple #[.agg #[.int .i64 0, .int .i64 0, .string ⟨#[]⟩, .int .i64 0], .int .i64 0, .int .i64 31]) (by simp [results, Tryd.results43, go_sem]) rfl ⟨?_, (Below.refl _ _).alloc (Nat.le_refl _) _⟩
            rw [HN.out]; rfl
          · rw [if_neg hq0] at HN
            rw [← HXS.out] at HS
            have hqs : (a : Int) + q ≤ s.size := by omega
            have hsz : (s.extract a (a + q)).size = q := by rw [ByteArray.size_extract]; omega
            have hne2 : ((s.extract a (a + q)).toList == (⟨#[]⟩ : ByteArray).toList) = false := by
              rw [beq_eq_false_iff_ne]
              intro h
              rw [ByteArray.toList_eq, ByteArray.toList_eq] at h
              have := congrArg List.length h
              have h3 : (s.extract a (a + q)).data.toList.length = q := hsz
              rw [h3] at this
              simp at this
              omega
            have hne3 : (s.extract a (a + q)).toList ≠ [] := by
              intro h
              rw [ByteArray.toList_eq] at h
              have := congrArg List.length h
              have h3 : (s.extract a (a + q)).data.toList.length = q := hsz
              rw [h3] at this
              simp at this
              omega
            obtain ⟨W, hW⟩ : ∃ W, W = s.extract a (a + q) := ⟨_, rfl⟩
            rw [← hW] at HS hsz hne2 hne3 HXS
            have hWl : W.toList.isEmpty = false := by
              cases hx : W.toList with
              | nil => exact absurd hx hne3
              | cons _ _ => rfl
            have HW := Lib.hid hW
            clear hW hq0 hne2
            go_enter Tryd.func43, Tryd.ntmps43
            go_wp2_with fail
            refine (rletter_any _ _).mono ?_
            rintro e w1 ⟨rfl, rfl⟩
            rw [HL.out]
            go_wp2_with fail
            refine (HE.out _).mono ?_
            rintro e w1 ⟨rfl, rfl⟩
            go_wp2_with fail
            refine (HS.out _).mono ?_
            rintro e w1 ⟨rfl, rfl⟩
            go_wp2
            refine bodyPost_ret (v := .tuple #[.agg #[.int .i64 3, .int .i64 a, .string W, .int .i64 0], .int .i64 ((a + q : Nat) : Int), .int .i64 0]) (by simp [results, Tryd.results43, go_sem]) rfl ⟨?_, (Below.refl _ _).alloc (Nat.le_refl _) _⟩
            rw [HN.out, HXS.out]; rfl
        · have h1 : ((a : Int)) < T := by omega
          have h2 : decide (((a : Int)) < T) = true := by rw [decide_eq_true_iff]; exact h1
          rw [if_neg h0] at HNUM
          have hxl : (s.extract (a) T).data.toList = l2.take n := by rw [HX.out, mkS_toList]
          have hxs : (s.extract (a) T).size ≤ maxLen := by rw [ByteArray.size_extract]; unfold maxLen at *; omega
          by_cases hv : decN (l2.take n) 0 ≤ topN false
          · have HV := Lib.hid (fun w => value_yes (s.extract (a) T) false (l2.take n) w hxl hxs HA.out hv)
            have HN := Lib.hid (HNY.out _ _ (HNUM.out.trans (if_pos (Nat.lt_succ_of_le hv))) (by omega))
            clear hxl hxs hv h0 hrun
            generalize decN (l2.take n) 0 = N at *
            go_enter Tryd.func43, Tryd.ntmps43
            go_wp2_with fail
            refine (rletter_any _ _).mono ?_
            rintro e w1 ⟨rfl, rfl⟩
            rw [HL.out]
            go_wp2_with fail
            refine (HE.out _).mono ?_
            rintro e w1 ⟨rfl, rfl⟩
            go_wp2_with fail
            refine (HV.out _).mono ?_
            rintro e w1 ⟨rfl, rfl⟩
            go_wp2
            refine bodyPost_ret (v := .tuple #[.agg #[.int .i64 2, .int .i64 a, .string ⟨#[]⟩, .int .i64 (signed false N)], .int .i64 T, .int .i64 0]) (by simp [results, Tryd.results43, go_sem]) rfl ⟨?_, (Below.refl _ _).alloc (Nat.le_refl _) _⟩
            rw [HN.out, show a + n = T by omega]
            rfl
          · have HV := Lib.hid (fun w => value_no (s.extract (a) T) false (l2.take n) w hxl hxs HA.out hv)
            have HN := Lib.hid (HNB.out (HNUM.out.trans (if_neg (fun h => hv (Nat.le_of_lt_succ h)))))
            clear hxl hxs hv h0 hrun
            go_enter Tryd.func43, Tryd.ntmps43
            go_wp2_with fail
            refine (rletter_any _ _).mono ?_
            rintro e w1 ⟨rfl, rfl⟩
            rw [HL.out]
            go_wp2_with fail
            refine (HE.out _).mono ?_
            rintro e w1 ⟨rfl, rfl⟩
            go_wp2_with fail
            refine (HV.out _).mono ?_
            rintro e w1 ⟨rfl, rfl⟩
            go_wp2
            refine bodyPost_ret (v := .tuple #[.agg #[.int .i64 0, .int .i64 0, .string ⟨#[]⟩, .int .i64 0], .int .i64 0, .int .i64 32]) (by simp [results, Tryd.results43, go_sem]) rfl ⟨?_, (Below.refl _ _).alloc (Nat.le_refl _) _⟩
            rw [HN.out]; rfl
end Go.Proofs.YtfpneopobbfabaaDoor
