/-
  Walks of word.Takes, of windrowlaw04.takes and flat where the items are flat: they say so. Condition: the items lie in memory.
-/
import Derived.Test.YtfpneopobbfabaaDoorPwI
import Derived.Test.YtfpneopobbfabaaDoorLwG
namespace Go.Proofs.YtfpneopobbfabaaDoor
open Go.RowKit Go.Shelf Go.Sort

set_option maxHeartbeats 1000000 in
set_option maxRecDepth 100000 in
theorem wtakes_any (f : Nat) (two : Bool) (w : World) : Calls Tryd.prog 49 #[.int .u8 f, .bool two] w fun e w' => e = .returned (.bool (takesB f two)) ∧ w = w' := by
  cases two
  all_goals
    go_enter Tryd.func49, Tryd.ntmps49
    go_wp2
    all_goals
      go_ret
      refine ⟨ret_bool ?_, rfl⟩
      try simp only [beq_iff_eq, beq_eq_false_iff_ne, ne_eq] at *
      rw [Bool.eq_iff_iff]
      unfold takesB
      (repeat' split) <;> (try simp) <;> (try omega)
set_option maxHeartbeats 2000000 in
set_option maxRecDepth 100000 in
theorem takes_true (how at_ : Int) (fn : Nat) (name : ByteArray) (a : Option Addr) (n c : Nat) (h : takesI ⟨how, at_, fn, name.data.toList, []⟩ = true) (w : World) :
    Calls Tryd.prog 35 #[.agg #[.int .i64 how, .int .i64 at_, .int .u8 fn, .string name, .slice a n c]] w fun e w' => e = .returned (.bool true) ∧ Below w.heap.size w w' := by
  have H1 := Lib.hid (fun w => wtakes_any fn false w)
  have H2 := Lib.hid (fun w => wtakes_any fn true w)
  unfold takesI at h
  dsimp only at h
  by_cases h3 : how = 3
  · subst h3
    rw [if_pos rfl] at h
    cases ht : takesB fn false with
    | true =>
      rw [ht] at H1
      clear h ht H2
      go_enter Tryd.func35, Tryd.ntmps35
      go_wp2_with fail
      refine (H1.out _).mono ?_
      rintro _ w1 ⟨rfl, hw⟩
      have HW := Lib.hid hw
      clear hw
      go_wp2
      go_ret
      exact ⟨rfl, by rw [← HW.out]; exact (Below.refl _ _).alloc (Nat.le_refl _) _⟩
    | false =>
      rw [ht] at H1
      have hf : 32 ≤ fn ∧ fn ≤ 36 := by simpa [ht] using h
      have hf1 : (fn : Int) ≥ 32 := by omega
      have hf2 : (fn : Int) ≤ 36 := by omega
      clear h ht H2
      go_enter Tryd.func35, Tryd.ntmps35
      go_wp2_with fail
      refine (H1.out _).mono ?_
      rintro _ w1 ⟨rfl, hw⟩
      obtain rfl := hw
      go_wp2
      go_ret
      exact ⟨rfl, (Below.refl _ _).alloc (Nat.le_refl _) _⟩
  · rw [if_neg h3] at h
    by_cases h4 : how = 4
    · subst h4
      rw [if_pos rfl] at h
      cases ht : takesB fn true with
      | true =>
        rw [ht] at H2
        clear h ht H1
        go_enter Tryd.func35, Tryd.ntmps35
        go_wp2_with fail
        refine (H2.out _).mono ?_
        rintro _ w1 ⟨rfl, hw⟩
        have HW := Lib.hid hw
        clear hw
        go_wp2
        go_ret
        exact ⟨rfl, by rw [← HW.out]; exact (Below.refl _ _).alloc (Nat.le_refl _) _⟩
      | false =>
        rw [ht] at H2
        have hf : 37 ≤ fn ∧ fn ≤ 40 := by simpa [ht] using h
        have hf1 : (fn : Int) ≥ 37 := by omega
        have hf2 : (fn : Int) ≤ 40 := by omega
        clear h ht H1
        go_enter Tryd.func35, Tryd.ntmps35
        go_wp2_with fail
        refine (H2.out _).mono ?_
        rintro _ w1 ⟨rfl, hw⟩
        obtain rfl := hw
        go_wp2
        go_ret
        exact ⟨rfl, (Below.refl _ _).alloc (Nat.le_refl _) _⟩
    · rw [if_neg h4] at h
      rw [h] at H2
      have h3b : (how == 3) = false := by rw [beq_eq_false_iff_ne]; exact h3
      have h4b : (how == 4) = false := by rw [beq_eq_false_iff_ne]; exact h4
      clear h H1
      go_enter Tryd.func35, Tryd.ntmps35
      go_wp2_with fail
      refine (H2.out _).mono ?_
      rintro _ w1 ⟨rfl, hw⟩
      obtain rfl := hw
      go_wp2
      go_ret
      exact ⟨rfl, (Below.refl _ _).alloc (Nat.le_refl _) _⟩
theorem takesI_same (it : Itm) : takesI it = takesI ⟨it.how, it.at_, it.fn, (mkS it.name).data.toList, []⟩ := rfl
set_option maxHeartbeats 8000000 in
set_option maxRecDepth 100000 in
theorem flat_any (v : Value) (l : List Itm) (w : World) (h1 : ItsV w v l) (hf : flatB l = true) :
    Calls Tryd.prog 23 #[v] w fun e w' => e = .returned (.bool true) ∧ Below w.heap.size w w' := by
  have H1 := Lib.hid h1
  have hF : flatF 0 l = some 1 := by unfold flatB at hf; exact beq_iff_eq.1 hf
  have HF := Lib.hid hF
  obtain ⟨a1, c1, rfl⟩ := h1.form
  obtain ⟨n, hn⟩ : ∃ n, n = l.length := ⟨_, rfl⟩
  rw [← hn] at H1 ⊢
  have HN := Lib.hid hn
  clear h1 hf hF hn
  go_enter Tryd.func23, Tryd.ntmps23
  go_wp2
  go_loopg [3, 7] n (fun gg s3 s7 wx => ∃ k h : Nat, gg = n - k ∧ s3 = .int .i64 h ∧ s7 = .int .i64 k ∧ k ≤ n ∧ h ≤ k ∧ flatF h (l.drop k) = some 1 ∧ Below w.heap.size w wx)
  case atStart => exact ⟨0, 0, rfl, rfl, rfl, Nat.zero_le _, Nat.le_refl _, HF.out, Below.refl _ _⟩
  case round =>
    obtain ⟨k, h, rfl, rfl, rfl, hk, hh, hfl, hb⟩ := hrel
    by_cases hlt : k < n
    · have hlt' : (k : Int) < (n : Int) := by omega
      obtain ⟨g1, p1, e1, hc1, hm1, hg1, hat1⟩ := H1.out.at (by have := HN.out; omega)
      injection e1 with ea1 en1 ec1
      clear en1
      subst ea1 ec1
      obtain ⟨x, hx⟩ : ∃ x, l[k]? = some x := ⟨l[k]'(by have := HN.out; omega), List.getElem?_eq_getElem _⟩
      obtain ⟨vn1, hn1, q0, q1, q2, q3, q4⟩ := hat1 k x hx
      obtain ⟨an1, cn1, rfl⟩ := own_form hn1
      have hdr : l.drop k = x :: l.drop (k + 1) := by
        obtain ⟨hk, ht⟩ := List.getElem?_eq_some_iff.1 hx
        rw [List.drop_eq_getElem_cons hk, ht]
      rw [hdr, flatF] at hfl
      have hcc1 : n ≤ c1 := by have := HN.out; omega
      unfold maxLen at hm1
      have HB := Lib.hid hb
      have d0 := (hb.cell (p := ⟨g1, _, none⟩) hg1).trans q0
      have d1 := (hb.cell (p := ⟨g1, _, none⟩) hg1).trans q1
      have d2 := (hb.cell (p := ⟨g1, _, none⟩) hg1).trans q2
      have d3 := (hb.cell (p := ⟨g1, _, none⟩) hg1).trans q3
      have d4 := (hb.cell (p := ⟨g1, _, none⟩) hg1).trans q4
      clear q0 q1 q2 q3 q4 hx hat1 hc1 hb hdr hn1
      obtain ⟨xh, xa, xf, xn, xs⟩ := x
      dsimp only at d0 d1 d2 d3 d4 hfl
      obtain ⟨m, hm⟩ : ∃ m, m = xs.length := ⟨_, rfl⟩
      rw [← hm] at d4
      cases hs : flatS h ⟨xh, xa, xf, xn, xs⟩ with
      | none => rw [hs] at hfl; cases hfl
      | some h' =>
        rw [hs] at hfl
        dsimp only at hfl
        have HFl := Lib.hid hfl
        clear hfl
        unfold flatS at hs
        dsimp only at hs
        by_cases i1 : xh = 1
        · subst i1
          rw [if_pos rfl] at hs
          split at hs
          · cases hs
          · rename_i hc
            have b1 : xs ≠ [] := fun e => hc (.inl e)
            have b2 : xn = [] := Classical.byContradiction fun e => hc (.inr (.inl e))
            have b3 : xf = 0 := Classical.byContradiction fun e => hc (.inr (.inr e))
            subst b2 b3
            injection hs with hs
            subst hs
            have hm0 : 0 < m := by rw [hm]; exact List.length_pos_iff.2 b1
            have hm1 : (m : Int) > 0 := by omega
            have hm2 : decide ((m : Int) > 0) = true := by rw [decide_eq_true_iff]; exact hm1
            have hm3 : decide ((0 : Int) < (m : Int)) = true := by rw [decide_eq_true_iff]; exact hm1
            clear hc b1 hm
            rw [show mkS [] = ⟨#[]⟩ from rfl] at d3
            go_upto_region 9 with fail
            go_quiet (fail)
            go_wp2_with fail
            go_roundg (n - (k + 1))
            case measure => omega
            case rel => exact ⟨k + 1, h + 1, rfl, by rw [Int.natCast_add]; rfl, by rw [Int.natCast_add]; rfl, by omega, by omega, HFl.out, below_drewN' HB.out _⟩
        · rw [if_neg i1] at hs
          have i1b : (xh == 1) = false := by rw [beq_eq_false_iff_ne]; exact i1
          by_cases i2 : xh = 2
          · subst i2
            rw [if_pos rfl] at hs
            split at hs
            · cases hs
            · rename_i hc
              have b1 : xs = [] := Classical.byContradiction fun e => hc (.inl e)
              have b2 : xn ≠ [] := fun e => hc (.inr (.inl e))
              have b3 : xf = 0 := Classical.byContradiction fun e => hc (.inr (.inr e))
              subst b1 b3
              injection hs with hs
              subst hs
              obtain rfl : m = 0 := hm
              have hne1 : ¬ (mkS xn).toList = [] := by rw [ByteArray.toList_eq, mkS_toList]; exact b2
              have hne2 : ((mkS xn).toList == []) = false := by rw [beq_eq_false_iff_ne]; exact hne1
              clear hc b2 i1 i1b
              go_upto_region 9 with fail
              go_quiet (fail)
              go_wp2_with fail
              go_roundg (n - (k + 1))
              case measure => omega
              case rel => exact ⟨k + 1, h + 1, rfl, by rw [Int.natCast_add]; rfl, by rw [Int.natCast_add]; rfl, by omega, by omega, HFl.out, below_drewN' HB.out _⟩
          · rw [if_neg i2] at hs
            by_cases i3 : xh = 3 ∨ xh = 5 ∨ xh = 6
            · rw [if_pos i3] at hs
              split at hs
              · cases hs
              · rename_i hc
                have b1 : ¬ h < 1 := fun e => hc (.inl e)
                have b2 : takesI ⟨xh, xa, xf, xn, xs⟩ = true := by
                  cases ht : takesI ⟨xh, xa, xf, xn, xs⟩ with
                  | true => rfl
                  | false => exact absurd (.inr ht) hc
                injection hs with hs
                subst hs
                have hh1 : ¬ (h : Int) < 1 := by omega
                have HT := Lib.hid (fun w => takes_true xh xa xf (mkS xn) an1 m cn1 b2 w)
                clear hc b1 b2 hm i1 i2 i1b
                rcases i3 with rfl | rfl | rfl
                all_goals
                  go_wp2_with fail
                  refine (HT.out _).mono ?_
                  rintro _ w2 ⟨rfl, hb2⟩
                  have HB2 := Lib.hid (HB.out.trans (hb2.mono HB.out.size))
                  clear hb2
                  go_wp2_with fail
                  go_roundg (n - (k + 1))
                  case measure => omega
                  case rel => exact ⟨k + 1, h, rfl, rfl, by rw [Int.natCast_add]; rfl, by omega, by omega, HFl.out, HB2.out⟩
            · rw [if_neg i3] at hs
              by_cases i4 : xh = 4 ∨ xh = 7
              · rw [if_pos i4] at hs
                split at hs
                · cases hs
                · rename_i hc
                  have b1 : ¬ h < 2 := fun e => hc (.inl e)
                  have b2 : takesI ⟨xh, xa, xf, xn, xs⟩ = true := by
                    cases ht : takesI ⟨xh, xa, xf, xn, xs⟩ with
                    | true => rfl
                    | false => exact absurd (.inr ht) hc
                  injection hs with hs
                  subst hs
                  have hh1 : ¬ (h : Int) < 2 := by omega
                  have HT := Lib.hid (fun w => takes_true xh xa xf (mkS xn) an1 m cn1 b2 w)
                  clear hc b1 b2 hm i1 i2 i3 i1b
                  rcases i4 with rfl | rfl
                  all_goals
                    go_wp2_with fail
                    refine (HT.out _).mono ?_
                    rintro _ w2 ⟨rfl, hb2⟩
                    have HB2 := Lib.hid (HB.out.trans (hb2.mono HB.out.size))
                    clear hb2
                    go_wp2_with fail
                    go_roundg (n - (k + 1))
                    case measure => omega
                    case rel => exact ⟨k + 1, h - 1, rfl, by congr 1; omega, by rw [Int.natCast_add]; rfl, by omega, by omega, HFl.out, HB2.out⟩
              · rw [if_neg i4] at hs
                cases hs
    · obtain rfl : k = n := by omega
      have hlt' : ¬ (k : Int) < (k : Int) := by omega
      have HB := Lib.hid hb
      have hh1 : h = 1 := by
        rw [List.drop_of_length_le (by have := HN.out; omega), flatF] at hfl
        injection hfl
      subst hh1
      clear hb hfl
      go_wp2
      go_ret
      exact ⟨rfl, HB.out⟩
end Go.Proofs.YtfpneopobbfabaaDoor
