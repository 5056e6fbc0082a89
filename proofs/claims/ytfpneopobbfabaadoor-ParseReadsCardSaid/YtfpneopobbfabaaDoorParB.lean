/-
  Walk of package parse: Name. Condition: a text is no longer than a string may be; strconv.ErrRange holds an error.
-/
import Derived.Test.YtfpneopobbfabaaDoorParA
namespace Go.Proofs.YtfpneopobbfabaaDoor
open Go.RowKit Go.Shelf Go.Sort

theorem wordIs_bad {l : List UInt8} {e : Nat × Nat} (h : lexL l = .error e) : wordIs l = false := by unfold wordIs; rw [h]
theorem wordIs_nil {l : List UInt8} (h : lexL l = .ok []) : wordIs l = false := by unfold wordIs; rw [h]
theorem wordIs_two {l : List UInt8} {x y : Tok} {r : List Tok} (h : lexL l = .ok (x :: y :: r)) : wordIs l = false := by unfold wordIs; rw [h]
theorem wordIs_one {l : List UInt8} {x : Tok} (h : lexL l = .ok [x]) : wordIs l = (x.kind == 1 && x.word == l) := by unfold wordIs; rw [h]
set_option maxHeartbeats 1000000 in
set_option maxRecDepth 100000 in
theorem Name_any (s : ByteArray) (w : World) (hs : s.size ≤ maxLen) (hE : ErrIs w) : Calls Tryd.prog 17 #[.string s] w fun e w' => e = .returned (.bool (nameB s.data.toList)) ∧ Below w.heap.size w w' := by
  have V := Lib.hid (fun w => verb_any s w)
  have L := Lib.hid (fun w h => Lex_any s w hs h)
  have htl : s.toList = s.data.toList := ByteArray.toList_eq s
  cases hv : verbB s.data.toList
  · by_cases h1 : s.data.toList = [105, 110]
    · have c1 : (s.toList == [105, 110]) = true := by rw [htl, h1]; rfl
      have HF : Hid (nameB s.data.toList = false) := by apply Lib.hid; unfold nameB; rw [h1]; simp
      have HV := Lib.hid hv
      clear h1 htl hv
      go_enter Tryd.func17, Tryd.ntmps17
      go_wp2_with fail
      refine (V.out _).mono ?_
      rintro e w1 ⟨rfl, rfl⟩
      rw [HV.out]
      go_wp2
      go_ret
      exact ⟨by rw [HF.out]; rfl, Below.refl _ _⟩
    · have c1 : (s.toList == [105, 110]) = false := by rw [htl, beq_eq_false_iff_ne]; exact h1
      by_cases h2 : s.data.toList = [111, 117, 116]
      · have c2 : (s.toList == [111, 117, 116]) = true := by rw [htl, h2]; rfl
        have HF : Hid (nameB s.data.toList = false) := by apply Lib.hid; unfold nameB; rw [h2]; simp
        have HV := Lib.hid hv
        clear h1 h2 htl hv
        go_enter Tryd.func17, Tryd.ntmps17
        go_wp2_with fail
        refine (V.out _).mono ?_
        rintro e w1 ⟨rfl, rfl⟩
        rw [HV.out]
        go_wp2
        go_ret
        exact ⟨by rw [HF.out]; rfl, Below.refl _ _⟩
      · have c2 : (s.toList == [111, 117, 116]) = false := by rw [htl, beq_eq_false_iff_ne]; exact h2
        have HF : Hid (nameB s.data.toList = wordIs s.data.toList) := by apply Lib.hid; unfold nameB; rw [hv]; simp [h1, h2]
        have HV := Lib.hid hv
        have HT := Lib.hid htl
        clear h1 h2 htl hv
        go_enter Tryd.func17, Tryd.ntmps17
        go_wp2_with fail
        refine (V.out _).mono ?_
        rintro e w1 ⟨rfl, rfl⟩
        rw [HV.out]
        go_wp2_with fail
        refine (L.out _ hE).mono ?_
        intro e w1 hp
        rcases hp with ⟨v, toks, hlex, rfl, hown, hb⟩ | ⟨k, c, hlex, rfl, hb⟩
        · match toks, hlex, hown with
          | [], hlex, hown =>
            have HR := Lib.hid (HF.out.trans (wordIs_nil hlex))
            obtain ⟨a, cap, rfl⟩ := own_form hown
            clear hlex hown
            go_wp2
            go_ret
            exact ⟨by rw [HR.out]; rfl, hb.alloc hb.size _⟩
          | x :: y :: r, hlex, hown =>
            have HR := Lib.hid (HF.out.trans (wordIs_two hlex))
            obtain ⟨a, cap, rfl⟩ := own_form hown
            have hl2 : 2 ≤ (x :: y :: r).length := by simp
            clear hlex hown
            generalize (x :: y :: r).length = n at *
            have hn : ((n : Int) == 1) = false := by rw [beq_eq_false_iff_ne]; omega
            have hn' : ¬ (n : Int) = 1 := by omega
            go_wp2
            go_ret
            exact ⟨by rw [HR.out]; rfl, hb.alloc hb.size _⟩
          | [⟨kd, pl, wd, nn⟩], hlex, hown =>
            have HR := Lib.hid (HF.out.trans (wordIs_one hlex))
            obtain ⟨g, cap, rfl, hg1, hg2, hcap, _, hcell, _⟩ := own_cells hown (by simp)
            simp only [List.length_cons, List.length_nil]
            have k0 : w1.cell? ⟨g, 0, none⟩ = some (.int .i64 kd) := hcell 0 (by simp)
            have k2 : w1.cell? ⟨g, 2, none⟩ = some (.string (mkS wd)) := hcell 2 (by simp)
            clear hlex hown hcell
            by_cases hk : kd = 1
            · have d1 : (kd == 1) = true := by rw [hk]; rfl
              by_cases hw : wd = s.data.toList
              · have d2 : ((mkS wd).toList == s.toList) = true := by rw [hw, mkS_of]; simp
                have d2' : (mkS wd).toList = s.toList := by rw [hw, mkS_of]
                have HR2 : Hid (nameB s.data.toList = true) := by apply Lib.hid; rw [HR.out, hk, hw]; simp
                clear hk hw
                go_wp2
                go_ret
                exact ⟨by rw [HR2.out]; rfl, hb.alloc hb.size _⟩
              · have d2' : ¬ (mkS wd).toList = s.toList := by rw [HT.out, ByteArray.toList_eq, mkS_toList]; exact hw
                have d2 : ((mkS wd).toList == s.toList) = false := by rw [beq_eq_false_iff_ne]; exact d2'
                have HR2 : Hid (nameB s.data.toList = false) := by apply Lib.hid; rw [HR.out]; simp [hw]
                clear hk hw
                go_wp2
                go_ret
                exact ⟨by rw [HR2.out]; rfl, hb.alloc hb.size _⟩
            · have d1 : (kd == 1) = false := by rw [beq_eq_false_iff_ne]; exact hk
              have HR2 : Hid (nameB s.data.toList = false) := by apply Lib.hid; rw [HR.out, d1]; simp
              clear hk
              go_wp2
              go_ret
              exact ⟨by rw [HR2.out]; rfl, hb.alloc hb.size _⟩
        · have HR := Lib.hid (HF.out.trans (wordIs_bad hlex))
          have hc0 : ((c : Int) == 0) = false := by rw [beq_eq_false_iff_ne]; have := lexL_bad hlex; omega
          have hc1 : ¬ (c : Int) = 0 := by have := lexL_bad hlex; omega
          clear hlex
          by_cases hk : (k : Int) = 0
          · have hk0 : ((k : Int) == 0) = true := by rw [hk]; rfl
            go_wp2
            go_ret
            exact ⟨by rw [HR.out]; rfl, hb.alloc hb.size _⟩
          · have hk0 : ((k : Int) == 0) = false := by rw [beq_eq_false_iff_ne]; exact hk
            go_wp2
            go_ret
            exact ⟨by rw [HR.out]; rfl, hb.alloc hb.size _⟩
  · have HF : Hid (nameB s.data.toList = false) := by apply Lib.hid; unfold nameB; rw [hv]; simp
    have HV := Lib.hid hv
    clear htl hv
    go_enter Tryd.func17, Tryd.ntmps17
    go_wp2_with fail
    refine (V.out _).mono ?_
    rintro e w1 ⟨rfl, rfl⟩
    rw [HV.out]
    go_wp2
    go_ret
    exact ⟨by rw [HF.out]; rfl, Below.refl _ _⟩
end Go.Proofs.YtfpneopobbfabaaDoor
