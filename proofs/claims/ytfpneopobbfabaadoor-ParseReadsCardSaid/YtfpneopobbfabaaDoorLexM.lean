/-
  Walk of the document's lexer (windrowref03): Spell. Condition: the token's number is such, its text no longer than a string may be.
-/
import Derived.Test.YtfpneopobbfabaaDoorLexK
import Derived.Lib.QuietBelow
import Derived.BigQuiet
namespace Go.Proofs.YtfpneopobbfabaaDoor
open Go.RowKit Go.Shelf Go.Sort
def RSpellPost (t : Tok) (w : World) (e : Ending) (w' : World) : Prop := e = .returned (.tuple #[.string (mkS (spellR t).1), .bool (spellR t).2]) ∧ Below w.heap.size w w'
theorem spellR_stop {t : Tok} (h : spellS t = [] ∨ 100 < (spellS t).length ∨ (spellS t).headD 0 = 32 ∨ (spellS t).headD 0 = 9 ∨ (spellS t).headD 0 = 35) : spellR t = ([], false) := if_pos h
theorem spellR_not {t : Tok} (h : ¬ ((tokL (spellS t)).2.2 = 0 ∧ (tokL (spellS t)).2.1 = (spellS t).length ∧ (tokL (spellS t)).1 = { t with at_ := 0 })) : spellR t = ([], false) := by
  unfold spellR
  by_cases h0 : spellS t = [] ∨ 100 < (spellS t).length ∨ (spellS t).headD 0 = 32 ∨ (spellS t).headD 0 = 9 ∨ (spellS t).headD 0 = 35
  · rw [if_pos h0]
  · rw [if_neg h0, if_neg h]
theorem spellR_yes {t : Tok} (h0 : ¬ (spellS t = [] ∨ 100 < (spellS t).length ∨ (spellS t).headD 0 = 32 ∨ (spellS t).headD 0 = 9 ∨ (spellS t).headD 0 = 35))
    (h : (tokL (spellS t)).2.2 = 0 ∧ (tokL (spellS t)).2.1 = (spellS t).length ∧ (tokL (spellS t)).1 = { t with at_ := 0 }) : spellR t = (spellS t, true) := by
  unfold spellR
  rw [if_neg h0, if_pos h]
theorem rspell_no {t : Tok} (h : spellR t = ([], false)) : Ending.returned (.tuple #[.string ⟨#[]⟩, .bool false]) = .returned (.tuple #[.string (mkS (spellR t).1), .bool (spellR t).2]) := by rw [h]; rfl
theorem rspell_yes {t : Tok} {S : ByteArray} (h : spellR t = (S.data.toList, true)) : Ending.returned (.tuple #[.string S, .bool true]) = .returned (.tuple #[.string (mkS (spellR t).1), .bool (spellR t).2]) := by rw [h, mkS_of]
theorem next_err {l : List UInt8} {t : Tok} {m er : Nat} (h : tokL l = (t, m, er)) (he : er ≠ 0) : nextL l 0 = (Tok.none, 0, er) := by unfold nextL; rw [h]; exact if_neg he
theorem next_fine {l : List UInt8} {kd pl nn : Int} {wd : List UInt8} {m : Nat} (h : tokL l = (⟨kd, pl, wd, nn⟩, m, 0)) : nextL l 0 = (⟨kd, 0, wd, nn⟩, m, 0) := by
  unfold nextL; rw [h, if_pos rfl, Nat.zero_add]; rfl

set_option maxRecDepth 100000 in
set_option maxHeartbeats 4000000 in
theorem RSpell_word (kd pl nn : Int) (wd : List UInt8) (w : World) (hw : wd.length ≤ 9223372036854775807) (hk2 : kd ≠ 2) (hk4 : kd ≠ 4) :
    Calls Tryd.prog 33 #[.agg #[.int .i64 kd, .int .i64 pl, .string (mkS wd), .int .i64 nn]] w (RSpellPost ⟨kd, pl, wd, nn⟩ w) := by
  unfold RSpellPost
  have h2 : (kd == 2) = false := by rw [beq_eq_false_iff_ne]; exact hk2
  have h4 : (kd == 4) = false := by rw [beq_eq_false_iff_ne]; exact hk4
  obtain ⟨S, hS⟩ : ∃ S, S = mkS wd := ⟨_, rfl⟩
  have hs : S.data.toList = spellS ⟨kd, pl, wd, nn⟩ := by rw [hS, mkS_toList]; simp [spellS, hk2, hk4]
  have hsz : S.size ≤ 9223372036854775807 := by rw [hS, mkS_size]; exact hw
  have hwd : wd = S.data.toList := by rw [hS, mkS_toList]
  have HS := Lib.hid hs
  rw [← hS]
  have HW := Lib.hid hwd
  have HM := Lib.hid hS
  clear hs hS hwd hk2 hk4 hw
  by_cases z0 : S.size = 0
  · have b0 : ((S.size : Int) == 0) = true := by rw [z0]; rfl
    have HF := Lib.hid (rspell_no (spellR_stop (t := ⟨kd, pl, wd, nn⟩) (.inl (by rw [← HS.out]; exact List.length_eq_zero_iff.1 z0))))
    clear z0
    go_enter Tryd.func33, Tryd.ntmps33
    go_wp2
    go_ret2
    exact ⟨HF.out, (Below.refl _ _).alloc (Nat.le_refl _) _⟩
  · have b0 : ((S.size : Int) == 0) = false := by rw [beq_eq_false_iff_ne]; omega
    have hp : 0 < S.size := by omega
    by_cases z1 : 100 < S.size
    · have b1 : decide ((100 : Int) < S.size) = true := by rw [decide_eq_true_iff]; omega
      have b1' : (100 : Int) < S.size := by omega
      have HF := Lib.hid (rspell_no (spellR_stop (t := ⟨kd, pl, wd, nn⟩) (.inr (.inl (by rw [← HS.out]; exact z1)))))
      clear z0 z1
      go_enter Tryd.func33, Tryd.ntmps33
      go_wp2
      go_ret2
      exact ⟨HF.out, (Below.refl _ _).alloc (Nat.le_refl _) _⟩
    · have b1 : decide ((100 : Int) < S.size) = false := by rw [decide_eq_false_iff_not]; omega
      have b1' : ¬ (100 : Int) < S.size := by omega
      have hh := head_get S hp
      by_cases z2 : S[0] = 32
      · have b2 : ((S[0].toNat : Int) == 32) = true := by rw [z2]; rfl
        have HF := Lib.hid (rspell_no (spellR_stop (t := ⟨kd, pl, wd, nn⟩) (.inr (.inr (.inl (by rw [← HS.out, hh, z2]))))))
        clear z0 z1 z2 hh
        go_enter Tryd.func33, Tryd.ntmps33
        go_wp2
        go_ret2
        exact ⟨HF.out, (Below.refl _ _).alloc (Nat.le_refl _) _⟩
      · have b2 : ((S[0].toNat : Int) == 32) = false := byte_ne _ 32 z2
        by_cases z3 : S[0] = 9
        · have b3 : ((S[0].toNat : Int) == 9) = true := by rw [z3]; rfl
          have HF := Lib.hid (rspell_no (spellR_stop (t := ⟨kd, pl, wd, nn⟩) (.inr (.inr (.inr (.inl (by rw [← HS.out, hh, z3])))))))
          clear z0 z1 z2 z3 hh
          go_enter Tryd.func33, Tryd.ntmps33
          go_wp2
          go_ret2
          exact ⟨HF.out, (Below.refl _ _).alloc (Nat.le_refl _) _⟩
        · have b3 : ((S[0].toNat : Int) == 9) = false := byte_ne _ 9 z3
          by_cases z4 : S[0] = 35
          · have b4 : ((S[0].toNat : Int) == 35) = true := by rw [z4]; rfl
            have HF := Lib.hid (rspell_no (spellR_stop (t := ⟨kd, pl, wd, nn⟩) (.inr (.inr (.inr (.inr (by rw [← HS.out, hh, z4])))))))
            clear z0 z1 z2 z3 z4 hh
            go_enter Tryd.func33, Tryd.ntmps33
            go_wp2
            go_ret2
            exact ⟨HF.out, (Below.refl _ _).alloc (Nat.le_refl _) _⟩
          · have b4 : ((S[0].toNat : Int) == 35) = false := byte_ne _ 35 z4
            have HG : Hid (¬ (spellS ⟨kd, pl, wd, nn⟩ = [] ∨ 100 < (spellS ⟨kd, pl, wd, nn⟩).length ∨ (spellS ⟨kd, pl, wd, nn⟩).headD 0 = 32 ∨ (spellS ⟨kd, pl, wd, nn⟩).headD 0 = 9 ∨ (spellS ⟨kd, pl, wd, nn⟩).headD 0 = 35)) := by
              apply Lib.hid
              rw [← HS.out, hh]
              rintro (g | g | g | g | g)
              · exact z0 (List.length_eq_zero_iff.2 g)
              · exact z1 g
              · exact z2 g
              · exact z3 g
              · exact z4 g
            clear z0 z2 z3 z4 hh
            obtain ⟨⟨⟨k1, p1, w1', n1⟩, m, er⟩, hr⟩ : ∃ r, tokL S.data.toList = r := ⟨_, rfl⟩
            obtain rfl : p1 = 0 := by
              have := tok_at0 S.data.toList
              rw [hr] at this
              exact this
            have HR := Lib.hid hr
            have hNX : ∀ w, Calls Tryd.prog 43 #[.string S, .int .i64 0] w (NextPost S.data.toList 0 w) := fun w => Next_any S 0 w hp (by omega)
            unfold NextPost at hNX
            clear hr z1
            by_cases he : er = 0
            · subst he
              rw [next_fine HR.out] at hNX
              have HN : Hid (∀ w, Calls Tryd.prog 43 #[.string S, .int .i64 0] w fun e w' => e = .returned (.tuple #[.agg #[.int .i64 k1, .int .i64 0, .string (mkS w1'), .int .i64 n1], .int .i64 m, .int .i64 0]) ∧ Below w.heap.size w w') := hNX
              clear hNX
              by_cases c1 : m = S.size
              · have d1 : ((m : Int) != S.size) = false := by rw [c1]; simp
                by_cases c2 : k1 = kd
                · have d2 : (k1 != kd) = false := by rw [c2]; simp
                  by_cases c3 : w1' = wd
                  · by_cases c4 : n1 = nn
                    · have d4 : (n1 != nn) = false := by rw [c4]; simp
                      have HF := Lib.hid (rspell_yes (S := S) (t := ⟨kd, pl, wd, nn⟩) ((spellR_yes HG.out ⟨by rw [← HS.out, HR.out], by rw [← HS.out, HR.out]; exact c1, by rw [← HS.out, HR.out, c2, c3, c4]⟩).trans (by rw [HS.out])))
                      have d3 : ((mkS w1').toList == S.toList) = true := by rw [c3]; rw [HM.out]; simp
                      have d3' : (mkS w1').toList = S.toList := by rw [c3]; rw [HM.out]
                      clear c1 c2 c3 c4
                      go_enter Tryd.func33, Tryd.ntmps33
                      go_wp2_with fail
                      refine (HN.out _).mono ?_
                      rintro e x2 ⟨rfl, hb⟩
                      have hbel : Below w.heap.size w x2 := ((Below.refl _ _).alloc (Nat.le_refl _) _).trans (hb.mono (by simp))
                      have a0 : x2.cell? ⟨w.heap.size, 0, none⟩ = some (.int .i64 kd) := by rw [hb.cell (p := ⟨w.heap.size, 0, none⟩) (by simp)]; simp
                      have a1 : x2.cell? ⟨w.heap.size, 1, none⟩ = some (.int .i64 pl) := by rw [hb.cell (p := ⟨w.heap.size, 1, none⟩) (by simp)]; simp
                      have a2 : x2.cell? ⟨w.heap.size, 2, none⟩ = some (.string S) := by rw [hb.cell (p := ⟨w.heap.size, 2, none⟩) (by simp)]; simp
                      have a3 : x2.cell? ⟨w.heap.size, 3, none⟩ = some (.int .i64 nn) := by rw [hb.cell (p := ⟨w.heap.size, 3, none⟩) (by simp)]; simp
                      have hlt : w.heap.size < x2.heap.size := by have := hb.size; simp at this; omega
                      clear hb
                      go_wp2
                      go_ret2
                      exact ⟨HF.out, hbel.alloc (by have := hbel.size; omega) _⟩
                    · have d4 : (n1 != nn) = true := by rw [bne_iff_ne]; exact c4
                      have HF := Lib.hid (rspell_no (t := ⟨kd, pl, wd, nn⟩) (spellR_not (by rw [← HS.out, HR.out]; rintro ⟨_, _, h⟩; injection h with _ _ _ h; exact c4 h)))
                      have d3 : ((mkS w1').toList == S.toList) = true := by rw [c3]; rw [HM.out]; simp
                      have d3' : (mkS w1').toList = S.toList := by rw [c3]; rw [HM.out]
                      clear c1 c2 c3 c4
                      go_enter Tryd.func33, Tryd.ntmps33
                      go_wp2_with fail
                      refine (HN.out _).mono ?_
                      rintro e x2 ⟨rfl, hb⟩
                      have hbel : Below w.heap.size w x2 := ((Below.refl _ _).alloc (Nat.le_refl _) _).trans (hb.mono (by simp))
                      have a0 : x2.cell? ⟨w.heap.size, 0, none⟩ = some (.int .i64 kd) := by rw [hb.cell (p := ⟨w.heap.size, 0, none⟩) (by simp)]; simp
                      have a1 : x2.cell? ⟨w.heap.size, 1, none⟩ = some (.int .i64 pl) := by rw [hb.cell (p := ⟨w.heap.size, 1, none⟩) (by simp)]; simp
                      have a2 : x2.cell? ⟨w.heap.size, 2, none⟩ = some (.string S) := by rw [hb.cell (p := ⟨w.heap.size, 2, none⟩) (by simp)]; simp
                      have a3 : x2.cell? ⟨w.heap.size, 3, none⟩ = some (.int .i64 nn) := by rw [hb.cell (p := ⟨w.heap.size, 3, none⟩) (by simp)]; simp
                      have hlt : w.heap.size < x2.heap.size := by have := hb.size; simp at this; omega
                      clear hb
                      go_wp2
                      go_ret2
                      exact ⟨HF.out, hbel.alloc (by have := hbel.size; omega) _⟩
                  · have d3 : ((mkS w1').toList == S.toList) = false := by rw [beq_eq_false_iff_ne]; rw [HM.out]; exact mkS_ne c3
                    have d3' : ¬ (mkS w1').toList = S.toList := by rw [HM.out]; exact mkS_ne c3
                    have HF := Lib.hid (rspell_no (t := ⟨kd, pl, wd, nn⟩) (spellR_not (by rw [← HS.out, HR.out]; rintro ⟨_, _, h⟩; injection h with _ _ h _; exact c3 h)))
                    clear c1 c2 c3
                    go_enter Tryd.func33, Tryd.ntmps33
                    go_wp2_with fail
                    refine (HN.out _).mono ?_
                    rintro e x2 ⟨rfl, hb⟩
                    have hbel : Below w.heap.size w x2 := ((Below.refl _ _).alloc (Nat.le_refl _) _).trans (hb.mono (by simp))
                    have a0 : x2.cell? ⟨w.heap.size, 0, none⟩ = some (.int .i64 kd) := by rw [hb.cell (p := ⟨w.heap.size, 0, none⟩) (by simp)]; simp
                    have a1 : x2.cell? ⟨w.heap.size, 1, none⟩ = some (.int .i64 pl) := by rw [hb.cell (p := ⟨w.heap.size, 1, none⟩) (by simp)]; simp
                    have a2 : x2.cell? ⟨w.heap.size, 2, none⟩ = some (.string S) := by rw [hb.cell (p := ⟨w.heap.size, 2, none⟩) (by simp)]; simp
                    have a3 : x2.cell? ⟨w.heap.size, 3, none⟩ = some (.int .i64 nn) := by rw [hb.cell (p := ⟨w.heap.size, 3, none⟩) (by simp)]; simp
                    have hlt : w.heap.size < x2.heap.size := by have := hb.size; simp at this; omega
                    clear hb
                    go_wp2
                    go_ret2
                    exact ⟨HF.out, hbel.alloc (by have := hbel.size; omega) _⟩
                · have d2 : (k1 != kd) = true := by rw [bne_iff_ne]; exact c2
                  have HF := Lib.hid (rspell_no (t := ⟨kd, pl, wd, nn⟩) (spellR_not (by rw [← HS.out, HR.out]; rintro ⟨_, _, h⟩; injection h with h _ _ _; exact c2 h)))
                  clear c1 c2
                  go_enter Tryd.func33, Tryd.ntmps33
                  go_wp2_with fail
                  refine (HN.out _).mono ?_
                  rintro e x2 ⟨rfl, hb⟩
                  have hbel : Below w.heap.size w x2 := ((Below.refl _ _).alloc (Nat.le_refl _) _).trans (hb.mono (by simp))
                  have a0 : x2.cell? ⟨w.heap.size, 0, none⟩ = some (.int .i64 kd) := by rw [hb.cell (p := ⟨w.heap.size, 0, none⟩) (by simp)]; simp
                  have a1 : x2.cell? ⟨w.heap.size, 1, none⟩ = some (.int .i64 pl) := by rw [hb.cell (p := ⟨w.heap.size, 1, none⟩) (by simp)]; simp
                  have a2 : x2.cell? ⟨w.heap.size, 2, none⟩ = some (.string S) := by rw [hb.cell (p := ⟨w.heap.size, 2, none⟩) (by simp)]; simp
                  have a3 : x2.cell? ⟨w.heap.size, 3, none⟩ = some (.int .i64 nn) := by rw [hb.cell (p := ⟨w.heap.size, 3, none⟩) (by simp)]; simp
                  have hlt : w.heap.size < x2.heap.size := by have := hb.size; simp at this; omega
                  clear hb
                  go_wp2
                  go_ret2
                  exact ⟨HF.out, hbel.alloc (by have := hbel.size; omega) _⟩
              · have d1 : ((m : Int) != S.size) = true := by rw [bne_iff_ne]; omega
                have HF := Lib.hid (rspell_no (t := ⟨kd, pl, wd, nn⟩) (spellR_not (by rw [← HS.out, HR.out]; rintro ⟨_, h, _⟩; exact c1 h)))
                clear c1
                go_enter Tryd.func33, Tryd.ntmps33
                go_wp2_with fail
                refine (HN.out _).mono ?_
                rintro e x2 ⟨rfl, hb⟩
                have hbel : Below w.heap.size w x2 := ((Below.refl _ _).alloc (Nat.le_refl _) _).trans (hb.mono (by simp))
                have a0 : x2.cell? ⟨w.heap.size, 0, none⟩ = some (.int .i64 kd) := by rw [hb.cell (p := ⟨w.heap.size, 0, none⟩) (by simp)]; simp
                have a1 : x2.cell? ⟨w.heap.size, 1, none⟩ = some (.int .i64 pl) := by rw [hb.cell (p := ⟨w.heap.size, 1, none⟩) (by simp)]; simp
                have a2 : x2.cell? ⟨w.heap.size, 2, none⟩ = some (.string S) := by rw [hb.cell (p := ⟨w.heap.size, 2, none⟩) (by simp)]; simp
                have a3 : x2.cell? ⟨w.heap.size, 3, none⟩ = some (.int .i64 nn) := by rw [hb.cell (p := ⟨w.heap.size, 3, none⟩) (by simp)]; simp
                have hlt : w.heap.size < x2.heap.size := by have := hb.size; simp at this; omega
                clear hb
                go_wp2
                go_ret2
                exact ⟨HF.out, hbel.alloc (by have := hbel.size; omega) _⟩
            · rw [next_err HR.out he] at hNX
              have HN : Hid (∀ w, Calls Tryd.prog 43 #[.string S, .int .i64 0] w fun e w' => e = .returned (.tuple #[.agg #[.int .i64 0, .int .i64 0, .string ⟨#[]⟩, .int .i64 0], .int .i64 0, .int .i64 er]) ∧ Below w.heap.size w w') := hNX
              have d0 : ((er : Int) != 0) = true := by rw [bne_iff_ne]; omega
              have HF := Lib.hid (rspell_no (t := ⟨kd, pl, wd, nn⟩) (spellR_not (by rw [← HS.out, HR.out]; rintro ⟨h, _⟩; exact he h)))
              clear hNX he
              go_enter Tryd.func33, Tryd.ntmps33
              go_wp2_with fail
              refine (HN.out _).mono ?_
              rintro e x2 ⟨rfl, hb⟩
              have hbel : Below w.heap.size w x2 := ((Below.refl _ _).alloc (Nat.le_refl _) _).trans (hb.mono (by simp))
              have a0 : x2.cell? ⟨w.heap.size, 0, none⟩ = some (.int .i64 kd) := by rw [hb.cell (p := ⟨w.heap.size, 0, none⟩) (by simp)]; simp
              have a1 : x2.cell? ⟨w.heap.size, 1, none⟩ = some (.int .i64 pl) := by rw [hb.cell (p := ⟨w.heap.size, 1, none⟩) (by simp)]; simp
              have a2 : x2.cell? ⟨w.heap.size, 2, none⟩ = some (.string S) := by rw [hb.cell (p := ⟨w.heap.size, 2, none⟩) (by simp)]; simp
              have a3 : x2.cell? ⟨w.heap.size, 3, none⟩ = some (.int .i64 nn) := by rw [hb.cell (p := ⟨w.heap.size, 3, none⟩) (by simp)]; simp
              have hlt : w.heap.size < x2.heap.size := by have := hb.size; simp at this; omega
              clear hb
              go_wp2
              go_ret2
              exact ⟨HF.out, hbel.alloc (by have := hbel.size; omega) _⟩

set_option maxRecDepth 100000 in
set_option maxHeartbeats 4000000 in
theorem RSpell_number (pl nn : Int) (wd : List UInt8) (w : World) (h0 : -9223372036854775808 ≤ nn) (h1 : nn ≤ 9223372036854775807) :
    Calls Tryd.prog 33 #[.agg #[.int .i64 2, .int .i64 pl, .string (mkS wd), .int .i64 nn]] w (RSpellPost ⟨2, pl, wd, nn⟩ w) := by
  unfold RSpellPost
  obtain ⟨S, hS⟩ : ∃ S, S = mkS (numT nn) := ⟨_, rfl⟩
  have hs : S.data.toList = spellS ⟨2, pl, wd, nn⟩ := by rw [hS, mkS_toList]; simp [spellS]
  have hsz : S.size ≤ 9223372036854775807 := by rw [hS, mkS_size]; have := numT_len nn h0 h1; omega
  have HS := Lib.hid hs
  have hD := fun w => digits_any nn w h0 h1
  rw [← hS] at hD
  have HD := Lib.hid hD
  clear hs hS hD h0 h1
  by_cases z0 : S.size = 0
  · have b0 : ((S.size : Int) == 0) = true := by rw [z0]; rfl
    have HF := Lib.hid (rspell_no (spellR_stop (t := ⟨2, pl, wd, nn⟩) (.inl (by rw [← HS.out]; exact List.length_eq_zero_iff.1 z0))))
    clear z0
    go_enter Tryd.func33, Tryd.ntmps33
    go_wp2_with fail
    refine (HD.out _).mono ?_
    rintro e y1 ⟨rfl, hy⟩
    have c0 : y1.cell? ⟨w.heap.size, 0, none⟩ = some (.int .i64 2) := by rw [hy.cell (p := ⟨w.heap.size, 0, none⟩) (by simp)]; simp
    have c1 : y1.cell? ⟨w.heap.size, 1, none⟩ = some (.int .i64 pl) := by rw [hy.cell (p := ⟨w.heap.size, 1, none⟩) (by simp)]; simp
    have c2 : y1.cell? ⟨w.heap.size, 2, none⟩ = some (.string (mkS wd)) := by rw [hy.cell (p := ⟨w.heap.size, 2, none⟩) (by simp)]; simp
    have c3 : y1.cell? ⟨w.heap.size, 3, none⟩ = some (.int .i64 nn) := by rw [hy.cell (p := ⟨w.heap.size, 3, none⟩) (by simp)]; simp
    have hly : w.heap.size < y1.heap.size := by have := hy.size; simp at this; omega
    have hby : Below w.heap.size w y1 := ((Below.refl _ _).alloc (Nat.le_refl _) _).trans (hy.mono (by simp))
    clear hy
    go_wp2
    go_ret2
    exact ⟨HF.out, hby⟩
  · have b0 : ((S.size : Int) == 0) = false := by rw [beq_eq_false_iff_ne]; omega
    have hp : 0 < S.size := by omega
    by_cases z1 : 100 < S.size
    · have b1 : decide ((100 : Int) < S.size) = true := by rw [decide_eq_true_iff]; omega
      have b1' : (100 : Int) < S.size := by omega
      have HF := Lib.hid (rspell_no (spellR_stop (t := ⟨2, pl, wd, nn⟩) (.inr (.inl (by rw [← HS.out]; exact z1)))))
      clear z0 z1
      go_enter Tryd.func33, Tryd.ntmps33
      go_wp2_with fail
      refine (HD.out _).mono ?_
      rintro e y1 ⟨rfl, hy⟩
      have c0 : y1.cell? ⟨w.heap.size, 0, none⟩ = some (.int .i64 2) := by rw [hy.cell (p := ⟨w.heap.size, 0, none⟩) (by simp)]; simp
      have c1 : y1.cell? ⟨w.heap.size, 1, none⟩ = some (.int .i64 pl) := by rw [hy.cell (p := ⟨w.heap.size, 1, none⟩) (by simp)]; simp
      have c2 : y1.cell? ⟨w.heap.size, 2, none⟩ = some (.string (mkS wd)) := by rw [hy.cell (p := ⟨w.heap.size, 2, none⟩) (by simp)]; simp
      have c3 : y1.cell? ⟨w.heap.size, 3, none⟩ = some (.int .i64 nn) := by rw [hy.cell (p := ⟨w.heap.size, 3, none⟩) (by simp)]; simp
      have hly : w.heap.size < y1.heap.size := by have := hy.size; simp at this; omega
      have hby : Below w.heap.size w y1 := ((Below.refl _ _).alloc (Nat.le_refl _) _).trans (hy.mono (by simp))
      clear hy
      go_wp2
      go_ret2
      exact ⟨HF.out, hby⟩
    · have b1 : decide ((100 : Int) < S.size) = false := by rw [decide_eq_false_iff_not]; omega
      have b1' : ¬ (100 : Int) < S.size := by omega
      have hh := head_get S hp
      by_cases z2 : S[0] = 32
      · have b2 : ((S[0].toNat : Int) == 32) = true := by rw [z2]; rfl
        have HF := Lib.hid (rspell_no (spellR_stop (t := ⟨2, pl, wd, nn⟩) (.inr (.inr (.inl (by rw [← HS.out, hh, z2]))))))
        clear z0 z1 z2 hh
        go_enter Tryd.func33, Tryd.ntmps33
        go_wp2_with fail
        refine (HD.out _).mono ?_
        rintro e y1 ⟨rfl, hy⟩
        have c0 : y1.cell? ⟨w.heap.size, 0, none⟩ = some (.int .i64 2) := by rw [hy.cell (p := ⟨w.heap.size, 0, none⟩) (by simp)]; simp
        have c1 : y1.cell? ⟨w.heap.size, 1, none⟩ = some (.int .i64 pl) := by rw [hy.cell (p := ⟨w.heap.size, 1, none⟩) (by simp)]; simp
        have c2 : y1.cell? ⟨w.heap.size, 2, none⟩ = some (.string (mkS wd)) := by rw [hy.cell (p := ⟨w.heap.size, 2, none⟩) (by simp)]; simp
        have c3 : y1.cell? ⟨w.heap.size, 3, none⟩ = some (.int .i64 nn) := by rw [hy.cell (p := ⟨w.heap.size, 3, none⟩) (by simp)]; simp
        have hly : w.heap.size < y1.heap.size := by have := hy.size; simp at this; omega
        have hby : Below w.heap.size w y1 := ((Below.refl _ _).alloc (Nat.le_refl _) _).trans (hy.mono (by simp))
        clear hy
        go_wp2
        go_ret2
        exact ⟨HF.out, hby⟩
      · have b2 : ((S[0].toNat : Int) == 32) = false := byte_ne _ 32 z2
        by_cases z3 : S[0] = 9
        · have b3 : ((S[0].toNat : Int) == 9) = true := by rw [z3]; rfl
          have HF := Lib.hid (rspell_no (spellR_stop (t := ⟨2, pl, wd, nn⟩) (.inr (.inr (.inr (.inl (by rw [← HS.out, hh, z3])))))))
          clear z0 z1 z2 z3 hh
          go_enter Tryd.func33, Tryd.ntmps33
          go_wp2_with fail
          refine (HD.out _).mono ?_
          rintro e y1 ⟨rfl, hy⟩
          have c0 : y1.cell? ⟨w.heap.size, 0, none⟩ = some (.int .i64 2) := by rw [hy.cell (p := ⟨w.heap.size, 0, none⟩) (by simp)]; simp
          have c1 : y1.cell? ⟨w.heap.size, 1, none⟩ = some (.int .i64 pl) := by rw [hy.cell (p := ⟨w.heap.size, 1, none⟩) (by simp)]; simp
          have c2 : y1.cell? ⟨w.heap.size, 2, none⟩ = some (.string (mkS wd)) := by rw [hy.cell (p := ⟨w.heap.size, 2, none⟩) (by simp)]; simp
          have c3 : y1.cell? ⟨w.heap.size, 3, none⟩ = some (.int .i64 nn) := by rw [hy.cell (p := ⟨w.heap.size, 3, none⟩) (by simp)]; simp
          have hly : w.heap.size < y1.heap.size := by have := hy.size; simp at this; omega
          have hby : Below w.heap.size w y1 := ((Below.refl _ _).alloc (Nat.le_refl _) _).trans (hy.mono (by simp))
          clear hy
          go_wp2
          go_ret2
          exact ⟨HF.out, hby⟩
        · have b3 : ((S[0].toNat : Int) == 9) = false := byte_ne _ 9 z3
          by_cases z4 : S[0] = 35
          · have b4 : ((S[0].toNat : Int) == 35) = true := by rw [z4]; rfl
            have HF := Lib.hid (rspell_no (spellR_stop (t := ⟨2, pl, wd, nn⟩) (.inr (.inr (.inr (.inr (by rw [← HS.out, hh, z4])))))))
            clear z0 z1 z2 z3 z4 hh
            go_enter Tryd.func33, Tryd.ntmps33
            go_wp2_with fail
            refine (HD.out _).mono ?_
            rintro e y1 ⟨rfl, hy⟩
            have c0 : y1.cell? ⟨w.heap.size, 0, none⟩ = some (.int .i64 2) := by rw [hy.cell (p := ⟨w.heap.size, 0, none⟩) (by simp)]; simp
            have c1 : y1.cell? ⟨w.heap.size, 1, none⟩ = some (.int .i64 pl) := by rw [hy.cell (p := ⟨w.heap.size, 1, none⟩) (by simp)]; simp
            have c2 : y1.cell? ⟨w.heap.size, 2, none⟩ = some (.string (mkS wd)) := by rw [hy.cell (p := ⟨w.heap.size, 2, none⟩) (by simp)]; simp
            have c3 : y1.cell? ⟨w.heap.size, 3, none⟩ = some (.int .i64 nn) := by rw [hy.cell (p := ⟨w.heap.size, 3, none⟩) (by simp)]; simp
            have hly : w.heap.size < y1.heap.size := by have := hy.size; simp at this; omega
            have hby : Below w.heap.size w y1 := ((Below.refl _ _).alloc (Nat.le_refl _) _).trans (hy.mono (by simp))
            clear hy
            go_wp2
            go_ret2
            exact ⟨HF.out, hby⟩
          · have b4 : ((S[0].toNat : Int) == 35) = false := byte_ne _ 35 z4
            have HG : Hid (¬ (spellS ⟨2, pl, wd, nn⟩ = [] ∨ 100 < (spellS ⟨2, pl, wd, nn⟩).length ∨ (spellS ⟨2, pl, wd, nn⟩).headD 0 = 32 ∨ (spellS ⟨2, pl, wd, nn⟩).headD 0 = 9 ∨ (spellS ⟨2, pl, wd, nn⟩).headD 0 = 35)) := by
              apply Lib.hid
              rw [← HS.out, hh]
              rintro (g | g | g | g | g)
              · exact z0 (List.length_eq_zero_iff.2 g)
              · exact z1 g
              · exact z2 g
              · exact z3 g
              · exact z4 g
            clear z0 z2 z3 z4 hh
            obtain ⟨⟨⟨k1, p1, w1', n1⟩, m, er⟩, hr⟩ : ∃ r, tokL S.data.toList = r := ⟨_, rfl⟩
            obtain rfl : p1 = 0 := by
              have := tok_at0 S.data.toList
              rw [hr] at this
              exact this
            have HR := Lib.hid hr
            have hNX : ∀ w, Calls Tryd.prog 43 #[.string S, .int .i64 0] w (NextPost S.data.toList 0 w) := fun w => Next_any S 0 w hp (by omega)
            unfold NextPost at hNX
            clear hr z1
            by_cases he : er = 0
            · subst he
              rw [next_fine HR.out] at hNX
              have HN : Hid (∀ w, Calls Tryd.prog 43 #[.string S, .int .i64 0] w fun e w' => e = .returned (.tuple #[.agg #[.int .i64 k1, .int .i64 0, .string (mkS w1'), .int .i64 n1], .int .i64 m, .int .i64 0]) ∧ Below w.heap.size w w') := hNX
              clear hNX
              by_cases q1 : m = S.size
              · have d1 : ((m : Int) != S.size) = false := by rw [q1]; simp
                by_cases q2 : k1 = 2
                · have d2 : (k1 != 2) = false := by rw [q2]; simp
                  by_cases q3 : w1' = wd
                  · by_cases q4 : n1 = nn
                    · have d4 : (n1 != nn) = false := by rw [q4]; simp
                      have HF := Lib.hid (rspell_yes (S := S) (t := ⟨2, pl, wd, nn⟩) ((spellR_yes HG.out ⟨by rw [← HS.out, HR.out], by rw [← HS.out, HR.out]; exact q1, by rw [← HS.out, HR.out, q2, q3, q4]⟩).trans (by rw [HS.out])))
                      have d3 : ((mkS w1').toList == (mkS wd).toList) = true := by rw [q3]; simp
                      have d3' : (mkS w1').toList = (mkS wd).toList := by rw [q3]
                      clear q1 q2 q3 q4
                      go_enter Tryd.func33, Tryd.ntmps33
                      go_wp2_with fail
                      refine (HD.out _).mono ?_
                      rintro e y1 ⟨rfl, hy⟩
                      have c0 : y1.cell? ⟨w.heap.size, 0, none⟩ = some (.int .i64 2) := by rw [hy.cell (p := ⟨w.heap.size, 0, none⟩) (by simp)]; simp
                      have c1 : y1.cell? ⟨w.heap.size, 1, none⟩ = some (.int .i64 pl) := by rw [hy.cell (p := ⟨w.heap.size, 1, none⟩) (by simp)]; simp
                      have c2 : y1.cell? ⟨w.heap.size, 2, none⟩ = some (.string (mkS wd)) := by rw [hy.cell (p := ⟨w.heap.size, 2, none⟩) (by simp)]; simp
                      have c3 : y1.cell? ⟨w.heap.size, 3, none⟩ = some (.int .i64 nn) := by rw [hy.cell (p := ⟨w.heap.size, 3, none⟩) (by simp)]; simp
                      have hly : w.heap.size < y1.heap.size := by have := hy.size; simp at this; omega
                      have hby : Below w.heap.size w y1 := ((Below.refl _ _).alloc (Nat.le_refl _) _).trans (hy.mono (by simp))
                      clear hy
                      go_wp2_with fail
                      refine (HN.out _).mono ?_
                      rintro e x2 ⟨rfl, hb⟩
                      have hbel : Below w.heap.size w x2 := hby.trans (hb.mono (Nat.le_of_lt hly))
                      have a0 := (hb.cell (p := ⟨w.heap.size, 0, none⟩) hly).trans c0
                      have a1 := (hb.cell (p := ⟨w.heap.size, 1, none⟩) hly).trans c1
                      have a2 := (hb.cell (p := ⟨w.heap.size, 2, none⟩) hly).trans c2
                      have a3 := (hb.cell (p := ⟨w.heap.size, 3, none⟩) hly).trans c3
                      have hlt : w.heap.size < x2.heap.size := Nat.lt_of_lt_of_le hly hb.size
                      clear c0 c1 c2 c3
                      clear hb
                      go_wp2
                      go_ret2
                      exact ⟨HF.out, hbel.alloc (by have := hbel.size; omega) _⟩
                    · have d4 : (n1 != nn) = true := by rw [bne_iff_ne]; exact q4
                      have HF := Lib.hid (rspell_no (t := ⟨2, pl, wd, nn⟩) (spellR_not (by rw [← HS.out, HR.out]; rintro ⟨_, _, h⟩; injection h with _ _ _ h; exact q4 h)))
                      have d3 : ((mkS w1').toList == (mkS wd).toList) = true := by rw [q3]; simp
                      have d3' : (mkS w1').toList = (mkS wd).toList := by rw [q3]
                      clear q1 q2 q3 q4
                      go_enter Tryd.func33, Tryd.ntmps33
                      go_wp2_with fail
                      refine (HD.out _).mono ?_
                      rintro e y1 ⟨rfl, hy⟩
                      have c0 : y1.cell? ⟨w.heap.size, 0, none⟩ = some (.int .i64 2) := by rw [hy.cell (p := ⟨w.heap.size, 0, none⟩) (by simp)]; simp
                      have c1 : y1.cell? ⟨w.heap.size, 1, none⟩ = some (.int .i64 pl) := by rw [hy.cell (p := ⟨w.heap.size, 1, none⟩) (by simp)]; simp
                      have c2 : y1.cell? ⟨w.heap.size, 2, none⟩ = some (.string (mkS wd)) := by rw [hy.cell (p := ⟨w.heap.size, 2, none⟩) (by simp)]; simp
                      have c3 : y1.cell? ⟨w.heap.size, 3, none⟩ = some (.int .i64 nn) := by rw [hy.cell (p := ⟨w.heap.size, 3, none⟩) (by simp)]; simp
                      have hly : w.heap.size < y1.heap.size := by have := hy.size; simp at this; omega
                      have hby : Below w.heap.size w y1 := ((Below.refl _ _).alloc (Nat.le_refl _) _).trans (hy.mono (by simp))
                      clear hy
                      go_wp2_with fail
                      refine (HN.out _).mono ?_
                      rintro e x2 ⟨rfl, hb⟩
                      have hbel : Below w.heap.size w x2 := hby.trans (hb.mono (Nat.le_of_lt hly))
                      have a0 := (hb.cell (p := ⟨w.heap.size, 0, none⟩) hly).trans c0
                      have a1 := (hb.cell (p := ⟨w.heap.size, 1, none⟩) hly).trans c1
                      have a2 := (hb.cell (p := ⟨w.heap.size, 2, none⟩) hly).trans c2
                      have a3 := (hb.cell (p := ⟨w.heap.size, 3, none⟩) hly).trans c3
                      have hlt : w.heap.size < x2.heap.size := Nat.lt_of_lt_of_le hly hb.size
                      clear c0 c1 c2 c3
                      clear hb
                      go_wp2
                      go_ret2
                      exact ⟨HF.out, hbel.alloc (by have := hbel.size; omega) _⟩
                  · have d3 : ((mkS w1').toList == (mkS wd).toList) = false := by rw [beq_eq_false_iff_ne]; exact mkS_ne q3
                    have d3' : ¬ (mkS w1').toList = (mkS wd).toList := by exact mkS_ne q3
                    have HF := Lib.hid (rspell_no (t := ⟨2, pl, wd, nn⟩) (spellR_not (by rw [← HS.out, HR.out]; rintro ⟨_, _, h⟩; injection h with _ _ h _; exact q3 h)))
                    clear q1 q2 q3
                    go_enter Tryd.func33, Tryd.ntmps33
                    go_wp2_with fail
                    refine (HD.out _).mono ?_
                    rintro e y1 ⟨rfl, hy⟩
                    have c0 : y1.cell? ⟨w.heap.size, 0, none⟩ = some (.int .i64 2) := by rw [hy.cell (p := ⟨w.heap.size, 0, none⟩) (by simp)]; simp
                    have c1 : y1.cell? ⟨w.heap.size, 1, none⟩ = some (.int .i64 pl) := by rw [hy.cell (p := ⟨w.heap.size, 1, none⟩) (by simp)]; simp
                    have c2 : y1.cell? ⟨w.heap.size, 2, none⟩ = some (.string (mkS wd)) := by rw [hy.cell (p := ⟨w.heap.size, 2, none⟩) (by simp)]; simp
                    have c3 : y1.cell? ⟨w.heap.size, 3, none⟩ = some (.int .i64 nn) := by rw [hy.cell (p := ⟨w.heap.size, 3, none⟩) (by simp)]; simp
                    have hly : w.heap.size < y1.heap.size := by have := hy.size; simp at this; omega
                    have hby : Below w.heap.size w y1 := ((Below.refl _ _).alloc (Nat.le_refl _) _).trans (hy.mono (by simp))
                    clear hy
                    go_wp2_with fail
                    refine (HN.out _).mono ?_
                    rintro e x2 ⟨rfl, hb⟩
                    have hbel : Below w.heap.size w x2 := hby.trans (hb.mono (Nat.le_of_lt hly))
                    have a0 := (hb.cell (p := ⟨w.heap.size, 0, none⟩) hly).trans c0
                    have a1 := (hb.cell (p := ⟨w.heap.size, 1, none⟩) hly).trans c1
                    have a2 := (hb.cell (p := ⟨w.heap.size, 2, none⟩) hly).trans c2
                    have a3 := (hb.cell (p := ⟨w.heap.size, 3, none⟩) hly).trans c3
                    have hlt : w.heap.size < x2.heap.size := Nat.lt_of_lt_of_le hly hb.size
                    clear c0 c1 c2 c3
                    clear hb
                    go_wp2
                    go_ret2
                    exact ⟨HF.out, hbel.alloc (by have := hbel.size; omega) _⟩
                · have d2 : (k1 != 2) = true := by rw [bne_iff_ne]; exact q2
                  have HF := Lib.hid (rspell_no (t := ⟨2, pl, wd, nn⟩) (spellR_not (by rw [← HS.out, HR.out]; rintro ⟨_, _, h⟩; injection h with h _ _ _; exact q2 h)))
                  clear q1 q2
                  go_enter Tryd.func33, Tryd.ntmps33
                  go_wp2_with fail
                  refine (HD.out _).mono ?_
                  rintro e y1 ⟨rfl, hy⟩
                  have c0 : y1.cell? ⟨w.heap.size, 0, none⟩ = some (.int .i64 2) := by rw [hy.cell (p := ⟨w.heap.size, 0, none⟩) (by simp)]; simp
                  have c1 : y1.cell? ⟨w.heap.size, 1, none⟩ = some (.int .i64 pl) := by rw [hy.cell (p := ⟨w.heap.size, 1, none⟩) (by simp)]; simp
                  have c2 : y1.cell? ⟨w.heap.size, 2, none⟩ = some (.string (mkS wd)) := by rw [hy.cell (p := ⟨w.heap.size, 2, none⟩) (by simp)]; simp
                  have c3 : y1.cell? ⟨w.heap.size, 3, none⟩ = some (.int .i64 nn) := by rw [hy.cell (p := ⟨w.heap.size, 3, none⟩) (by simp)]; simp
                  have hly : w.heap.size < y1.heap.size := by have := hy.size; simp at this; omega
                  have hby : Below w.heap.size w y1 := ((Below.refl _ _).alloc (Nat.le_refl _) _).trans (hy.mono (by simp))
                  clear hy
                  go_wp2_with fail
                  refine (HN.out _).mono ?_
                  rintro e x2 ⟨rfl, hb⟩
                  have hbel : Below w.heap.size w x2 := hby.trans (hb.mono (Nat.le_of_lt hly))
                  have a0 := (hb.cell (p := ⟨w.heap.size, 0, none⟩) hly).trans c0
                  have a1 := (hb.cell (p := ⟨w.heap.size, 1, none⟩) hly).trans c1
                  have a2 := (hb.cell (p := ⟨w.heap.size, 2, none⟩) hly).trans c2
                  have a3 := (hb.cell (p := ⟨w.heap.size, 3, none⟩) hly).trans c3
                  have hlt : w.heap.size < x2.heap.size := Nat.lt_of_lt_of_le hly hb.size
                  clear c0 c1 c2 c3
                  clear hb
                  go_wp2
                  go_ret2
                  exact ⟨HF.out, hbel.alloc (by have := hbel.size; omega) _⟩
              · have d1 : ((m : Int) != S.size) = true := by rw [bne_iff_ne]; omega
                have HF := Lib.hid (rspell_no (t := ⟨2, pl, wd, nn⟩) (spellR_not (by rw [← HS.out, HR.out]; rintro ⟨_, h, _⟩; exact q1 h)))
                clear q1
                go_enter Tryd.func33, Tryd.ntmps33
                go_wp2_with fail
                refine (HD.out _).mono ?_
                rintro e y1 ⟨rfl, hy⟩
                have c0 : y1.cell? ⟨w.heap.size, 0, none⟩ = some (.int .i64 2) := by rw [hy.cell (p := ⟨w.heap.size, 0, none⟩) (by simp)]; simp
                have c1 : y1.cell? ⟨w.heap.size, 1, none⟩ = some (.int .i64 pl) := by rw [hy.cell (p := ⟨w.heap.size, 1, none⟩) (by simp)]; simp
                have c2 : y1.cell? ⟨w.heap.size, 2, none⟩ = some (.string (mkS wd)) := by rw [hy.cell (p := ⟨w.heap.size, 2, none⟩) (by simp)]; simp
                have c3 : y1.cell? ⟨w.heap.size, 3, none⟩ = some (.int .i64 nn) := by rw [hy.cell (p := ⟨w.heap.size, 3, none⟩) (by simp)]; simp
                have hly : w.heap.size < y1.heap.size := by have := hy.size; simp at this; omega
                have hby : Below w.heap.size w y1 := ((Below.refl _ _).alloc (Nat.le_refl _) _).trans (hy.mono (by simp))
                clear hy
                go_wp2_with fail
                refine (HN.out _).mono ?_
                rintro e x2 ⟨rfl, hb⟩
                have hbel : Below w.heap.size w x2 := hby.trans (hb.mono (Nat.le_of_lt hly))
                have a0 := (hb.cell (p := ⟨w.heap.size, 0, none⟩) hly).trans c0
                have a1 := (hb.cell (p := ⟨w.heap.size, 1, none⟩) hly).trans c1
                have a2 := (hb.cell (p := ⟨w.heap.size, 2, none⟩) hly).trans c2
                have a3 := (hb.cell (p := ⟨w.heap.size, 3, none⟩) hly).trans c3
                have hlt : w.heap.size < x2.heap.size := Nat.lt_of_lt_of_le hly hb.size
                clear c0 c1 c2 c3
                clear hb
                go_wp2
                go_ret2
                exact ⟨HF.out, hbel.alloc (by have := hbel.size; omega) _⟩
            · rw [next_err HR.out he] at hNX
              have HN : Hid (∀ w, Calls Tryd.prog 43 #[.string S, .int .i64 0] w fun e w' => e = .returned (.tuple #[.agg #[.int .i64 0, .int .i64 0, .string ⟨#[]⟩, .int .i64 0], .int .i64 0, .int .i64 er]) ∧ Below w.heap.size w w') := hNX
              have d0 : ((er : Int) != 0) = true := by rw [bne_iff_ne]; omega
              have HF := Lib.hid (rspell_no (t := ⟨2, pl, wd, nn⟩) (spellR_not (by rw [← HS.out, HR.out]; rintro ⟨h, _⟩; exact he h)))
              clear hNX he
              go_enter Tryd.func33, Tryd.ntmps33
              go_wp2_with fail
              refine (HD.out _).mono ?_
              rintro e y1 ⟨rfl, hy⟩
              have c0 : y1.cell? ⟨w.heap.size, 0, none⟩ = some (.int .i64 2) := by rw [hy.cell (p := ⟨w.heap.size, 0, none⟩) (by simp)]; simp
              have c1 : y1.cell? ⟨w.heap.size, 1, none⟩ = some (.int .i64 pl) := by rw [hy.cell (p := ⟨w.heap.size, 1, none⟩) (by simp)]; simp
              have c2 : y1.cell? ⟨w.heap.size, 2, none⟩ = some (.string (mkS wd)) := by rw [hy.cell (p := ⟨w.heap.size, 2, none⟩) (by simp)]; simp
              have c3 : y1.cell? ⟨w.heap.size, 3, none⟩ = some (.int .i64 nn) := by rw [hy.cell (p := ⟨w.heap.size, 3, none⟩) (by simp)]; simp
              have hly : w.heap.size < y1.heap.size := by have := hy.size; simp at this; omega
              have hby : Below w.heap.size w y1 := ((Below.refl _ _).alloc (Nat.le_refl _) _).trans (hy.mono (by simp))
              clear hy
              go_wp2_with fail
              refine (HN.out _).mono ?_
              rintro e x2 ⟨rfl, hb⟩
              have hbel : Below w.heap.size w x2 := hby.trans (hb.mono (Nat.le_of_lt hly))
              have a0 := (hb.cell (p := ⟨w.heap.size, 0, none⟩) hly).trans c0
              have a1 := (hb.cell (p := ⟨w.heap.size, 1, none⟩) hly).trans c1
              have a2 := (hb.cell (p := ⟨w.heap.size, 2, none⟩) hly).trans c2
              have a3 := (hb.cell (p := ⟨w.heap.size, 3, none⟩) hly).trans c3
              have hlt : w.heap.size < x2.heap.size := Nat.lt_of_lt_of_le hly hb.size
              clear c0 c1 c2 c3
              clear hb
              go_wp2
              go_ret2
              exact ⟨HF.out, hbel.alloc (by have := hbel.size; omega) _⟩

set_option maxRecDepth 100000 in
set_option maxHeartbeats 4000000 in
theorem RSpell_line (pl nn : Int) (wd : List UInt8) (w : World) :
    Calls Tryd.prog 33 #[.agg #[.int .i64 4, .int .i64 pl, .string (mkS wd), .int .i64 nn]] w (RSpellPost ⟨4, pl, wd, nn⟩ w) := by
  unfold RSpellPost
  obtain ⟨S, hS⟩ : ∃ S, S = mkS [10] := ⟨_, rfl⟩
  have hs : S.data.toList = spellS ⟨4, pl, wd, nn⟩ := by rw [hS, mkS_toList]; simp [spellS]
  have hsz : S.size ≤ 9223372036854775807 := by rw [hS, mkS_size]; simp
  have HS := Lib.hid hs
  have HM := Lib.hid hS
  have hR : ∀ o, RowS ((w.alloc o).alloc (.cells #[.int .u8 10] 5)) w.heap.size (.slice (some ⟨w.heap.size + 1, 0, none⟩) 1 1) ([10].map byteV) := fun o => by
    have := RowS.one (w.alloc o) (.int .u8 10) 5 w.heap.size (by simp) 1 rfl
    rw [show (w.alloc o).heap.size = w.heap.size + 1 from by simp] at this
    exact this
  have HRW := Lib.hid hR
  clear hs hS hR
  by_cases z0 : S.size = 0
  · have b0 : ((S.size : Int) == 0) = true := by rw [z0]; rfl
    have HF := Lib.hid (rspell_no (spellR_stop (t := ⟨4, pl, wd, nn⟩) (.inl (by rw [← HS.out]; exact List.length_eq_zero_iff.1 z0))))
    clear z0
    go_enter Tryd.func33, Tryd.ntmps33
    go_wp2_with (refine wpList_string_rowS _ rfl 38 9 (.tmp 19) rfl 5 (base := w.heap.size) (l := [10]) (HRW.out _) Tryd.underlying38 Tryd.underlying5 Tryd.underlying9 rfl ?_; rw [← HM.out])
    go_wp2
    go_ret2
    exact ⟨HF.out, ((Below.refl _ _).alloc (Nat.le_refl _) _).alloc (by simp) _⟩
  · have b0 : ((S.size : Int) == 0) = false := by rw [beq_eq_false_iff_ne]; omega
    have hp : 0 < S.size := by omega
    by_cases z1 : 100 < S.size
    · have b1 : decide ((100 : Int) < S.size) = true := by rw [decide_eq_true_iff]; omega
      have b1' : (100 : Int) < S.size := by omega
      have HF := Lib.hid (rspell_no (spellR_stop (t := ⟨4, pl, wd, nn⟩) (.inr (.inl (by rw [← HS.out]; exact z1)))))
      clear z0 z1
      go_enter Tryd.func33, Tryd.ntmps33
      go_wp2_with (refine wpList_string_rowS _ rfl 38 9 (.tmp 19) rfl 5 (base := w.heap.size) (l := [10]) (HRW.out _) Tryd.underlying38 Tryd.underlying5 Tryd.underlying9 rfl ?_; rw [← HM.out])
      go_wp2
      go_ret2
      exact ⟨HF.out, ((Below.refl _ _).alloc (Nat.le_refl _) _).alloc (by simp) _⟩
    · have b1 : decide ((100 : Int) < S.size) = false := by rw [decide_eq_false_iff_not]; omega
      have b1' : ¬ (100 : Int) < S.size := by omega
      have hh := head_get S hp
      by_cases z2 : S[0] = 32
      · have b2 : ((S[0].toNat : Int) == 32) = true := by rw [z2]; rfl
        have HF := Lib.hid (rspell_no (spellR_stop (t := ⟨4, pl, wd, nn⟩) (.inr (.inr (.inl (by rw [← HS.out, hh, z2]))))))
        clear z0 z1 z2 hh
        go_enter Tryd.func33, Tryd.ntmps33
        go_wp2_with (refine wpList_string_rowS _ rfl 38 9 (.tmp 19) rfl 5 (base := w.heap.size) (l := [10]) (HRW.out _) Tryd.underlying38 Tryd.underlying5 Tryd.underlying9 rfl ?_; rw [← HM.out])
        go_wp2
        go_ret2
        exact ⟨HF.out, ((Below.refl _ _).alloc (Nat.le_refl _) _).alloc (by simp) _⟩
      · have b2 : ((S[0].toNat : Int) == 32) = false := byte_ne _ 32 z2
        by_cases z3 : S[0] = 9
        · have b3 : ((S[0].toNat : Int) == 9) = true := by rw [z3]; rfl
          have HF := Lib.hid (rspell_no (spellR_stop (t := ⟨4, pl, wd, nn⟩) (.inr (.inr (.inr (.inl (by rw [← HS.out, hh, z3])))))))
          clear z0 z1 z2 z3 hh
          go_enter Tryd.func33, Tryd.ntmps33
          go_wp2_with (refine wpList_string_rowS _ rfl 38 9 (.tmp 19) rfl 5 (base := w.heap.size) (l := [10]) (HRW.out _) Tryd.underlying38 Tryd.underlying5 Tryd.underlying9 rfl ?_; rw [← HM.out])
          go_wp2
          go_ret2
          exact ⟨HF.out, ((Below.refl _ _).alloc (Nat.le_refl _) _).alloc (by simp) _⟩
        · have b3 : ((S[0].toNat : Int) == 9) = false := byte_ne _ 9 z3
          by_cases z4 : S[0] = 35
          · have b4 : ((S[0].toNat : Int) == 35) = true := by rw [z4]; rfl
            have HF := Lib.hid (rspell_no (spellR_stop (t := ⟨4, pl, wd, nn⟩) (.inr (.inr (.inr (.inr (by rw [← HS.out, hh, z4])))))))
            clear z0 z1 z2 z3 z4 hh
            go_enter Tryd.func33, Tryd.ntmps33
            go_wp2_with (refine wpList_string_rowS _ rfl 38 9 (.tmp 19) rfl 5 (base := w.heap.size) (l := [10]) (HRW.out _) Tryd.underlying38 Tryd.underlying5 Tryd.underlying9 rfl ?_; rw [← HM.out])
            go_wp2
            go_ret2
            exact ⟨HF.out, ((Below.refl _ _).alloc (Nat.le_refl _) _).alloc (by simp) _⟩
          · have b4 : ((S[0].toNat : Int) == 35) = false := byte_ne _ 35 z4
            have HG : Hid (¬ (spellS ⟨4, pl, wd, nn⟩ = [] ∨ 100 < (spellS ⟨4, pl, wd, nn⟩).length ∨ (spellS ⟨4, pl, wd, nn⟩).headD 0 = 32 ∨ (spellS ⟨4, pl, wd, nn⟩).headD 0 = 9 ∨ (spellS ⟨4, pl, wd, nn⟩).headD 0 = 35)) := by
              apply Lib.hid
              rw [← HS.out, hh]
              rintro (g | g | g | g | g)
              · exact z0 (List.length_eq_zero_iff.2 g)
              · exact z1 g
              · exact z2 g
              · exact z3 g
              · exact z4 g
            clear z0 z2 z3 z4 hh
            obtain ⟨⟨⟨k1, p1, w1', n1⟩, m, er⟩, hr⟩ : ∃ r, tokL S.data.toList = r := ⟨_, rfl⟩
            obtain rfl : p1 = 0 := by
              have := tok_at0 S.data.toList
              rw [hr] at this
              exact this
            have HR := Lib.hid hr
            have hNX : ∀ w, Calls Tryd.prog 43 #[.string S, .int .i64 0] w (NextPost S.data.toList 0 w) := fun w => Next_any S 0 w hp (by omega)
            unfold NextPost at hNX
            clear hr z1
            by_cases he : er = 0
            · subst he
              rw [next_fine HR.out] at hNX
              have HN : Hid (∀ w, Calls Tryd.prog 43 #[.string S, .int .i64 0] w fun e w' => e = .returned (.tuple #[.agg #[.int .i64 k1, .int .i64 0, .string (mkS w1'), .int .i64 n1], .int .i64 m, .int .i64 0]) ∧ Below w.heap.size w w') := hNX
              clear hNX
              by_cases c1 : m = S.size
              · have d1 : ((m : Int) != S.size) = false := by rw [c1]; simp
                by_cases c2 : k1 = 4
                · have d2 : (k1 != 4) = false := by rw [c2]; simp
                  by_cases c3 : w1' = wd
                  · by_cases c4 : n1 = nn
                    · have d4 : (n1 != nn) = false := by rw [c4]; simp
                      have HF := Lib.hid (rspell_yes (S := S) (t := ⟨4, pl, wd, nn⟩) ((spellR_yes HG.out ⟨by rw [← HS.out, HR.out], by rw [← HS.out, HR.out]; exact c1, by rw [← HS.out, HR.out, c2, c3, c4]⟩).trans (by rw [HS.out])))
                      have d3 : ((mkS w1').toList == (mkS wd).toList) = true := by rw [c3]; simp
                      have d3' : (mkS w1').toList = (mkS wd).toList := by rw [c3]
                      clear c1 c2 c3 c4
                      go_enter Tryd.func33, Tryd.ntmps33
                      go_wp2_with (refine wpList_string_rowS _ rfl 38 9 (.tmp 19) rfl 5 (base := w.heap.size) (l := [10]) (HRW.out _) Tryd.underlying38 Tryd.underlying5 Tryd.underlying9 rfl ?_; rw [← HM.out])
                      go_wp2_with fail
                      refine (HN.out _).mono ?_
                      rintro e x2 ⟨rfl, hb⟩
                      have hbel : Below w.heap.size w x2 := (((Below.refl _ _).alloc (Nat.le_refl _) _).alloc (by simp) _).trans (hb.mono (by simp; omega))
                      have a0 : x2.cell? ⟨w.heap.size, 0, none⟩ = some (.int .i64 4) := by rw [hb.cell (p := ⟨w.heap.size, 0, none⟩) (by simp; omega)]; simp
                      have a1 : x2.cell? ⟨w.heap.size, 1, none⟩ = some (.int .i64 pl) := by rw [hb.cell (p := ⟨w.heap.size, 1, none⟩) (by simp; omega)]; simp
                      have a2 : x2.cell? ⟨w.heap.size, 2, none⟩ = some (.string (mkS wd)) := by rw [hb.cell (p := ⟨w.heap.size, 2, none⟩) (by simp; omega)]; simp
                      have a3 : x2.cell? ⟨w.heap.size, 3, none⟩ = some (.int .i64 nn) := by rw [hb.cell (p := ⟨w.heap.size, 3, none⟩) (by simp; omega)]; simp
                      have hlt : w.heap.size < x2.heap.size := by have := hb.size; simp at this; omega
                      clear hb
                      go_wp2
                      go_ret2
                      exact ⟨HF.out, hbel.alloc (by have := hbel.size; omega) _⟩
                    · have d4 : (n1 != nn) = true := by rw [bne_iff_ne]; exact c4
                      have HF := Lib.hid (rspell_no (t := ⟨4, pl, wd, nn⟩) (spellR_not (by rw [← HS.out, HR.out]; rintro ⟨_, _, h⟩; injection h with _ _ _ h; exact c4 h)))
                      have d3 : ((mkS w1').toList == (mkS wd).toList) = true := by rw [c3]; simp
                      have d3' : (mkS w1').toList = (mkS wd).toList := by rw [c3]
                      clear c1 c2 c3 c4
                      go_enter Tryd.func33, Tryd.ntmps33
                      go_wp2_with (refine wpList_string_rowS _ rfl 38 9 (.tmp 19) rfl 5 (base := w.heap.size) (l := [10]) (HRW.out _) Tryd.underlying38 Tryd.underlying5 Tryd.underlying9 rfl ?_; rw [← HM.out])
                      go_wp2_with fail
                      refine (HN.out _).mono ?_
                      rintro e x2 ⟨rfl, hb⟩
                      have hbel : Below w.heap.size w x2 := (((Below.refl _ _).alloc (Nat.le_refl _) _).alloc (by simp) _).trans (hb.mono (by simp; omega))
                      have a0 : x2.cell? ⟨w.heap.size, 0, none⟩ = some (.int .i64 4) := by rw [hb.cell (p := ⟨w.heap.size, 0, none⟩) (by simp; omega)]; simp
                      have a1 : x2.cell? ⟨w.heap.size, 1, none⟩ = some (.int .i64 pl) := by rw [hb.cell (p := ⟨w.heap.size, 1, none⟩) (by simp; omega)]; simp
                      have a2 : x2.cell? ⟨w.heap.size, 2, none⟩ = some (.string (mkS wd)) := by rw [hb.cell (p := ⟨w.heap.size, 2, none⟩) (by simp; omega)]; simp
                      have a3 : x2.cell? ⟨w.heap.size, 3, none⟩ = some (.int .i64 nn) := by rw [hb.cell (p := ⟨w.heap.size, 3, none⟩) (by simp; omega)]; simp
                      have hlt : w.heap.size < x2.heap.size := by have := hb.size; simp at this; omega
                      clear hb
                      go_wp2
                      go_ret2
                      exact ⟨HF.out, hbel.alloc (by have := hbel.size; omega) _⟩
                  · have d3 : ((mkS w1').toList == (mkS wd).toList) = false := by rw [beq_eq_false_iff_ne]; exact mkS_ne c3
                    have d3' : ¬ (mkS w1').toList = (mkS wd).toList := by exact mkS_ne c3
                    have HF := Lib.hid (rspell_no (t := ⟨4, pl, wd, nn⟩) (spellR_not (by rw [← HS.out, HR.out]; rintro ⟨_, _, h⟩; injection h with _ _ h _; exact c3 h)))
                    clear c1 c2 c3
                    go_enter Tryd.func33, Tryd.ntmps33
                    go_wp2_with (refine wpList_string_rowS _ rfl 38 9 (.tmp 19) rfl 5 (base := w.heap.size) (l := [10]) (HRW.out _) Tryd.underlying38 Tryd.underlying5 Tryd.underlying9 rfl ?_; rw [← HM.out])
                    go_wp2_with fail
                    refine (HN.out _).mono ?_
                    rintro e x2 ⟨rfl, hb⟩
                    have hbel : Below w.heap.size w x2 := (((Below.refl _ _).alloc (Nat.le_refl _) _).alloc (by simp) _).trans (hb.mono (by simp; omega))
                    have a0 : x2.cell? ⟨w.heap.size, 0, none⟩ = some (.int .i64 4) := by rw [hb.cell (p := ⟨w.heap.size, 0, none⟩) (by simp; omega)]; simp
                    have a1 : x2.cell? ⟨w.heap.size, 1, none⟩ = some (.int .i64 pl) := by rw [hb.cell (p := ⟨w.heap.size, 1, none⟩) (by simp; omega)]; simp
                    have a2 : x2.cell? ⟨w.heap.size, 2, none⟩ = some (.string (mkS wd)) := by rw [hb.cell (p := ⟨w.heap.size, 2, none⟩) (by simp; omega)]; simp
                    have a3 : x2.cell? ⟨w.heap.size, 3, none⟩ = some (.int .i64 nn) := by rw [hb.cell (p := ⟨w.heap.size, 3, none⟩) (by simp; omega)]; simp
                    have hlt : w.heap.size < x2.heap.size := by have := hb.size; simp at this; omega
                    clear hb
                    go_wp2
                    go_ret2
                    exact ⟨HF.out, hbel.alloc (by have := hbel.size; omega) _⟩
                · have d2 : (k1 != 4) = true := by rw [bne_iff_ne]; exact c2
                  have HF := Lib.hid (rspell_no (t := ⟨4, pl, wd, nn⟩) (spellR_not (by rw [← HS.out, HR.out]; rintro ⟨_, _, h⟩; injection h with h _ _ _; exact c2 h)))
                  clear c1 c2
                  go_enter Tryd.func33, Tryd.ntmps33
                  go_wp2_with (refine wpList_string_rowS _ rfl 38 9 (.tmp 19) rfl 5 (base := w.heap.size) (l := [10]) (HRW.out _) Tryd.underlying38 Tryd.underlying5 Tryd.underlying9 rfl ?_; rw [← HM.out])
                  go_wp2_with fail
                  refine (HN.out _).mono ?_
                  rintro e x2 ⟨rfl, hb⟩
                  have hbel : Below w.heap.size w x2 := (((Below.refl _ _).alloc (Nat.le_refl _) _).alloc (by simp) _).trans (hb.mono (by simp; omega))
                  have a0 : x2.cell? ⟨w.heap.size, 0, none⟩ = some (.int .i64 4) := by rw [hb.cell (p := ⟨w.heap.size, 0, none⟩) (by simp; omega)]; simp
                  have a1 : x2.cell? ⟨w.heap.size, 1, none⟩ = some (.int .i64 pl) := by rw [hb.cell (p := ⟨w.heap.size, 1, none⟩) (by simp; omega)]; simp
                  have a2 : x2.cell? ⟨w.heap.size, 2, none⟩ = some (.string (mkS wd)) := by rw [hb.cell (p := ⟨w.heap.size, 2, none⟩) (by simp; omega)]; simp
                  have a3 : x2.cell? ⟨w.heap.size, 3, none⟩ = some (.int .i64 nn) := by rw [hb.cell (p := ⟨w.heap.size, 3, none⟩) (by simp; omega)]; simp
                  have hlt : w.heap.size < x2.heap.size := by have := hb.size; simp at this; omega
                  clear hb
                  go_wp2
                  go_ret2
                  exact ⟨HF.out, hbel.alloc (by have := hbel.size; omega) _⟩
              · have d1 : ((m : Int) != S.size) = true := by rw [bne_iff_ne]; omega
                have HF := Lib.hid (rspell_no (t := ⟨4, pl, wd, nn⟩) (spellR_not (by rw [← HS.out, HR.out]; rintro ⟨_, h, _⟩; exact c1 h)))
                clear c1
                go_enter Tryd.func33, Tryd.ntmps33
                go_wp2_with (refine wpList_string_rowS _ rfl 38 9 (.tmp 19) rfl 5 (base := w.heap.size) (l := [10]) (HRW.out _) Tryd.underlying38 Tryd.underlying5 Tryd.underlying9 rfl ?_; rw [← HM.out])
                go_wp2_with fail
                refine (HN.out _).mono ?_
                rintro e x2 ⟨rfl, hb⟩
                have hbel : Below w.heap.size w x2 := (((Below.refl _ _).alloc (Nat.le_refl _) _).alloc (by simp) _).trans (hb.mono (by simp; omega))
                have a0 : x2.cell? ⟨w.heap.size, 0, none⟩ = some (.int .i64 4) := by rw [hb.cell (p := ⟨w.heap.size, 0, none⟩) (by simp; omega)]; simp
                have a1 : x2.cell? ⟨w.heap.size, 1, none⟩ = some (.int .i64 pl) := by rw [hb.cell (p := ⟨w.heap.size, 1, none⟩) (by simp; omega)]; simp
                have a2 : x2.cell? ⟨w.heap.size, 2, none⟩ = some (.string (mkS wd)) := by rw [hb.cell (p := ⟨w.heap.size, 2, none⟩) (by simp; omega)]; simp
                have a3 : x2.cell? ⟨w.heap.size, 3, none⟩ = some (.int .i64 nn) := by rw [hb.cell (p := ⟨w.heap.size, 3, none⟩) (by simp; omega)]; simp
                have hlt : w.heap.size < x2.heap.size := by have := hb.size; simp at this; omega
                clear hb
                go_wp2
                go_ret2
                exact ⟨HF.out, hbel.alloc (by have := hbel.size; omega) _⟩
            · rw [next_err HR.out he] at hNX
              have HN : Hid (∀ w, Calls Tryd.prog 43 #[.string S, .int .i64 0] w fun e w' => e = .returned (.tuple #[.agg #[.int .i64 0, .int .i64 0, .string ⟨#[]⟩, .int .i64 0], .int .i64 0, .int .i64 er]) ∧ Below w.heap.size w w') := hNX
              have d0 : ((er : Int) != 0) = true := by rw [bne_iff_ne]; omega
              have HF := Lib.hid (rspell_no (t := ⟨4, pl, wd, nn⟩) (spellR_not (by rw [← HS.out, HR.out]; rintro ⟨h, _⟩; exact he h)))
              clear hNX he
              go_enter Tryd.func33, Tryd.ntmps33
              go_wp2_with (refine wpList_string_rowS _ rfl 38 9 (.tmp 19) rfl 5 (base := w.heap.size) (l := [10]) (HRW.out _) Tryd.underlying38 Tryd.underlying5 Tryd.underlying9 rfl ?_; rw [← HM.out])
              go_wp2_with fail
              refine (HN.out _).mono ?_
              rintro e x2 ⟨rfl, hb⟩
              have hbel : Below w.heap.size w x2 := (((Below.refl _ _).alloc (Nat.le_refl _) _).alloc (by simp) _).trans (hb.mono (by simp; omega))
              have a0 : x2.cell? ⟨w.heap.size, 0, none⟩ = some (.int .i64 4) := by rw [hb.cell (p := ⟨w.heap.size, 0, none⟩) (by simp; omega)]; simp
              have a1 : x2.cell? ⟨w.heap.size, 1, none⟩ = some (.int .i64 pl) := by rw [hb.cell (p := ⟨w.heap.size, 1, none⟩) (by simp; omega)]; simp
              have a2 : x2.cell? ⟨w.heap.size, 2, none⟩ = some (.string (mkS wd)) := by rw [hb.cell (p := ⟨w.heap.size, 2, none⟩) (by simp; omega)]; simp
              have a3 : x2.cell? ⟨w.heap.size, 3, none⟩ = some (.int .i64 nn) := by rw [hb.cell (p := ⟨w.heap.size, 3, none⟩) (by simp; omega)]; simp
              have hlt : w.heap.size < x2.heap.size := by have := hb.size; simp at this; omega
              clear hb
              go_wp2
              go_ret2
              exact ⟨HF.out, hbel.alloc (by have := hbel.size; omega) _⟩

/-- Any token. -/
theorem RSpell_any (t : Tok) (w : World) (ht : t.ok) : Calls Tryd.prog 33 #[t.val] w (RSpellPost t w) := by
  obtain ⟨kd, pl, wd, nn⟩ := t
  obtain ⟨h0, h1, h2⟩ := ht
  by_cases k2 : kd = 2
  · subst k2
    exact RSpell_number pl nn wd w h0 h1
  · by_cases k4 : kd = 4
    · subst k4
      exact RSpell_line pl nn wd w
    · exact RSpell_word kd pl nn wd w h2 k2 k4
end Go.Proofs.YtfpneopobbfabaaDoor
