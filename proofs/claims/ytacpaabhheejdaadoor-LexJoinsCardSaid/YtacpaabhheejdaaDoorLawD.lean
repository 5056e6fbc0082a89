/-
  Walk of the law LexBlanks. Condition: Go's own variables hold what their initialisers lay.
-/
import Derived.Test.YtacpaabhheejdaaDoorLawC
import Derived.Lib.QuietBelow
import Derived.BigQuiet
import Derived.Deep.CutRange
import Derived.Deep.RegionWith
namespace Go.Proofs.YtacpaabhheejdaaDoor
open Go.RowKit Go.Shelf Go.Sort

theorem blank_bytes (s : ByteArray) (b : UInt8) (m : Nat) : (s.extract 0 m ++ (⟨#[b]⟩ : ByteArray) ++ s.extract m s.size).data.toList = s.data.toList.take m ++ b :: s.data.toList.drop m := by
  rw [ByteArray.data_append, Array.toList_append, ByteArray.data_append, Array.toList_append, extract_take, extract_drop]
  simp
set_option maxRecDepth 100000 in
set_option maxHeartbeats 4000000 in
theorem Blanks_any (s : ByteArray) (at_ : Int) (tab : Bool) (w : World) (hs : s.size ≤ maxLen) (_ : (Lit.int .i64 at_).wf = true) (hE : Env w) : Calls Tryd.prog 8 #[.string s, .int .i64 at_, .bool tab] w fun e w' => e = .returned (.bool true) ∧ Below w.heap.size w w' := by
  have S := Lib.hid (fun w h => shown_any w h)
  have R := Lib.hid (fun s w h1 h2 => read_any s w h1 h2)
  have hsz : s.data.toList.length = s.size := rfl
  go_enter Tryd.func8, Tryd.ntmps8
  go_wp2_with fail
  refine (S.out _ hE).mono ?_
  rintro e w1 ⟨rfl, e1⟩
  have E1 := (hE.kept e1).err
  go_wp2_with fail
  refine (R.out _ _ hs E1).mono ?_
  intro e w2 hp
  rcases hp with ⟨v, toks, hlex, rfl, hown, hb⟩ | ⟨x, hlex, rfl, hb⟩
  · have T := TokS.of_own hown
    have e2 : Below w.heap.size w w2 := e1.trans (hb.mono e1.size)
    clear hb hown
    have hle := ((lexL_ok_iff _ _).1 hlex).1
    rw [hsz] at hle
    have hp1 := (places_law _ _ hlex).1
    rw [hsz] at hp1
    have C := Lib.hid (fun i t b => blank_law _ _ i t b hlex)
    clear hlex
    have TT := Lib.hid T
    obtain ⟨a, cap, rfl, hc, hm, hcells⟩ := T
    have HC := Lib.hid hcells
    have HP1 := Lib.hid hp1
    clear hp1 hcells
    obtain ⟨n, hn⟩ : ∃ n, n = toks.length := ⟨_, rfl⟩
    rw [← hn] at hc HC ⊢
    have HN := Lib.hid hn
    clear hn
    unfold maxLen at hm
    by_cases h0 : n = 0
    · have hn0 : ((n : Int) == 0) = true := by rw [h0]; rfl
      subst h0
      go_wp2
      go_ret
      exact ⟨rfl, e2⟩
    · have hn0 : ((n : Int) == 0) = false := by rw [beq_eq_false_iff_ne]; omega
      by_cases hl : s.size < 65536
      · have hl0 : ¬ (65536 : Int) ≤ s.size := by omega
        have hl0' : decide ((65536 : Int) ≤ s.size) = false := by rw [decide_eq_false_iff_not]; omega
        obtain ⟨g, o, rfl, hg, hcell⟩ := HC.out (by omega)
        obtain ⟨j, hj, hjw⟩ := pick_at at_ n h0 (by omega)
        obtain ⟨t, ht⟩ : ∃ t, toks[j]? = some t := ⟨toks[j]'(by rw [← HN.out]; exact hj), List.getElem?_eq_getElem _⟩
        have hbl : (if tab then 9 else 32 : UInt8) = 32 ∨ (if tab then 9 else 32 : UInt8) = 9 := by cases tab <;> simp
        obtain ⟨m, hm0, hm1, hcut⟩ := C.out j t (if tab then 9 else 32) ht (by rw [hsz]; exact hl) hbl
        rw [hsz] at hm1
        have c1 := (hcell j t ht).2.1
        rw [hm0] at c1
        have hji : (j : Int) < n := by omega
        have hmi : (m : Int) < s.size := by omega
        have hcut' := Lib.hid hcut
        have hmle : m ≤ s.size := by omega
        have hmle2 : (m : Int) ≤ s.size := by omega
        have hmn : ¬ (s.size : Int) < m := by omega
        have hmn2 : ¬ s.size < m := by omega
        clear hcut
        have HL := Lib.hid hl
        have HLE := Lib.hid hle
        clear hl hle hbl
        cases tab
        · go_upto_region 5 with fail
          go_cut [10] from 33 to 43 (fun c wx => c = .int .i64 (m : Int) ∧ wx = w2)
          case first =>
            go_wp2_with fail
            go_meet
            case rel => exact ⟨rfl, rfl⟩
          case rest =>
            obtain ⟨rfl, rfl⟩ := hcut
            clear hjw c1
            clear hl0 hl0' hn0 hji hm
            have h1 : (s.extract 0 m).size = m := by rw [ByteArray.size_extract]; omega
            have h2 : (⟨#[32]⟩ : ByteArray).size = 1 := rfl
            have h3 : (s.extract m s.size).size = s.size - m := by rw [ByteArray.size_extract]; omega
            have hadd1 : ∀ W, (Op.stringOp .add (s.extract 0 m) (⟨#[32]⟩ : ByteArray)).run Tryd.prog W = .ok (.string (s.extract 0 m ++ (⟨#[32]⟩ : ByteArray))) W := fun W => run_string_add_sum W _ _ (by
              rw [h1, h2]; have := HLE.out; omega)
            have hadd2 : ∀ W, (Op.stringOp .add (s.extract 0 m ++ (⟨#[32]⟩ : ByteArray)) (s.extract m s.size)).run Tryd.prog W = .ok (.string (s.extract 0 m ++ (⟨#[32]⟩ : ByteArray) ++ s.extract m s.size)) W := fun W => run_string_add_sum W _ _ (by
              rw [ByteArray.size_append, h1, h2, h3]; have := HLE.out; omega)
            have CR : Calls Tryd.prog 17 #[.string (s.extract 0 m ++ (⟨#[32]⟩ : ByteArray) ++ s.extract m s.size)] wc.drew fun e w' => ∃ a' cap', e = .returned (.tuple #[.slice a' n cap', .bool true]) ∧ TokS w' w'.heap.size (.slice a' n cap') (toks.map (Tok.move m 1)) ∧ Below wc.heap.size wc w' := by
              refine (R.out _ _ (by rw [ByteArray.size_append, ByteArray.size_append, h1, h2, h3]; unfold maxLen; have := HLE.out; omega) (hE.kept (below_draws e2 1)).err).mono ?_
              intro e w' hp
              rw [blank_bytes] at hp
              rcases hp with ⟨v, toks', hlex, rfl, hown, hb⟩ | ⟨x, hlex, _⟩
              · obtain rfl : toks' = toks.map (Tok.move m 1) := by
                  have := hlex.symm.trans hcut'.out
                  injection this
                have TA := TokS.of_own hown
                obtain ⟨a', cap', rfl⟩ := own_form hown
                rw [List.length_map, ← HN.out] at TA ⊢
                exact ⟨a', cap', rfl, TA, (below_draws (Below.refl _ _) 1).trans hb⟩
              · have := hlex.symm.trans hcut'.out
                cases this
            have HCR := Lib.hid CR
            clear CR h1 h2 h3
            go_upto_region 11 with fail
            go_region_with (go_at_call 17; refine HCR.out.mono ?_; rintro e w3 ⟨a', cap', rfl, TA, hb⟩)
            have e3 : Below w.heap.size w w3 := e2.trans (hb.mono e2.size)
            have SM := Lib.hid (Same_true toks _ _ m 1 w3 ((TT.out.below hb).mono hb.size) TA (fun t ht => by have := HP1.out t ht; have := HLE.out; omega) (by omega) (by omega))
            rw [← HN.out] at SM
            clear TA hb
            go_wp2_with fail
            refine SM.out.mono ?_
            rintro e w4 ⟨rfl, hb4⟩
            go_wp2
            go_ret
            exact ⟨rfl, e3.trans (hb4.mono e3.size)⟩
        · go_upto_region 5 with fail
          go_cut [10] from 33 to 43 (fun c wx => c = .int .i64 (m : Int) ∧ wx = w2)
          case first =>
            go_wp2_with fail
            go_meet
            case rel => exact ⟨rfl, rfl⟩
          case rest =>
            obtain ⟨rfl, rfl⟩ := hcut
            clear hjw c1
            clear hl0 hl0' hn0 hji hm
            have h1 : (s.extract 0 m).size = m := by rw [ByteArray.size_extract]; omega
            have h2 : (⟨#[9]⟩ : ByteArray).size = 1 := rfl
            have h3 : (s.extract m s.size).size = s.size - m := by rw [ByteArray.size_extract]; omega
            have hadd1 : ∀ W, (Op.stringOp .add (s.extract 0 m) (⟨#[9]⟩ : ByteArray)).run Tryd.prog W = .ok (.string (s.extract 0 m ++ (⟨#[9]⟩ : ByteArray))) W := fun W => run_string_add_sum W _ _ (by
              rw [h1, h2]; have := HLE.out; omega)
            have hadd2 : ∀ W, (Op.stringOp .add (s.extract 0 m ++ (⟨#[9]⟩ : ByteArray)) (s.extract m s.size)).run Tryd.prog W = .ok (.string (s.extract 0 m ++ (⟨#[9]⟩ : ByteArray) ++ s.extract m s.size)) W := fun W => run_string_add_sum W _ _ (by
              rw [ByteArray.size_append, h1, h2, h3]; have := HLE.out; omega)
            have CR : Calls Tryd.prog 17 #[.string (s.extract 0 m ++ (⟨#[9]⟩ : ByteArray) ++ s.extract m s.size)] wc.drew fun e w' => ∃ a' cap', e = .returned (.tuple #[.slice a' n cap', .bool true]) ∧ TokS w' w'.heap.size (.slice a' n cap') (toks.map (Tok.move m 1)) ∧ Below wc.heap.size wc w' := by
              refine (R.out _ _ (by rw [ByteArray.size_append, ByteArray.size_append, h1, h2, h3]; unfold maxLen; have := HLE.out; omega) (hE.kept (below_draws e2 1)).err).mono ?_
              intro e w' hp
              rw [blank_bytes] at hp
              rcases hp with ⟨v, toks', hlex, rfl, hown, hb⟩ | ⟨x, hlex, _⟩
              · obtain rfl : toks' = toks.map (Tok.move m 1) := by
                  have := hlex.symm.trans hcut'.out
                  injection this
                have TA := TokS.of_own hown
                obtain ⟨a', cap', rfl⟩ := own_form hown
                rw [List.length_map, ← HN.out] at TA ⊢
                exact ⟨a', cap', rfl, TA, (below_draws (Below.refl _ _) 1).trans hb⟩
              · have := hlex.symm.trans hcut'.out
                cases this
            have HCR := Lib.hid CR
            clear CR h1 h2 h3
            go_upto_region 11 with fail
            go_region_with (go_at_call 17; refine HCR.out.mono ?_; rintro e w3 ⟨a', cap', rfl, TA, hb⟩)
            have e3 : Below w.heap.size w w3 := e2.trans (hb.mono e2.size)
            have SM := Lib.hid (Same_true toks _ _ m 1 w3 ((TT.out.below hb).mono hb.size) TA (fun t ht => by have := HP1.out t ht; have := HLE.out; omega) (by omega) (by omega))
            rw [← HN.out] at SM
            clear TA hb
            go_wp2_with fail
            refine SM.out.mono ?_
            rintro e w4 ⟨rfl, hb4⟩
            go_wp2
            go_ret
            exact ⟨rfl, e3.trans (hb4.mono e3.size)⟩
      · have hl0 : (65536 : Int) ≤ s.size := by omega
        clear hl hle hs
        go_wp2
        go_ret
        exact ⟨rfl, e2⟩
  · go_wp2
    go_ret
    exact ⟨rfl, e1.trans (hb.mono e1.size)⟩
end Go.Proofs.YtacpaabhheejdaaDoor
