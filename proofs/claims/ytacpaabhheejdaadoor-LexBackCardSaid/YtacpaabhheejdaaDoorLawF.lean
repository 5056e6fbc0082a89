/-
  Walk of the law LexNotes. Condition: Go's own variables hold what their initialisers lay.
-/
import Derived.Test.YtacpaabhheejdaaDoorLawC
import Derived.Test.YtacpaabhheejdaaDoorBytes
namespace Go.Proofs.YtacpaabhheejdaaDoor
open Go.RowKit Go.Shelf Go.Sort

theorem filter_step (l : List UInt8) (k : Nat) (h : k < l.length) : (l.take (k + 1)).filter noteB = (l.take k).filter noteB ++ if noteB l[k] then [l[k]] else [] := by
  rw [List.take_succ_eq_append_getElem h, List.filter_append]
  congr 1
  by_cases hb : noteB l[k] = true <;> simp [hb]
theorem notes_len (s t : List UInt8) (k : Nat) : (s ++ 32 :: 35 :: (t.take k).filter noteB).length ≤ s.length + 2 + k := by
  have h1 := List.length_filter_le noteB (t.take k)
  have h2 := List.length_take_le k t
  rw [List.length_append, List.length_cons, List.length_cons]
  omega
theorem Tryd.infoU8 : (Tryd.prog.info? 5).map (fun i => (i.zero, i.size, i.bytes)) = some (some (.int .u8 0), 1, 1) := by kernel_rfl
set_option maxRecDepth 100000 in
set_option maxHeartbeats 4000000 in
theorem Notes_any (s t : ByteArray) (w : World) (hs : s.size ≤ maxLen) (_ : t.size ≤ maxLen) (hE : Env w) : Calls Tryd.prog 10 #[.string s, .string t] w fun e w' => e = .returned (.bool true) ∧ Below w.heap.size w w' := by
  have S := Lib.hid (fun w h => shown_any w h)
  have R := Lib.hid (fun s w h1 h2 => read_any s w h1 h2)
  have hsz : s.data.toList.length = s.size := rfl
  obtain ⟨i0, hi, hz0, hz1, hz2⟩ := info_parts Tryd.infoU8

  go_enter Tryd.func10, Tryd.ntmps10
  go_wp2_with fail
  refine (S.out _ hE).mono ?_
  rintro e w1 ⟨rfl, e1⟩
  have E1 := (hE.kept e1).err
  go_wp2_with fail
  refine (R.out _ _ hs E1).mono ?_
  intro e w2 hp
  rcases hp with ⟨v, toks, hlex, rfl, hown, hb⟩ | ⟨x, hlex, rfl, hb⟩
  · have T := TokS.of_own hown
    have e2 : Below w.heap.size w w2 := e1.trans (hb.mono e1.size)
    obtain ⟨a, cap, rfl⟩ := own_form hown
    clear hb hown
    have hle := ((lexL_ok_iff _ _).1 hlex).1
    rw [hsz] at hle
    have hp1 := (places_law _ _ hlex).1
    rw [hsz] at hp1
    have C := Lib.hid (fun note => note_law _ note _ hlex)
    obtain ⟨n, hn⟩ : ∃ n, n = toks.length := ⟨_, rfl⟩
    rw [← hn] at T ⊢
    have HN := Lib.hid hn
    have TT := Lib.hid T
    have HP1 := Lib.hid hp1
    clear hlex hp1 hn T
    by_cases hl : s.size ≤ 63536
    · have hl0 : decide ((63536 : Int) < s.size) = false := by rw [decide_eq_false_iff_not]; omega
      have hl1 : ¬ (63536 : Int) < s.size := by omega
      have HL := Lib.hid hl
      clear hl hle
      have h2 : (s ++ (⟨#[32, 35]⟩ : ByteArray)).size ≤ maxLen := by
        rw [ByteArray.size_append, show (⟨#[32, 35]⟩ : ByteArray).size = 2 from rfl]; unfold maxLen; have := HL.out; omega
      have h3 : (s ++ (⟨#[32, 35]⟩ : ByteArray)).data.toList = s.data.toList ++ [32, 35] := by rw [ByteArray.data_append, Array.toList_append]
      go_wp2_with (refine wpList_bytes_rowS _ rfl _ _ _ rfl 5 (s ++ (⟨#[32, 35]⟩ : ByteArray)) Tryd.underlying9 Tryd.underlying36 Tryd.underlying5 rfl h2 ?_; intro v3 w3 hrow hb3)
      rw [h3] at hrow
      clear h2 h3
      obtain ⟨wo, rfl⟩ : ∃ wo : World, wo = w3 := ⟨_, rfl⟩
      go_loopw [8, 9] (fun v i wr => ∃ k : Nat, k ≤ t.size ∧ k ≤ 1000 ∧ i = .int .i64 k ∧ RowS wr w2.heap.size v ((s.data.toList ++ 32 :: 35 :: (t.data.toList.take k).filter noteB).map byteV) ∧ Below w2.heap.size w2 wr) (fun _ i _ => t.size - (intOf i).toNat)
      case atStart => exact ⟨0, Nat.zero_le _, Nat.zero_le _, rfl, by simpa using hrow, hb3⟩
      case round =>
        obtain ⟨k, hk, hk1, rfl, hrow, hbel⟩ := hrel
        have HE := Lib.hid (hE.kept (e2.trans (hbel.mono e2.size))).err
        by_cases hlt : k < t.size
        · by_cases hlk : k < 1000
          · have hkl : k < t.data.toList.length := hlt
            have hst := Lib.hid (filter_step t.data.toList k hkl)
            have hnl := notes_len s.data.toList t.data.toList k
            have hlk2 : decide (k < 1000) = true := by rw [decide_eq_true_iff]; exact hlk
            have hlk3 : (k : Int) < 1000 := by omega
            rw [hsz] at hnl
            have hd := note_dec t[k]
            rcases Bool.eq_false_or_eq_true (noteB t[k]) with hn | hn
            · rw [hn] at hd
              have hn' : Hid (noteB t.data.toList[k] = true) := hn
              clear hn
              have HL2 := HL.out
              have h1 : ((s.data.toList ++ 32 :: 35 :: (t.data.toList.take k).filter noteB).map byteV).length + 1 ≤ 100000 := by rw [List.length_map]; omega
              have HL3 := Lib.hid h1
              clear h1 HL2 hnl
              go_wp2_with (at_builtin; refine wpList_append_rowS _ rfl _ _ 36 rfl 5 i0 (.int .u8 0) 1 Tryd.underlying36 hi hz0 hz1 hz2 rfl rfl (hrow.alloc _) ⟨wr.heap.size, 0, none⟩ 1 1 [byteV t[k]] rfl rfl ?c1 ?c2 ?c3 ?c4 ?c5 ?_)
              case c1 => intro j u hj; match j, hj with | 0, hj => (simp at hj; subst hj; simp [Addr.add, byteV]) | j + 1, hj => simp at hj
              case c2 => intro u hu; simp at hu; subst hu; rfl
              case c3 => have := HL3.out; unfold maxLen; omega
              case c4 => have := HL3.out; omega
              case c5 => have := hbel.size; simp; omega
              intro v4 w4 hrow4 hb4
              go_wp2
              go_roundw
              case rel => exact ⟨k + 1, by omega, by omega, by go_num, by rw [hst.out, if_pos hn'.out]; rw [show byteV t[k] = byteV t.data.toList[k] from rfl] at hrow4; simpa using hrow4, (hbel.alloc hbel.size _).trans hb4⟩
              case measure => simp [intOf]; omega
            · rw [hn] at hd
              have hn' : Hid (¬ noteB t.data.toList[k] = true) := fun h => by rw [show noteB t.data.toList[k] = false from hn] at h; cases h
              clear hn
              clear hnl
              go_wp2
              go_roundw
              case rel => exact ⟨k + 1, by omega, by omega, by go_num, by rw [hst.out, if_neg hn'.out, List.append_nil]; exact hrow, hbel⟩
              case measure => simp [intOf]; omega
          · have hlk2 : decide (k < 1000) = false := by rw [decide_eq_false_iff_not]; exact hlk
            have hlk3 : ¬ (k : Int) < 1000 := by omega
            have CR : Calls Tryd.prog 17 #[.string (mkS (s.data.toList ++ 32 :: 35 :: (t.data.toList.take k).filter noteB))] wr fun e w' => ∃ a' cap', e = .returned (.tuple #[.slice a' n cap', .bool true]) ∧ TokS w' w'.heap.size (.slice a' n cap') toks ∧ Below wr.heap.size wr w' := by
              have hnl := notes_len s.data.toList t.data.toList k
              rw [hsz] at hnl
              have := HL.out
              refine (R.out _ _ (by rw [mkS_size]; unfold maxLen; omega) HE.out).mono ?_
              intro e w' hp
              rw [mkS_toList] at hp
              have hok := C.out ((t.data.toList.take k).filter noteB) (fun c hc => (List.mem_filter.1 hc).2) (by rw [hsz]; have := List.length_filter_le noteB (t.data.toList.take k); have := List.length_take_le k t.data.toList; omega)
              rcases hp with ⟨v, toks', hlex, rfl, hown, hb⟩ | ⟨x, hlex, _⟩
              · obtain rfl : toks' = toks := by
                  have := hlex.symm.trans hok
                  injection this
                have TA := TokS.of_own hown
                obtain ⟨a', cap', rfl⟩ := own_form hown
                rw [← HN.out] at TA ⊢
                exact ⟨a', cap', rfl, TA, hb⟩
              · have := hlex.symm.trans hok
                cases this
            have HCR := Lib.hid CR
            clear CR
            go_wp2_with (refine wpList_string_rowS _ rfl _ _ _ rfl 5 hrow Tryd.underlying36 Tryd.underlying5 Tryd.underlying9 rfl ?_)
            refine HCR.out.mono ?_
            rintro e w5 ⟨a', cap', rfl, TA, hb5⟩
            have e5 : Below w.heap.size w w5 := e2.trans ((hbel.trans (hb5.mono hbel.size)).mono e2.size)
            have SM := Lib.hid (Same_true toks _ _ 0 0 w5 (((TT.out.below hbel).mono hbel.size).below hb5 |>.mono hb5.size) (by rw [move_zero]; exact TA) (fun t ht => by have := HP1.out t ht; have := HL.out; omega) (by omega) (by omega))
            clear TA hb5
            go_wp2_with fail
            refine SM.out.mono ?_
            rintro e w6 ⟨rfl, hb6⟩
            go_wp2
            go_ret
            exact ⟨rfl, e5.trans (hb6.mono e5.size)⟩
        · have hlt2 : ¬ (k : Int) < t.size := by omega
          have CR : Calls Tryd.prog 17 #[.string (mkS (s.data.toList ++ 32 :: 35 :: (t.data.toList.take k).filter noteB))] wr fun e w' => ∃ a' cap', e = .returned (.tuple #[.slice a' n cap', .bool true]) ∧ TokS w' w'.heap.size (.slice a' n cap') toks ∧ Below wr.heap.size wr w' := by
            have hnl := notes_len s.data.toList t.data.toList k
            rw [hsz] at hnl
            have := HL.out
            refine (R.out _ _ (by rw [mkS_size]; unfold maxLen; omega) HE.out).mono ?_
            intro e w' hp
            rw [mkS_toList] at hp
            have hok := C.out ((t.data.toList.take k).filter noteB) (fun c hc => (List.mem_filter.1 hc).2) (by rw [hsz]; have := List.length_filter_le noteB (t.data.toList.take k); have := List.length_take_le k t.data.toList; omega)
            rcases hp with ⟨v, toks', hlex, rfl, hown, hb⟩ | ⟨x, hlex, _⟩
            · obtain rfl : toks' = toks := by
                have := hlex.symm.trans hok
                injection this
              have TA := TokS.of_own hown
              obtain ⟨a', cap', rfl⟩ := own_form hown
              rw [← HN.out] at TA ⊢
              exact ⟨a', cap', rfl, TA, hb⟩
            · have := hlex.symm.trans hok
              cases this
          have HCR := Lib.hid CR
          clear CR
          go_wp2_with (refine wpList_string_rowS _ rfl _ _ _ rfl 5 hrow Tryd.underlying36 Tryd.underlying5 Tryd.underlying9 rfl ?_)
          refine HCR.out.mono ?_
          rintro e w5 ⟨a', cap', rfl, TA, hb5⟩
          have e5 : Below w.heap.size w w5 := e2.trans ((hbel.trans (hb5.mono hbel.size)).mono e2.size)
          have SM := Lib.hid (Same_true toks _ _ 0 0 w5 (((TT.out.below hbel).mono hbel.size).below hb5 |>.mono hb5.size) (by rw [move_zero]; exact TA) (fun t ht => by have := HP1.out t ht; have := HL.out; omega) (by omega) (by omega))
          clear TA hb5
          go_wp2_with fail
          refine SM.out.mono ?_
          rintro e w6 ⟨rfl, hb6⟩
          go_wp2
          go_ret
          exact ⟨rfl, e5.trans (hb6.mono e5.size)⟩
    · have hl0 : decide ((63536 : Int) < s.size) = true := by rw [decide_eq_true_iff]; omega
      have hl1 : (63536 : Int) < s.size := by omega
      clear hl hle
      go_wp2
      go_ret
      exact ⟨rfl, e2⟩
  · go_wp2
    go_ret
    exact ⟨rfl, e1.trans (hb.mono e1.size)⟩
end Go.Proofs.YtacpaabhheejdaaDoor
