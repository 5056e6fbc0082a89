/-
  Walk of the document's lexer (windrowref03): Lex. No condition.
-/
import Derived.Test.YtfpneopobbfabaaDoorLexI
namespace Go.Proofs.YtfpneopobbfabaaDoor
open Go.RowKit Go.Shelf Go.Sort

set_option maxRecDepth 100000 in
set_option maxHeartbeats 4000000 in
theorem RLex_any (s : ByteArray) (w : World) (hs : s.size ≤ maxLen) :
    Calls Tryd.prog 26 #[.string s] w (LexPost s.data.toList w) := by
  unfold maxLen at hs
  obtain ⟨i0, hi, hz0, hz1, hz2⟩ := info_parts Tryd.infoTok
  by_cases hbig : 65536 < s.size
  · have hbig2 : (65536 : Int) < s.size := by omega
    go_enter Tryd.func26, Tryd.ntmps26
    go_wp2
    refine bodyPost_ret (v := .tuple #[.slice none 0 0, .agg #[.int .i64 0, .int .i64 30]]) (by simp [results, Tryd.results26, go_sem]) rfl ?_
    exact Or.inr ⟨0, 30, by rw [lexL, ← size_list, if_pos hbig], rfl, (Below.refl _ _).alloc (Nat.le_refl _) _⟩
  · go_enter Tryd.func26, Tryd.ntmps26
    go_wp2
    go_loopw [4, 5] (fun v i wr => ∃ (k : Nat) (acc : List Tok), k ≤ s.size ∧ acc.length ≤ k ∧ i = .int .i64 k ∧ wr.ownsRow (w.heap.size + 1) 64 4 v acc.length (tokCells acc) ∧ Below w.heap.size w wr ∧
        wr.heap[w.heap.size]? = some (.cells #[.int .i64 0, .int .i64 0] 29 (0, 0)) ∧ Rest s.data.toList k acc)
      (fun _ i _ => s.size - (intOf i).toNat)
    case atStart =>
      refine ⟨0, [], Nat.zero_le _, Nat.le_refl _, rfl, World.ownsRow_nil _ _ _ _, (Below.refl _ _).alloc (Nat.le_refl _) _, heap_alloc_new _ _, Rest.start _⟩
    case round =>
      obtain ⟨k, acc, hk, hak, rfl, hown, hbel, hblk, hrest⟩ := hrel
      have HR := Lib.hid hrest
      clear hrest
      by_cases hlt : k < s.size
      · have hlk : k < s.data.toList.length := hlt
        have hlt2 : (k : Int) < s.size := by omega
        by_cases h32 : s[k] = 32 ∨ s[k] = 9
        · have HS := Lib.hid (HR.out.blank hlk h32)
          rcases h32 with h32 | h32
          · have hb : ((s[k].toNat : Int) == 32) = true := by rw [h32]; rfl
            clear h32
            go_wp2
            go_roundw
            case rel => exact ⟨k + 1, acc, by omega, by omega, by go_num, hown, hbel, hblk, HS.out⟩
            case measure => simp [intOf]; omega
          · have hb : ((s[k].toNat : Int) == 32) = false := by rw [h32]; rfl
            have hb2 : ((s[k].toNat : Int) == 9) = true := by rw [h32]; rfl
            clear h32
            go_wp2
            go_roundw
            case rel => exact ⟨k + 1, acc, by omega, by omega, by go_num, hown, hbel, hblk, HS.out⟩
            case measure => simp [intOf]; omega
        · have hb1 : ((s[k].toNat : Int) == 32) = false := byte_ne _ 32 (fun h => h32 (.inl h))
          have hb2 : ((s[k].toNat : Int) == 9) = false := byte_ne _ 9 (fun h => h32 (.inr h))
          have H32 := Lib.hid h32
          clear h32
          by_cases h35 : s[k] = 35
          · have hb3 : ((s[k].toNat : Int) == 35) = true := by rw [h35]; rfl
            have hn1 : 1 ≤ runL noteB (s.data.toList.drop k) := by rw [drop_at _ k hlk, runL_cons, show s.data.toList[k] = 35 from h35]; simp [noteB]
            have HS := Lib.hid (HR.out.note hlk h35)
            have hrl := runL_le noteB (s.data.toList.drop k)
            rw [List.length_drop, ← size_list] at hrl
            have HRN := Lib.hid (fun m h => runL_drop noteB s m h)
            have hdr : runL noteB (s.data.toList.drop s.size) = 0 := by rw [List.drop_of_length_le (by rw [size_list]; exact Nat.le_refl _)]; rfl
            have Hdr := Lib.hid hdr
            clear h35 hdr
            obtain ⟨wo, rfl⟩ : ∃ wo : World, wo = wr := ⟨_, rfl⟩
            go_wp2
            go_loop [5] (fun i => ∃ m : Nat, m ≤ s.size ∧ i = .int .i64 m ∧ k + runL noteB (s.data.toList.drop k) = m + runL noteB (s.data.toList.drop m)) (fun i => s.size - (intOf i).toNat)
            case atStart => exact ⟨k, hk, rfl, rfl⟩
            case round =>
              obtain ⟨m, hm, rfl, hp⟩ := hrel
              have HP := Lib.hid hp
              clear hp
              by_cases hlm : m < s.size
              · have hst := Lib.hid (HRN.out m hlm)
                have hlm2 : (m : Int) < s.size := by omega
                have hd := note_dec s[m]
                rcases Bool.eq_false_or_eq_true (noteB s[m]) with hn | hn
                · rw [hn] at hd
                  have hn' : Hid (noteB s[m] = true) := hn
                  clear hn
                  go_wp2
                  go_round
                  case rel => exact ⟨m + 1, by omega, by go_num, by rw [HP.out, hst.out, if_pos hn'.out]; omega⟩
                  case measure => simp [intOf]; omega
                · rw [hn] at hd
                  have hfin : Hid (k + runL noteB (s.data.toList.drop k) = m) := by
                    apply Lib.hid
                    rw [HP.out, hst.out, if_neg (by rw [hn]; simp)]; rfl
                  clear hn
                  rw [hfin.out] at HS
                  have hkm : k < m := by have := hfin.out; omega
                  go_wp2
                  go_roundw
                  case rel => exact ⟨m, acc, by omega, by omega, rfl, hown, hbel, hblk, HS.out⟩
                  case measure => simp [intOf]; omega
              · obtain rfl : m = s.size := by omega
                have hfin : k + runL noteB (s.data.toList.drop k) = s.size := by rw [HP.out, Hdr.out]; rfl
                rw [hfin] at HS
                have hkm : k < s.size := by omega
                clear hfin
                go_wp2
                go_roundw
                case rel => exact ⟨s.size, acc, by omega, by omega, rfl, hown, hbel, hblk, HS.out⟩
                case measure => simp [intOf]; omega
          · have hb3 : ((s[k].toNat : Int) == 35) = false := byte_ne _ 35 h35
            have hs35 := Lib.hid (show s.data.toList[k] ≠ 35 from h35)
            clear h35
            have hne : s.data.toList.drop k ≠ [] := by rw [drop_at _ k hlk]; simp
            have htl := tokL_len (s.data.toList.drop k) hne
            rw [List.length_drop, ← size_list] at htl
            have hbad := HR.out.bad hlk H32.out hs35.out
            have htok := HR.out.tok hlk H32.out hs35.out
            have hNX : ∀ w, Calls Tryd.prog 43 #[.string s, .int .i64 k] w (NextPost (s.data.toList.drop k) k w) := fun w => Next_any s k w hlt (by omega)
            unfold NextPost nextL at hNX
            have HL := Lib.hid htl
            have HB := Lib.hid hbad
            have HK := Lib.hid htok
            have HT := Lib.hid hNX
            clear htl hbad htok hne hNX
            generalize tokL (s.data.toList.drop k) = r at *
            obtain ⟨⟨kd, pl, wd, nn⟩, n, er⟩ := r
            dsimp only at HL HB HK HT
            by_cases he : er = 0
            · subst he
              obtain ⟨hn1, hn2⟩ := HL.out rfl
              have HK2 := Lib.hid (HK.out rfl)
              rw [if_pos rfl] at HT
              have HT2 : Hid (∀ w, Calls Tryd.prog 43 #[.string s, .int .i64 k] w fun e w' => e = .returned (.tuple #[.agg #[.int .i64 kd, .int .i64 k, .string (mkS wd), .int .i64 nn], .int .i64 ((k + n : Nat) : Int), .int .i64 0]) ∧ Below w.heap.size w w') := HT
              clear HB HL HK HT
              go_wp2_with fail
              refine (HT2.out _).mono ?_
              rintro e w1 ⟨rfl, hb1⟩
              have hown1 : w1.ownsRow (w.heap.size + 1) 64 4 u4 acc.length (tokCells acc) := own_below hown hb1
              have hblk1 : w1.heap[w.heap.size]? = some (.cells #[.int .i64 0, .int .i64 0] 29 (0, 0)) := (hb1.block _ (lt_of_block hblk)).trans hblk
              have hbel1 := hbel.trans (hb1.mono hbel.size)
              clear hb1 hown hblk hbel HT2
              go_wp2_with (at_builtin; refine wpList_append_own _ rfl (.tmp 57) (.tmp 59) 57 rfl (w.heap.size + 1) 64 i0 (.agg #[.int .i64 0, .int .i64 0, .string ⟨#[]⟩, .int .i64 0]) 4 40 Tryd.underlying57 hi hz0 hz1 hz2 rfl (by decide) _ _ _ rfl ((hown1.alloc _).alloc _) ⟨w1.heap.size + 1, 0, none⟩ 1 1 (Tok.cells ⟨kd, k, wd, nn⟩) rfl rfl ?c1 ?c2 ?c3 ?c4 ?c5 ?_)
              case c1 => exact cells4 _ _ _ _ _ _ (by simp)
              case c2 => intro u hu; simp [Tok.cells] at hu; rcases hu with rfl | rfl | rfl | rfl <;> rfl
              case c3 => unfold maxLen; omega
              case c4 => omega
              case c5 => have := hbel1.size; simp; omega
              intro v' w2 hown2 hg2 _
              have hbel2 : Below w.heap.size w w2 := ((hbel1.alloc hbel1.size _).alloc (by have := hbel1.size; simp; omega) _).grown hg2 (by have := hbel1.size; simp; omega) (fun j hj => by have := (hown1.lt j hj).1; omega)
              have hblk2 : w2.heap[w.heap.size]? = some (.cells #[.int .i64 0, .int .i64 0] 29 (0, 0)) := by
                rw [hg2.block w.heap.size (by have := lt_of_block hblk1; simp; omega) (fun e => by have := (hown1.lt _ e.symm).1; omega)]
                rw [Below.heap_alloc _ _ _ (by have := lt_of_block hblk1; simp; omega), Below.heap_alloc _ _ _ (lt_of_block hblk1)]
                exact hblk1
              clear hg2 hown1 hblk1 hbel1
              go_wp2
              go_roundw
              case rel => exact ⟨k + n, acc ++ [⟨kd, k, wd, nn⟩], by omega, by simp; omega, by go_num, by rw [List.length_append, tokCells_append]; exact hown2, hbel2, hblk2, HK2.out⟩
              case measure => simp [intOf]; omega
            · have he' : ((er : Int) != 0) = true := by rw [bne_iff_ne]; omega
              have HB2 := Lib.hid (HB.out he)
              rw [if_neg he] at HT
              have HT2 : Hid (∀ w, Calls Tryd.prog 43 #[.string s, .int .i64 k] w fun e w' => e = .returned (.tuple #[.agg #[.int .i64 0, .int .i64 0, .string ⟨#[]⟩, .int .i64 0], .int .i64 0, .int .i64 er]) ∧ Below w.heap.size w w') := HT
              clear HK HL HB HT
              go_wp2_with fail
              refine (HT2.out _).mono ?_
              rintro e w1 ⟨rfl, hb1⟩
              have hblk1 : w1.heap[w.heap.size]? = some (.cells #[.int .i64 0, .int .i64 0] 29 (0, 0)) := (hb1.block _ (lt_of_block hblk)).trans hblk
              have hbel1 := hbel.trans (hb1.mono hbel.size)
              clear hb1 hown hblk hbel HT2
              have hlb := lt_of_block hblk1
              obtain ⟨hc0, hc1, hf0, hf1⟩ := two_cells hblk1
              go_wp2
              refine bodyPost_ret (v := .tuple #[.slice none 0 0, .agg #[.int .i64 k, .int .i64 er]]) (by simp [results, Tryd.results26, go_sem, World.cell?_alloc_lt, hlb, hc0, hc1]) rfl ?_
              refine Or.inr ⟨k, er, by rw [lexL, ← size_list, if_neg hbig]; exact HB2.out, rfl, ?_⟩
              exact (below_set (below_set hbel1 (Nat.le_refl _) _) (Nat.le_refl _) _).alloc (by have := hbel1.size; simp; omega) _
      · obtain rfl : k = s.size := by omega
        obtain ⟨hc0, hc1, hf0, hf1⟩ := two_cells hblk
        have hlex := HR.out.end_
        have HE := Lib.hid hlex
        clear hlex HR
        go_wp2
        refine bodyPost_ret (v := .tuple #[u4, .agg #[.int .i64 0, .int .i64 0]]) (by simp [results, Tryd.results26, go_sem, hc0, hc1]) rfl ?_
        refine Or.inl ⟨u4, acc, by rw [lexL, ← size_list, if_neg hbig]; exact HE.out, rfl, ?_, ?_⟩
        · exact own_base (ownsRow_setCell_below (ownsRow_setCell_below hown (Nat.lt_succ_self _) _) (Nat.lt_succ_self _) _) (Nat.le_succ _)
        · exact below_set (below_set hbel (Nat.le_refl _) _) (Nat.le_refl _) _
end Go.Proofs.YtfpneopobbfabaaDoor
