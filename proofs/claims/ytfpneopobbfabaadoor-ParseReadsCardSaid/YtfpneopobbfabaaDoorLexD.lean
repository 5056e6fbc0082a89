/-
  Walk of package lex: Lex. Condition: strconv.ErrRange holds an error.
-/
import Derived.Test.YtfpneopobbfabaaDoorLexC
namespace Go.Proofs.YtfpneopobbfabaaDoor
open Go.RowKit Go.Shelf

def Tok.cells (t : Tok) : List Value := [.int .i64 t.kind, .int .i64 t.at_, .string (mkS t.word), .int .i64 t.n]
def tokCells (l : List Tok) : List Value := l.flatMap Tok.cells
theorem Tryd.infoTok : (Tryd.prog.info? 64).map (fun i => (i.zero, i.size, i.bytes)) = some (some (.agg #[.int .i64 0, .int .i64 0, .string ⟨#[]⟩, .int .i64 0]), 4, 40) := by kernel_rfl
/-- What lex.Lex gives: the tokens, in new memory, and no fault; or nothing and the fault. -/
def LexPost (l : List UInt8) (w : World) (e : Ending) (w' : World) : Prop :=
  (∃ v toks, lexL l = .ok toks ∧ e = .returned (.tuple #[v, .agg #[.int .i64 0, .int .i64 0]]) ∧ w'.ownsRow w.heap.size 64 4 v toks.length (tokCells toks) ∧ Below w.heap.size w w') ∨
  (∃ k c : Nat, lexL l = .error (k, c) ∧ e = .returned (.tuple #[.slice none 0 0, .agg #[.int .i64 k, .int .i64 c]]) ∧ Below w.heap.size w w')
theorem own_below {w w' : World} {base e size n : Nat} {v : Value} {xs : List Value} (h : w.ownsRow base e size v n xs) (hb : Below w.heap.size w w') : w'.ownsRow base e size v n xs :=
  h.kept (row := none) ⟨hb.os, hb.tape, hb.output, hb.size, fun k hk _ => hb.block k hk⟩ (by cases v.ownBlock <;> simp)
theorem own_base {w : World} {base base' e size n : Nat} {v : Value} {xs : List Value} (h : w.ownsRow base e size v n xs) (hb : base' ≤ base) : w.ownsRow base' e size v n xs := by
  refine ⟨h.1, ?_⟩
  rcases h.2 with h0 | ⟨g, cap, cur, hv, hg, rest⟩
  · exact .inl h0
  · exact .inr ⟨g, cap, cur, hv, Nat.le_trans hb hg, rest⟩
theorem two_cells {w : World} {b : Nat} {x y : Value} {t : TypeId} (h : w.heap[b]? = some (.cells #[x, y] t (0, 0))) :
    w.cell? ⟨b, 0, none⟩ = some x ∧ w.cell? ⟨b, 1, none⟩ = some y ∧ w.frozen? ⟨b, 0, none⟩ = false ∧ w.frozen? ⟨b, 1, none⟩ = false := by
  simp [World.cell?, World.frozen?, h]
theorem cells4 (w : World) (a b c d : Value) (t : TypeId) {g : Nat} (hg : g = w.heap.size) : ∀ (j : Nat) (u : Value), [a, b, c, d][j]? = some u → (w.alloc (.cells #[a, b, c, d] t)).cell? ((⟨g, 0, none⟩ : Addr).add j) = some u := by
  subst hg
  intro j u hj
  match j, hj with
  | 0, hj => simp at hj; subst hj; simp [Addr.add]
  | 1, hj => simp at hj; subst hj; simp [Addr.add]
  | 2, hj => simp at hj; subst hj; simp [Addr.add]
  | 3, hj => simp at hj; subst hj; simp [Addr.add]
  | j + 4, hj => simp at hj
theorem tokCells_append (l : List Tok) (t : Tok) : tokCells (l ++ [t]) = tokCells l ++ t.cells := by simp [tokCells]
theorem byte_eq (b c : UInt8) (h : (b.toNat : Int) = (c.toNat : Int)) : b = c := UInt8.toNat_inj.1 (by omega)
theorem extract_head (s : ByteArray) (k : Nat) (hk : k < s.data.toList.length) (h : 0 < (s.extract k s.size).size) : (s.extract k s.size)[0]'h = s.data.toList[k] := by
  have hdr : (s.extract k s.size).data.toList = s.data.toList.drop k := by rw [extract_mkS, mkS_toList, size_list, List.take_length]
  rw [get_list _ 0 h, List.getElem_of_eq hdr, List.getElem_drop]
  rfl
set_option maxRecDepth 100000 in
set_option maxHeartbeats 4000000 in
theorem Lex_any (s : ByteArray) (w : World) (hs : s.size ≤ maxLen) (hE : ErrIs w) :
    Calls Tryd.prog 24 #[.string s] w (LexPost s.data.toList w) := by
  unfold maxLen at hs
  obtain ⟨i0, hi, hz0, hz1, hz2⟩ := info_parts Tryd.infoTok
  by_cases hbig : 65536 < s.size
  · go_enter Tryd.func24, Tryd.ntmps24
    go_wp2
    go_step3
    go_wp2
    rw [Exit.noGoto_ret]
    refine bodyPost_ret (v := .tuple #[.slice none 0 0, .agg #[.int .i64 0, .int .i64 30]]) (by simp [results, Tryd.results24, go_sem]) rfl ?_
    exact Or.inr ⟨0, 30, by rw [lexL, ← size_list, if_pos hbig], rfl, (Below.refl _ _).alloc (Nat.le_refl _) _⟩
  · go_enter Tryd.func24, Tryd.ntmps24
    go_wp2
    go_step3
    go_wp2
    go_step3
    go_wp2
    go_outline
    go_loopw [4, 5] (fun v i wr => ∃ (k : Nat) (acc : List Tok), k ≤ s.size ∧ acc.length ≤ k ∧ i = .int .i64 k ∧ wr.ownsRow (w.heap.size + 1) 64 4 v acc.length (tokCells acc) ∧ Below w.heap.size w wr ∧
        wr.heap[w.heap.size]? = some (.cells #[.int .i64 0, .int .i64 0] 29 (0, 0)) ∧ Rest s.data.toList k acc)
      (fun _ i _ => s.size - (intOf i).toNat)
    case atStart =>
      refine ⟨0, [], Nat.zero_le _, Nat.le_refl _, rfl, World.ownsRow_nil _ _ _ _, (Below.refl _ _).alloc (Nat.le_refl _) _, heap_alloc_new _ _, Rest.start _⟩
    case round =>
      obtain ⟨k, acc, hk, hak, rfl, hown, hbel, hblk, hrest⟩ := hrel
      have HR := Lib.hid hrest
      clear hrest
      by_cases hlt : k < s.size
      · have hr0 : 0 < (s.extract k s.size).size := by simp; omega
        have hlk : k < s.data.toList.length := hlt
        have hg := extract_head s k hlk hr0
        have hsz : (s.extract k s.size).size = s.size - k := by simp
        have hdr : (s.extract k s.size).data.toList = s.data.toList.drop k := by rw [extract_mkS, mkS_toList, size_list, List.take_length]
        have hrun := run_note (s.extract k s.size)
        have htk := token_any (s.extract k s.size)
        rw [hdr] at hrun htk
        have hrl := runL_le noteB (s.data.toList.drop k)
        rw [List.length_drop, ← size_list] at hrl
        have HG := Lib.hid hg
        have HN := Lib.hid hrun
        have HT := Lib.hid htk
        clear hg hdr hrun htk
        have hEr : ErrIs wr := hE.kept hbel
        by_cases h32 : (((s.extract k s.size)[0]'hr0).toNat : Int) = 32
        · have hb : ((((s.extract k s.size)[0]'hr0).toNat : Int) == 32) = true := by rw [h32]; rfl
          have hs32 : s.data.toList[k] = 32 := by rw [← HG.out]; exact byte_eq _ 32 h32
          have HS := Lib.hid hs32
          clear hs32 h32
          go_wp2
          go_roundw
          case rel => exact ⟨k + 1, acc, by omega, by omega, by go_num, hown, hbel, hblk, HR.out.blank hlk (.inl HS.out)⟩
          case measure => simp [intOf]; omega
        · have hb : ((((s.extract k s.size)[0]'hr0).toNat : Int) == 32) = false := by rw [beq_eq_false_iff_ne]; exact h32
          by_cases h9 : (((s.extract k s.size)[0]'hr0).toNat : Int) = 9
          · have hb9 : ((((s.extract k s.size)[0]'hr0).toNat : Int) == 9) = true := by rw [h9]; rfl
            have hs9 : s.data.toList[k] = 9 := by rw [← HG.out]; exact byte_eq _ 9 h9
            have HS := Lib.hid hs9
            clear hs9 h9 h32
            go_wp2
            go_roundw
            case rel => exact ⟨k + 1, acc, by omega, by omega, by go_num, hown, hbel, hblk, HR.out.blank hlk (.inr HS.out)⟩
            case measure => simp [intOf]; omega
          · have hb9 : ((((s.extract k s.size)[0]'hr0).toNat : Int) == 9) = false := by rw [beq_eq_false_iff_ne]; exact h9
            have hs1 : Hid (¬ (s.data.toList[k] = 32 ∨ s.data.toList[k] = 9)) := by
              apply Lib.hid
              rw [← HG.out]
              rintro (h | h)
              · exact h32 (by rw [h]; rfl)
              · exact h9 (by rw [h]; rfl)
            clear h32 h9
            by_cases h35 : (((s.extract k s.size)[0]'hr0).toNat : Int) = 35
            · have hb35 : ((((s.extract k s.size)[0]'hr0).toNat : Int) == 35) = true := by rw [h35]; rfl
              have hs35 : s.data.toList[k] = 35 := by rw [← HG.out]; exact byte_eq _ 35 h35
              have hn1 : 1 ≤ runL noteB (s.data.toList.drop k) := by rw [drop_at _ k hlk, runL_cons, hs35]; simp [noteB]
              have HS := Lib.hid (HR.out.note hlk hs35)
              clear hs35 h35
              generalize runL noteB (s.data.toList.drop k) = n at *
              go_wp2_with fail
              refine (HN.out _ (by unfold maxLen; omega)).mono ?_
              rintro e w1 ⟨rfl, rfl⟩
              go_wp2
              go_roundw
              case rel => exact ⟨k + n, acc, by omega, by omega, by go_num, hown, hbel, hblk, HS.out⟩
              case measure => simp [intOf]; omega
            · have hb35 : ((((s.extract k s.size)[0]'hr0).toNat : Int) == 35) = false := by rw [beq_eq_false_iff_ne]; exact h35
              have hs35 : Hid (s.data.toList[k] ≠ 35) := by
                apply Lib.hid
                rw [← HG.out]
                intro h
                exact h35 (by rw [h]; rfl)
              clear h35
              have hne : s.data.toList.drop k ≠ [] := by rw [drop_at _ k hlk]; simp
              have htl := tokL_len (s.data.toList.drop k) hne
              rw [List.length_drop, ← size_list] at htl
              have hbad := HR.out.bad hlk hs1.out hs35.out
              have htok := HR.out.tok hlk hs1.out hs35.out
              have HL := Lib.hid htl
              have HB := Lib.hid hbad
              have HK := Lib.hid htok
              clear htl hbad htok hne
              generalize tokL (s.data.toList.drop k) = r at *
              obtain ⟨⟨kd, pl, wd, nn⟩, n, er⟩ := r
              unfold Tok.val at HT
              dsimp only at HL HB HK HT
              by_cases he : er = 0
              · subst he
                obtain ⟨hn1, hn2⟩ := HL.out rfl
                have HK2 := Lib.hid (HK.out rfl)
                clear HB HL HN hrl HK
                go_wp2_with fail
                refine (HT.out _ hr0 (by omega) hEr).mono ?_
                rintro e w1 ⟨rfl, hb1⟩
                have hown1 : w1.ownsRow (w.heap.size + 1) 64 4 u4 acc.length (tokCells acc) := own_below hown hb1
                have hblk1 : w1.heap[w.heap.size]? = some (.cells #[.int .i64 0, .int .i64 0] 29 (0, 0)) := (hb1.block _ (lt_of_block hblk)).trans hblk
                have hbel1 := hbel.trans (hb1.mono hbel.size)
                clear hb1 hown hblk hbel hEr HT
                go_wp2_with (at_builtin; refine wpList_append_own _ rfl (.tmp 53) (.tmp 55) 57 rfl (w.heap.size + 1) 64 i0 (.agg #[.int .i64 0, .int .i64 0, .string ⟨#[]⟩, .int .i64 0]) 4 40 Tryd.underlying57 hi hz0 hz1 hz2 rfl (by decide) _ _ _ rfl ((hown1.alloc _).alloc _) ⟨w1.heap.size + 1, 0, none⟩ 1 1 (Tok.cells ⟨kd, k, wd, nn⟩) rfl rfl ?c1 ?c2 ?c3 ?c4 ?c5 ?_)
                case c1 => exact cells4 _ _ _ _ _ _ (by simp)
                case c2 => intro u hu; simp [Tok.cells] at hu; rcases hu with rfl | rfl | rfl | rfl <;> rfl
                case c3 => unfold maxLen; omega
                case c4 => omega
                case c5 => have := hbel1.size; simp; omega
                intro v' w2 hown2 hg2 _
                have hbel2 : Below w.heap.size w w2 := ((hbel1.alloc hbel1.size _).alloc (by have := hbel1.size; simp; omega) _).grown hg2 (by have := hbel1.size; simp; omega) (fun j hj => by have := (hown1.lt j hj).1; omega)
                have hblk2 : w2.heap[w.heap.size]? = some (.cells #[.int .i64 0, .int .i64 0] 29 (0, 0)) := by
                  rw [hg2.block w.heap.size (by have := lt_of_block hblk1; simp; omega) (fun e => by have := (hown1.lt _ e.symm).1; omega)]
                  rw [Below.heap_alloc _ _ _ (by have := lt_of_block hblk1; simp; omega), Below.heap_alloc _ _ _ (lt_of_block hblk1)]
                  exact hblk1
                clear hg2 hown1 hblk1 hbel1
                go_wp2
                go_roundw
                case rel => exact ⟨k + n, acc ++ [⟨kd, k, wd, nn⟩], by omega, by simp; omega, by go_num, by rw [List.length_append, tokCells_append]; exact hown2, hbel2, hblk2, HK2.out⟩
                case measure => simp [intOf]; omega
              · have he' : ((er : Int) != 0) = true := by rw [bne_iff_ne]; omega
                have HB2 := Lib.hid (HB.out he)
                clear HK HL HN hrl HB
                go_wp2_with fail
                refine (HT.out _ hr0 (by omega) hEr).mono ?_
                rintro e w1 ⟨rfl, hb1⟩
                have hblk1 : w1.heap[w.heap.size]? = some (.cells #[.int .i64 0, .int .i64 0] 29 (0, 0)) := (hb1.block _ (lt_of_block hblk)).trans hblk
                have hbel1 := hbel.trans (hb1.mono hbel.size)
                clear hb1 hown hblk hbel hEr HT
                have hlb := lt_of_block hblk1
                obtain ⟨hc0, hc1, hf0, hf1⟩ := two_cells hblk1
                go_wp2
                rw [Exit.noGoto_ret]
                refine bodyPost_ret (v := .tuple #[.slice none 0 0, .agg #[.int .i64 k, .int .i64 er]]) (by simp [results, Tryd.results24, go_sem, World.cell?_alloc_lt, hlb, hc0, hc1]) rfl ?_
                refine Or.inr ⟨k, er, by rw [lexL, ← size_list, if_neg hbig]; exact HB2.out, rfl, ?_⟩
                exact (below_set (below_set hbel1 (Nat.le_refl _) _) (Nat.le_refl _) _).alloc (by have := hbel1.size; simp; omega) _
      · obtain rfl : k = s.size := by omega
        obtain ⟨hc0, hc1, hf0, hf1⟩ := two_cells hblk
        have hlex := HR.out.end_
        have HE := Lib.hid hlex
        clear hlex HR
        go_wp2
        rw [Exit.noGoto_ret]
        refine bodyPost_ret (v := .tuple #[u4, .agg #[.int .i64 0, .int .i64 0]]) (by simp [results, Tryd.results24, go_sem, hc0, hc1]) rfl ?_
        refine Or.inl ⟨u4, acc, by rw [lexL, ← size_list, if_neg hbig]; exact HE.out, rfl, ?_, ?_⟩
        · exact own_base (ownsRow_setCell_below (ownsRow_setCell_below hown (Nat.lt_succ_self _) _) (Nat.lt_succ_self _) _) (Nat.le_succ _)
        · exact below_set (below_set hbel (Nat.le_refl _) _) (Nat.le_refl _) _
end Go.Proofs.YtfpneopobbfabaaDoor
