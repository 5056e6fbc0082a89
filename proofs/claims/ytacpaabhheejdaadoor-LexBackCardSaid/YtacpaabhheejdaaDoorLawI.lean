/-
  Walk of the law LexBack. Condition: Go's own variables hold what their initialisers lay; the tokens' numbers are such, their texts no longer than a string may be.
-/
import Derived.Test.YtacpaabhheejdaaDoorLawF
import Derived.Test.YtacpaabhheejdaaDoorLawQ
namespace Go.Proofs.YtacpaabhheejdaaDoor
open Go.RowKit Go.Shelf Go.Sort

theorem own_apart {w : World} {b b' e e' size size' n n' : Nat} {v v' : Value} {xs xs' : List Value} (h : w.ownsRow b e size v n xs) (h' : w.ownsRow b' e' size' v' n' xs') (he : e ≠ e') : v.ownBlock = none ∨ v.ownBlock ≠ v'.ownBlock := by
  rcases h.2 with ⟨rfl, _⟩ | ⟨g, cap, cur, rfl, _, hg, _⟩
  · exact .inl rfl
  · rcases h'.2 with ⟨rfl, _⟩ | ⟨g', cap', cur', rfl, _, hg', _⟩
    · right; simp [Value.ownBlock]
    · right
      intro e1
      have : g = g' := by simpa [Value.ownBlock] using e1
      subst this
      rw [hg] at hg'
      injection hg' with h1
      injection h1 with _ h2 _
      exact he h2
theorem spell_len (t : Tok) : (spellP t).1.length ≤ 24 := by
  unfold spellP
  split
  · split
    · simp
    · split
      · dsimp only; omega
      · simp
  · simp
def Tok.put (t : Tok) (k : Nat) : Tok := { t with at_ := k }
set_option maxRecDepth 100000 in
set_option maxHeartbeats 4000000 in
theorem Back_any (v : Value) (toks : List Tok) (w : World) (hT : TokS w w.heap.size v toks) (hok : ∀ t ∈ toks, t.ok) (hE : Env w) :
    Calls Tryd.prog 5 #[v] w fun e w' => e = .returned (.bool true) ∧ Below w.heap.size w w' := by
  have S := Lib.hid (fun w h => shown_any w h)
  have R := Lib.hid (fun s w h1 h2 => read_any s w h1 h2)
  have A := Lib.hid (fun t w h ht => Spell_any t w h ht)
  obtain ⟨i0, hi, hz0, hz1, hz2⟩ := info_parts Tryd.infoU8
  obtain ⟨j0, gi, gz0, gz1, gz2⟩ := info_parts Tryd.infoTok
  obtain ⟨a, cap, rfl, hc, hm, hcells⟩ := hT
  have HC := Lib.hid hcells
  have HO := Lib.hid hok
  clear hcells hok
  obtain ⟨n, hn⟩ : ∃ n, n = toks.length := ⟨_, rfl⟩
  rw [← hn] at hc HC ⊢
  have HN := Lib.hid hn
  clear hn
  unfold maxLen at hm
  go_enter Tryd.func5, Tryd.ntmps5
  go_wp2_with fail
  refine (S.out _ hE).mono ?_
  rintro e w1 ⟨rfl, e1⟩
  go_wp2
  go_loopw [4, 5, 6] (fun s q i wr => ∃ (k : Nat) (l : List UInt8) (acc : List Tok), k ≤ n ∧ k ≤ 1000 ∧ i = .int .i64 k ∧ l.length ≤ 25 * k ∧ acc.length ≤ k ∧ wr.ownsRow w1.heap.size 5 1 s l.length (l.map byteV) ∧
      wr.ownsRow w1.heap.size 32 4 q acc.length (tokCells acc) ∧ Below w1.heap.size w1 wr ∧ Said l acc) (fun _ _ i _ => n - (intOf i).toNat)
  case atStart => exact ⟨0, [], [], Nat.zero_le _, Nat.zero_le _, rfl, Nat.le_refl _, Nat.le_refl _, World.ownsRow_nil _ _ _ _, World.ownsRow_nil _ _ _ _, Below.refl _ _, Said.nil⟩
  case round =>
    obtain ⟨k, l, acc, hk, hk1, rfl, hll, hal, hs, hq, hbel, hsaid⟩ := hrel
    have HSD := Lib.hid hsaid
    clear hsaid
    have er : Below w.heap.size w wr := e1.trans (hbel.mono e1.size)
    by_cases hlt : k < n
    · by_cases hlk : k < 1000
      · have hlk2 : decide (k < 1000) = true := by rw [decide_eq_true_iff]; exact hlk
        have hlk3 : (k : Int) < 1000 := by omega
        have hlt2 : (k : Int) < n := by omega
        obtain ⟨g, o, rfl, hg, hcell⟩ := HC.out (by omega)
        obtain ⟨t, ht⟩ : ∃ t, toks[k]? = some t := ⟨toks[k]'(by rw [← HN.out]; exact hlt), List.getElem?_eq_getElem _⟩
        obtain ⟨c0, c1, c2, c3⟩ := hcell k t ht
        have htok := HO.out t (List.mem_of_getElem? ht)
        have k0 := (er.cell (p := ⟨g, _, none⟩) hg).trans c0
        have k1 := (er.cell (p := ⟨g, _, none⟩) hg).trans c1
        have k2 := (er.cell (p := ⟨g, _, none⟩) hg).trans c2
        have k3 := (er.cell (p := ⟨g, _, none⟩) hg).trans c3
        have hgw : g < wr.heap.size := by have := er.size; omega
        clear hcell ht c0 c1 c2 c3
        have hst := fun h => HSD.out.step t htok.1 htok.2.1 h
        have hnt := spell_no_text t
        have hln := spell_len t
        have HST := Lib.hid hst
        have HSP := Lib.hid (A.out t wr (hE.kept er) htok)
        clear htok hst
        unfold SpellPost at HSP
        obtain ⟨⟨tx, is⟩, hr⟩ : ∃ r, spellP t = r := ⟨_, rfl⟩
        rw [hr] at HSP HST hnt hln
        clear hr
        obtain ⟨kd, pl, wd, nn⟩ := t
        unfold Tok.val at HSP
        dsimp only at *
        cases is
        · obtain rfl : tx = [] := hnt rfl
          have HSP2 : Hid (Calls Tryd.prog 15 #[.agg #[.int .i64 kd, .int .i64 pl, .string (mkS wd), .int .i64 nn]] wr fun e w' => e = .returned (.tuple #[.string ⟨#[]⟩, .bool false]) ∧ Below wr.heap.size wr w') := HSP
          clear HSP HST hnt hln
          go_wp2_with fail
          refine HSP2.out.mono ?_
          rintro e w2 ⟨rfl, hb⟩
          have hs2 := own_below hs hb
          have hq2 := own_below hq hb
          have hb2 : Below w1.heap.size w1 w2 := hbel.trans (hb.mono hbel.size)
          clear hs hq hb k0 k1 k2 k3
          go_wp2
          go_roundw
          case rel => exact ⟨k + 1, l, acc, by omega, by omega, by go_num, by omega, by omega, hs2, hq2, hb2, HSD.out⟩
          case measure => simp [intOf]; omega
        · have hsz : (mkS tx).size = tx.length := mkS_size tx
          generalize hM : mkS tx = M at *
          have HM := Lib.hid hM
          have HZ := Lib.hid hsz
          have hM2 : M.size ≤ 24 := by omega
          have hM3 : ¬ (100 : Int) < M.size := by omega
          have hM4 : decide ((100 : Int) < M.size) = false := by rw [decide_eq_false_iff_not]; exact hM3
          have HST2 := Lib.hid (HST.out rfl)
          clear hM hsz hnt HST
          go_wp2_with fail
          refine HSP.out.mono ?_
          rintro e w2 ⟨rfl, hb⟩
          have hs2 := own_below hs hb
          have hq2 := own_below hq hb
          have hb2 : Below w1.heap.size w1 w2 := hbel.trans (hb.mono hbel.size)
          have q0 := (hb.cell (p := ⟨g, _, none⟩) hgw).trans k0
          have q1 := (hb.cell (p := ⟨g, _, none⟩) hgw).trans k1
          have q2 := (hb.cell (p := ⟨g, _, none⟩) hgw).trans k2
          have q3 := (hb.cell (p := ⟨g, _, none⟩) hgw).trans k3
          have hg2 : g < w2.heap.size := Nat.lt_of_lt_of_le hgw hb.size
          clear hs hq hb k0 k1 k2 k3
          obtain ⟨sa, sc, rfl⟩ := own_form hs2
          go_wp2_with (at_builtin; refine wpList_append_own _ rfl (.tmp 50) (.tmp 52) 23 rfl w1.heap.size 32 j0 (.agg #[.int .i64 0, .int .i64 0, .string ⟨#[]⟩, .int .i64 0]) 4 40 Tryd.underlying23 gi gz0 gz1 gz2 rfl (by decide) _ _ _ rfl ((hq2.alloc _).alloc _) ⟨w2.heap.size + 1, 0, none⟩ 1 1 (Tok.cells (Tok.put ⟨kd, pl, wd, nn⟩ l.length)) rfl rfl ?c1 ?c2 ?c3 ?c4 ?c5 ?_)
          case c1 => exact cells4 _ _ _ _ _ _ (by simp)
          case c2 => intro u hu; simp [Tok.cells, Tok.put] at hu; rcases hu with rfl | rfl | rfl | rfl <;> rfl
          case c3 => unfold maxLen; omega
          case c4 => omega
          case c5 => have := hb2.size; simp; omega
          intro q' w3 hq3 hg3 _
          have hs3 : w3.ownsRow w1.heap.size 5 1 (.slice sa l.length sc) l.length (l.map byteV) := ((hs2.alloc _).alloc _).kept hg3 (own_apart hs2 hq2 (by decide))
          have hb3 : Below w1.heap.size w1 w3 := ((hb2.alloc hb2.size _).alloc (by have := hb2.size; simp; omega) _).grown hg3 (by have := hb2.size; simp; omega) (fun j hj => (hq2.lt j hj).1)
          clear hg3 hs2 hq2 hb2 q0 q1 q2 q3
          go_wp2_with (at_builtin; refine Lib.wpList_append_own_string _ rfl (.tmp 54) (.tmp 55) 36 9 rfl w1.heap.size 5 i0 Tryd.underlying36 Tryd.underlying9 hi hz0 hz1 hz2 _ _ _ rfl hs3 M rfl ?c6 ?c7 ?c8 ?_)
          case c6 => unfold maxLen; omega
          case c7 => omega
          case c8 => exact hb3.size
          intro s4 w4 hs4 hg4 _
          have hq4 : w4.ownsRow w1.heap.size 32 4 q' (acc.length + 1) (tokCells acc ++ Tok.cells (Tok.put ⟨kd, pl, wd, nn⟩ l.length)) := hq3.kept hg4 (own_apart hq3 hs3 (by decide))
          have hb4 : Below w1.heap.size w1 w4 := hb3.grown hg4 hb3.size (fun j hj => (hs3.lt j hj).1)
          clear hg4 hs3 hq3 hb3
          go_wp2_with (at_builtin; refine wpList_append_own _ rfl (.tmp 57) (.tmp 58) 36 rfl w1.heap.size 5 i0 (.int .u8 0) 1 1 Tryd.underlying36 hi hz0 hz1 hz2 rfl (by decide) _ _ _ rfl (hs4.alloc _) ⟨w4.heap.size, 0, none⟩ 1 1 [.int .u8 32] rfl rfl ?d1 ?d2 ?d3 ?d4 ?d5 ?_)
          case d1 => intro j u hj; match j, hj with | 0, hj => (simp at hj; subst hj; simp [Addr.add]) | j + 1, hj => simp at hj
          case d2 => intro u hu; simp at hu; subst hu; rfl
          case d3 => unfold maxLen; omega
          case d4 => omega
          case d5 => have := hb4.size; simp; omega
          intro s5 w5 hs5 hg5 _
          have hq5 : w5.ownsRow w1.heap.size 32 4 q' (acc.length + 1) (tokCells acc ++ Tok.cells (Tok.put ⟨kd, pl, wd, nn⟩ l.length)) := (hq4.alloc _).kept hg5 (own_apart hq4 hs4 (by decide))
          have hb5 : Below w1.heap.size w1 w5 := (hb4.alloc hb4.size _).grown hg5 (by have := hb4.size; simp; omega) (fun j hj => (hs4.lt j hj).1)
          clear hg5 hs4 hq4 hb4
          go_wp2
          go_roundw
          case rel =>
            refine ⟨k + 1, l ++ tx ++ [32], acc ++ [Tok.put ⟨kd, pl, wd, nn⟩ l.length], by omega, by omega, by go_num, ?_, by simp; omega, ?_, ?_, hb5, HST2.out⟩
            · have := HZ.out
              simp only [List.length_append, List.length_singleton]
              omega
            · have h1 : (l ++ tx ++ [32]).length = l.length + M.size + 1 := by rw [HZ.out, List.length_append, List.length_append]; rfl
              have h2 : (l ++ tx ++ [32]).map byteV = l.map byteV ++ (Lib.strCells M ++ [.int .u8 32]) := by
                rw [← HM.out]
                simp [Lib.strCells, byteV]
              rw [h1, h2]
              exact hs5
            · rw [List.length_append, List.length_singleton, tokCells_append]
              exact hq5
          case measure => simp [intOf]; omega
      · have hlk2 : decide (k < 1000) = false := by rw [decide_eq_false_iff_not]; exact hlk
        have hlk3 : ¬ (k : Int) < 1000 := by omega
        have HE := Lib.hid (hE.kept er).err
        have hrow := RowS.of_own hs
        have CR : Calls Tryd.prog 17 #[.string (mkS l)] wr fun e w' => ∃ a' cap' b' cap2, e = .returned (.tuple #[.slice a' acc.length cap', .bool true]) ∧ u5 = .slice b' acc.length cap2 ∧ TokS w' w'.heap.size (.slice a' acc.length cap') acc ∧ TokS w' w'.heap.size (.slice b' acc.length cap2) acc ∧ Below wr.heap.size wr w' ∧ ∀ t ∈ acc, 0 ≤ t.at_ ∧ t.at_ ≤ 4294967296 := by
          refine (R.out _ _ (by rw [mkS_size]; unfold maxLen; omega) HE.out).mono ?_
          intro e w' hp
          rw [mkS_toList] at hp
          have hok := HSD.out.all (by omega)
          have hpl := (places_law _ _ hok).1
          rcases hp with ⟨v, toks', hlex, rfl, hown, hb⟩ | ⟨x, hlex, _⟩
          · obtain rfl : toks' = acc := by
              have := hlex.symm.trans hok
              injection this
            have TA := TokS.of_own hown
            have TB := (TokS.of_own hq).below hb |>.mono hb.size
            obtain ⟨a', cap', rfl⟩ := own_form hown
            obtain ⟨b', cap2, rfl⟩ := own_form hq
            exact ⟨a', cap', b', cap2, rfl, rfl, TA, TB, hb, fun t ht => by have := hpl t ht; omega⟩
          · have := hlex.symm.trans hok
            cases this
        have HCR := Lib.hid CR
        clear CR hq hs
        go_wp2_with (refine wpList_string_rowS _ rfl _ _ _ rfl 5 hrow Tryd.underlying36 Tryd.underlying5 Tryd.underlying9 rfl ?_)
        refine HCR.out.mono ?_
        rintro e w5 ⟨a', cap', b', cap2, rfl, rfl, TA, TB, hb5, hpl⟩
        have e5 : Below w.heap.size w w5 := er.trans (hb5.mono er.size)
        have SM := Lib.hid (Same_true acc _ _ 0 0 w5 TA (by rw [move_zero]; exact TB) hpl (by omega) (by omega))
        clear TA TB hb5 hpl
        go_wp2_with fail
        refine SM.out.mono ?_
        rintro e w6 ⟨rfl, hb6⟩
        go_wp2
        go_ret
        exact ⟨rfl, e5.trans (hb6.mono e5.size)⟩
    · have hlt2 : ¬ (k : Int) < n := by omega
      have HE := Lib.hid (hE.kept er).err
      have hrow := RowS.of_own hs
      have CR : Calls Tryd.prog 17 #[.string (mkS l)] wr fun e w' => ∃ a' cap' b' cap2, e = .returned (.tuple #[.slice a' acc.length cap', .bool true]) ∧ u5 = .slice b' acc.length cap2 ∧ TokS w' w'.heap.size (.slice a' acc.length cap') acc ∧ TokS w' w'.heap.size (.slice b' acc.length cap2) acc ∧ Below wr.heap.size wr w' ∧ ∀ t ∈ acc, 0 ≤ t.at_ ∧ t.at_ ≤ 4294967296 := by
        refine (R.out _ _ (by rw [mkS_size]; unfold maxLen; omega) HE.out).mono ?_
        intro e w' hp
        rw [mkS_toList] at hp
        have hok := HSD.out.all (by omega)
        have hpl := (places_law _ _ hok).1
        rcases hp with ⟨v, toks', hlex, rfl, hown, hb⟩ | ⟨x, hlex, _⟩
        · obtain rfl : toks' = acc := by
            have := hlex.symm.trans hok
            injection this
          have TA := TokS.of_own hown
          have TB := (TokS.of_own hq).below hb |>.mono hb.size
          obtain ⟨a', cap', rfl⟩ := own_form hown
          obtain ⟨b', cap2, rfl⟩ := own_form hq
          exact ⟨a', cap', b', cap2, rfl, rfl, TA, TB, hb, fun t ht => by have := hpl t ht; omega⟩
        · have := hlex.symm.trans hok
          cases this
      have HCR := Lib.hid CR
      clear CR hq hs
      go_wp2_with (refine wpList_string_rowS _ rfl _ _ _ rfl 5 hrow Tryd.underlying36 Tryd.underlying5 Tryd.underlying9 rfl ?_)
      refine HCR.out.mono ?_
      rintro e w5 ⟨a', cap', b', cap2, rfl, rfl, TA, TB, hb5, hpl⟩
      have e5 : Below w.heap.size w w5 := er.trans (hb5.mono er.size)
      have SM := Lib.hid (Same_true acc _ _ 0 0 w5 TA (by rw [move_zero]; exact TB) hpl (by omega) (by omega))
      clear TA TB hb5 hpl
      go_wp2_with fail
      refine SM.out.mono ?_
      rintro e w6 ⟨rfl, hb6⟩
      go_wp2
      go_ret
      exact ⟨rfl, e5.trans (hb6.mono e5.size)⟩
end Go.Proofs.YtacpaabhheejdaaDoor
