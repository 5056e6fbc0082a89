/-
  Walk of the document's cut (windrowref16). Condition: a text of at most 64 bytes.
-/
import Derived.Test.YtdmoiahaekooaaaDoorIsX
import Derived.Test.YtdmoiahaekooaaaDoorIsV
namespace Go.Proofs.YtdmoiahaekooaaaDoor
open Go.RowKit Go.Shelf Go.Sort

theorem while_at {l : List UInt8} {x : UInt8} {k : Nat} (hno : ∀ j c, j < k → l[j]? = some c → c ≠ x) (hk : k ≤ l.length) (hend : k = l.length ∨ l[k]? = some x) : l.takeWhile (· != x) = l.take k := by
  have hall : ∀ y ∈ l.take k, y ≠ x := by
    intro y hy
    obtain ⟨j, hj, e⟩ := List.mem_iff_getElem.1 hy
    rw [List.length_take] at hj
    refine hno j y (by omega) ?_
    rw [← e, List.getElem_take, List.getElem?_eq_getElem (by omega)]
  rcases hend with h | h
  · have e : l.take k = l := by rw [h, List.take_length]
    rw [e] at hall ⊢
    exact takeW_all l x hall
  · obtain ⟨h1, h2⟩ := List.getElem?_eq_some_iff.1 h
    have e : l = l.take k ++ x :: l.drop (k + 1) := by
      conv => lhs; rw [← List.take_append_drop k l]
      rw [List.drop_eq_getElem_cons h1, h2]
    conv => lhs; rw [e]
    exact takeW_stop _ x _ hall
theorem pieces_step {l : List UInt8} {k n : Nat} (hk : k < l.length) {p : List UInt8} (hp : pieceR (l.drop (k + 1)) = p) : piecesR (n + 1) (l.drop k) = p :: piecesR n (l.drop (k + 1 + p.length + 1)) := by
  rw [List.drop_eq_getElem_cons hk, piecesR, hp, List.drop_drop, List.drop_drop]
  rfl
theorem parts_own {w : World} {base : Nat} {v : Value} {l : List (List UInt8)} (h : w.ownsRow base 9 1 v l.length (strsV l)) : PartsIs w w.heap.size v l := by
  by_cases h0 : l.length = 0
  · obtain ⟨a, cap, rfl⟩ := own_form h
    have : l = [] := List.eq_nil_of_length_eq_zero h0
    subst this
    rcases h.2 with ⟨hv, _⟩ | ⟨g, cap2, cur, hv, _, _, hc, hm, _⟩
    · injection hv with h1 h2 h3
      subst h1 h3
      exact .nil _ _
    · injection hv with h1 h2 h3
      subst h1 h3
      exact ⟨_, _, rfl, Nat.zero_le _, hm, fun hh => absurd hh (by simp)⟩
  · obtain ⟨g, cap, rfl, hg0, hg1, hc, hm, hcell, -⟩ := own_cells h h0
    refine ⟨_, cap, rfl, hc, hm, fun _ => ⟨g, 0, rfl, hg1, fun i t hi => ?_⟩⟩
    have hil : i < l.length := (List.getElem?_eq_some_iff.1 hi).1
    rw [Nat.zero_add, hcell i (by omega)]
    unfold strsV strV
    rw [List.getElem?_map, hi]
    rfl
/-- What the document's cut answers. -/
def CutPost (l : List UInt8) (e : Ending) (w' : World) : Prop := ∃ v, e = .returned (.tuple #[.string (mkS (nameR l)), v]) ∧ PartsIs w' w'.heap.size v (cutR l)
set_option maxHeartbeats 4000000 in
set_option maxRecDepth 100000 in
theorem rcut_any (S : ByteArray) (hs : S.size ≤ 64) (w : World) : Calls Tryd.prog 33 #[.string S] w fun e w' => CutPost S.data.toList e w' ∧ Below w.heap.size w w' := by
  obtain ⟨i0, hi, hz0, hz1, hz2⟩ := info_parts Tryd.infoStr
  have HS : Hid (∀ k (h : k < S.size), S.data.toList[k]? = some S[k]) := Lib.hid (fun k h => by rw [get_list S k h]; exact List.getElem?_eq_getElem _)
  have HL : Hid (S.data.toList.length = S.size) := Lib.hid rfl
  generalize S.data.toList = l at *
  go_enter Tryd.func33, Tryd.ntmps33
  go_wp2
  go_loopw [4, 5] (fun vn vi wr => ∃ k : Nat, k ≤ S.size ∧ vi = .int .i64 k ∧ vn = .string (mkS (l.take k)) ∧ Hid (∀ j c, j < k → l[j]? = some c → c ≠ 32) ∧ Below w.heap.size w wr) (fun _ vi _ => S.size - (intOf vi).toNat)
  case atStart => exact ⟨0, Nat.zero_le _, rfl, rfl, Lib.hid fun j _ h => absurd h (Nat.not_lt_zero _), Below.refl _ _⟩
  case round =>
    obtain ⟨k, hk, rfl, rfl, hno, hbel⟩ := hrel
    have HB := Lib.hid hbel
    by_cases hgo : k < S.size ∧ l[k]? ≠ some 32
    · obtain ⟨h1, h2⟩ := hgo
      have hc := HS.out k h1
      have hne : S[k] ≠ 32 := fun e => h2 (by rw [hc, e])
      have i1 : (k : Int) < S.size := by omega
      have e1 : ¬ (S[k].toNat : Int) = 32 := fun e => hne (UInt8.toNat_inj.1 (by have e2 : (32 : UInt8).toNat = 32 := rfl; omega))
      have e2 : ((S[k].toNat : Int) == 32) = false := by rw [beq_eq_false_iff_ne]; exact e1
      have e3 : ((S[k].toNat : Int) != 32) = true := by rw [bne_iff_ne]; exact e1
      have HN2 : Hid (∀ j c, j < k + 1 → l[j]? = some c → c ≠ 32) := Lib.hid fun j c hj hjc => by
        by_cases hj2 : j < k
        · exact hno.out j c hj2 hjc
        · obtain rfl : j = k := by omega
          rw [hc] at hjc
          injection hjc with hjc
          rw [← hjc]
          exact hne
      have HT : Hid (l.take (k + 1) = l.take k ++ [S[k]]) := Lib.hid (take_next hc)
      have htl : (l.take k).length ≤ k := List.length_take_le _ _
      have hadd : ∀ W, (Op.stringOp .add (mkS (l.take k)) (mkS [S[k]])).run Tryd.prog W = .ok (.string (mkS (l.take k ++ [S[k]]))) W := fun W => by
        have := run_string_add_sum (P := Tryd.prog) W (mkS (l.take k)) (mkS [S[k]]) (by simp only [mkS_size, List.length_cons, List.length_nil]; omega)
        rwa [mk_append] at this
      have HH1 := Lib.hid h1
      clear h2 hc hne hno hbel
      go_wp2_with (refine wpList_string_rowS _ rfl 68 9 (.tmp 22) rfl 5 (base := 0) (l := [S[k]]) (by exact RowS.one wr _ 5 0 (Nat.zero_le _) 1 rfl) Tryd.underlying68 Tryd.underlying5 Tryd.underlying9 rfl ?_)
      go_roundw
      case rel => exact ⟨k + 1, HH1.out, by go_num, by rw [HT.out]; rfl, HN2, HB.out.alloc HB.out.size _⟩
      case measure => have := HH1.out; simp [intOf]; omega
    · have hne0 : k = l.length ∨ l[k]? = some 32 := by
        have := HL.out
        by_cases h : l[k]? = some 32
        · exact .inr h
        · exact .inl (by by_cases h1 : k < S.size; exact absurd ⟨h1, h⟩ hgo; omega)
      have HNm : Hid (nameR l = l.take k) := Lib.hid (while_at hno.out (by have := HL.out; omega) hne0)
      have HCt : Hid (cutR l = piecesR 5 (l.drop k)) := Lib.hid (by
        unfold cutR
        rw [HNm.out, List.length_take]
        have := HL.out
        rw [show min k l.length = k by omega])
      clear hno hbel hne0
      obtain ⟨n0, hn0⟩ : ∃ n0, n0 = k := ⟨_, rfl⟩
      by_cases h1 : k < S.size
      · have h32 : l[k]? = some 32 := by
          by_cases h : l[k]? = some 32
          · exact h
          · exact absurd ⟨h1, h⟩ hgo
        have hc := HS.out k h1
        rw [h32] at hc
        injection hc with hc
        have e1 : (S[k].toNat : Int) = 32 := by rw [← hc]; rfl
        have e2 : ((S[k].toNat : Int) != 32) = false := by rw [e1]; rfl
        have i1 : (k : Int) < S.size := by omega
        clear hgo h32 hc
        go_wp2_with fail
        clear e1 e2 i1
        subst hn0
        go_loopw [5, 6] (fun vi v wr => ∃ (k : Nat) (done : List (List UInt8)), k ≤ S.size + 1 ∧ done.length ≤ 5 ∧ vi = .int .i64 k ∧ wr.ownsRow w.heap.size 9 1 v done.length (strsV done) ∧ Hid (piecesR 5 (l.drop n0) = done ++ piecesR (5 - done.length) (l.drop k)) ∧ Below w.heap.size w wr) (fun vi _ _ => S.size + 1 - (intOf vi).toNat)
        case atStart => exact ⟨n0, [], by omega, Nat.zero_le _, rfl, World.ownsRow_nil _ _ _ _, Lib.hid rfl, HB.out⟩
        case round =>
          obtain ⟨k, done, hk, hd5, rfl, hown, HPk, hbel⟩ := hrel
          obtain ⟨av, cv, rfl⟩ := own_form hown
          by_cases hgo : k < S.size ∧ done.length < 5
          · obtain ⟨h1, h2⟩ := hgo
            have i1 : (k : Int) < S.size := by omega
            have i2 : (done.length : Int) < 5 := by omega
            obtain ⟨m, hm⟩ : ∃ m, m = done.length := ⟨_, rfl⟩
            have HM := Lib.hid hm
            have HBk := Lib.hid hbel
            have HOw := Lib.hid hown
            rw [← hm] at i2 ⊢
            clear hm hown hbel
            go_wp2_with fail
            go_loopw [5, 7] (fun vi vp wj => ∃ j : Nat, k + 1 ≤ j ∧ j ≤ S.size ∧ vi = .int .i64 j ∧ vp = .string (mkS ((l.drop (k + 1)).take (j - (k + 1)))) ∧ Hid (∀ q c, q < j - (k + 1) → (l.drop (k + 1))[q]? = some c → c ≠ 44) ∧ wj.ownsRow w.heap.size 9 1 (.slice av m cv) m (strsV done) ∧ Below w.heap.size w wj) (fun vi _ _ => S.size - (intOf vi).toNat)
            case atStart => exact ⟨k + 1, Nat.le_refl _, h1, by go_num, by rw [Nat.sub_self]; rfl, Lib.hid fun q _ h => absurd h (by omega), by rw [HM.out]; exact HOw.out, HBk.out⟩
            case round =>
              obtain ⟨j, hj1, hj2, rfl, rfl, hnoj, hown2, hbj⟩ := hrel
              by_cases hgj : j < S.size ∧ l[j]? ≠ some 44
              · obtain ⟨g1, g2⟩ := hgj
                have hc := HS.out j g1
                have hne : S[j] ≠ 44 := fun e => g2 (by rw [hc, e])
                have j1 : (j : Int) < S.size := by omega
                have e1 : ¬ (S[j].toNat : Int) = 44 := fun e => hne (UInt8.toNat_inj.1 (by have e2 : (44 : UInt8).toNat = 44 := rfl; omega))
                have e2 : ((S[j].toNat : Int) == 44) = false := by rw [beq_eq_false_iff_ne]; exact e1
                have e3 : ((S[j].toNat : Int) != 44) = true := by rw [bne_iff_ne]; exact e1
                have hcd : (l.drop (k + 1))[j - (k + 1)]? = some S[j] := by rw [List.getElem?_drop, show k + 1 + (j - (k + 1)) = j by omega]; exact hc
                have HN2 : Hid (∀ q c, q < j + 1 - (k + 1) → (l.drop (k + 1))[q]? = some c → c ≠ 44) := Lib.hid fun q c hq hqc => by
                  by_cases hq2 : q < j - (k + 1)
                  · exact hnoj.out q c hq2 hqc
                  · obtain rfl : q = j - (k + 1) := by omega
                    rw [hcd] at hqc
                    injection hqc with hqc
                    rw [← hqc]
                    exact hne
                have HT : Hid ((l.drop (k + 1)).take (j + 1 - (k + 1)) = (l.drop (k + 1)).take (j - (k + 1)) ++ [S[j]]) := Lib.hid (by rw [show j + 1 - (k + 1) = j - (k + 1) + 1 by omega]; exact take_next hcd)
                have htl : ((l.drop (k + 1)).take (j - (k + 1))).length ≤ j := Nat.le_trans (List.length_take_le _ _) (by omega)
                have HO := Lib.hid hown2
                have HJ := Lib.hid hbj
                have G1 := Lib.hid g1
                generalize (l.drop (k + 1)).take (j - (k + 1)) = X at *
                generalize hXX : (l.drop (k + 1)).take (j + 1 - (k + 1)) = XX at HT
                have HXX := Lib.hid hXX
                have hadd : ∀ W, (Op.stringOp .add (mkS X) (mkS [S[j]])).run Tryd.prog W = .ok (.string (mkS (X ++ [S[j]]))) W := fun W => by
                  have := run_string_add_sum (P := Tryd.prog) W (mkS X) (mkS [S[j]]) (by simp only [mkS_size, List.length_cons, List.length_nil]; omega)
                  rwa [mk_append] at this
                clear g2 hc hne hcd hnoj hown2 hbj hXX
                go_wp2_with (refine wpList_string_rowS _ rfl 68 9 (.tmp 54) rfl 5 (base := 0) (l := [S[j]]) (by exact RowS.one wr _ 5 0 (Nat.zero_le _) 1 rfl) Tryd.underlying68 Tryd.underlying5 Tryd.underlying9 rfl ?_)
                go_roundw
                case rel => exact ⟨j + 1, by omega, G1.out, by go_num, by rw [HXX.out, HT.out]; rfl, HN2, HO.out.alloc _, HJ.out.alloc HJ.out.size _⟩
                case measure => have := G1.out; simp [intOf]; omega
              · have hend : j - (k + 1) = (l.drop (k + 1)).length ∨ (l.drop (k + 1))[j - (k + 1)]? = some 44 := by
                  have := HL.out
                  rw [List.length_drop, List.getElem?_drop, show k + 1 + (j - (k + 1)) = j by omega]
                  by_cases h : l[j]? = some 44
                  · exact .inr h
                  · exact .inl (by by_cases h1 : j < S.size; exact absurd ⟨h1, h⟩ hgj; omega)
                by_cases g1 : j < S.size
                · have h44 : l[j]? = some 44 := by
                    by_cases h : l[j]? = some 44
                    · exact h
                    · exact absurd ⟨g1, h⟩ hgj
                  have hc := HS.out j g1
                  rw [h44] at hc
                  injection hc with hc
                  have e1 : (S[j].toNat : Int) = 44 := by rw [← hc]; rfl
                  have e2 : ((S[j].toNat : Int) != 44) = false := by rw [e1]; rfl
                  have j1 : (j : Int) < S.size := by omega
                  clear hgj h44 hc
                  have hpc : pieceR (l.drop (k + 1)) = (l.drop (k + 1)).take (j - (k + 1)) := while_at (fun q c hq hqc => hnoj.out q c hq hqc) (by have := HL.out; rw [List.length_drop]; omega) hend
                  have hplen : ((l.drop (k + 1)).take (j - (k + 1))).length = j - (k + 1) := by
                    have := HL.out
                    rw [List.length_take, List.length_drop]
                    omega
                  have HP2 : Hid (piecesR 5 (l.drop n0) = (done ++ [(l.drop (k + 1)).take (j - (k + 1))]) ++ piecesR (5 - (done.length + 1)) (l.drop (j + 1))) := Lib.hid (by
                    have h1 := HPk.out
                    have h2 : 5 - done.length = (5 - (done.length + 1)) + 1 := by omega
                    rw [h2, pieces_step (by have := HL.out; omega) hpc, hplen] at h1
                    rw [h1, List.append_assoc, show k + 1 + (j - (k + 1)) + 1 = j + 1 by omega]
                    rfl)
                  have HO := Lib.hid hown2
                  generalize (l.drop (k + 1)).take (j - (k + 1)) = X at *
                  have hs3 : w.heap.size ≤ wr.heap.size := hbj.size
                  have Z3 := Lib.hid hbj
                  have o2 := HO.out
                  clear hnoj hend hpc hplen HPk hbj hown2
                  go_wp2_with (at_builtin; refine wpList_append_own _ rfl (.tmp 57) (.tmp 59) 45 rfl w.heap.size 9 i0 (.string ⟨#[]⟩) 1 16 Tryd.underlying45 hi hz0 hz1 hz2 rfl (by decide) _ _ _ rfl (o2.alloc _) ⟨wr.heap.size, 0, none⟩ 1 1 [.string (mkS X)] rfl rfl ?aa1 ?aa2 ?aa3 ?aa4 ?aa5 ?_)
                  case aa1 => intro j u hj; match j, hj with | 0, hj => (simp at hj; subst hj; simp [Addr.add]) | j + 1, hj => simp at hj
                  case aa2 => intro u hu; simp at hu; subst hu; rfl
                  case aa3 => unfold maxLen; omega
                  case aa4 => omega
                  case aa5 => simp; omega
                  intro v3 w3 o3 g3 _
                  have z3 := Lib.hid ((Z3.out.alloc hs3 (.cells #[.string (mkS X)] 9)).grown g3 (by simp; omega) (fun j hj => (o2.lt j hj).1))
                  clear g3 o2 Z3 HO
                  have HO3 := Lib.hid o3
                  clear o3
                  go_wp2_with fail
                  go_roundw
                  case rel =>
                    refine ⟨j + 1, done ++ [X], by omega, by simp only [List.length_append, List.length_cons, List.length_nil]; omega, by go_num, ?_, by simp only [List.length_append, List.length_cons, List.length_nil]; exact HP2.out, z3.out⟩
                    have ho := HO3.out
                    rw [HM.out] at ho
                    unfold strsV at ho ⊢
                    rw [List.map_append, List.length_append]
                    exact ho
                  case measure => simp [intOf]; omega
                · have j1 : ¬ (j : Int) < S.size := by omega
                  clear hgj
                  have hpc : pieceR (l.drop (k + 1)) = (l.drop (k + 1)).take (j - (k + 1)) := while_at (fun q c hq hqc => hnoj.out q c hq hqc) (by have := HL.out; rw [List.length_drop]; omega) hend
                  have hplen : ((l.drop (k + 1)).take (j - (k + 1))).length = j - (k + 1) := by
                    have := HL.out
                    rw [List.length_take, List.length_drop]
                    omega
                  have HP2 : Hid (piecesR 5 (l.drop n0) = (done ++ [(l.drop (k + 1)).take (j - (k + 1))]) ++ piecesR (5 - (done.length + 1)) (l.drop (j + 1))) := Lib.hid (by
                    have h1 := HPk.out
                    have h2 : 5 - done.length = (5 - (done.length + 1)) + 1 := by omega
                    rw [h2, pieces_step (by have := HL.out; omega) hpc, hplen] at h1
                    rw [h1, List.append_assoc, show k + 1 + (j - (k + 1)) + 1 = j + 1 by omega]
                    rfl)
                  have HO := Lib.hid hown2
                  generalize (l.drop (k + 1)).take (j - (k + 1)) = X at *
                  have hs3 : w.heap.size ≤ wr.heap.size := hbj.size
                  have Z3 := Lib.hid hbj
                  have o2 := HO.out
                  clear hnoj hend hpc hplen HPk hbj hown2
                  go_wp2_with (at_builtin; refine wpList_append_own _ rfl (.tmp 57) (.tmp 59) 45 rfl w.heap.size 9 i0 (.string ⟨#[]⟩) 1 16 Tryd.underlying45 hi hz0 hz1 hz2 rfl (by decide) _ _ _ rfl (o2.alloc _) ⟨wr.heap.size, 0, none⟩ 1 1 [.string (mkS X)] rfl rfl ?bb1 ?bb2 ?bb3 ?bb4 ?bb5 ?_)
                  case bb2 => rfl
                  case bb3 => unfold maxLen; omega
                  case bb4 => omega
                  case bb5 => omega
                  intro v3 w3 o3 g3 _
                  have z3 := Lib.hid ((Z3.out.alloc hs3 (.cells #[.string (mkS X)] 9)).grown g3 (by simp; omega) (fun j hj => (o2.lt j hj).1))
                  clear g3 o2 Z3 HO
                  have HO3 := Lib.hid o3
                  clear o3
                  go_wp2_with fail
                  go_roundw
                  case rel =>
                    refine ⟨j + 1, done ++ [X], by omega, by simp only [List.length_append, List.length_cons, List.length_nil]; omega, by go_num, ?_, by simp only [List.length_append, List.length_cons, List.length_nil]; exact HP2.out, z3.out⟩
                    have ho := HO3.out
                    rw [HM.out] at ho
                    unfold strsV at ho ⊢
                    rw [List.map_append, List.length_append]
                    exact ho
                  case measure => simp [intOf]; omega
          · have hpe : piecesR (5 - done.length) (l.drop k) = [] := by
              by_cases h5 : done.length < 5
              · rw [List.drop_of_length_le (by have := HL.out; by_cases h1 : k < S.size; exact absurd ⟨h1, h5⟩ hgo; omega)]
                cases 5 - done.length <;> rfl
              · rw [show 5 - done.length = 0 by omega]
                rfl
            have hcu := HCt.out
            rw [HPk.out, hpe, List.append_nil] at hcu
            have HCu := Lib.hid hcu
            have HPt := Lib.hid (parts_own hown)
            have HZ := Lib.hid hbel
            clear hcu hpe hown hbel HPk HCt
            by_cases h1 : k < S.size
            · have i1 : (k : Int) < S.size := by omega
              have i2 : ¬ (done.length : Int) < 5 := by
                intro h
                exact hgo ⟨h1, by omega⟩
              have i3 : decide ((done.length : Int) < 5) = false := decide_eq_false i2
              clear hgo
              go_wp2_with fail
              go_ret2
              exact ⟨⟨_, by rw [HNm.out]; rfl, by rw [HCu.out]; exact HPt.out⟩, HZ.out⟩
            · have i1 : ¬ (k : Int) < S.size := by omega
              clear hgo
              go_wp2_with fail
              go_ret2
              exact ⟨⟨_, by rw [HNm.out]; rfl, by rw [HCu.out]; exact HPt.out⟩, HZ.out⟩
      · have i1 : ¬ (k : Int) < S.size := by omega
        clear hgo
        go_wp2_with fail
        clear i1
        subst hn0
        go_loopw [5, 6] (fun vi v wr => ∃ (k : Nat) (done : List (List UInt8)), k ≤ S.size + 1 ∧ done.length ≤ 5 ∧ vi = .int .i64 k ∧ wr.ownsRow w.heap.size 9 1 v done.length (strsV done) ∧ Hid (piecesR 5 (l.drop n0) = done ++ piecesR (5 - done.length) (l.drop k)) ∧ Below w.heap.size w wr) (fun vi _ _ => S.size + 1 - (intOf vi).toNat)
        case atStart => exact ⟨n0, [], by omega, Nat.zero_le _, rfl, World.ownsRow_nil _ _ _ _, Lib.hid rfl, HB.out⟩
        case round =>
          obtain ⟨k, done, hk, hd5, rfl, hown, HPk, hbel⟩ := hrel
          obtain ⟨av, cv, rfl⟩ := own_form hown
          by_cases hgo : k < S.size ∧ done.length < 5
          · obtain ⟨h1, h2⟩ := hgo
            have i1 : (k : Int) < S.size := by omega
            have i2 : (done.length : Int) < 5 := by omega
            obtain ⟨m, hm⟩ : ∃ m, m = done.length := ⟨_, rfl⟩
            have HM := Lib.hid hm
            have HBk := Lib.hid hbel
            have HOw := Lib.hid hown
            rw [← hm] at i2 ⊢
            clear hm hown hbel
            go_wp2_with fail
            go_loopw [5, 7] (fun vi vp wj => ∃ j : Nat, k + 1 ≤ j ∧ j ≤ S.size ∧ vi = .int .i64 j ∧ vp = .string (mkS ((l.drop (k + 1)).take (j - (k + 1)))) ∧ Hid (∀ q c, q < j - (k + 1) → (l.drop (k + 1))[q]? = some c → c ≠ 44) ∧ wj.ownsRow w.heap.size 9 1 (.slice av m cv) m (strsV done) ∧ Below w.heap.size w wj) (fun vi _ _ => S.size - (intOf vi).toNat)
            case atStart => exact ⟨k + 1, Nat.le_refl _, h1, by go_num, by rw [Nat.sub_self]; rfl, Lib.hid fun q _ h => absurd h (by omega), by rw [HM.out]; exact HOw.out, HBk.out⟩
            case round =>
              obtain ⟨j, hj1, hj2, rfl, rfl, hnoj, hown2, hbj⟩ := hrel
              by_cases hgj : j < S.size ∧ l[j]? ≠ some 44
              · obtain ⟨g1, g2⟩ := hgj
                have hc := HS.out j g1
                have hne : S[j] ≠ 44 := fun e => g2 (by rw [hc, e])
                have j1 : (j : Int) < S.size := by omega
                have e1 : ¬ (S[j].toNat : Int) = 44 := fun e => hne (UInt8.toNat_inj.1 (by have e2 : (44 : UInt8).toNat = 44 := rfl; omega))
                have e2 : ((S[j].toNat : Int) == 44) = false := by rw [beq_eq_false_iff_ne]; exact e1
                have e3 : ((S[j].toNat : Int) != 44) = true := by rw [bne_iff_ne]; exact e1
                have hcd : (l.drop (k + 1))[j - (k + 1)]? = some S[j] := by rw [List.getElem?_drop, show k + 1 + (j - (k + 1)) = j by omega]; exact hc
                have HN2 : Hid (∀ q c, q < j + 1 - (k + 1) → (l.drop (k + 1))[q]? = some c → c ≠ 44) := Lib.hid fun q c hq hqc => by
                  by_cases hq2 : q < j - (k + 1)
                  · exact hnoj.out q c hq2 hqc
                  · obtain rfl : q = j - (k + 1) := by omega
                    rw [hcd] at hqc
                    injection hqc with hqc
                    rw [← hqc]
                    exact hne
                have HT : Hid ((l.drop (k + 1)).take (j + 1 - (k + 1)) = (l.drop (k + 1)).take (j - (k + 1)) ++ [S[j]]) := Lib.hid (by rw [show j + 1 - (k + 1) = j - (k + 1) + 1 by omega]; exact take_next hcd)
                have htl : ((l.drop (k + 1)).take (j - (k + 1))).length ≤ j := Nat.le_trans (List.length_take_le _ _) (by omega)
                have HO := Lib.hid hown2
                have HJ := Lib.hid hbj
                have G1 := Lib.hid g1
                generalize (l.drop (k + 1)).take (j - (k + 1)) = X at *
                generalize hXX : (l.drop (k + 1)).take (j + 1 - (k + 1)) = XX at HT
                have HXX := Lib.hid hXX
                have hadd : ∀ W, (Op.stringOp .add (mkS X) (mkS [S[j]])).run Tryd.prog W = .ok (.string (mkS (X ++ [S[j]]))) W := fun W => by
                  have := run_string_add_sum (P := Tryd.prog) W (mkS X) (mkS [S[j]]) (by simp only [mkS_size, List.length_cons, List.length_nil]; omega)
                  rwa [mk_append] at this
                clear g2 hc hne hcd hnoj hown2 hbj hXX
                go_wp2_with (refine wpList_string_rowS _ rfl 68 9 (.tmp 54) rfl 5 (base := 0) (l := [S[j]]) (by exact RowS.one wr _ 5 0 (Nat.zero_le _) 1 rfl) Tryd.underlying68 Tryd.underlying5 Tryd.underlying9 rfl ?_)
                go_roundw
                case rel => exact ⟨j + 1, by omega, G1.out, by go_num, by rw [HXX.out, HT.out]; rfl, HN2, HO.out.alloc _, HJ.out.alloc HJ.out.size _⟩
                case measure => have := G1.out; simp [intOf]; omega
              · have hend : j - (k + 1) = (l.drop (k + 1)).length ∨ (l.drop (k + 1))[j - (k + 1)]? = some 44 := by
                  have := HL.out
                  rw [List.length_drop, List.getElem?_drop, show k + 1 + (j - (k + 1)) = j by omega]
                  by_cases h : l[j]? = some 44
                  · exact .inr h
                  · exact .inl (by by_cases h1 : j < S.size; exact absurd ⟨h1, h⟩ hgj; omega)
                by_cases g1 : j < S.size
                · have h44 : l[j]? = some 44 := by
                    by_cases h : l[j]? = some 44
                    · exact h
                    · exact absurd ⟨g1, h⟩ hgj
                  have hc := HS.out j g1
                  rw [h44] at hc
                  injection hc with hc
                  have e1 : (S[j].toNat : Int) = 44 := by rw [← hc]; rfl
                  have e2 : ((S[j].toNat : Int) != 44) = false := by rw [e1]; rfl
                  have j1 : (j : Int) < S.size := by omega
                  clear hgj h44 hc
                  have hpc : pieceR (l.drop (k + 1)) = (l.drop (k + 1)).take (j - (k + 1)) := while_at (fun q c hq hqc => hnoj.out q c hq hqc) (by have := HL.out; rw [List.length_drop]; omega) hend
                  have hplen : ((l.drop (k + 1)).take (j - (k + 1))).length = j - (k + 1) := by
                    have := HL.out
                    rw [List.length_take, List.length_drop]
                    omega
                  have HP2 : Hid (piecesR 5 (l.drop n0) = (done ++ [(l.drop (k + 1)).take (j - (k + 1))]) ++ piecesR (5 - (done.length + 1)) (l.drop (j + 1))) := Lib.hid (by
                    have h1 := HPk.out
                    have h2 : 5 - done.length = (5 - (done.length + 1)) + 1 := by omega
                    rw [h2, pieces_step (by have := HL.out; omega) hpc, hplen] at h1
                    rw [h1, List.append_assoc, show k + 1 + (j - (k + 1)) + 1 = j + 1 by omega]
                    rfl)
                  have HO := Lib.hid hown2
                  generalize (l.drop (k + 1)).take (j - (k + 1)) = X at *
                  have hs3 : w.heap.size ≤ wr.heap.size := hbj.size
                  have Z3 := Lib.hid hbj
                  have o2 := HO.out
                  clear hnoj hend hpc hplen HPk hbj hown2
                  go_wp2_with (at_builtin; refine wpList_append_own _ rfl (.tmp 57) (.tmp 59) 45 rfl w.heap.size 9 i0 (.string ⟨#[]⟩) 1 16 Tryd.underlying45 hi hz0 hz1 hz2 rfl (by decide) _ _ _ rfl (o2.alloc _) ⟨wr.heap.size, 0, none⟩ 1 1 [.string (mkS X)] rfl rfl ?cc1 ?cc2 ?cc3 ?cc4 ?cc5 ?_)
                  case cc1 => intro j u hj; match j, hj with | 0, hj => (simp at hj; subst hj; simp [Addr.add]) | j + 1, hj => simp at hj
                  case cc2 => intro u hu; simp at hu; subst hu; rfl
                  case cc3 => unfold maxLen; omega
                  case cc4 => omega
                  case cc5 => simp; omega
                  intro v3 w3 o3 g3 _
                  have z3 := Lib.hid ((Z3.out.alloc hs3 (.cells #[.string (mkS X)] 9)).grown g3 (by simp; omega) (fun j hj => (o2.lt j hj).1))
                  clear g3 o2 Z3 HO
                  have HO3 := Lib.hid o3
                  clear o3
                  go_wp2_with fail
                  go_roundw
                  case rel =>
                    refine ⟨j + 1, done ++ [X], by omega, by simp only [List.length_append, List.length_cons, List.length_nil]; omega, by go_num, ?_, by simp only [List.length_append, List.length_cons, List.length_nil]; exact HP2.out, z3.out⟩
                    have ho := HO3.out
                    rw [HM.out] at ho
                    unfold strsV at ho ⊢
                    rw [List.map_append, List.length_append]
                    exact ho
                  case measure => simp [intOf]; omega
                · have j1 : ¬ (j : Int) < S.size := by omega
                  clear hgj
                  have hpc : pieceR (l.drop (k + 1)) = (l.drop (k + 1)).take (j - (k + 1)) := while_at (fun q c hq hqc => hnoj.out q c hq hqc) (by have := HL.out; rw [List.length_drop]; omega) hend
                  have hplen : ((l.drop (k + 1)).take (j - (k + 1))).length = j - (k + 1) := by
                    have := HL.out
                    rw [List.length_take, List.length_drop]
                    omega
                  have HP2 : Hid (piecesR 5 (l.drop n0) = (done ++ [(l.drop (k + 1)).take (j - (k + 1))]) ++ piecesR (5 - (done.length + 1)) (l.drop (j + 1))) := Lib.hid (by
                    have h1 := HPk.out
                    have h2 : 5 - done.length = (5 - (done.length + 1)) + 1 := by omega
                    rw [h2, pieces_step (by have := HL.out; omega) hpc, hplen] at h1
                    rw [h1, List.append_assoc, show k + 1 + (j - (k + 1)) + 1 = j + 1 by omega]
                    rfl)
                  have HO := Lib.hid hown2
                  generalize (l.drop (k + 1)).take (j - (k + 1)) = X at *
                  have hs3 : w.heap.size ≤ wr.heap.size := hbj.size
                  have Z3 := Lib.hid hbj
                  have o2 := HO.out
                  clear hnoj hend hpc hplen HPk hbj hown2
                  go_wp2_with (at_builtin; refine wpList_append_own _ rfl (.tmp 57) (.tmp 59) 45 rfl w.heap.size 9 i0 (.string ⟨#[]⟩) 1 16 Tryd.underlying45 hi hz0 hz1 hz2 rfl (by decide) _ _ _ rfl (o2.alloc _) ⟨wr.heap.size, 0, none⟩ 1 1 [.string (mkS X)] rfl rfl ?dd1 ?dd2 ?dd3 ?dd4 ?dd5 ?_)
                  case dd2 => rfl
                  case dd3 => unfold maxLen; omega
                  case dd4 => omega
                  case dd5 => omega
                  intro v3 w3 o3 g3 _
                  have z3 := Lib.hid ((Z3.out.alloc hs3 (.cells #[.string (mkS X)] 9)).grown g3 (by simp; omega) (fun j hj => (o2.lt j hj).1))
                  clear g3 o2 Z3 HO
                  have HO3 := Lib.hid o3
                  clear o3
                  go_wp2_with fail
                  go_roundw
                  case rel =>
                    refine ⟨j + 1, done ++ [X], by omega, by simp only [List.length_append, List.length_cons, List.length_nil]; omega, by go_num, ?_, by simp only [List.length_append, List.length_cons, List.length_nil]; exact HP2.out, z3.out⟩
                    have ho := HO3.out
                    rw [HM.out] at ho
                    unfold strsV at ho ⊢
                    rw [List.map_append, List.length_append]
                    exact ho
                  case measure => simp [intOf]; omega
          · have hpe : piecesR (5 - done.length) (l.drop k) = [] := by
              by_cases h5 : done.length < 5
              · rw [List.drop_of_length_le (by have := HL.out; by_cases h1 : k < S.size; exact absurd ⟨h1, h5⟩ hgo; omega)]
                cases 5 - done.length <;> rfl
              · rw [show 5 - done.length = 0 by omega]
                rfl
            have hcu := HCt.out
            rw [HPk.out, hpe, List.append_nil] at hcu
            have HCu := Lib.hid hcu
            have HPt := Lib.hid (parts_own hown)
            have HZ := Lib.hid hbel
            clear hcu hpe hown hbel HPk HCt
            by_cases h1 : k < S.size
            · have i1 : (k : Int) < S.size := by omega
              have i2 : ¬ (done.length : Int) < 5 := by
                intro h
                exact hgo ⟨h1, by omega⟩
              have i3 : decide ((done.length : Int) < 5) = false := decide_eq_false i2
              clear hgo
              go_wp2_with fail
              go_ret2
              exact ⟨⟨_, by rw [HNm.out]; rfl, by rw [HCu.out]; exact HPt.out⟩, HZ.out⟩
            · have i1 : ¬ (k : Int) < S.size := by omega
              clear hgo
              go_wp2_with fail
              go_ret2
              exact ⟨⟨_, by rw [HNm.out]; rfl, by rw [HCu.out]; exact HPt.out⟩, HZ.out⟩
end Go.Proofs.YtdmoiahaekooaaaDoor
