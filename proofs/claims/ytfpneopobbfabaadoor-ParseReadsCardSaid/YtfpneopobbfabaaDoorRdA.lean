/-
  Walks of the document's reader (windrowref04): place, no, is, verb. Condition: the reader lies in memory, its tokens too.
-/
import Derived.Test.YtfpneopobbfabaaDoorParD
import Derived.Test.YtfpneopobbfabaaDoorPwN
import Derived.Test.YtfpneopobbfabaaDoorRdP
namespace Go.Proofs.YtfpneopobbfabaaDoor
open Go.RowKit Go.Shelf Go.Sort

/-- A reader lies in block L: its tokens, the next one's number, the place of the line's end, how many brackets are open, its fault. -/
def RdB (w : World) (L : Nat) (vt : Value) (k : Nat) (e : Int) (nest : Nat) (fa fc : Int) : Prop := Blk w L 69 #[vt, .int .i64 k, .int .i64 e, .int .i64 nest, .int .i64 fa, .int .i64 fc]
theorem RdB.at4 {w : World} {L : Nat} {vt : Value} {k : Nat} {e : Int} {nest : Nat} {fa fc : Int} (h : RdB w L vt k e nest fa fc) (x : Int) : RdB (w.setCell ⟨L, 4, none⟩ (.int .i64 x)) L vt k e nest x fc := by
  unfold RdB Blk at h ⊢
  simp [World.setCell, Array.getElem?_modify, h]
theorem RdB.at5 {w : World} {L : Nat} {vt : Value} {k : Nat} {e : Int} {nest : Nat} {fa fc : Int} (h : RdB w L vt k e nest fa fc) (x : Int) : RdB (w.setCell ⟨L, 5, none⟩ (.int .i64 x)) L vt k e nest fa x := by
  unfold RdB Blk at h ⊢
  simp [World.setCell, Array.getElem?_modify, h]
theorem RdB.at1 {w : World} {L : Nat} {vt : Value} {k : Nat} {e : Int} {nest : Nat} {fa fc : Int} (h : RdB w L vt k e nest fa fc) (x : Nat) : RdB (w.setCell ⟨L, 1, none⟩ (.int .i64 x)) L vt x e nest fa fc := by
  unfold RdB Blk at h ⊢
  simp [World.setCell, Array.getElem?_modify, h]
theorem RdB.at3 {w : World} {L : Nat} {vt : Value} {k : Nat} {e : Int} {nest : Nat} {fa fc : Int} (h : RdB w L vt k e nest fa fc) (x : Nat) : RdB (w.setCell ⟨L, 3, none⟩ (.int .i64 x)) L vt k e x fa fc := by
  unfold RdB Blk at h ⊢
  simp [World.setCell, Array.getElem?_modify, h]
theorem drop_cons {toks : List Tok} {k : Nat} {t : Tok} (h : toks[k]? = some t) : toks.drop k = t :: toks.drop (k + 1) := by
  obtain ⟨hk, ht⟩ := List.getElem?_eq_some_iff.1 h
  rw [List.drop_eq_getElem_cons hk, ht]
set_option maxHeartbeats 1000000 in
set_option maxRecDepth 100000 in
theorem rplace_any (L : Nat) (vt : Value) (toks : List Tok) (k : Nat) (e : Int) (nest : Nat) (fa fc : Int) (w : World) (hL : RdB w L vt k e nest fa fc) (hT : TokS w w.heap.size vt toks) :
    Calls Tryd.prog 64 #[.pointer (some ⟨L, 0, none⟩)] w fun e' w' => e' = .returned (.int .i64 (placeP e (toks.drop k))) ∧ Below w.heap.size w w' := by
  have c0 : w.cell? ⟨L, 0, none⟩ = some vt := hL.cell 0
  have c1 : w.cell? ⟨L, 1, none⟩ = some (.int .i64 k) := hL.cell 1
  have c2 : w.cell? ⟨L, 2, none⟩ = some (.int .i64 e) := hL.cell 2
  have hlt := hL.lt
  obtain ⟨a, cap, rfl, hc, hm, hcells⟩ := hT
  have HC := Lib.hid hcells
  clear hcells hL
  obtain ⟨n, hn⟩ : ∃ n, n = toks.length := ⟨_, rfl⟩
  rw [← hn] at hc HC c0
  unfold maxLen at hm
  by_cases hk : k < n
  · have hk2 : (k : Int) < n := by omega
    have hk3 : decide ((k : Int) < n) = true := by rw [decide_eq_true_iff]; exact hk2
    obtain ⟨g, o, rfl, hg, hcell⟩ := HC.out (by omega)
    obtain ⟨t, ht⟩ : ∃ t, toks[k]? = some t := ⟨toks[k]'(by omega), List.getElem?_eq_getElem _⟩
    obtain ⟨d0, d1, d2, d3⟩ := hcell k t ht
    have HP := Lib.hid (place_in e ht)
    clear hcell ht d0 d2 d3 hn
    go_enter Tryd.func64, Tryd.ntmps64
    go_wp2
    go_quiet (fail)
    go_wp2
    go_quiet (fail)
    go_wp2
    go_ret
    exact ⟨by rw [HP.out]; rfl, by repeat (first | exact Below.refl _ _ | refine below_drewN' ?_ _)⟩
  · have hk2 : ¬ (k : Int) < n := by omega
    have hk3 : decide ((k : Int) < n) = false := by rw [decide_eq_false_iff_not]; exact hk2
    have HP := Lib.hid (place_out (toks := toks) (k := k) e (by omega))
    clear hn
    go_enter Tryd.func64, Tryd.ntmps64
    go_wp2
    go_quiet (fail)
    go_wp2
    go_ret
    exact ⟨by rw [HP.out]; rfl, by repeat (first | exact Below.refl _ _ | refine below_drewN' ?_ _)⟩
set_option maxHeartbeats 1000000 in
set_option maxRecDepth 100000 in
theorem rno_any (c : Int) (L : Nat) (vt : Value) (toks : List Tok) (k : Nat) (e : Int) (nest : Nat) (fa fc : Int) (w : World) (hL : RdB w L vt k e nest fa fc) (hT : TokS w w.heap.size vt toks) :
    Calls Tryd.prog 44 #[.pointer (some ⟨L, 0, none⟩), .int .i64 c] w fun e' w' => e' = .returned (.slice none 0 0) ∧ RdB w' L vt k e nest (placeP e (toks.drop k)) c ∧ w.grownBy w' (some L) := by
  have HP := Lib.hid (rplace_any L vt toks k e nest fa fc w hL hT)
  have HL := Lib.hid hL
  have hlt := hL.lt
  clear hL hT
  generalize placeP e (toks.drop k) = p at *
  go_enter Tryd.func44, Tryd.ntmps44
  go_wp2_with fail
  refine HP.out.mono ?_
  rintro _ w1 ⟨rfl, hb⟩
  have HL1 : RdB w1 L vt k e nest fa fc := HL.out.below hb
  have f4 : w1.frozen? ⟨L, 4, none⟩ = false := HL1.froz 4
  have f5 : w1.frozen? ⟨L, 5, none⟩ = false := HL1.froz 5
  have c4 : w1.cell? ⟨L, 4, none⟩ = some (.int .i64 fa) := HL1.cell 4
  have c5 : w1.cell? ⟨L, 5, none⟩ = some (.int .i64 fc) := HL1.cell 5
  have HG := Lib.hid (gb_own (gb_own (gb_below (r := some L) hb) 4 (.int .i64 p)) 5 (.int .i64 c))
  have HLx := Lib.hid ((HL1.at4 p).at5 c)
  clear hb HL1
  go_wp2_with fail
  go_ret
  exact ⟨rfl, HLx.out, HG.out⟩
set_option maxHeartbeats 2000000 in
set_option maxRecDepth 100000 in
theorem ris_any (s : ByteArray) (L : Nat) (vt : Value) (toks : List Tok) (k : Nat) (e : Int) (nest : Nat) (fa fc : Int) (w : World) (hL : RdB w L vt k e nest fa fc) (hT : TokS w w.heap.size vt toks) :
    Calls Tryd.prog 45 #[.pointer (some ⟨L, 0, none⟩), .string s] w fun e' w' => e' = .returned (.bool (isP s.data.toList (toks.drop k))) ∧ Below w.heap.size w w' := by
  have c0 : w.cell? ⟨L, 0, none⟩ = some vt := hL.cell 0
  have c1 : w.cell? ⟨L, 1, none⟩ = some (.int .i64 k) := hL.cell 1
  have hlt := hL.lt
  obtain ⟨a, cap, rfl, hc, hm, hcells⟩ := hT
  have HC := Lib.hid hcells
  clear hcells hL
  obtain ⟨n, hn⟩ : ∃ n, n = toks.length := ⟨_, rfl⟩
  rw [← hn] at hc HC c0
  unfold maxLen at hm
  by_cases hk : k < n
  · have hk2 : (k : Int) < n := by omega
    have hk3 : decide ((k : Int) < n) = true := by rw [decide_eq_true_iff]; exact hk2
    obtain ⟨g, o, rfl, hg, hcell⟩ := HC.out (by omega)
    obtain ⟨t, ht⟩ : ∃ t, toks[k]? = some t := ⟨toks[k]'(by omega), List.getElem?_eq_getElem _⟩
    obtain ⟨d0, d1, d2, d3⟩ := hcell k t ht
    have HP : Hid (isP s.data.toList (toks.drop k) = (t.word == s.data.toList && (t.kind == 1 || t.kind == 3))) := Lib.hid (by rw [drop_cons ht]; rfl)
    clear hcell ht d1 d3 hn
    obtain ⟨tk, ta, tw, tn⟩ := t
    dsimp only at d0 d2 HP
    by_cases h1 : tw = s.data.toList
    · have e1 : ((mkS tw).toList == s.toList) = true := by rw [h1, mkS_of]; simp
      by_cases h2 : tk = 1
      · have HP2 : Hid (isP s.data.toList (toks.drop k) = true) := Lib.hid (by rw [HP.out, h1, h2]; simp)
        subst h2
        clear h1
        go_enter Tryd.func45, Tryd.ntmps45
        go_wp2_with fail
        go_quiet (fail)
        go_wp2_with fail
        go_ret
        exact ⟨by rw [HP2.out]; rfl, by repeat (first | exact Below.refl _ _ | refine below_drewN' ?_ _)⟩
      · have e2 : (tk == 1) = false := by rw [beq_eq_false_iff_ne]; exact h2
        by_cases h3 : tk = 3
        · have HP2 : Hid (isP s.data.toList (toks.drop k) = true) := Lib.hid (by rw [HP.out, h1, h3]; simp)
          subst h3
          clear h1 h2 e2
          go_enter Tryd.func45, Tryd.ntmps45
          go_wp2_with fail
          go_quiet (fail)
          go_wp2_with fail
          go_ret
          exact ⟨by rw [HP2.out]; rfl, by repeat (first | exact Below.refl _ _ | refine below_drewN' ?_ _)⟩
        · have e3 : (tk == 3) = false := by rw [beq_eq_false_iff_ne]; exact h3
          have HP2 : Hid (isP s.data.toList (toks.drop k) = false) := Lib.hid (by rw [HP.out, e2, e3]; simp)
          clear h1
          go_enter Tryd.func45, Tryd.ntmps45
          go_wp2_with fail
          go_quiet (fail)
          go_wp2_with fail
          go_ret
          exact ⟨by rw [HP2.out]; rfl, by repeat (first | exact Below.refl _ _ | refine below_drewN' ?_ _)⟩
    · have e0 : ¬ (mkS tw).toList = s.toList := by rw [ByteArray.toList_eq, ByteArray.toList_eq, mkS_toList]; exact h1
      have e1 : ((mkS tw).toList == s.toList) = false := by rw [beq_eq_false_iff_ne]; exact e0
      have HP2 : Hid (isP s.data.toList (toks.drop k) = false) := Lib.hid (by rw [HP.out, show (tw == s.data.toList) = false by rw [beq_eq_false_iff_ne]; exact h1]; rfl)
      clear h1
      go_enter Tryd.func45, Tryd.ntmps45
      go_wp2_with fail
      go_quiet (fail)
      go_wp2_with fail
      go_ret
      exact ⟨by rw [HP2.out]; rfl, by repeat (first | exact Below.refl _ _ | refine below_drewN' ?_ _)⟩
  · have hk2 : ¬ (k : Int) < n := by omega
    have hk3 : decide ((k : Int) < n) = false := by rw [decide_eq_false_iff_not]; exact hk2
    have HP : Hid (isP s.data.toList (toks.drop k) = false) := Lib.hid (by rw [List.drop_of_length_le (by omega)]; rfl)
    clear hn
    go_enter Tryd.func45, Tryd.ntmps45
    go_wp2_with fail
    go_quiet (fail)
    go_wp2_with fail
    go_ret
    exact ⟨by rw [HP.out]; rfl, by repeat (first | exact Below.refl _ _ | refine below_drewN' ?_ _)⟩
set_option maxHeartbeats 2000000 in
set_option maxRecDepth 100000 in
theorem rverb_any (L : Nat) (vt : Value) (toks : List Tok) (k : Nat) (e : Int) (nest : Nat) (fa fc : Int) (w : World) (hL : RdB w L vt k e nest fa fc) (hT : TokS w w.heap.size vt toks) :
    Calls Tryd.prog 70 #[.pointer (some ⟨L, 0, none⟩)] w fun e' w' => e' = .returned (.bool (verbP (toks.drop k))) ∧ Below w.heap.size w w' := by
  have c0 : w.cell? ⟨L, 0, none⟩ = some vt := hL.cell 0
  have c1 : w.cell? ⟨L, 1, none⟩ = some (.int .i64 k) := hL.cell 1
  have hlt := hL.lt
  obtain ⟨a, cap, rfl, hc, hm, hcells⟩ := hT
  have HC := Lib.hid hcells
  clear hcells hL
  obtain ⟨n, hn⟩ : ∃ n, n = toks.length := ⟨_, rfl⟩
  rw [← hn] at hc HC c0
  unfold maxLen at hm
  by_cases hk : k < n
  · have hk2 : (k : Int) < n := by omega
    have hk3 : decide ((k : Int) < n) = true := by rw [decide_eq_true_iff]; exact hk2
    obtain ⟨g, o, rfl, hg, hcell⟩ := HC.out (by omega)
    obtain ⟨t, ht⟩ : ∃ t, toks[k]? = some t := ⟨toks[k]'(by omega), List.getElem?_eq_getElem _⟩
    obtain ⟨d0, d1, d2, d3⟩ := hcell k t ht
    have HP : Hid (verbP (toks.drop k) = (t.kind != 2 && verbB t.word)) := Lib.hid (by rw [drop_cons ht]; rfl)
    clear hcell ht d1 d3 hn
    obtain ⟨tk, ta, tw, tn⟩ := t
    dsimp only at d0 d2 HP
    by_cases h2 : tk = 2
    · have HP2 : Hid (verbP (toks.drop k) = false) := Lib.hid (by rw [HP.out, h2]; rfl)
      subst h2
      go_enter Tryd.func70, Tryd.ntmps70
      go_wp2_with fail
      go_quiet (fail)
      go_wp2_with fail
      go_ret
      exact ⟨by rw [HP2.out]; rfl, by repeat (first | exact Below.refl _ _ | refine below_drewN' ?_ _)⟩
    · have e2 : (tk != 2) = true := by rw [bne_iff_ne]; exact h2
      have HA := Lib.hid (fun w => rAny_any (mkS tw) w)
      rw [mkS_toList] at HA
      have HQ : Hid (∀ n, Calls Tryd.prog 34 #[.string (mkS tw)] (w.drewN n) fun e w'' => e = .returned (.bool (verbB tw)) ∧ ∃ m, w'' = w.drewN m) := Lib.hid (fun n => Calls.quiet_of_same ((HA.out _).mono (fun _ _ h => ⟨h.1, h.2.symm⟩)))
      rw [e2, Bool.true_and] at HP
      go_enter Tryd.func70, Tryd.ntmps70
      go_wp2_with fail
      go_quiet (first | (go_at_call 34; exact HQ.out _))
      go_wp2_with fail
      go_ret
      exact ⟨by rw [HP.out]; rfl, by repeat (first | exact Below.refl _ _ | refine below_drewN' ?_ _)⟩
  · have hk2 : ¬ (k : Int) < n := by omega
    have hk3 : decide ((k : Int) < n) = false := by rw [decide_eq_false_iff_not]; exact hk2
    have HP : Hid (verbP (toks.drop k) = false) := Lib.hid (by rw [List.drop_of_length_le (by omega)]; rfl)
    clear hn
    go_enter Tryd.func70, Tryd.ntmps70
    go_wp2_with fail
    go_quiet (fail)
    go_wp2_with fail
    go_ret
    exact ⟨by rw [HP.out]; rfl, by repeat (first | exact Below.refl _ _ | refine below_drewN' ?_ _)⟩
end Go.Proofs.YtfpneopobbfabaaDoor
