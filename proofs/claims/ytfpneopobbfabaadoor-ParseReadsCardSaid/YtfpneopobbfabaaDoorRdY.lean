/-
  Walks of the document's reader (windrowref04): whole, input, line, Parse; of Same; of windrowlaw04.ParseReads. Condition: the text is no longer than a string may be; strconv.ErrRange holds an error.
-/
import Derived.Test.YtfpneopobbfabaaDoorRdX
import Derived.Test.YtfpneopobbfabaaDoorParK
import Derived.Test.YtfpneopobbfabaaDoorParL
import Derived.Test.YtfpneopobbfabaaDoorLexJ
import Derived.Test.YtfpneopobbfabaaDoorParM
import Derived.Test.YtfpneopobbfabaaDoorLwE
import Derived.Test.YtfpneopobbfabaaDoorPwP
import Derived.Test.YtfpneopobbfabaaDoorPwK
import Derived.Test.YtfpneopobbfabaaDoorPwA
namespace Go.Proofs.YtfpneopobbfabaaDoor
open Go.RowKit Go.Shelf Go.Sort

/-- What an expression to the line's end gives. -/
def RWholePost (L : Nat) (vt : Value) (toks : List Tok) (e : Int) (x : Except Fault (List Itm)) (w : World) (en : Ending) (w' : World) : Prop :=
  ∃ v l', en = .returned v ∧ ItsO w' w.heap.size v l' ∧ l'.length ≤ toks.length ∧
    match x with
    | .error y => y.2 ≠ 0 ∧ ∃ k', RdAt w w' L vt toks k' e 0 y.1 y.2
    | .ok l => l' = l ∧ ∃ k', RdAt w w' L vt toks k' e 0 0 0
set_option maxHeartbeats 8000000 in
set_option maxRecDepth 100000 in
theorem rwhole_any (L : Nat) (vt : Value) (toks : List Tok) (e : Int) (k : Nat) (w : World) (hlen : toks.length ≤ 100000) (hlx : ∀ t ∈ toks, t.lexed) (hk4 : ∀ t ∈ toks, t.kind ≠ 4) (hk : k ≤ toks.length) (hR : RdAt w w L vt toks k e 0 0 0) :
    Calls Tryd.prog 47 #[.pointer (some ⟨L, 0, none⟩)] w (RWholePost L vt toks e (exprP e (toks.drop k)) w) := by
  have hw := whole_eq e (toks.drop k) (fun t ht => hk4 t (List.mem_of_mem_drop ht))
  have HX : Hid (exprP e (toks.drop k) = match exprR e (2 * (toks.length - k) + 2) 0 (toks.drop k) with
      | .error x => .error x
      | .ok (l, []) => .ok l
      | .ok (_, c :: _) => .error (c.at_, 46)) := by
    apply Lib.hid
    rw [← hw]
    unfold wholeR
    rw [List.length_drop]
    rfl
  obtain ⟨X, hX⟩ : ∃ X, X = exprP e (toks.drop k) := ⟨_, rfl⟩
  rw [← hX] at HX ⊢
  have HEx := Lib.hid (fun wx h => rexpr_all L vt toks e hlen hlx (2 * (toks.length - k) + 2) (by omega) k 0 wx (Nat.le_refl _) hk (Nat.zero_le _) h)
  generalize exprR e (2 * (toks.length - k) + 2) 0 (toks.drop k) = x at HX HEx
  have HNo := Lib.hid (fun (k' : Nat) (wx : World) (h : RdAt w wx L vt toks k' e 0 0 0) => rno_any 46 L vt toks k' e 0 0 0 wx h.rd h.full)
  have HPl := Lib.hid (fun (k' : Nat) (t : Tok) (h : toks[k']? = some t) => place_in e h)
  have HR := Lib.hid hR
  have hL := hR.rd.lt
  obtain ⟨n, hn'⟩ : ∃ n, n = toks.length := ⟨_, rfl⟩
  have HN := Lib.hid hn'
  obtain ⟨a, cap, hvt, hcap, hmx, _⟩ := hR.tok
  subst hvt
  rw [← hn'] at hcap hlen hk HR HNo ⊢
  rw [← hn'] at HEx
  unfold maxLen at hmx
  clear hX hlx hk4 hR hw hn'
  go_enter Tryd.func47, Tryd.ntmps47
  go_wp2_with fail
  refine (HEx.out w HR.out).mono ?_
  rintro _ w2 ⟨v, l', rfl, hi2, hl2, hm2⟩
  have hl2n : l'.length ≤ n := by have := HN.out; omega
  have HI2 := Lib.hid hi2
  clear hi2
  cases x with
  | error y =>
    obtain ⟨hy, k', hk', hr2⟩ := hm2
    have HR2 := Lib.hid hr2
    have c5 : w2.cell? ⟨L, 5, none⟩ = some (.int .i64 y.2) := hr2.rd.cell 5
    have hy0 : ¬ (y.2 : Int) = 0 := by omega
    have hyb : ((y.2 : Int) == 0) = false := by rw [beq_eq_false_iff_ne]; exact hy0
    clear hr2
    go_wp2_with fail
    go_quiet (fail)
    go_wp2_with fail
    go_ret
    rw [HX.out]
    exact ⟨v, l', rfl, HI2.out.keep (fun t => KeepTag.below (below_drewN' (Below.refl _ _) _)), by have := HN.out; omega, hy, k', HR2.out.draws _⟩
  | ok q =>
    obtain ⟨l0, r2⟩ := q
    obtain ⟨rfl, k2, hr2, hd2, hb1, hb2, hb3⟩ := hm2
    have HR2 := Lib.hid hr2
    have c5 : w2.cell? ⟨L, 5, none⟩ = some (.int .i64 0) := hr2.rd.cell 5
    have c1 : w2.cell? ⟨L, 1, none⟩ = some (.int .i64 k2) := hr2.rd.cell 1
    have c0 : w2.cell? ⟨L, 0, none⟩ = some (.slice a n cap) := hr2.rd.cell 0
    have hL2 := hr2.rd.lt
    clear hr2
    cases r2 with
    | nil =>
      have hk2n : k2 = n := by
        have := congrArg List.length hd2
        rw [List.length_drop, List.length_nil] at this
        have := HN.out
        omega
      subst hk2n
      have hge : ¬ (k2 : Int) < k2 := by omega
      have hgeb : decide ((k2 : Int) < k2) = false := by rw [decide_eq_false_iff_not]; omega
      go_wp2_with fail
      go_quiet (fail)
      go_wp2_with fail
      go_ret
      rw [HX.out]
      exact ⟨v, _, rfl, HI2.out.keep (fun t => KeepTag.below (below_drewN' (Below.refl _ _) _)), by have := HN.out; omega, rfl, k2, HR2.out.draws _⟩
    | cons c r3 =>
      have hk2n : k2 < n := by
        have := congrArg List.length hd2
        rw [List.length_drop, List.length_cons] at this
        have := HN.out
        omega
      have hlti : (k2 : Int) < n := by omega
      have hltb : decide ((k2 : Int) < n) = true := by rw [decide_eq_true_iff]; omega
      obtain ⟨c', hc'⟩ : ∃ c', toks[k2]? = some c' := ⟨toks[k2]'(by have := HN.out; omega), List.getElem?_eq_getElem _⟩
      have hdc := drop_cons hc'
      rw [hd2] at hdc
      injection hdc with hdc1 hdc2
      subst hdc1
      have hpl := HPl.out k2 c hc'
      have HP := Lib.hid hpl
      clear hd2 hc' hdc2 hpl
      go_wp2_with fail
      go_quiet (fail)
      go_wp2_with fail
      have HR3 := Lib.hid (HR2.out.draws nq)
      refine (HNo.out k2 _ HR3.out).mono ?_
      rintro _ wb ⟨rfl, hrb, hgb⟩
      have HRb := Lib.hid (HR3.out.to hgb hrb)
      rw [HP.out] at HRb
      clear hrb hgb
      go_wp2_with fail
      go_ret
      rw [HX.out]
      exact ⟨.slice none 0 0, [], rfl, ItsO.nil _ _, Nat.zero_le _, Nat.succ_ne_zero 45, k2, HRb.out⟩
end Go.Proofs.YtfpneopobbfabaaDoor
namespace Go.Proofs.YtfpneopobbfabaaDoor
open Go.RowKit Go.Shelf Go.Sort

/-- What a line that begins with in gives. -/
def RInputPost (L : Nat) (vt : Value) (toks : List Tok) (e : Int) (x : Except Fault Inp) (w : World) (en : Ending) (w' : World) : Prop :=
  ∃ nm at_ v ss, en = .returned (.agg #[.string nm, .int .i64 at_, v]) ∧ w'.ownsRow w.heap.size 77 2 v (List.length ss) (sideCells ss) ∧
    match x with
    | .error y => y.2 ≠ 0 ∧ ∃ k', RdAt w w' L vt toks k' e 0 y.1 y.2
    | .ok i => nm = mkS i.name ∧ at_ = i.at_ ∧ ss = i.sides ∧ ∃ k', RdAt w w' L vt toks k' e 0 0 0
/-- In a line with in: the reader, the result's cell, the input. -/
structure InpAt (w0 w : World) (L : Nat) (vt : Value) (toks : List Tok) (k : Nat) (e : Int) (fa fc : Int) (xb : Nat) (nm : ByteArray) (at_ : Int) (v : Value) : Prop where
  rd : RdAt w0 w L vt toks k e 0 fa fc
  res : Blk w w0.heap.size 56 #[.string ⟨#[]⟩, .int .i64 0, .slice none 0 0]
  x : Blk w xb 56 #[.string nm, .int .i64 at_, v]
  far : w0.heap.size < xb
  old : L < w0.heap.size
section
variable {w0 w w' : World} {L : Nat} {vt : Value} {toks : List Tok} {k : Nat} {e : Int} {fa fc : Int} {xb : Nat} {nm : ByteArray} {at_ : Int} {v : Value}
theorem InpAt.below (h : InpAt w0 w L vt toks k e fa fc xb nm at_ v) (hb : Below w.heap.size w w') : InpAt w0 w' L vt toks k e fa fc xb nm at_ v := ⟨h.rd.below hb, h.res.below hb, h.x.below hb, h.far, h.old⟩
theorem InpAt.no (h : InpAt w0 w L vt toks k e fa fc xb nm at_ v) {k' : Nat} {fa' fc' : Int} (hg : w.grownBy w' (some L)) (hr : RdB w' L vt k' e 0 fa' fc') : InpAt w0 w' L vt toks k' e fa' fc' xb nm at_ v :=
  ⟨h.rd.to hg hr, (hg.block _ h.res.lt (fun e => by injection e with e; have := h.old; omega)).trans h.res, (hg.block _ h.x.lt (fun e => by injection e with e; have := h.old; have := h.far; omega)).trans h.x, h.far, h.old⟩
theorem InpAt.put1 (h : InpAt w0 w L vt toks k e fa fc xb nm at_ v) (j : Nat) : InpAt w0 (w.setCell ⟨L, 1, none⟩ (.int .i64 j)) L vt toks j e fa fc xb nm at_ v :=
  ⟨h.rd.put1 j, h.res.other (by have := h.old; omega) _ _, h.x.other (by have := h.old; have := h.far; omega) _ _, h.far, h.old⟩
theorem InpAt.name (h : InpAt w0 w L vt toks k e fa fc xb nm at_ v) (s : ByteArray) : InpAt w0 (w.setCell ⟨xb, 0, none⟩ (.string s)) L vt toks k e fa fc xb s at_ v :=
  ⟨h.rd.new (Nat.le_of_lt h.far) h.old 0 _, h.res.other (by have := h.far; omega) _ _, h.x.set30 _, h.far, h.old⟩
theorem InpAt.sides (h : InpAt w0 w L vt toks k e fa fc xb nm at_ v) (u : Value) : InpAt w0 (w.setCell ⟨xb, 2, none⟩ u) L vt toks k e fa fc xb nm at_ u :=
  ⟨h.rd.new (Nat.le_of_lt h.far) h.old 2 _, h.res.other (by have := h.far; omega) _ _, h.x.set32 _, h.far, h.old⟩
end
theorem InpAt.row {w0 w w' : World} {L : Nat} {vt : Value} {toks : List Tok} {k : Nat} {e : Int} {fa fc : Int} {xb : Nat} {nm : ByteArray} {at_ : Int} {v : Value} {row : Option Nat} (h : InpAt w0 w L vt toks k e fa fc xb nm at_ v) (hg : w.grownBy w' row) (hr : ∀ j, row = some j → w0.heap.size ≤ j) (hk : KeepTag 56 w w') : InpAt w0 w' L vt toks k e fa fc xb nm at_ v :=
  ⟨h.rd.row hg hr h.old, h.res.keep hk, h.x.keep hk, h.far, h.old⟩
set_option maxHeartbeats 16000000 in
set_option maxRecDepth 100000 in
theorem rinput_any (L : Nat) (vt : Value) (toks : List Tok) (e : Int) (w : World) (hlen : toks.length ≤ 100000) (hlx : ∀ t ∈ toks, t.lexed) (hne : 0 < toks.length) (hR : RdAt w w L vt toks 0 e 0 0 0) :
    Calls Tryd.prog 46 #[.pointer (some ⟨L, 0, none⟩)] w (RInputPost L vt toks e (inputP e (toks.drop 1)) w) := by
  have HNo := Lib.hid (fun (c : Int) (k' : Nat) (wx : World) (h : RdAt w wx L vt toks k' e 0 0 0) => rno_any c L vt toks k' e 0 0 0 wx h.rd h.full)
  have HPlc := Lib.hid (fun (wx : World) (h : RdAt w wx L vt toks 1 e 0 0 0) => rplace_any L vt toks 1 e 0 0 0 wx h.rd h.full)
  obtain ⟨X, hX⟩ : ∃ X, X = inputP e (toks.drop 1) := ⟨_, rfl⟩
  rw [← hX]
  have HX := Lib.hid hX
  have HR := Lib.hid hR
  have HLx := Lib.hid hlx
  have hL := hR.rd.lt
  obtain ⟨a, cap, hvt, hc, hm, hcells⟩ := hR.tok
  obtain ⟨n, hn⟩ : ∃ n, n = toks.length := ⟨_, rfl⟩
  obtain ⟨g, o, ha, hg, _⟩ := hcells hne
  subst hvt ha
  rw [← hn] at hc hne hlen HR HNo HPlc ⊢
  have HN := Lib.hid hn
  unfold maxLen at hm
  have hgw : g < w.heap.size := by omega
  have c1 : w.cell? ⟨L, 1, none⟩ = some (.int .i64 (0 : Nat)) := HR.out.rd.cell 1
  have f1 : w.frozen? ⟨L, 1, none⟩ = false := HR.out.rd.froz 1
  have HR0 : Hid (RdAt w ((w.setCell ⟨L, 1, none⟩ (.int .i64 1)).alloc (.cells #[.string ⟨#[]⟩, .int .i64 0, .slice none 0 0] 56)) L (.slice (some ⟨g, o, none⟩) n cap) toks 1 e 0 0 0) := Lib.hid ((HR.out.put1 1).alloc _)
  have hsz0 : (w.setCell ⟨L, 1, none⟩ (.int .i64 1)).heap.size = w.heap.size := by simp [World.setCell]
  have HRes0 : Hid (Blk ((w.setCell ⟨L, 1, none⟩ (.int .i64 1)).alloc (.cells #[.string ⟨#[]⟩, .int .i64 0, .slice none 0 0] 56)) w.heap.size 56 #[.string ⟨#[]⟩, .int .i64 0, .slice none 0 0]) := Lib.hid (Blk.new _ _ _ hsz0.symm)
  clear hX hlx hR hcells hn hsz0
  go_enter Tryd.func46, Tryd.ntmps46
  go_wp2_with fail
  generalize (w.setCell ⟨L, 1, none⟩ (.int .i64 1)).alloc (.cells #[.string ⟨#[]⟩, .int .i64 0, .slice none 0 0] 56) = W0 at HR0 HRes0 ⊢
  refine (HPlc.out W0 HR0.out).mono ?_
  rintro _ w1 ⟨rfl, hb1⟩
  obtain ⟨pa, hpa⟩ : ∃ pa, pa = placeP e (toks.drop 1) := ⟨_, rfl⟩
  rw [← hpa]
  have HP1 := Lib.hid hpa.symm
  have hz0 := HRes0.out.lt
  have hz1 := hb1.size
  have HI2 : Hid (InpAt w (w1.alloc (.cells #[.string ⟨#[]⟩, .int .i64 pa, .slice none 0 0] 56)) L (.slice (some ⟨g, o, none⟩) n cap) toks 1 e 0 0 w1.heap.size ⟨#[]⟩ pa (.slice none 0 0)) := Lib.hid ⟨(HR0.out.below hb1).alloc _, (HRes0.out.below hb1).alloc _, Blk.new w1 _ _ rfl, by omega, hL⟩
  clear hpa c1 f1 hb1
  go_wp2_with fail
  generalize w1.alloc (.cells #[.string ⟨#[]⟩, .int .i64 pa, .slice none 0 0] 56) = W2 at HI2 ⊢
  have hw2 : w.heap.size < w1.heap.size := HI2.out.far
  generalize w1.heap.size = xb at HI2 hw2 ⊢
  have e0 := HI2.out.rd.rd.cell 0
  have e1 := HI2.out.rd.rd.cell 1
  simp at e0 e1
  by_cases h1 : n = 1
  · have hge : (1 : Int) ≥ n := by omega
    have hgeb : decide (n ≤ 1) = true := by rw [decide_eq_true_iff]; omega
    go_quiet (fail)
    go_wp2_with fail
    clear e0 e1
    have HI3 := Lib.hid (HI2.out.below (below_drewN' (Below.refl _ _) nq))
    generalize W2.drewN nq = W3 at HI3 ⊢
    obtain ⟨acc, hacc⟩ : ∃ acc : List (List UInt8 × Int), acc = [] := ⟨_, rfl⟩
    have HOw : Hid (W3.ownsRow w.heap.size 77 2 (.slice none 0 0) acc.length (sideCells acc)) := Lib.hid (by rw [hacc]; exact World.ownsRow_nil _ _ _ _)
    clear hacc

    have HXe : Hid (X = .error (pa, 42)) := Lib.hid (by rw [HX.out, ← HP1.out, List.drop_of_length_le (by have := HN.out; omega)]; rfl)
    go_wp2_with fail
    refine (HNo.out 42 1 _ HI3.out.rd).mono ?_
    rintro _ w9 ⟨rfl, hr9, hg9⟩
    have H9 := Lib.hid (HI3.out.no hg9 hr9)
    have HO9 : Hid (w9.ownsRow w.heap.size 77 2 (.slice none 0 0) acc.length (sideCells acc)) := Lib.hid (own_tag HOw.out (KeepTag.gb hg9 HI3.out.rd.rd (by decide)))
    clear hr9 hg9

    have xc0 := H9.out.x.cell 0
    have xc1 := H9.out.x.cell 1
    have xc2 := H9.out.x.cell 2
    simp at xc0 xc1 xc2
    have rc0 := H9.out.res.cell 0
    have rc1 := H9.out.res.cell 1
    have rc2 := H9.out.res.cell 2
    simp at rc0 rc1 rc2
    have rfz := H9.out.res.froz

    go_wp2_with fail
    refine bodyPost_ret (v := .agg #[.string ⟨#[]⟩, .int .i64 pa, (.slice none 0 0)]) (by simp [results, Tryd.results46, go_sem, rc0, rc1, rc2]) rfl ?_
    rw [HXe.out]
    refine ⟨_, _, _, acc, rfl, ?_, Nat.succ_ne_zero 41, 1, ?_⟩
    · exact own_tag (own_tag (own_tag HO9.out (KeepTag.set H9.out.res (by decide) 0 _)) (KeepTag.set (H9.out.res.set30 _) (by decide) 1 _)) (KeepTag.set ((H9.out.res.set30 _).set31 _) (by decide) 2 _)
    · have hrd := H9.out.rd
      rw [HP1.out] at hrd
      exact ((hrd.new (Nat.le_refl _) hL 0 _).new (Nat.le_refl _) hL 1 _).new (Nat.le_refl _) hL 2 _
  · have hge : ¬ (1 : Int) ≥ n := by omega
    have hgeb : decide (n ≤ 1) = false := by rw [decide_eq_false_iff_not]; omega
    obtain ⟨t, ht⟩ : ∃ t, toks[1]? = some t := ⟨toks[1]'(by have := HN.out; omega), List.getElem?_eq_getElem _⟩
    have hp2 := HP1.out
    rw [place_in e ht] at hp2
    have hd1 := drop_cons ht
    have hwl : t.word.length ≤ 16 ∨ t.kind ≠ 1 := by
      rcases HLx.out t (List.mem_of_getElem? ht) with ⟨_, _, _, _, h⟩ | ⟨h, _⟩ | ⟨h, _⟩ | ⟨h, _⟩
      · exact .inl h
      · exact .inr (by rw [h]; decide)
      · exact .inr (by rw [h]; decide)
      · exact .inr (by rw [h]; decide)
    have HXt : Hid (X = if !nameT t then .error (t.at_, 41) else (sidesP [] (toks.drop 2)).map fun l => ⟨t.word, t.at_, l⟩) := Lib.hid (by rw [HX.out, hd1]; rfl)
    have HTk := Lib.hid ht
    obtain ⟨tk, ta, tw, tn⟩ := t
    dsimp only at hp2 hwl HXt
    subst hp2
    clear ht hd1
    go_quiet (fail)
    go_upto_region 6 with fail
    clear e0 e1
    have HI3 := Lib.hid (HI2.out.below (below_drewN' (Below.refl _ _) nq))
    generalize W2.drewN nq = W3 at HI3 ⊢
    have e0 := HI3.out.rd.rd.cell 0
    have e1 := HI3.out.rd.rd.cell 1
    simp at e0 e1
    obtain ⟨_, d0, d1, d2, d3⟩ := HI3.out.rd.tok.cells HTk.out
    simp at d0 d1 d2 d3
    obtain ⟨acc, hacc⟩ : ∃ acc : List (List UInt8 × Int), acc = [] := ⟨_, rfl⟩
    have HOw : Hid (∀ W : World, W.ownsRow w.heap.size 77 2 (.slice none 0 0) acc.length (sideCells acc)) := Lib.hid (fun W => by rw [hacc]; exact World.ownsRow_nil _ _ _ _)
    have HAcc := Lib.hid hacc
    clear hacc
    have hlt1 : (1 : Int) < n := by omega
    by_cases hk1 : tk = 1
    · subst hk1
      have hw16 : tw.length ≤ 16 := hwl.resolve_right (fun h => h rfl)
      have HNm := Lib.hid (fun wx => rName_any (mkS tw) wx (by rw [mkS_size]; unfold maxLen; omega))
      rw [mkS_toList] at HNm
      clear hwl
      cases hnb : nameB tw with
      | false =>
        rw [hnb] at HNm
        have HXe0 : Hid (X = .error (ta, 41)) := Lib.hid (by rw [HXt.out, if_pos (by unfold nameT; simp [hnb])])
        clear hnb
        go_wp2_with fail
        refine (HNm.out _).mono ?_
        rintro _ w4 ⟨rfl, hb4⟩
        have HI4 := Lib.hid (HI3.out.below hb4)
        clear hb4 e0 e1 d0 d1 d2 d3

        have HXe : Hid (X = .error (ta, 41)) := Lib.hid (HXe0.out)
        go_wp2_with fail
        refine (HNo.out 41 1 _ HI4.out.rd).mono ?_
        rintro _ w9 ⟨rfl, hr9, hg9⟩
        have H9 := Lib.hid (HI4.out.no hg9 hr9)
        have HO9 : Hid (w9.ownsRow w.heap.size 77 2 (.slice none 0 0) acc.length (sideCells acc)) := Lib.hid (own_tag (HOw.out _) (KeepTag.gb hg9 HI4.out.rd.rd (by decide)))
        clear hr9 hg9

        have xc0 := H9.out.x.cell 0
        have xc1 := H9.out.x.cell 1
        have xc2 := H9.out.x.cell 2
        simp at xc0 xc1 xc2
        have rc0 := H9.out.res.cell 0
        have rc1 := H9.out.res.cell 1
        have rc2 := H9.out.res.cell 2
        simp at rc0 rc1 rc2
        have rfz := H9.out.res.froz

        go_wp2_with fail
        refine bodyPost_ret (v := .agg #[.string ⟨#[]⟩, .int .i64 ta, (.slice none 0 0)]) (by simp [results, Tryd.results46, go_sem, rc0, rc1, rc2]) rfl ?_
        rw [HXe.out]
        refine ⟨_, _, _, acc, rfl, ?_, Nat.succ_ne_zero 40, 1, ?_⟩
        · exact own_tag (own_tag (own_tag HO9.out (KeepTag.set H9.out.res (by decide) 0 _)) (KeepTag.set (H9.out.res.set30 _) (by decide) 1 _)) (KeepTag.set ((H9.out.res.set30 _).set31 _) (by decide) 2 _)
        · have hrd := H9.out.rd
          rw [HP1.out] at hrd
          exact ((hrd.new (Nat.le_refl _) hL 0 _).new (Nat.le_refl _) hL 1 _).new (Nat.le_refl _) hL 2 _
      | true =>
        rw [hnb] at HNm
        have HY0 : Hid (X = (sidesP [] (toks.drop 2)).map fun l => ⟨tw, ta, l⟩) := Lib.hid (by rw [HXt.out, if_neg (by unfold nameT; simp [hnb])])
        obtain ⟨Y, hY⟩ : ∃ Y, Y = sidesP [] (toks.drop 2) := ⟨_, rfl⟩
        rw [← hY] at HY0
        have HY := Lib.hid hY
        clear hnb hY
        go_wp2_with fail
        refine (HNm.out _).mono ?_
        rintro _ w4 ⟨rfl, hb4⟩
        have HI4 := Lib.hid (HI3.out.below hb4)
        clear hb4 e0 e1 d0 d1 d2 d3
        have e0 := HI4.out.rd.rd.cell 0
        have e1 := HI4.out.rd.rd.cell 1
        have e1f : w4.frozen? ⟨L, 1, none⟩ = false := HI4.out.rd.rd.froz 1
        simp at e0 e1
        obtain ⟨_, d0, d1, d2, d3⟩ := HI4.out.rd.tok.cells HTk.out
        simp at d0 d1 d2 d3
        have xc0 := HI4.out.x.cell 0
        simp at xc0
        have xcf : w4.frozen? ⟨xb, 0, none⟩ = false := HI4.out.x.froz 0
        have hLx : ¬ L = xb := by omega
        have hxL : ¬ xb = L := by omega
        have HI5 : Hid (InpAt w ((w4.setCell ⟨xb, 0, none⟩ (.string (mkS tw))).setCell ⟨L, 1, none⟩ (.int .i64 2)) L (.slice (some ⟨g, o, none⟩) n cap) toks 2 e 0 0 xb (mkS tw) ta (.slice none 0 0)) := Lib.hid ((HI4.out.name (mkS tw)).put1 2)
        go_wp2_with fail

        generalize (w4.setCell ⟨xb, 0, none⟩ (.string (mkS tw))).setCell ⟨L, 1, none⟩ (.int .i64 2) = W5 at HI5 ⊢
        clear e0 e1 e1f d0 d1 d2 d3 xc0 xcf
        have hn2 : 2 ≤ n := by omega
        obtain ⟨i0, hi, hz0', hz1', hz2'⟩ := info_parts Tryd.infoSide
        go_loopg [] (n - 2) (fun gg wx => ∃ (k : Nat) (acc : List (List UInt8 × Int)) (v : Value), gg = n - k ∧ 2 ≤ k ∧ k ≤ n ∧ InpAt w wx L (.slice (some ⟨g, o, none⟩) n cap) toks k e 0 0 xb (mkS tw) ta v ∧ wx.ownsRow w.heap.size 77 2 v acc.length (sideCells acc) ∧ sidesP acc (toks.drop k) = Y ∧ acc.length ≤ 4)
        case atStart => exact ⟨2, [], .slice none 0 0, rfl, Nat.le_refl _, hn2, HI5.out, World.ownsRow_nil _ _ _ _, HY.out.symm, by simp⟩
        case round =>
          clear HOw HAcc acc
          obtain ⟨k, acc, v, rfl, hk2, hkn, hia, hown, hsd, ha4⟩ := hrel
          obtain ⟨ad, capd, rfl⟩ := own_form hown
          have HIa := Lib.hid hia
          have HO := Lib.hid hown
          have e0 := hia.rd.rd.cell 0
          have e1 := hia.rd.rd.cell 1
          simp at e0 e1
          have hsw := hia.rd.grown.size
          have hLr := hia.rd.rd.lt
          have hgr : g < wr.heap.size := by omega
          by_cases hlt : k < n
          · have hlt2 : (k : Int) < n := by omega
            have hltb : decide (k < n) = true := by rw [decide_eq_true_iff]; exact hlt
            obtain ⟨u, hu⟩ : ∃ u, toks[k]? = some u := ⟨toks[k]'(by have := HN.out; omega), List.getElem?_eq_getElem _⟩
            have HPk := Lib.hid (place_in e hu)
            have hdk := drop_cons hu
            have huw : u.word.length ≤ 16 ∨ u.kind ≠ 1 := by
              rcases HLx.out u (List.mem_of_getElem? hu) with ⟨_, _, _, _, h⟩ | ⟨h, _⟩ | ⟨h, _⟩ | ⟨h, _⟩
              · exact .inl h
              · exact .inr (by rw [h]; decide)
              · exact .inr (by rw [h]; decide)
              · exact .inr (by rw [h]; decide)
            have HS : Hid (Y = if !isNum u && !nameT u then .error (u.at_, 41) else if acc.length = 4 then .error (u.at_, 45) else sidesP (acc ++ [(u.word, u.n)]) (toks.drop (k + 1))) := Lib.hid (by rw [← hsd, hdk, sidesP])
            have HU := Lib.hid hu
            obtain ⟨uk, ua, uw, un⟩ := u
            dsimp only at huw HS HPk
            clear hia hown hsd hdk hu
            go_wp2_with fail
            go_quiet (fail)
            go_upto_region 13 with fail
            clear e0 e1
            have HIb := Lib.hid (HIa.out.below (below_drewN' (Below.refl _ _) nq))
            have HOb : Hid ((wr.drewN nq).ownsRow w.heap.size 77 2 (.slice ad acc.length capd) acc.length (sideCells acc)) := HO
            have hsx : wr.heap.size ≤ (wr.drewN nq).heap.size := Nat.le_refl _
            generalize wr.drewN nq = Wb at HIb HOb hsx ⊢
            have e0 := HIb.out.rd.rd.cell 0
            have e1 := HIb.out.rd.rd.cell 1
            simp at e0 e1
            obtain ⟨_, d0, d1, d2, d3⟩ := HIb.out.rd.tok.cells HU.out
            dsimp only at d0 d1 d2 d3
            have hLb := HIb.out.rd.rd.lt
            have hgb : g < Wb.heap.size := by omega
            have HIc : Hid (InpAt w (Wb.alloc (.cells #[.int .i64 uk, .int .i64 ua, .string (mkS uw), .int .i64 un] 64)).drew L (.slice (some ⟨g, o, none⟩) n cap) toks k e 0 0 xb (mkS tw) ta (.slice ad acc.length capd)) := Lib.hid (HIb.out.below (((Below.refl _ _).alloc (Nat.le_refl _) _).drew))
            have HOc : Hid ((Wb.alloc (.cells #[.int .i64 uk, .int .i64 ua, .string (mkS uw), .int .i64 un] 64)).drew.ownsRow w.heap.size 77 2 (.slice ad acc.length capd) acc.length (sideCells acc)) := Lib.hid (own_tag HOb.out (KeepTag.below (((Below.refl _ _).alloc (Nat.le_refl _) _).drew)))
            have HTc : Hid (Blk (Wb.alloc (.cells #[.int .i64 uk, .int .i64 ua, .string (mkS uw), .int .i64 un] 64)).drew Wb.heap.size 64 #[.int .i64 uk, .int .i64 ua, .string (mkS uw), .int .i64 un]) := Lib.hid (Blk.new Wb _ _ rfl)
            clear HIa HO HIb HOb
            go_region
            go_upto_region 14 with fail
            generalize (Wb.alloc (.cells #[.int .i64 uk, .int .i64 ua, .string (mkS uw), .int .i64 un] 64)).drew = Wc at HIc HOc HTc ⊢
            generalize Wb.heap.size = tb at HTc ⊢
            clear e0 e1 d0 d1 d2 d3
            have y0 := HTc.out.cell 0
            have y2' := HTc.out.cell 2
            simp at y0 y2'
            by_cases q2 : uk = 2
            · subst q2
              have HS2 : Hid (Y = if acc.length = 4 then .error (ua, 45) else sidesP (acc ++ [(uw, un)]) (toks.drop (k + 1))) := Lib.hid (by rw [HS.out, if_neg (by simp [isNum])])
              by_cases h4 : acc.length = 4
              · have H4 := Lib.hid h4
                rw [h4] at HIc HOc
                clear h4
                have xs2 := HIc.out.x.cell 2
                simp at xs2

                have HXe : Hid (X = .error (ua, 45)) := Lib.hid (by rw [HY0.out, HS2.out, if_pos H4.out]; rfl)
                go_wp2_with fail
                refine (HNo.out 45 k _ HIc.out.rd).mono ?_
                rintro _ w9 ⟨rfl, hr9, hg9⟩
                have H9 := Lib.hid (HIc.out.no hg9 hr9)
                have HO9 : Hid (w9.ownsRow w.heap.size 77 2 (.slice ad 4 capd) 4 (sideCells acc)) := Lib.hid (own_tag HOc.out (KeepTag.gb hg9 HIc.out.rd.rd (by decide)))
                clear hr9 hg9

                have xc0 := H9.out.x.cell 0
                have xc1 := H9.out.x.cell 1
                have xc2 := H9.out.x.cell 2
                simp at xc0 xc1 xc2
                have rc0 := H9.out.res.cell 0
                have rc1 := H9.out.res.cell 1
                have rc2 := H9.out.res.cell 2
                simp at rc0 rc1 rc2
                have rfz := H9.out.res.froz

                go_wp2_with fail
                refine bodyPost_ret (v := .agg #[.string (mkS tw), .int .i64 ta, (.slice ad 4 capd)]) (by simp [results, Tryd.results46, go_sem, rc0, rc1, rc2]) rfl ?_
                rw [HXe.out]
                refine ⟨_, _, _, acc, rfl, ?_, Nat.succ_ne_zero 44, k, ?_⟩
                · show World.ownsRow _ _ _ _ _ acc.length _
                  rw [H4.out]
                  exact own_tag (own_tag (own_tag HO9.out (KeepTag.set H9.out.res (by decide) 0 _)) (KeepTag.set (H9.out.res.set30 _) (by decide) 1 _)) (KeepTag.set ((H9.out.res.set30 _).set31 _) (by decide) 2 _)
                · have hrd := H9.out.rd
                  rw [HPk.out] at hrd
                  exact ((hrd.new (Nat.le_refl _) hL 0 _).new (Nat.le_refl _) hL 1 _).new (Nat.le_refl _) hL 2 _
              · have hl4i : ¬ (acc.length : Int) = 4 := by omega
                have hl4n : (acc.length == 4) = false := by rw [beq_eq_false_iff_ne]; exact h4
                have xs2 := HIc.out.x.cell 2
                simp at xs2
                have y2 := HTc.out.cell 2
                have y3 := HTc.out.cell 3
                simp at y2 y3
                have HS3 := Lib.hid (HS2.out.trans (if_neg h4))
                have hla : acc.length + 1 ≤ 4 := by omega
                have htl := HTc.out.lt
                have hsx2 := HIc.out.rd.grown.size
                clear h4
                go_wp2_with (at_builtin; refine wpList_append_lies _ rfl (.tmp 109) (.tmp 115) 54 rfl w.heap.size 77 i0 (.agg #[.string ⟨#[]⟩, .int .i64 0]) 2 24 Tryd.underlying54 hi hz0' hz1' hz2' rfl (by decide) _ _ _ rfl (HOc.out.alloc _) ⟨Wc.heap.size, 0, none⟩ 1 1 [.string (mkS uw), .int .i64 un] rfl rfl ?c1 ?c2 (by decide) ?c3 ?c4 ?c5 _ rfl ?_)
                case c1 => exact World.news_of_block (cs := #[.string (mkS uw), .int .i64 un]) (heap_alloc_new Wc _)
                case c2 => intro z hz; simp at hz; rcases hz with rfl | rfl <;> rfl
                case c3 => unfold maxLen; omega
                case c4 => omega
                case c5 => simp; omega
                intro g2 cap2 w5 hown5 hg5 hat5 hlt5
                have hrow5 : ∀ j, (Value.slice ad acc.length capd).ownBlock = some j → w.heap.size ≤ j := fun j hj => (HOc.out.lt j hj).1
                have hk5 : ∀ t, t ≠ 77 → KeepTag t Wc w5 := fun t ht => (KeepTag.alloc _).trans (KeepTag.own hg5 (HOc.out.alloc _) ht)
                have HI5x : Hid (InpAt w w5 L (.slice (some ⟨g, o, none⟩) n cap) toks k e 0 0 xb (mkS tw) ta (.slice ad acc.length capd)) := Lib.hid ((HIc.out.below ((Below.refl _ _).alloc (Nat.le_refl _) _)).row hg5 hrow5 (KeepTag.own hg5 (HOc.out.alloc _) (by decide)))
                have z2 := HI5x.out.x.cell 2
                have z1 := HI5x.out.rd.rd.cell 1
                simp at z2 z1
                have z2f : w5.frozen? ⟨xb, 2, none⟩ = false := HI5x.out.x.froz 2
                have z1f : w5.frozen? ⟨L, 1, none⟩ = false := HI5x.out.rd.rd.froz 1
                have HOw5 := Lib.hid hown5
                clear hown5 hg5 hat5 hlt5 hk5 xs2 y2 y3
                go_wp2_with fail
                go_roundg (n - (k + 1))
                case measure => omega
                case rel =>
                  refine ⟨k + 1, acc ++ [(uw, un)], .slice (some ⟨g2, 0, none⟩) (acc.length + 1) cap2, rfl, by omega, by omega, (HI5x.out.sides _).put1 (k + 1), ?_, HS3.out.symm, by rw [List.length_append]; exact hla⟩
                  have := own_tag (own_tag HOw5.out (KeepTag.set HI5x.out.x (by decide) 2 (.slice (some ⟨g2, 0, none⟩) (acc.length + 1) cap2))) (KeepTag.set (HI5x.out.sides (.slice (some ⟨g2, 0, none⟩) (acc.length + 1) cap2)).rd.rd (by decide) 1 (.int .i64 ((k : Int) + 1)))
                  rw [List.length_append, sideCells_snoc]
                  exact this
            · have q2b : (uk == 2) = false := by rw [beq_eq_false_iff_ne]; exact q2
              by_cases q1 : uk = 1
              · subst q1
                have hw16u : uw.length ≤ 16 := huw.resolve_right (fun h => h rfl)
                have HNu := Lib.hid (fun wx => rName_any (mkS uw) wx (by rw [mkS_size]; unfold maxLen; omega))
                rw [mkS_toList] at HNu
                clear huw
                cases hnu : nameB uw with
                | false =>
                  rw [hnu] at HNu
                  have HYe : Hid (Y = .error (ua, 41)) := Lib.hid (by rw [HS.out, if_pos (by simp [isNum, nameT, hnu])])
                  clear hnu
                  go_wp2_with fail
                  refine (HNu.out _).mono ?_
                  rintro _ w6 ⟨rfl, hb6⟩
                  have HI6 := Lib.hid (HIc.out.below hb6)
                  have HO6 := Lib.hid (own_tag HOc.out (KeepTag.below hb6))
                  clear hb6

                  have HXe : Hid (X = .error (ua, 41)) := Lib.hid (by rw [HY0.out, HYe.out]; rfl)
                  go_wp2_with fail
                  refine (HNo.out 41 k _ HI6.out.rd).mono ?_
                  rintro _ w9 ⟨rfl, hr9, hg9⟩
                  have H9 := Lib.hid (HI6.out.no hg9 hr9)
                  have HO9 : Hid (w9.ownsRow w.heap.size 77 2 (.slice ad acc.length capd) acc.length (sideCells acc)) := Lib.hid (own_tag HO6.out (KeepTag.gb hg9 HI6.out.rd.rd (by decide)))
                  clear hr9 hg9

                  have xc0 := H9.out.x.cell 0
                  have xc1 := H9.out.x.cell 1
                  have xc2 := H9.out.x.cell 2
                  simp at xc0 xc1 xc2
                  have rc0 := H9.out.res.cell 0
                  have rc1 := H9.out.res.cell 1
                  have rc2 := H9.out.res.cell 2
                  simp at rc0 rc1 rc2
                  have rfz := H9.out.res.froz

                  go_wp2_with fail
                  refine bodyPost_ret (v := .agg #[.string (mkS tw), .int .i64 ta, (.slice ad acc.length capd)]) (by simp [results, Tryd.results46, go_sem, rc0, rc1, rc2]) rfl ?_
                  rw [HXe.out]
                  refine ⟨_, _, _, acc, rfl, ?_, Nat.succ_ne_zero 40, k, ?_⟩
                  · exact own_tag (own_tag (own_tag HO9.out (KeepTag.set H9.out.res (by decide) 0 _)) (KeepTag.set (H9.out.res.set30 _) (by decide) 1 _)) (KeepTag.set ((H9.out.res.set30 _).set31 _) (by decide) 2 _)
                  · have hrd := H9.out.rd
                    rw [HPk.out] at hrd
                    exact ((hrd.new (Nat.le_refl _) hL 0 _).new (Nat.le_refl _) hL 1 _).new (Nat.le_refl _) hL 2 _
                | true =>
                  rw [hnu] at HNu
                  have HS2 : Hid (Y = if acc.length = 4 then .error (ua, 45) else sidesP (acc ++ [(uw, un)]) (toks.drop (k + 1))) := Lib.hid (by rw [HS.out, if_neg (by simp [isNum, nameT, hnu])])
                  clear hnu
                  go_wp2_with fail
                  refine (HNu.out _).mono ?_
                  rintro _ w6 ⟨rfl, hb6⟩
                  have HI6 := Lib.hid (HIc.out.below hb6)
                  have HO6 := Lib.hid (own_tag HOc.out (KeepTag.below hb6))
                  have HT6 := Lib.hid (HTc.out.below hb6)
                  clear hb6
                  by_cases h4 : acc.length = 4
                  · have H4 := Lib.hid h4
                    rw [h4] at HI6 HO6
                    clear h4
                    have xs2 := HI6.out.x.cell 2
                    simp at xs2

                    have HXe : Hid (X = .error (ua, 45)) := Lib.hid (by rw [HY0.out, HS2.out, if_pos H4.out]; rfl)
                    go_wp2_with fail
                    refine (HNo.out 45 k _ HI6.out.rd).mono ?_
                    rintro _ w9 ⟨rfl, hr9, hg9⟩
                    have H9 := Lib.hid (HI6.out.no hg9 hr9)
                    have HO9 : Hid (w9.ownsRow w.heap.size 77 2 (.slice ad 4 capd) 4 (sideCells acc)) := Lib.hid (own_tag HO6.out (KeepTag.gb hg9 HI6.out.rd.rd (by decide)))
                    clear hr9 hg9

                    have xc0 := H9.out.x.cell 0
                    have xc1 := H9.out.x.cell 1
                    have xc2 := H9.out.x.cell 2
                    simp at xc0 xc1 xc2
                    have rc0 := H9.out.res.cell 0
                    have rc1 := H9.out.res.cell 1
                    have rc2 := H9.out.res.cell 2
                    simp at rc0 rc1 rc2
                    have rfz := H9.out.res.froz

                    go_wp2_with fail
                    refine bodyPost_ret (v := .agg #[.string (mkS tw), .int .i64 ta, (.slice ad 4 capd)]) (by simp [results, Tryd.results46, go_sem, rc0, rc1, rc2]) rfl ?_
                    rw [HXe.out]
                    refine ⟨_, _, _, acc, rfl, ?_, Nat.succ_ne_zero 44, k, ?_⟩
                    · show World.ownsRow _ _ _ _ _ acc.length _
                      rw [H4.out]
                      exact own_tag (own_tag (own_tag HO9.out (KeepTag.set H9.out.res (by decide) 0 _)) (KeepTag.set (H9.out.res.set30 _) (by decide) 1 _)) (KeepTag.set ((H9.out.res.set30 _).set31 _) (by decide) 2 _)
                    · have hrd := H9.out.rd
                      rw [HPk.out] at hrd
                      exact ((hrd.new (Nat.le_refl _) hL 0 _).new (Nat.le_refl _) hL 1 _).new (Nat.le_refl _) hL 2 _
                  · have hl4i : ¬ (acc.length : Int) = 4 := by omega
                    have hl4n : (acc.length == 4) = false := by rw [beq_eq_false_iff_ne]; exact h4
                    have xs2 := HI6.out.x.cell 2
                    simp at xs2
                    have y2 := HT6.out.cell 2
                    have y3 := HT6.out.cell 3
                    simp at y2 y3
                    have HS3 := Lib.hid (HS2.out.trans (if_neg h4))
                    have hla : acc.length + 1 ≤ 4 := by omega
                    have htl := HT6.out.lt
                    have hsx2 := HI6.out.rd.grown.size
                    clear h4
                    go_wp2_with (at_builtin; refine wpList_append_lies _ rfl (.tmp 109) (.tmp 115) 54 rfl w.heap.size 77 i0 (.agg #[.string ⟨#[]⟩, .int .i64 0]) 2 24 Tryd.underlying54 hi hz0' hz1' hz2' rfl (by decide) _ _ _ rfl (HO6.out.alloc _) ⟨w6.heap.size, 0, none⟩ 1 1 [.string (mkS uw), .int .i64 un] rfl rfl ?c1 ?c2 (by decide) ?c3 ?c4 ?c5 _ rfl ?_)
                    case c1 => exact World.news_of_block (cs := #[.string (mkS uw), .int .i64 un]) (heap_alloc_new w6 _)
                    case c2 => intro z hz; simp at hz; rcases hz with rfl | rfl <;> rfl
                    case c3 => unfold maxLen; omega
                    case c4 => omega
                    case c5 => simp; omega
                    intro g2 cap2 w5 hown5 hg5 hat5 hlt5
                    have hrow5 : ∀ j, (Value.slice ad acc.length capd).ownBlock = some j → w.heap.size ≤ j := fun j hj => (HO6.out.lt j hj).1
                    have hk5 : ∀ t, t ≠ 77 → KeepTag t w6 w5 := fun t ht => (KeepTag.alloc _).trans (KeepTag.own hg5 (HO6.out.alloc _) ht)
                    have HI5x : Hid (InpAt w w5 L (.slice (some ⟨g, o, none⟩) n cap) toks k e 0 0 xb (mkS tw) ta (.slice ad acc.length capd)) := Lib.hid ((HI6.out.below ((Below.refl _ _).alloc (Nat.le_refl _) _)).row hg5 hrow5 (KeepTag.own hg5 (HO6.out.alloc _) (by decide)))
                    have z2 := HI5x.out.x.cell 2
                    have z1 := HI5x.out.rd.rd.cell 1
                    simp at z2 z1
                    have z2f : w5.frozen? ⟨xb, 2, none⟩ = false := HI5x.out.x.froz 2
                    have z1f : w5.frozen? ⟨L, 1, none⟩ = false := HI5x.out.rd.rd.froz 1
                    have HOw5 := Lib.hid hown5
                    clear hown5 hg5 hat5 hlt5 hk5 xs2 y2 y3
                    go_wp2_with fail
                    go_roundg (n - (k + 1))
                    case measure => omega
                    case rel =>
                      refine ⟨k + 1, acc ++ [(uw, un)], .slice (some ⟨g2, 0, none⟩) (acc.length + 1) cap2, rfl, by omega, by omega, (HI5x.out.sides _).put1 (k + 1), ?_, HS3.out.symm, by rw [List.length_append]; exact hla⟩
                      have := own_tag (own_tag HOw5.out (KeepTag.set HI5x.out.x (by decide) 2 (.slice (some ⟨g2, 0, none⟩) (acc.length + 1) cap2))) (KeepTag.set (HI5x.out.sides (.slice (some ⟨g2, 0, none⟩) (acc.length + 1) cap2)).rd.rd (by decide) 1 (.int .i64 ((k : Int) + 1)))
                      rw [List.length_append, sideCells_snoc]
                      exact this
              · have q1b : (uk == 1) = false := by rw [beq_eq_false_iff_ne]; exact q1
                have HYe : Hid (Y = .error (ua, 41)) := Lib.hid (by rw [HS.out, if_pos (by simp [isNum, nameT, q1, q2])])

                have HXe : Hid (X = .error (ua, 41)) := Lib.hid (by rw [HY0.out, HYe.out]; rfl)
                go_wp2_with fail
                refine (HNo.out 41 k _ HIc.out.rd).mono ?_
                rintro _ w9 ⟨rfl, hr9, hg9⟩
                have H9 := Lib.hid (HIc.out.no hg9 hr9)
                have HO9 : Hid (w9.ownsRow w.heap.size 77 2 (.slice ad acc.length capd) acc.length (sideCells acc)) := Lib.hid (own_tag HOc.out (KeepTag.gb hg9 HIc.out.rd.rd (by decide)))
                clear hr9 hg9

                have xc0 := H9.out.x.cell 0
                have xc1 := H9.out.x.cell 1
                have xc2 := H9.out.x.cell 2
                simp at xc0 xc1 xc2
                have rc0 := H9.out.res.cell 0
                have rc1 := H9.out.res.cell 1
                have rc2 := H9.out.res.cell 2
                simp at rc0 rc1 rc2
                have rfz := H9.out.res.froz

                go_wp2_with fail
                refine bodyPost_ret (v := .agg #[.string (mkS tw), .int .i64 ta, (.slice ad acc.length capd)]) (by simp [results, Tryd.results46, go_sem, rc0, rc1, rc2]) rfl ?_
                rw [HXe.out]
                refine ⟨_, _, _, acc, rfl, ?_, Nat.succ_ne_zero 40, k, ?_⟩
                · exact own_tag (own_tag (own_tag HO9.out (KeepTag.set H9.out.res (by decide) 0 _)) (KeepTag.set (H9.out.res.set30 _) (by decide) 1 _)) (KeepTag.set ((H9.out.res.set30 _).set31 _) (by decide) 2 _)
                · have hrd := H9.out.rd
                  rw [HPk.out] at hrd
                  exact ((hrd.new (Nat.le_refl _) hL 0 _).new (Nat.le_refl _) hL 1 _).new (Nat.le_refl _) hL 2 _
          · obtain rfl : k = n := by omega
            have hlt2 : ¬ (k : Int) < k := by omega
            have HXk : Hid (X = .ok ⟨tw, ta, acc⟩) := Lib.hid (by rw [HY0.out, ← hsd, List.drop_of_length_le (by have := HN.out; omega)]; rfl)
            clear hia hown hsd
            go_wp2_with fail
            go_quiet (fail)
            go_upto_region 21 with fail
            clear e0 e1
            have HIb := Lib.hid (HIa.out.below (below_drewN' (Below.refl _ _) nq))
            have HOb : Hid ((wr.drewN nq).ownsRow w.heap.size 77 2 (.slice ad acc.length capd) acc.length (sideCells acc)) := HO
            generalize wr.drewN nq = Wb at HIb HOb ⊢
            clear HIa HO
            have xc0 := HIb.out.x.cell 0
            have xc1 := HIb.out.x.cell 1
            have xc2 := HIb.out.x.cell 2
            simp at xc0 xc1 xc2
            have rc0 := HIb.out.res.cell 0
            have rc1 := HIb.out.res.cell 1
            have rc2 := HIb.out.res.cell 2
            simp at rc0 rc1 rc2
            have rfz := HIb.out.res.froz

            go_wp2_with fail
            refine bodyPost_ret (v := .agg #[.string (mkS tw), .int .i64 ta, (.slice ad acc.length capd)]) (by simp [results, Tryd.results46, go_sem, rc0, rc1, rc2]) rfl ?_
            rw [HXk.out]
            refine ⟨_, _, _, acc, rfl, ?_, rfl, rfl, rfl, k, ?_⟩
            · exact own_tag (own_tag (own_tag HOb.out (KeepTag.set HIb.out.res (by decide) 0 _)) (KeepTag.set (HIb.out.res.set30 _) (by decide) 1 _)) (KeepTag.set ((HIb.out.res.set30 _).set31 _) (by decide) 2 _)
            · exact ((HIb.out.rd.new (Nat.le_refl _) hL 0 _).new (Nat.le_refl _) hL 1 _).new (Nat.le_refl _) hL 2 _
    · have hk1b : (tk != 1) = true := by rw [bne_iff_ne]; exact hk1

      have HXe : Hid (X = .error (ta, 41)) := Lib.hid (by rw [HXt.out, if_pos (by unfold nameT; simp [hk1])])
      go_wp2_with fail
      refine (HNo.out 41 1 _ HI3.out.rd).mono ?_
      rintro _ w9 ⟨rfl, hr9, hg9⟩
      have H9 := Lib.hid (HI3.out.no hg9 hr9)
      have HO9 : Hid (w9.ownsRow w.heap.size 77 2 (.slice none 0 0) acc.length (sideCells acc)) := Lib.hid (own_tag (HOw.out _) (KeepTag.gb hg9 HI3.out.rd.rd (by decide)))
      clear hr9 hg9

      have xc0 := H9.out.x.cell 0
      have xc1 := H9.out.x.cell 1
      have xc2 := H9.out.x.cell 2
      simp at xc0 xc1 xc2
      have rc0 := H9.out.res.cell 0
      have rc1 := H9.out.res.cell 1
      have rc2 := H9.out.res.cell 2
      simp at rc0 rc1 rc2
      have rfz := H9.out.res.froz

      go_wp2_with fail
      refine bodyPost_ret (v := .agg #[.string ⟨#[]⟩, .int .i64 ta, (.slice none 0 0)]) (by simp [results, Tryd.results46, go_sem, rc0, rc1, rc2]) rfl ?_
      rw [HXe.out]
      refine ⟨_, _, _, acc, rfl, ?_, Nat.succ_ne_zero 40, 1, ?_⟩
      · exact own_tag (own_tag (own_tag HO9.out (KeepTag.set H9.out.res (by decide) 0 _)) (KeepTag.set (H9.out.res.set30 _) (by decide) 1 _)) (KeepTag.set ((H9.out.res.set30 _).set31 _) (by decide) 2 _)
      · have hrd := H9.out.rd
        rw [HP1.out] at hrd
        exact ((hrd.new (Nat.le_refl _) hL 0 _).new (Nat.le_refl _) hL 1 _).new (Nat.le_refl _) hL 2 _
end Go.Proofs.YtfpneopobbfabaaDoor
namespace Go.Proofs.YtfpneopobbfabaaDoor
open Go.RowKit Go.Shelf Go.Sort

theorem PrgS.tags {w w' : World} {P B : Nat} {p : Prg} (h : PrgS w P B p) (hk : ∀ t, t ≠ 69 → KeepTag t w w') : PrgS w' P B p := by
  obtain ⟨vi, vl, h1, ci, cl, o1, o2, o3, o4⟩ := h
  exact ⟨vi, vl, h1.keep (hk _ (by decide)), ci, cl, own_tag o1 (hk _ (by decide)), o2.imp (fun _ _ h => h.keep (hk _ (by decide))), own_tag o3 (hk _ (by decide)), o4.imp (fun _ _ h => h.keep (hk _ (by decide)) (hk _ (by decide)))⟩
theorem RdAt.low {w w' : World} {L : Nat} {vt : Value} {toks : List Tok} {k : Nat} {e : Int} {nest : Nat} {fa fc : Int} (h : RdAt w w' L vt toks k e nest fa fc) {B : Nat} (hB : B ≤ w.heap.size) (hL : B ≤ L) : Below B w w' :=
  (Below.refl B w).grown h.grown hB (fun k hk => by injection hk with hk; omega)
/-- What a line makes of a program. -/
def RLinePost (B P L : Nat) (vt : Value) (e : Int) (x : Except Fault Prg) (w : World) (en : Ending) (w' : World) : Prop :=
  en = .returned (.tuple #[]) ∧ Below B w w' ∧ match x with
  | .error y => y.2 ≠ 0 ∧ ∃ k' nest, RdB w' L vt k' e nest y.1 y.2
  | .ok q => (∃ k' nest, RdB w' L vt k' e nest 0 0) ∧ PrgS w' P B q
theorem RInputPost.one {L : Nat} {vt : Value} {toks : List Tok} {e : Int} {x : Except Fault Inp} {w w' : World} {en : Ending} (h : RInputPost L vt toks e x w en w') :
    ∃ nm at_ v ss, en = .returned (.agg #[.string nm, .int .i64 at_, v]) ∧ w'.ownsRow w.heap.size 77 2 v (List.length ss) (sideCells ss) ∧ ∃ k' y1 y2, RdAt w w' L vt toks k' e 0 y1 y2 ∧
      (∀ y, x = .error y → y.2 ≠ 0 ∧ y1 = y.1 ∧ y2 = y.2) ∧ (∀ i, x = .ok i → y1 = 0 ∧ y2 = 0 ∧ nm = mkS i.name ∧ at_ = i.at_ ∧ ss = i.sides) := by
  obtain ⟨nm, at_, v, ss, h1, h2, h3⟩ := h
  refine ⟨nm, at_, v, ss, h1, h2, ?_⟩
  cases x with
  | error y =>
    obtain ⟨h4, k', h5⟩ := h3
    exact ⟨k', _, _, h5, fun z hz => by injection hz with hz; subst hz; exact ⟨h4, rfl, rfl⟩, fun q hq => (nomatch hq)⟩
  | ok i =>
    obtain ⟨h4, h5, h6, k', h7⟩ := h3
    exact ⟨k', _, _, h7, fun z hz => (nomatch hz), fun q hq => by injection hq with hq; subst hq; exact ⟨rfl, rfl, h4, h5, h6⟩⟩
theorem RWholePost.one {L : Nat} {vt : Value} {toks : List Tok} {e : Int} {x : Except Fault (List Itm)} {w w' : World} {en : Ending} (h : RWholePost L vt toks e x w en w') :
    ∃ v l', en = .returned v ∧ ItsO w' w.heap.size v l' ∧ l'.length ≤ toks.length ∧ ∃ k' y1 y2, RdAt w w' L vt toks k' e 0 y1 y2 ∧
      (∀ y, x = .error y → y.2 ≠ 0 ∧ y1 = y.1 ∧ y2 = y.2) ∧ (∀ l, x = .ok l → y1 = 0 ∧ y2 = 0 ∧ l' = l) := by
  obtain ⟨v, l', h1, h2, h2', h3⟩ := h
  refine ⟨v, l', h1, h2, h2', ?_⟩
  cases x with
  | error y =>
    obtain ⟨h4, k', h5⟩ := h3
    exact ⟨k', _, _, h5, fun z hz => by injection hz with hz; subst hz; exact ⟨h4, rfl, rfl⟩, fun q hq => (nomatch hq)⟩
  | ok i =>
    obtain ⟨h4, k', h7⟩ := h3
    exact ⟨k', _, _, h7, fun z hz => (nomatch hz), fun q hq => by injection hq with hq; subst hq; exact ⟨rfl, rfl, h4⟩⟩
set_option maxHeartbeats 16000000 in
set_option maxRecDepth 100000 in
theorem rline_any (B P L : Nat) (vt : Value) (toks : List Tok) (e : Int) (p : Prg) (m : Nat) (over : Bool) (w : World) (hlen : toks.length ≤ 100000) (hlx : ∀ t ∈ toks, t.lexed) (hk4 : ∀ t ∈ toks, t.kind ≠ 4) (hne : 0 < toks.length) (hB : B ≤ w.heap.size) (hBL : B ≤ L) (hBP : B ≤ P) (hPL : P ≠ L) (hm : m ≤ 64) (hcnt : p.inputs.length + p.lines.length ≤ m)
    (hR : RdAt w w L vt toks 0 e 0 0 0) (hP : PrgS w P B p) :
    Calls Tryd.prog 27 #[.pointer (some ⟨L, 0, none⟩), .pointer (some ⟨P, 0, none⟩), .int .i64 m, .bool over] w (RLinePost B P L vt e (intoP e toks p m over) w) := by
  have HNo := Lib.hid (fun (c : Int) (k' : Nat) (wx : World) (h : RdAt w wx L vt toks k' e 0 0 0) => rno_any c L vt toks k' e 0 0 0 wx h.rd h.full)
  have HIs := Lib.hid (fun (s : ByteArray) (k' : Nat) (wx : World) (h : RdAt w wx L vt toks k' e 0 0 0) => ris_any s L vt toks k' e 0 0 0 wx h.rd h.full)
  have HIn := Lib.hid (fun (wx : World) (h : RdAt wx wx L vt toks 0 e 0 0 0) => (rinput_any L vt toks e wx hlen hlx hne h).mono (fun _ _ h => h.one))
  have HWh := Lib.hid (fun (k' : Nat) (hk : k' ≤ toks.length) (wx : World) (h : RdAt wx wx L vt toks k' e 0 0 0) => (rwhole_any L vt toks e k' wx hlen hlx hk4 hk h).mono (fun _ _ h => h.one))
  obtain ⟨X, hX⟩ : ∃ X, X = intoP e toks p m over := ⟨_, rfl⟩
  rw [← hX]
  obtain ⟨t, ht⟩ : ∃ t, toks[0]? = some t := ⟨toks[0], List.getElem?_eq_getElem _⟩
  have hd0 : toks = t :: toks.drop 1 := by have := drop_cons ht; rwa [List.drop_zero] at this
  have HX : Hid (X = if m = 64 then .error (t.at_, 45)
    else if 256 < toks.length then .error (placeP e (toks.drop 256), 45)
    else if over = true ∨ isWord [105, 110] t = true ∧ p.lines ≠ [] then .error (t.at_, 40)
    else if isWord [105, 110] t = true then (inputP e (toks.drop 1)).map fun x => { p with inputs := p.inputs ++ [x] }
    else if isWord [111, 117, 116] t = true then (exprP e (toks.drop 1)).map fun l => { p with lines := p.lines ++ [⟨[], t.at_, l⟩] }
    else if nameT t = false then .error (t.at_, 40)
    else match toks.drop 1 with
      | [] => .error (e, 42)
      | c :: r2 => if signIs [58] c then (exprP e r2).map fun l => { p with lines := p.lines ++ [⟨t.word, t.at_, l⟩] } else .error (c.at_, 42)) := by
    apply Lib.hid
    rw [hX]
    generalize toks.drop 1 = r at hd0
    subst hd0
    rw [intoP.eq_def]
    rfl
  have hl0 := hlx t (List.mem_of_getElem? ht)
  have HP0 : Hid (placeP e (toks.drop 0) = t.at_) := Lib.hid (place_in e ht)
  have HPk : Hid (placeP e (toks.drop 0) = t.at_) := HP0
  have hin0 : isP [105, 110] (toks.drop 0) = isWord [105, 110] t := by rw [drop_cons ht]; exact isP_word hl0 105 [110] (by decide) _
  have HR := Lib.hid hR
  have HPr := Lib.hid hP
  have HLx := Lib.hid hlx
  have HTk := Lib.hid ht
  have HL0 := Lib.hid hl0
  have hL := hR.rd.lt
  obtain ⟨a, cap, hvt, hc, hmx, hcells⟩ := hR.tok
  obtain ⟨n, hn⟩ : ∃ n, n = toks.length := ⟨_, rfl⟩
  obtain ⟨g, o, ha, hg, _⟩ := hcells hne
  subst hvt ha
  rw [← hn] at hc hne hlen HR HNo HIs HIn HX HWh ⊢
  have HN := Lib.hid hn
  unfold maxLen at hmx
  have hgw : g < w.heap.size := by omega
  have c0 := HR.out.rd.cell 0
  simp at c0
  obtain ⟨_, d0, d1, d2, d3⟩ := HR.out.tok.cells HTk.out
  simp at d0 d1 d2 d3
  obtain ⟨tk, ta, tw, tn⟩ := t
  dsimp only at HX HP0 HPk hin0 d0 d1 d2 d3
  clear hX hlx hk4 hR hP hcells hn hd0 ht hl0
  by_cases h64 : m = 64
  · subst h64
    have hge : ((64 : Nat) : Int) ≥ 64 := by omega

    go_enter Tryd.func27, Tryd.ntmps27
    go_upto_region 1 with fail
    have HRs := Lib.hid (HR.out.alloc (.cells #[.int .i64 tk, .int .i64 ta, .string (mkS tw), .int .i64 tn] 64))
    have HTs : Hid (Blk (w.alloc (.cells #[.int .i64 tk, .int .i64 ta, .string (mkS tw), .int .i64 tn] 64)) w.heap.size 64 #[.int .i64 tk, .int .i64 ta, .string (mkS tw), .int .i64 tn]) := Lib.hid (Blk.new w _ _ rfl)
    generalize w.alloc (.cells #[.int .i64 tk, .int .i64 ta, .string (mkS tw), .int .i64 tn] 64) = W1 at HRs HTs ⊢
    clear c0 d0 d1 d2 d3
    have e0 := HRs.out.rd.cell 0
    have e1 := HRs.out.rd.cell 1
    have e1f : W1.frozen? ⟨L, 1, none⟩ = false := HRs.out.rd.froz 1
    simp at e0 e1

    have HXe : Hid (X = .error (ta, 45)) := Lib.hid (by rw [HX.out, if_pos rfl])
    go_wp2_with fail
    refine (HNo.out 45 0 _ HRs.out).mono ?_
    rintro _ w9 ⟨rfl, hr9, hg9⟩
    have HR9 := Lib.hid (HRs.out.to hg9 hr9)
    clear hr9 hg9
    go_wp2_with fail
    go_end0
    rw [HXe.out]
    refine ⟨rfl, HR9.out.low hB hBL, Nat.succ_ne_zero 44, 0, 0, ?_⟩
    have := HR9.out.rd
    first
      | exact this
      | (rw [HP0.out] at this; exact this)
      | (rw [HPk.out] at this; exact this)
  · rw [if_neg h64] at HX
    have hge : ¬ (m : Int) ≥ 64 := by omega
    have hgeb : decide (64 ≤ m) = false := by rw [decide_eq_false_iff_not]; omega
    by_cases h256 : 256 < n
    · have hgt : (n : Int) > 256 := by omega
      have hgtb : decide (256 < n) = true := by rw [decide_eq_true_iff]; exact h256

      go_enter Tryd.func27, Tryd.ntmps27
      go_upto_region 1 with fail
      have HRs := Lib.hid (HR.out.alloc (.cells #[.int .i64 tk, .int .i64 ta, .string (mkS tw), .int .i64 tn] 64))
      have HTs : Hid (Blk (w.alloc (.cells #[.int .i64 tk, .int .i64 ta, .string (mkS tw), .int .i64 tn] 64)) w.heap.size 64 #[.int .i64 tk, .int .i64 ta, .string (mkS tw), .int .i64 tn]) := Lib.hid (Blk.new w _ _ rfl)
      generalize w.alloc (.cells #[.int .i64 tk, .int .i64 ta, .string (mkS tw), .int .i64 tn] 64) = W1 at HRs HTs ⊢
      clear c0 d0 d1 d2 d3
      have e0 := HRs.out.rd.cell 0
      have e1 := HRs.out.rd.cell 1
      have e1f : W1.frozen? ⟨L, 1, none⟩ = false := HRs.out.rd.froz 1
      simp at e0 e1
      have HR2 := Lib.hid (HRs.out.put1 256)

      have HXe : Hid (X = .error (placeP e (toks.drop 256), 45)) := Lib.hid (by rw [HX.out, if_pos h256])
      go_wp2_with fail
      refine (HNo.out 45 256 _ HR2.out).mono ?_
      rintro _ w9 ⟨rfl, hr9, hg9⟩
      have HR9 := Lib.hid (HR2.out.to hg9 hr9)
      clear hr9 hg9
      go_wp2_with fail
      go_end0
      rw [HXe.out]
      refine ⟨rfl, HR9.out.low hB hBL, Nat.succ_ne_zero 44, 256, 0, ?_⟩
      have := HR9.out.rd
      first
        | exact this
        | (rw [HP0.out] at this; exact this)
        | (rw [HPk.out] at this; exact this)
    · rw [if_neg h256] at HX
      have hgt : ¬ (n : Int) > 256 := by omega
      have hgtb : decide (256 < n) = false := by rw [decide_eq_false_iff_not]; exact h256
      cases over with
      | true =>
        go_enter Tryd.func27, Tryd.ntmps27
        go_upto_region 1 with fail
        have HRs := Lib.hid (HR.out.alloc (.cells #[.int .i64 tk, .int .i64 ta, .string (mkS tw), .int .i64 tn] 64))
        have HTs : Hid (Blk (w.alloc (.cells #[.int .i64 tk, .int .i64 ta, .string (mkS tw), .int .i64 tn] 64)) w.heap.size 64 #[.int .i64 tk, .int .i64 ta, .string (mkS tw), .int .i64 tn]) := Lib.hid (Blk.new w _ _ rfl)
        generalize w.alloc (.cells #[.int .i64 tk, .int .i64 ta, .string (mkS tw), .int .i64 tn] 64) = W1 at HRs HTs ⊢
        clear c0 d0 d1 d2 d3
        have e0 := HRs.out.rd.cell 0
        have e1 := HRs.out.rd.cell 1
        have e1f : W1.frozen? ⟨L, 1, none⟩ = false := HRs.out.rd.froz 1
        simp at e0 e1

        have HXe : Hid (X = .error (ta, 40)) := Lib.hid (by rw [HX.out, if_pos (.inl rfl)])
        go_wp2_with fail
        refine (HNo.out 40 0 _ HRs.out).mono ?_
        rintro _ w9 ⟨rfl, hr9, hg9⟩
        have HR9 := Lib.hid (HRs.out.to hg9 hr9)
        clear hr9 hg9
        go_wp2_with fail
        go_end0
        rw [HXe.out]
        refine ⟨rfl, HR9.out.low hB hBL, Nat.succ_ne_zero 39, 0, 0, ?_⟩
        have := HR9.out.rd
        first
          | exact this
          | (rw [HP0.out] at this; exact this)
          | (rw [HPk.out] at this; exact this)
      | false =>
        have Iin := Lib.hid (fun (wx : World) (h : RdAt w wx L (.slice (some ⟨g, o, none⟩) n cap) toks 0 e 0 0 0) => HIs.out ⟨#[105, 110]⟩ 0 wx h)
        rw [show (⟨#[105, 110]⟩ : ByteArray).data.toList = [105, 110] from rfl, hin0] at Iin
        obtain ⟨vi, vl, hPb, ci, cl, o1, o2, o3, o4⟩ := HPr.out
        obtain ⟨ai, capi, rfl⟩ := own_form o1
        obtain ⟨al, capl, rfl⟩ := own_form o3
        have HPb := Lib.hid hPb
        have hPlt := hPb.lt
        have HO : Hid (∀ wx, w.grownBy wx (some L) → wx.ownsRow B 56 3 (.slice ai p.inputs.length capi) p.inputs.length ci ∧ RowC (InpR wx) 3 p.inputs ci ∧ wx.ownsRow B 45 3 (.slice al p.lines.length capl) p.lines.length cl ∧ RowC (LinR wx) 3 p.lines cl ∧ Blk wx P 26 #[.slice ai p.inputs.length capi, .slice al p.lines.length capl]) := by
          apply Lib.hid
          intro wx hg
          have kt : ∀ t, t ≠ 69 → KeepTag t w wx := fun t h => KeepTag.gb hg HR.out.rd h
          exact ⟨own_tag o1 (kt _ (by decide)), o2.imp (fun _ _ h => h.keep (kt _ (by decide))), own_tag o3 (kt _ (by decide)), o4.imp (fun _ _ h => h.keep (kt _ (by decide)) (kt _ (by decide))), hPb.keep (kt _ (by decide))⟩
        clear hPb o1 o2 o3 o4
        cases hin : isWord [105, 110] ⟨tk, ta, tw, tn⟩ with
        | true =>
          rw [hin] at Iin HX
          clear hin hin0
          by_cases hln : p.lines = []
          · rw [if_neg (by simp [hln]), if_pos rfl] at HX
            have hpl : p.lines.length = 0 := by rw [hln]; rfl

            go_enter Tryd.func27, Tryd.ntmps27
            go_upto_region 1 with fail
            have HRs := Lib.hid (HR.out.alloc (.cells #[.int .i64 tk, .int .i64 ta, .string (mkS tw), .int .i64 tn] 64))
            have HTs : Hid (Blk (w.alloc (.cells #[.int .i64 tk, .int .i64 ta, .string (mkS tw), .int .i64 tn] 64)) w.heap.size 64 #[.int .i64 tk, .int .i64 ta, .string (mkS tw), .int .i64 tn]) := Lib.hid (Blk.new w _ _ rfl)
            generalize w.alloc (.cells #[.int .i64 tk, .int .i64 ta, .string (mkS tw), .int .i64 tn] 64) = W1 at HRs HTs ⊢
            clear c0 d0 d1 d2 d3
            have e0 := HRs.out.rd.cell 0
            have e1 := HRs.out.rd.cell 1
            have e1f : W1.frozen? ⟨L, 1, none⟩ = false := HRs.out.rd.froz 1
            simp at e0 e1

            go_wp2_with fail
            refine (Iin.out _ HRs.out).mono ?_
            rintro _ w2 ⟨rfl, hb2⟩
            have HR2 := Lib.hid (HRs.out.below hb2)
            clear hb2 e0 e1 e1f
            have p1 : w2.cell? ⟨P, 1, none⟩ = some (.slice al p.lines.length capl) := (World.cell?_of_block (a := ⟨P, 1, none⟩) (HR2.out.grown.block P hPlt (fun h => by injection h with h; exact hPL h))).trans (HPb.out.cell 1)
            rw [hpl] at p1
            go_wp2_with fail
            refine (Iin.out _ HR2.out).mono ?_
            rintro _ w3 ⟨rfl, hb3⟩
            have HR3 := Lib.hid (HR2.out.below hb3)
            clear hb3 p1
            go_wp2_with fail
            obtain ⟨x, hx⟩ : ∃ x, x = inputP e (toks.drop 1) := ⟨_, rfl⟩
            rw [← hx] at HX HIn
            clear hx
            obtain ⟨z0, hi, hz0, hz1, hz2⟩ := info_parts Tryd.infoInput
            have hcap : p.inputs.length + 1 ≤ maxLen := by unfold maxLen; omega
            have hby : (p.inputs.length + 1) * 48 ≤ 140737488355328 := by omega
            have p0 : w3.cell? ⟨P, 0, none⟩ = some (.slice ai p.inputs.length capi) := (HO.out w3 HR3.out.grown).2.2.2.2.cell 0
            go_region_law
              (first
                | (go_simp; go_at_call 46; refine (HIn.out _ (by first | exact HR3.out.self | exact HR3.out.drew.self)).mono ?_; rintro _ w4 ⟨nm, at_, v, ss, rfl, hown4, k', y1, y2, hr4, he4, ho4⟩; obtain ⟨av, cv, rfl⟩ := own_form hown4; have HR4 : Hid (RdAt w w4 L (.slice (some ⟨g, o, none⟩) n cap) toks k' e 0 y1 y2) := Lib.hid (RdAt.base (by first | exact HR3.out | exact HR3.out.drew) hr4); have HP4 : Hid (Blk w4 P 26 #[.slice ai p.inputs.length capi, .slice al p.lines.length capl]) := Lib.hid (HO.out w4 HR4.out.grown).2.2.2.2; have p4 : w4.cell? ⟨P, 0, none⟩ = some (.slice ai p.inputs.length capi) := HP4.out.cell 0; have p4f : w4.frozen? ⟨P, 0, none⟩ = false := HP4.out.froz 0; have hPl4 := HP4.out.lt; have HS4 := Lib.hid hown4; have HE4 := Lib.hid (And.intro he4 ho4); have hsz4 : B ≤ w4.heap.size := Nat.le_trans hB HR4.out.grown.size; clear hown4 hr4 he4 ho4)
                | (refine step_append_lies _ (by rfl) _ _ _ (by rfl) B 56 z0 (.agg #[.string ⟨#[]⟩, .int .i64 0, .slice none 0 0]) 3 48 Tryd.underlying23 hi hz0 hz1 hz2 rfl (by decide) (.slice ai p.inputs.length capi) p.inputs.length ci (by rfl) ((HO.out w4 HR4.out.grown).1.alloc _) ⟨w4.heap.size, 0, none⟩ 1 1 [.string nm, .int .i64 at_, .slice av ss.length cv] (by rfl) (by rfl) (World.news_of_block (cs := #[.string nm, .int .i64 at_, .slice av ss.length cv]) (t := 56) (fr := (0, 0)) (heap_alloc_new w4 _)) (by simp [Value.oneCell']) (by decide) hcap hby (by simp; omega) (w4.heap.size + 1) (by simp) ?_; intro g2 cap2 w9 hown9 hg9 hat9 hlt9; have hk9 : ∀ t, t ≠ 56 → KeepTag t w4 w9 := (fun t h => (KeepTag.alloc _).trans (KeepTag.own hg9 ((HO.out w4 HR4.out.grown).1.alloc _) h)); have HP9 := Lib.hid (HP4.out.keep (hk9 _ (by decide))); have p9 : w9.cell? ⟨P, 0, none⟩ = some (.slice ai p.inputs.length capi) := HP9.out.cell 0; have p9f : w9.frozen? ⟨P, 0, none⟩ = false := HP9.out.froz 0))
            all_goals
              go_wp2_with fail
              go_end0
              have ks : ∀ t, t ≠ 26 → KeepTag t w9 (w9.setCell ⟨P, 0, none⟩ (.slice (some ⟨g2, 0, none⟩) (p.inputs.length + 1) cap2)) := fun t ht => KeepTag.set HP9.out ht 0 _
              have hlow : Below B w (w9.setCell ⟨P, 0, none⟩ (.slice (some ⟨g2, 0, none⟩) (p.inputs.length + 1) cap2)) := ((((HR4.out.low hB hBL).alloc hsz4 _).grown hg9 (by simp; omega) (fun j hj => ((HO.out w4 HR4.out.grown).1.lt j hj).1))).setCell hBP _
              have hrd : RdB (w9.setCell ⟨P, 0, none⟩ (.slice (some ⟨g2, 0, none⟩) (p.inputs.length + 1) cap2)) L (.slice (some ⟨g, o, none⟩) n cap) k' e 0 y1 y2 := (Blk.keep HR4.out.rd (hk9 _ (by decide))).keep (ks _ (by decide))
              obtain ⟨q1, q2, q3, q4, _⟩ := HO.out w4 HR4.out.grown
              have ka : ∀ t, KeepTag t w4 (w4.alloc (.cells #[.string nm, .int .i64 at_, .slice av ss.length cv] 56)) := fun t => KeepTag.alloc _
              cases x with
              | error y =>
                obtain ⟨h1, h2, h3⟩ := HE4.out.1 y rfl
                subst h2 h3
                rw [HX.out]
                exact ⟨rfl, hlow, h1, k', 0, hrd⟩
              | ok i =>
                obtain ⟨h1, h2, h3, h4, h5⟩ := HE4.out.2 i rfl
                subst h1 h2 h3 h4 h5
                rw [HX.out]
                exact ⟨rfl, hlow, ⟨k', 0, hrd⟩, _, _, HP9.out.set20 _, (PrgV.input (own_tag q1 (ka _)) (q2.imp (fun _ _ h => h.keep (ka _))) (own_tag q3 (ka _)) (q4.imp (fun _ _ h => h.keep (ka _) (ka _))) hg9 hown9 (own_base (own_tag HS4.out (ka _)) (Nat.zero_le _))).keep (fun t _ _ _ ht => ks t ht)⟩
          · have hpl : 0 < p.lines.length := List.length_pos_iff.2 hln

            go_enter Tryd.func27, Tryd.ntmps27
            go_upto_region 1 with fail
            have HRs := Lib.hid (HR.out.alloc (.cells #[.int .i64 tk, .int .i64 ta, .string (mkS tw), .int .i64 tn] 64))
            have HTs : Hid (Blk (w.alloc (.cells #[.int .i64 tk, .int .i64 ta, .string (mkS tw), .int .i64 tn] 64)) w.heap.size 64 #[.int .i64 tk, .int .i64 ta, .string (mkS tw), .int .i64 tn]) := Lib.hid (Blk.new w _ _ rfl)
            generalize w.alloc (.cells #[.int .i64 tk, .int .i64 ta, .string (mkS tw), .int .i64 tn] 64) = W1 at HRs HTs ⊢
            clear c0 d0 d1 d2 d3
            have e0 := HRs.out.rd.cell 0
            have e1 := HRs.out.rd.cell 1
            have e1f : W1.frozen? ⟨L, 1, none⟩ = false := HRs.out.rd.froz 1
            simp at e0 e1

            go_wp2_with fail
            refine (Iin.out _ HRs.out).mono ?_
            rintro _ w2 ⟨rfl, hb2⟩
            have HR2 := Lib.hid (HRs.out.below hb2)
            clear hb2 e0 e1 e1f
            have p1 : w2.cell? ⟨P, 1, none⟩ = some (.slice al p.lines.length capl) := (World.cell?_of_block (a := ⟨P, 1, none⟩) (HR2.out.grown.block P hPlt (fun h => by injection h with h; exact hPL h))).trans (HPb.out.cell 1)
            have hpl2 : (p.lines.length : Int) > 0 := by omega

            have HXe : Hid (X = .error (ta, 40)) := Lib.hid (by rw [HX.out, if_pos (by simp [hln])])
            go_wp2_with fail
            refine (HNo.out 40 0 _ HR2.out).mono ?_
            rintro _ w9 ⟨rfl, hr9, hg9⟩
            have HR9 := Lib.hid (HR2.out.to hg9 hr9)
            clear hr9 hg9
            go_wp2_with fail
            go_end0
            rw [HXe.out]
            refine ⟨rfl, HR9.out.low hB hBL, Nat.succ_ne_zero 39, 0, 0, ?_⟩
            have := HR9.out.rd
            first
              | exact this
              | (rw [HP0.out] at this; exact this)
              | (rw [HPk.out] at this; exact this)
        | false =>
          rw [hin] at Iin HX
          clear hin0
          rw [if_neg (by simp), if_neg (by simp)] at HX
          cases hout : isWord [111, 117, 116] ⟨tk, ta, tw, tn⟩ with
          | true =>
            rw [hout, if_pos rfl] at HX
            obtain ⟨hq1, hq2⟩ : tk = 1 ∧ tw = [111, 117, 116] := by simpa [isWord] using hout
            subst hq1 hq2
            clear hout
            rw [show mkS [111, 117, 116] = ⟨#[111, 117, 116]⟩ from rfl] at d2

            go_enter Tryd.func27, Tryd.ntmps27
            go_upto_region 1 with fail
            have HRs := Lib.hid (HR.out.alloc (.cells #[.int .i64 1, .int .i64 ta, .string ⟨#[111, 117, 116]⟩, .int .i64 tn] 64))
            have HTs : Hid (Blk (w.alloc (.cells #[.int .i64 1, .int .i64 ta, .string ⟨#[111, 117, 116]⟩, .int .i64 tn] 64)) w.heap.size 64 #[.int .i64 1, .int .i64 ta, .string ⟨#[111, 117, 116]⟩, .int .i64 tn]) := Lib.hid (Blk.new w _ _ rfl)
            generalize w.alloc (.cells #[.int .i64 1, .int .i64 ta, .string ⟨#[111, 117, 116]⟩, .int .i64 tn] 64) = W1 at HRs HTs ⊢
            clear c0 d0 d1 d2 d3
            have e0 := HRs.out.rd.cell 0
            have e1 := HRs.out.rd.cell 1
            have e1f : W1.frozen? ⟨L, 1, none⟩ = false := HRs.out.rd.froz 1
            simp at e0 e1

            go_wp2_with fail
            refine (Iin.out _ HRs.out).mono ?_
            rintro _ w2 ⟨rfl, hb2⟩
            have HR2 := Lib.hid (HRs.out.below hb2)
            have HT2 := Lib.hid (HTs.out.below hb2)
            clear hb2 e0 e1 e1f
            go_wp2_with fail
            refine (Iin.out _ HR2.out).mono ?_
            rintro _ w3 ⟨rfl, hb3⟩
            have HR3 := Lib.hid (HR2.out.below hb3)
            have HT3 := Lib.hid (HT2.out.below hb3)
            clear hb3
            have y0 := HT3.out.cell 0
            have y1 := HT3.out.cell 1
            have y2 := HT3.out.cell 2
            simp at y0 y1 y2
            have l1 := HR3.out.rd.cell 1
            simp at l1
            have l1f : w3.frozen? ⟨L, 1, none⟩ = false := HR3.out.rd.froz 1
            have htl := HT3.out.lt
            have hLl := HR3.out.rd.lt
            have hLt : ¬ L = w.heap.size := by omega
            have htL : ¬ w.heap.size = L := by omega
            have hs3 := HR3.out.grown.size
            have hsz3 : (w3.setCell ⟨L, 1, none⟩ (.int .i64 1)).heap.size = w3.heap.size := by simp [World.setCell]
            have HR5 : Hid (RdAt w ((w3.setCell ⟨L, 1, none⟩ (.int .i64 1)).alloc (.cells #[.string ⟨#[]⟩, .int .i64 ta, .slice none 0 0] 45)) L (.slice (some ⟨g, o, none⟩) n cap) toks 1 e 0 0 0) := Lib.hid ((HR3.out.put1 1).alloc _)
            have HX5 : Hid (Blk ((w3.setCell ⟨L, 1, none⟩ (.int .i64 1)).alloc (.cells #[.string ⟨#[]⟩, .int .i64 ta, .slice none 0 0] 45)) w3.heap.size 45 #[.string ⟨#[]⟩, .int .i64 ta, .slice none 0 0]) := Lib.hid (Blk.new _ _ _ hsz3.symm)
            have HT5 : Hid (Blk ((w3.setCell ⟨L, 1, none⟩ (.int .i64 1)).alloc (.cells #[.string ⟨#[]⟩, .int .i64 ta, .slice none 0 0] 45)) w.heap.size 64 #[.int .i64 1, .int .i64 ta, .string ⟨#[111, 117, 116]⟩, .int .i64 tn]) := Lib.hid ((HT3.out.other (by omega) _ _).alloc _)
            have hsz5 : ((w3.setCell ⟨L, 1, none⟩ (.int .i64 1)).alloc (.cells #[.string ⟨#[]⟩, .int .i64 ta, .slice none 0 0] 45)).heap.size = w3.heap.size + 1 := by simp [World.setCell]


            have HXm : Hid (X = (exprP e (toks.drop 1)).map fun l => { p with lines := p.lines ++ [⟨[], ta, l⟩] }) := Lib.hid (HX.out)
            obtain ⟨x, hx⟩ : ∃ x, x = exprP e (toks.drop 1) := ⟨_, rfl⟩
            have HWk := Lib.hid (fun wx h => HWh.out 1 (by have := HN.out; omega) wx h)
            rw [← hx] at HXm HWk
            clear hx
            go_wp2_with fail
            refine (HWk.out _ HR5.out.self).mono ?_
            rintro _ w6 ⟨v, l', rfl, hi6, hl6, k', z1, z2, hr6, he6, ho6⟩
            have HE6 := Lib.hid (And.intro he6 ho6)
            have HR6 := Lib.hid (HR5.out.base hr6)
            have hs6 := HR5.out.grown.size
            have HX6 : Hid (Blk w6 w3.heap.size 45 #[.string ⟨#[]⟩, .int .i64 ta, .slice none 0 0]) := Lib.hid ((hr6.grown.block w3.heap.size HX5.out.lt (fun h => by injection h with h; omega)).trans HX5.out)
            have HI6 := Lib.hid hi6
            obtain ⟨av, cv, rfl⟩ := hi6.form
            have x2 := HX6.out.cell 2
            simp at x2
            have x2f : w6.frozen? ⟨w3.heap.size, 2, none⟩ = false := HX6.out.froz 2
            have hl6n : l'.length ≤ 100000 := by have := HN.out; omega
            obtain ⟨q, hq⟩ : ∃ q, q = l'.length := ⟨_, rfl⟩
            rw [← hq] at HI6 hl6n ⊢
            have HQ := Lib.hid hq
            clear hi6 hr6 he6 ho6 hq
            go_upto_region 21 with fail
            have HR8 : Hid (RdAt w (w6.setCell ⟨w3.heap.size, 2, none⟩ (.slice av q cv)) L (.slice (some ⟨g, o, none⟩) n cap) toks k' e 0 z1 z2) := Lib.hid (HR6.out.new (by omega) hL 2 _)
            have HX8 : Hid (Blk (w6.setCell ⟨w3.heap.size, 2, none⟩ (.slice av q cv)) w3.heap.size 45 #[.string ⟨#[]⟩, .int .i64 ta, .slice av q cv]) := Lib.hid (HX6.out.set32 _)
            have HI8 : Hid (ItsO (w6.setCell ⟨w3.heap.size, 2, none⟩ (.slice av q cv)) ((w3.setCell ⟨L, 1, none⟩ (.int .i64 1)).alloc (.cells #[.string ⟨#[]⟩, .int .i64 ta, .slice none 0 0] 45)).heap.size (.slice av q cv) l') := Lib.hid (HI6.out.tag (KeepTag.set HX6.out (by decide) 2 _) (KeepTag.set HX6.out (by decide) 2 _))
            clear x2 x2f
            generalize w6.setCell ⟨w3.heap.size, 2, none⟩ (.slice av q cv) = W8 at HR8 HX8 HI8 ⊢
            have HP8 := Lib.hid (HO.out W8 HR8.out.grown).2.2.2.2
            have p8 : W8.cell? ⟨P, 1, none⟩ = some (.slice al p.lines.length capl) := HP8.out.cell 1
            have p8f : W8.frozen? ⟨P, 1, none⟩ = false := HP8.out.froz 1
            have hPl8 := HP8.out.lt
            have x0 := HX8.out.cell 0
            have x1 := HX8.out.cell 1
            have x2 := HX8.out.cell 2
            simp at x0 x1 x2
            have hxl8 := HX8.out.lt
            obtain ⟨zz0, hi, hz0, hz1, hz2⟩ := info_parts Tryd.infoLine
            have hcap : p.lines.length + 1 ≤ maxLen := by unfold maxLen; omega
            have hby : (p.lines.length + 1) * 48 ≤ 140737488355328 := by omega
            have hsz8 : B ≤ W8.heap.size := Nat.le_trans hB HR8.out.grown.size
            go_region_law (refine step_append_lies _ (by rfl) _ _ _ (by rfl) B 45 zz0 (.agg #[.string ⟨#[]⟩, .int .i64 0, .slice none 0 0]) 3 48 Tryd.underlying24 hi hz0 hz1 hz2 rfl (by decide) (.slice al p.lines.length capl) p.lines.length cl (by rfl) (((HO.out W8 HR8.out.grown).2.2.1.alloc _).drew) ⟨W8.heap.size, 0, none⟩ 1 1 [.string ⟨#[]⟩, .int .i64 ta, .slice av q cv] (by rfl) (by rfl) (World.news_of_block (cs := #[.string ⟨#[]⟩, .int .i64 ta, .slice av q cv]) (t := 45) (fr := (0, 0)) (heap_alloc_new W8 _)) (by simp [Value.oneCell']) (by decide) hcap hby (by simp; omega) (W8.heap.size + 1) (by simp) ?_; intro g2 cap2 w9 hown9 hg9 hat9 hlt9; have hk9 : ∀ t, t ≠ 45 → KeepTag t W8 w9 := (fun t h => (KeepTag.alloc _).trans (KeepTag.own (w := ((W8.alloc (.cells #[.string ⟨#[]⟩, .int .i64 ta, .slice av q cv] 45)).drew)) hg9 (((HO.out W8 HR8.out.grown).2.2.1.alloc _).drew) h)); have HP9 := Lib.hid (HP8.out.keep (hk9 _ (by decide))); have p9 : w9.cell? ⟨P, 1, none⟩ = some (.slice al p.lines.length capl) := HP9.out.cell 1; have p9f : w9.frozen? ⟨P, 1, none⟩ = false := HP9.out.froz 1)
            all_goals
              go_wp2_with fail
              go_end0
              have ks : ∀ t, t ≠ 26 → KeepTag t w9 (w9.setCell ⟨P, 1, none⟩ (.slice (some ⟨g2, 0, none⟩) (p.lines.length + 1) cap2)) := fun t ht => KeepTag.set HP9.out ht 1 _
              have ka : ∀ t, KeepTag t W8 ((W8.alloc (.cells #[.string ⟨#[]⟩, .int .i64 ta, .slice av q cv] 45)).drew) := fun t => KeepTag.alloc (w := W8) _
              have hlow : Below B w (w9.setCell ⟨P, 1, none⟩ (.slice (some ⟨g2, 0, none⟩) (p.lines.length + 1) cap2)) := (((((HR8.out.low hB hBL).alloc hsz8 _).drew).grown hg9 (by simp; omega) (fun j hj => ((HO.out W8 HR8.out.grown).2.2.1.lt j hj).1))).setCell hBP _
              have hrd : RdB (w9.setCell ⟨P, 1, none⟩ (.slice (some ⟨g2, 0, none⟩) (p.lines.length + 1) cap2)) L (.slice (some ⟨g, o, none⟩) n cap) k' e 0 z1 z2 := (Blk.keep HR8.out.rd (hk9 _ (by decide))).keep (ks _ (by decide))
              obtain ⟨q1, q2, q3, q4, _⟩ := HO.out W8 HR8.out.grown
              cases x with
              | error y =>
                obtain ⟨h1, h2, h3⟩ := HE6.out.1 y rfl
                subst h2 h3
                rw [HXm.out]
                exact ⟨rfl, hlow, h1, k', 0, hrd⟩
              | ok i =>
                obtain ⟨h1, h2, h3⟩ := HE6.out.2 i rfl
                subst h1 h2 h3
                obtain ⟨cs, j1, j2⟩ := HI8.out.v
                rw [HXm.out]
                exact ⟨rfl, hlow, ⟨k', 0, hrd⟩, _, _, HP9.out.set21 _, (PrgV.line (q := ⟨[], ta, l'⟩) (own_tag q1 (ka _)) (q2.imp (fun _ _ h => h.keep (ka _))) (own_tag q3 (ka _)) (q4.imp (fun _ _ h => h.keep (ka _) (ka _))) hg9 hown9 (own_tag j1 (ka _)) (j2.keep (ka _))).keep (fun t _ _ _ ht => ks t ht)⟩
          | false =>
            rw [hout, if_neg (by simp)] at HX
            cases hnm : nameT ⟨tk, ta, tw, tn⟩ with
            | false =>
              rw [hnm, if_pos rfl] at HX
              by_cases hk1 : tk = 1
              · have hwo : tw ≠ [111, 117, 116] := by
                  intro h
                  unfold isWord at hout
                  rw [hk1, h] at hout
                  cases hout
                have hwo1 : ¬ (mkS tw).toList = [111, 117, 116] := by rw [ByteArray.toList_eq, mkS_toList]; exact hwo
                have hwo2 : ((mkS tw).toList == [111, 117, 116]) = false := by rw [beq_eq_false_iff_ne]; exact hwo1
                have hnb : nameB tw = false := by unfold nameT at hnm; rw [hk1] at hnm; simpa using hnm
                have hw16 : tw.length ≤ 16 := by
                  rcases HL0.out with ⟨_, _, _, _, h⟩ | ⟨h, _⟩ | ⟨h, _⟩ | ⟨h, _⟩
                  · exact h
                  · rw [hk1] at h; cases h
                  · rw [hk1] at h; cases h
                  · rw [hk1] at h; cases h
                have HNm := Lib.hid (fun wx => rName_any (mkS tw) wx (by rw [mkS_size]; unfold maxLen; omega))
                rw [mkS_toList, hnb] at HNm
                subst hk1
                clear hout hnm hnb hwo

                go_enter Tryd.func27, Tryd.ntmps27
                go_upto_region 1 with fail
                have HRs := Lib.hid (HR.out.alloc (.cells #[.int .i64 1, .int .i64 ta, .string (mkS tw), .int .i64 tn] 64))
                have HTs : Hid (Blk (w.alloc (.cells #[.int .i64 1, .int .i64 ta, .string (mkS tw), .int .i64 tn] 64)) w.heap.size 64 #[.int .i64 1, .int .i64 ta, .string (mkS tw), .int .i64 tn]) := Lib.hid (Blk.new w _ _ rfl)
                generalize w.alloc (.cells #[.int .i64 1, .int .i64 ta, .string (mkS tw), .int .i64 tn] 64) = W1 at HRs HTs ⊢
                clear c0 d0 d1 d2 d3
                have e0 := HRs.out.rd.cell 0
                have e1 := HRs.out.rd.cell 1
                have e1f : W1.frozen? ⟨L, 1, none⟩ = false := HRs.out.rd.froz 1
                simp at e0 e1

                go_wp2_with fail
                refine (Iin.out _ HRs.out).mono ?_
                rintro _ w2 ⟨rfl, hb2⟩
                have HR2 := Lib.hid (HRs.out.below hb2)
                have HT2 := Lib.hid (HTs.out.below hb2)
                clear hb2 e0 e1 e1f
                go_wp2_with fail
                refine (Iin.out _ HR2.out).mono ?_
                rintro _ w3 ⟨rfl, hb3⟩
                have HR3 := Lib.hid (HR2.out.below hb3)
                have HT3 := Lib.hid (HT2.out.below hb3)
                clear hb3
                have y0 := HT3.out.cell 0
                have y1 := HT3.out.cell 1
                have y2 := HT3.out.cell 2
                simp at y0 y1 y2
                have l1 := HR3.out.rd.cell 1
                simp at l1
                have l1f : w3.frozen? ⟨L, 1, none⟩ = false := HR3.out.rd.froz 1
                have htl := HT3.out.lt
                have hLl := HR3.out.rd.lt
                have hLt : ¬ L = w.heap.size := by omega
                have htL : ¬ w.heap.size = L := by omega
                have hs3 := HR3.out.grown.size
                have hsz3 : (w3.setCell ⟨L, 1, none⟩ (.int .i64 1)).heap.size = w3.heap.size := by simp [World.setCell]
                have HR5 : Hid (RdAt w ((w3.setCell ⟨L, 1, none⟩ (.int .i64 1)).alloc (.cells #[.string ⟨#[]⟩, .int .i64 ta, .slice none 0 0] 45)) L (.slice (some ⟨g, o, none⟩) n cap) toks 1 e 0 0 0) := Lib.hid ((HR3.out.put1 1).alloc _)
                have HX5 : Hid (Blk ((w3.setCell ⟨L, 1, none⟩ (.int .i64 1)).alloc (.cells #[.string ⟨#[]⟩, .int .i64 ta, .slice none 0 0] 45)) w3.heap.size 45 #[.string ⟨#[]⟩, .int .i64 ta, .slice none 0 0]) := Lib.hid (Blk.new _ _ _ hsz3.symm)
                have HT5 : Hid (Blk ((w3.setCell ⟨L, 1, none⟩ (.int .i64 1)).alloc (.cells #[.string ⟨#[]⟩, .int .i64 ta, .slice none 0 0] 45)) w.heap.size 64 #[.int .i64 1, .int .i64 ta, .string (mkS tw), .int .i64 tn]) := Lib.hid ((HT3.out.other (by omega) _ _).alloc _)
                have hsz5 : ((w3.setCell ⟨L, 1, none⟩ (.int .i64 1)).alloc (.cells #[.string ⟨#[]⟩, .int .i64 ta, .slice none 0 0] 45)).heap.size = w3.heap.size + 1 := by simp [World.setCell]

                go_upto_region 12 with fail

                generalize ((w3.setCell ⟨L, 1, none⟩ (.int .i64 1)).alloc (.cells #[.string ⟨#[]⟩, .int .i64 ta, .slice none 0 0] 45)) = W5 at HR5 HX5 HT5 hsz5 ⊢
                clear y0 y1 y2 l1 l1f
                have u0 := HT5.out.cell 0
                have u2 := HT5.out.cell 2
                simp at u0 u2

                go_wp2_with fail
                refine (HNm.out _).mono ?_
                rintro _ W6 ⟨rfl, hb6⟩
                have HR6 := Lib.hid (HR5.out.below hb6)
                have HT6 := Lib.hid (HT5.out.below hb6)
                clear hb6 u0 u2
                have u0 := HT6.out.cell 0
                have u2 := HT6.out.cell 2
                simp at u0 u2

                have hq1 := HR6.out.rd.cell 1
                simp at hq1
                have hq1f : W6.frozen? ⟨L, 1, none⟩ = false := HR6.out.rd.froz 1
                have HRz := Lib.hid (HR6.out.put1 0)

                have HXe : Hid (X = .error (ta, 40)) := Lib.hid (HX.out)
                go_wp2_with fail
                refine (HNo.out 40 0 _ HRz.out).mono ?_
                rintro _ w9 ⟨rfl, hr9, hg9⟩
                have HR9 := Lib.hid (HRz.out.to hg9 hr9)
                clear hr9 hg9
                go_wp2_with fail
                go_end0
                rw [HXe.out]
                refine ⟨rfl, HR9.out.low hB hBL, Nat.succ_ne_zero 39, 0, 0, ?_⟩
                have := HR9.out.rd
                first
                  | exact this
                  | (rw [HP0.out] at this; exact this)
                  | (rw [HPk.out] at this; exact this)
              · have hk1b : (tk == 1) = false := by rw [beq_eq_false_iff_ne]; exact hk1
                clear hout hnm

                go_enter Tryd.func27, Tryd.ntmps27
                go_upto_region 1 with fail
                have HRs := Lib.hid (HR.out.alloc (.cells #[.int .i64 tk, .int .i64 ta, .string (mkS tw), .int .i64 tn] 64))
                have HTs : Hid (Blk (w.alloc (.cells #[.int .i64 tk, .int .i64 ta, .string (mkS tw), .int .i64 tn] 64)) w.heap.size 64 #[.int .i64 tk, .int .i64 ta, .string (mkS tw), .int .i64 tn]) := Lib.hid (Blk.new w _ _ rfl)
                generalize w.alloc (.cells #[.int .i64 tk, .int .i64 ta, .string (mkS tw), .int .i64 tn] 64) = W1 at HRs HTs ⊢
                clear c0 d0 d1 d2 d3
                have e0 := HRs.out.rd.cell 0
                have e1 := HRs.out.rd.cell 1
                have e1f : W1.frozen? ⟨L, 1, none⟩ = false := HRs.out.rd.froz 1
                simp at e0 e1

                go_wp2_with fail
                refine (Iin.out _ HRs.out).mono ?_
                rintro _ w2 ⟨rfl, hb2⟩
                have HR2 := Lib.hid (HRs.out.below hb2)
                have HT2 := Lib.hid (HTs.out.below hb2)
                clear hb2 e0 e1 e1f
                go_wp2_with fail
                refine (Iin.out _ HR2.out).mono ?_
                rintro _ w3 ⟨rfl, hb3⟩
                have HR3 := Lib.hid (HR2.out.below hb3)
                have HT3 := Lib.hid (HT2.out.below hb3)
                clear hb3
                have y0 := HT3.out.cell 0
                have y1 := HT3.out.cell 1
                have y2 := HT3.out.cell 2
                simp at y0 y1 y2
                have l1 := HR3.out.rd.cell 1
                simp at l1
                have l1f : w3.frozen? ⟨L, 1, none⟩ = false := HR3.out.rd.froz 1
                have htl := HT3.out.lt
                have hLl := HR3.out.rd.lt
                have hLt : ¬ L = w.heap.size := by omega
                have htL : ¬ w.heap.size = L := by omega
                have hs3 := HR3.out.grown.size
                have hsz3 : (w3.setCell ⟨L, 1, none⟩ (.int .i64 1)).heap.size = w3.heap.size := by simp [World.setCell]
                have HR5 : Hid (RdAt w ((w3.setCell ⟨L, 1, none⟩ (.int .i64 1)).alloc (.cells #[.string ⟨#[]⟩, .int .i64 ta, .slice none 0 0] 45)) L (.slice (some ⟨g, o, none⟩) n cap) toks 1 e 0 0 0) := Lib.hid ((HR3.out.put1 1).alloc _)
                have HX5 : Hid (Blk ((w3.setCell ⟨L, 1, none⟩ (.int .i64 1)).alloc (.cells #[.string ⟨#[]⟩, .int .i64 ta, .slice none 0 0] 45)) w3.heap.size 45 #[.string ⟨#[]⟩, .int .i64 ta, .slice none 0 0]) := Lib.hid (Blk.new _ _ _ hsz3.symm)
                have HT5 : Hid (Blk ((w3.setCell ⟨L, 1, none⟩ (.int .i64 1)).alloc (.cells #[.string ⟨#[]⟩, .int .i64 ta, .slice none 0 0] 45)) w.heap.size 64 #[.int .i64 tk, .int .i64 ta, .string (mkS tw), .int .i64 tn]) := Lib.hid ((HT3.out.other (by omega) _ _).alloc _)
                have hsz5 : ((w3.setCell ⟨L, 1, none⟩ (.int .i64 1)).alloc (.cells #[.string ⟨#[]⟩, .int .i64 ta, .slice none 0 0] 45)).heap.size = w3.heap.size + 1 := by simp [World.setCell]

                go_upto_region 12 with fail

                generalize ((w3.setCell ⟨L, 1, none⟩ (.int .i64 1)).alloc (.cells #[.string ⟨#[]⟩, .int .i64 ta, .slice none 0 0] 45)) = W5 at HR5 HX5 HT5 hsz5 ⊢
                clear y0 y1 y2 l1 l1f
                have u0 := HT5.out.cell 0
                have u2 := HT5.out.cell 2
                simp at u0 u2

                have hq1 := HR5.out.rd.cell 1
                simp at hq1
                have hq1f : W5.frozen? ⟨L, 1, none⟩ = false := HR5.out.rd.froz 1
                have HRz := Lib.hid (HR5.out.put1 0)

                have HXe : Hid (X = .error (ta, 40)) := Lib.hid (HX.out)
                go_wp2_with fail
                refine (HNo.out 40 0 _ HRz.out).mono ?_
                rintro _ w9 ⟨rfl, hr9, hg9⟩
                have HR9 := Lib.hid (HRz.out.to hg9 hr9)
                clear hr9 hg9
                go_wp2_with fail
                go_end0
                rw [HXe.out]
                refine ⟨rfl, HR9.out.low hB hBL, Nat.succ_ne_zero 39, 0, 0, ?_⟩
                have := HR9.out.rd
                first
                  | exact this
                  | (rw [HP0.out] at this; exact this)
                  | (rw [HPk.out] at this; exact this)
            | true =>
              rw [hnm, if_neg (by simp)] at HX
              obtain ⟨hk1, hnb⟩ : tk = 1 ∧ nameB tw = true := by simpa [nameT] using hnm
              have hwo : tw ≠ [111, 117, 116] := by
                intro h
                rw [h] at hnb
                revert hnb
                decide
              have hwo1 : ¬ (mkS tw).toList = [111, 117, 116] := by rw [ByteArray.toList_eq, mkS_toList]; exact hwo
              have hwo2 : ((mkS tw).toList == [111, 117, 116]) = false := by rw [beq_eq_false_iff_ne]; exact hwo1
              have hw16 : tw.length ≤ 16 := name_len hnb
              have HNm := Lib.hid (fun wx => rName_any (mkS tw) wx (by rw [mkS_size]; unfold maxLen; omega))
              rw [mkS_toList, hnb] at HNm
              have I58 := Lib.hid (fun (wx : World) (h : RdAt w wx L (.slice (some ⟨g, o, none⟩) n cap) toks 1 e 0 0 0) => HIs.out ⟨#[58]⟩ 1 wx h)
              rw [show (⟨#[58]⟩ : ByteArray).data.toList = [58] from rfl] at I58
              subst hk1
              clear hout hnm hnb hwo

              go_enter Tryd.func27, Tryd.ntmps27
              go_upto_region 1 with fail
              have HRs := Lib.hid (HR.out.alloc (.cells #[.int .i64 1, .int .i64 ta, .string (mkS tw), .int .i64 tn] 64))
              have HTs : Hid (Blk (w.alloc (.cells #[.int .i64 1, .int .i64 ta, .string (mkS tw), .int .i64 tn] 64)) w.heap.size 64 #[.int .i64 1, .int .i64 ta, .string (mkS tw), .int .i64 tn]) := Lib.hid (Blk.new w _ _ rfl)
              generalize w.alloc (.cells #[.int .i64 1, .int .i64 ta, .string (mkS tw), .int .i64 tn] 64) = W1 at HRs HTs ⊢
              clear c0 d0 d1 d2 d3
              have e0 := HRs.out.rd.cell 0
              have e1 := HRs.out.rd.cell 1
              have e1f : W1.frozen? ⟨L, 1, none⟩ = false := HRs.out.rd.froz 1
              simp at e0 e1

              go_wp2_with fail
              refine (Iin.out _ HRs.out).mono ?_
              rintro _ w2 ⟨rfl, hb2⟩
              have HR2 := Lib.hid (HRs.out.below hb2)
              have HT2 := Lib.hid (HTs.out.below hb2)
              clear hb2 e0 e1 e1f
              go_wp2_with fail
              refine (Iin.out _ HR2.out).mono ?_
              rintro _ w3 ⟨rfl, hb3⟩
              have HR3 := Lib.hid (HR2.out.below hb3)
              have HT3 := Lib.hid (HT2.out.below hb3)
              clear hb3
              have y0 := HT3.out.cell 0
              have y1 := HT3.out.cell 1
              have y2 := HT3.out.cell 2
              simp at y0 y1 y2
              have l1 := HR3.out.rd.cell 1
              simp at l1
              have l1f : w3.frozen? ⟨L, 1, none⟩ = false := HR3.out.rd.froz 1
              have htl := HT3.out.lt
              have hLl := HR3.out.rd.lt
              have hLt : ¬ L = w.heap.size := by omega
              have htL : ¬ w.heap.size = L := by omega
              have hs3 := HR3.out.grown.size
              have hsz3 : (w3.setCell ⟨L, 1, none⟩ (.int .i64 1)).heap.size = w3.heap.size := by simp [World.setCell]
              have HR5 : Hid (RdAt w ((w3.setCell ⟨L, 1, none⟩ (.int .i64 1)).alloc (.cells #[.string ⟨#[]⟩, .int .i64 ta, .slice none 0 0] 45)) L (.slice (some ⟨g, o, none⟩) n cap) toks 1 e 0 0 0) := Lib.hid ((HR3.out.put1 1).alloc _)
              have HX5 : Hid (Blk ((w3.setCell ⟨L, 1, none⟩ (.int .i64 1)).alloc (.cells #[.string ⟨#[]⟩, .int .i64 ta, .slice none 0 0] 45)) w3.heap.size 45 #[.string ⟨#[]⟩, .int .i64 ta, .slice none 0 0]) := Lib.hid (Blk.new _ _ _ hsz3.symm)
              have HT5 : Hid (Blk ((w3.setCell ⟨L, 1, none⟩ (.int .i64 1)).alloc (.cells #[.string ⟨#[]⟩, .int .i64 ta, .slice none 0 0] 45)) w.heap.size 64 #[.int .i64 1, .int .i64 ta, .string (mkS tw), .int .i64 tn]) := Lib.hid ((HT3.out.other (by omega) _ _).alloc _)
              have hsz5 : ((w3.setCell ⟨L, 1, none⟩ (.int .i64 1)).alloc (.cells #[.string ⟨#[]⟩, .int .i64 ta, .slice none 0 0] 45)).heap.size = w3.heap.size + 1 := by simp [World.setCell]

              go_upto_region 12 with fail

              generalize ((w3.setCell ⟨L, 1, none⟩ (.int .i64 1)).alloc (.cells #[.string ⟨#[]⟩, .int .i64 ta, .slice none 0 0] 45)) = W5 at HR5 HX5 HT5 hsz5 ⊢
              clear y0 y1 y2 l1 l1f
              have u0 := HT5.out.cell 0
              have u2 := HT5.out.cell 2
              simp at u0 u2

              go_wp2_with fail
              refine (HNm.out _).mono ?_
              rintro _ W6 ⟨rfl, hb6⟩
              have HR6 := Lib.hid (HR5.out.below hb6)
              have HT6 := Lib.hid (HT5.out.below hb6)
              have HX6 := Lib.hid (HX5.out.below hb6)
              have hsz6 : w3.heap.size + 1 ≤ W6.heap.size := by have := hb6.size; omega
              clear hb6 u0 u2
              have u2 := HT6.out.cell 2
              have v0 := HX6.out.cell 0
              simp at u2 v0
              have v0f : W6.frozen? ⟨w3.heap.size, 0, none⟩ = false := HX6.out.froz 0
              have HR7 : Hid (RdAt w (W6.setCell ⟨w3.heap.size, 0, none⟩ (.string (mkS tw))) L (.slice (some ⟨g, o, none⟩) n cap) toks 1 e 0 0 0) := Lib.hid (HR6.out.new (by omega) hL 0 _)
              have HX7 : Hid (Blk (W6.setCell ⟨w3.heap.size, 0, none⟩ (.string (mkS tw))) w3.heap.size 45 #[.string (mkS tw), .int .i64 ta, .slice none 0 0]) := Lib.hid (HX6.out.set30 _)
              go_upto_region 14 with fail
              generalize W6.setCell ⟨w3.heap.size, 0, none⟩ (.string (mkS tw)) = W7 at HR7 HX7 ⊢
              clear u2 v0 v0f
              cases hcol : isP [58] (toks.drop 1) with
              | false =>
                rw [hcol] at I58
                have HXe0 : Hid (X = .error (placeP e (toks.drop 1), 42)) := by
                  apply Lib.hid
                  rw [HX.out]
                  cases hr : toks.drop 1 with
                  | nil => rfl
                  | cons c r2 =>
                    rw [hr, isP_sign (HLx.out c (List.mem_of_mem_drop (by rw [hr]; exact List.mem_cons_self))) 58 (by decide)] at hcol
                    dsimp only
                    rw [hcol]
                    rfl
                clear hcol
                go_wp2_with fail
                refine (I58.out _ HR7.out).mono ?_
                rintro _ W8 ⟨rfl, hb8⟩
                have HR8 := Lib.hid (HR7.out.below hb8)
                clear hb8

                have HXe : Hid (X = .error (placeP e (toks.drop 1), 42)) := Lib.hid (HXe0.out)
                go_wp2_with fail
                refine (HNo.out 42 1 _ HR8.out).mono ?_
                rintro _ w9 ⟨rfl, hr9, hg9⟩
                have HR9 := Lib.hid (HR8.out.to hg9 hr9)
                clear hr9 hg9
                go_wp2_with fail
                go_end0
                rw [HXe.out]
                refine ⟨rfl, HR9.out.low hB hBL, Nat.succ_ne_zero 41, 1, 0, ?_⟩
                have := HR9.out.rd
                first
                  | exact this
                  | (rw [HP0.out] at this; exact this)
                  | (rw [HPk.out] at this; exact this)
              | true =>
                rw [hcol] at I58
                have HXc : Hid (X = (exprP e (toks.drop 2)).map fun l => { p with lines := p.lines ++ [⟨tw, ta, l⟩] }) := by
                  apply Lib.hid
                  rw [HX.out]
                  cases hr : toks.drop 1 with
                  | nil => rw [hr] at hcol; cases hcol
                  | cons c r2 =>
                    rw [hr, isP_sign (HLx.out c (List.mem_of_mem_drop (by rw [hr]; exact List.mem_cons_self))) 58 (by decide)] at hcol
                    have h2 : toks.drop 2 = r2 := by rw [show (2 : Nat) = 1 + 1 from rfl, ← List.drop_drop, List.drop_one, hr]; rfl
                    dsimp only
                    rw [hcol, h2]
                    rfl
                have hn2 : 2 ≤ n := by
                  cases hr : toks.drop 1 with
                  | nil => rw [hr] at hcol; cases hcol
                  | cons c r2 =>
                    have := congrArg List.length hr
                    rw [List.length_drop, List.length_cons] at this
                    have := HN.out
                    omega
                clear hcol
                go_wp2_with fail
                refine (I58.out _ HR7.out).mono ?_
                rintro _ W8a ⟨rfl, hb8⟩
                have HR8a := Lib.hid (HR7.out.below hb8)
                have HX8a := Lib.hid (HX7.out.below hb8)
                clear hb8
                have l1 := HR8a.out.rd.cell 1
                simp at l1
                have l1f : W8a.frozen? ⟨L, 1, none⟩ = false := HR8a.out.rd.froz 1
                have HRk : Hid (RdAt w (W8a.setCell ⟨L, 1, none⟩ (.int .i64 2)) L (.slice (some ⟨g, o, none⟩) n cap) toks 2 e 0 0 0) := Lib.hid (HR8a.out.put1 2)
                have HXk : Hid (Blk (W8a.setCell ⟨L, 1, none⟩ (.int .i64 2)) w3.heap.size 45 #[.string (mkS tw), .int .i64 ta, .slice none 0 0]) := Lib.hid (HX8a.out.other (by omega) _ _)
                go_upto_region 20 with fail
                generalize W8a.setCell ⟨L, 1, none⟩ (.int .i64 2) = W9a at HRk HXk ⊢
                clear l1 l1f

                have HXm : Hid (X = (exprP e (toks.drop 2)).map fun l => { p with lines := p.lines ++ [⟨tw, ta, l⟩] }) := Lib.hid (HXc.out)
                obtain ⟨x, hx⟩ : ∃ x, x = exprP e (toks.drop 2) := ⟨_, rfl⟩
                have HWk := Lib.hid (fun wx h => HWh.out 2 (by have := HN.out; omega) wx h)
                rw [← hx] at HXm HWk
                clear hx
                go_wp2_with fail
                refine (HWk.out _ HRk.out.self).mono ?_
                rintro _ w6 ⟨v, l', rfl, hi6, hl6, k', z1, z2, hr6, he6, ho6⟩
                have HE6 := Lib.hid (And.intro he6 ho6)
                have HR6 := Lib.hid (HRk.out.base hr6)
                have hs6 := HRk.out.grown.size
                have HX6 : Hid (Blk w6 w3.heap.size 45 #[.string (mkS tw), .int .i64 ta, .slice none 0 0]) := Lib.hid ((hr6.grown.block w3.heap.size HXk.out.lt (fun h => by injection h with h; omega)).trans HXk.out)
                have HI6 := Lib.hid hi6
                obtain ⟨av, cv, rfl⟩ := hi6.form
                have x2 := HX6.out.cell 2
                simp at x2
                have x2f : w6.frozen? ⟨w3.heap.size, 2, none⟩ = false := HX6.out.froz 2
                have hl6n : l'.length ≤ 100000 := by have := HN.out; omega
                obtain ⟨q, hq⟩ : ∃ q, q = l'.length := ⟨_, rfl⟩
                rw [← hq] at HI6 hl6n ⊢
                have HQ := Lib.hid hq
                clear hi6 hr6 he6 ho6 hq
                go_upto_region 21 with fail
                have HR8 : Hid (RdAt w (w6.setCell ⟨w3.heap.size, 2, none⟩ (.slice av q cv)) L (.slice (some ⟨g, o, none⟩) n cap) toks k' e 0 z1 z2) := Lib.hid (HR6.out.new (by omega) hL 2 _)
                have HX8 : Hid (Blk (w6.setCell ⟨w3.heap.size, 2, none⟩ (.slice av q cv)) w3.heap.size 45 #[.string (mkS tw), .int .i64 ta, .slice av q cv]) := Lib.hid (HX6.out.set32 _)
                have HI8 : Hid (ItsO (w6.setCell ⟨w3.heap.size, 2, none⟩ (.slice av q cv)) W9a.heap.size (.slice av q cv) l') := Lib.hid (HI6.out.tag (KeepTag.set HX6.out (by decide) 2 _) (KeepTag.set HX6.out (by decide) 2 _))
                clear x2 x2f
                generalize w6.setCell ⟨w3.heap.size, 2, none⟩ (.slice av q cv) = W8 at HR8 HX8 HI8 ⊢
                have HP8 := Lib.hid (HO.out W8 HR8.out.grown).2.2.2.2
                have p8 : W8.cell? ⟨P, 1, none⟩ = some (.slice al p.lines.length capl) := HP8.out.cell 1
                have p8f : W8.frozen? ⟨P, 1, none⟩ = false := HP8.out.froz 1
                have hPl8 := HP8.out.lt
                have x0 := HX8.out.cell 0
                have x1 := HX8.out.cell 1
                have x2 := HX8.out.cell 2
                simp at x0 x1 x2
                have hxl8 := HX8.out.lt
                obtain ⟨zz0, hi, hz0, hz1, hz2⟩ := info_parts Tryd.infoLine
                have hcap : p.lines.length + 1 ≤ maxLen := by unfold maxLen; omega
                have hby : (p.lines.length + 1) * 48 ≤ 140737488355328 := by omega
                have hsz8 : B ≤ W8.heap.size := Nat.le_trans hB HR8.out.grown.size
                go_region_law (refine step_append_lies _ (by rfl) _ _ _ (by rfl) B 45 zz0 (.agg #[.string ⟨#[]⟩, .int .i64 0, .slice none 0 0]) 3 48 Tryd.underlying24 hi hz0 hz1 hz2 rfl (by decide) (.slice al p.lines.length capl) p.lines.length cl (by rfl) (((HO.out W8 HR8.out.grown).2.2.1.alloc _).drew) ⟨W8.heap.size, 0, none⟩ 1 1 [.string (mkS tw), .int .i64 ta, .slice av q cv] (by rfl) (by rfl) (World.news_of_block (cs := #[.string (mkS tw), .int .i64 ta, .slice av q cv]) (t := 45) (fr := (0, 0)) (heap_alloc_new W8 _)) (by simp [Value.oneCell']) (by decide) hcap hby (by simp; omega) (W8.heap.size + 1) (by simp) ?_; intro g2 cap2 w9 hown9 hg9 hat9 hlt9; have hk9 : ∀ t, t ≠ 45 → KeepTag t W8 w9 := (fun t h => (KeepTag.alloc _).trans (KeepTag.own (w := ((W8.alloc (.cells #[.string (mkS tw), .int .i64 ta, .slice av q cv] 45)).drew)) hg9 (((HO.out W8 HR8.out.grown).2.2.1.alloc _).drew) h)); have HP9 := Lib.hid (HP8.out.keep (hk9 _ (by decide))); have p9 : w9.cell? ⟨P, 1, none⟩ = some (.slice al p.lines.length capl) := HP9.out.cell 1; have p9f : w9.frozen? ⟨P, 1, none⟩ = false := HP9.out.froz 1)
                all_goals
                  go_wp2_with fail
                  go_end0
                  have ks : ∀ t, t ≠ 26 → KeepTag t w9 (w9.setCell ⟨P, 1, none⟩ (.slice (some ⟨g2, 0, none⟩) (p.lines.length + 1) cap2)) := fun t ht => KeepTag.set HP9.out ht 1 _
                  have ka : ∀ t, KeepTag t W8 ((W8.alloc (.cells #[.string (mkS tw), .int .i64 ta, .slice av q cv] 45)).drew) := fun t => KeepTag.alloc (w := W8) _
                  have hlow : Below B w (w9.setCell ⟨P, 1, none⟩ (.slice (some ⟨g2, 0, none⟩) (p.lines.length + 1) cap2)) := (((((HR8.out.low hB hBL).alloc hsz8 _).drew).grown hg9 (by simp; omega) (fun j hj => ((HO.out W8 HR8.out.grown).2.2.1.lt j hj).1))).setCell hBP _
                  have hrd : RdB (w9.setCell ⟨P, 1, none⟩ (.slice (some ⟨g2, 0, none⟩) (p.lines.length + 1) cap2)) L (.slice (some ⟨g, o, none⟩) n cap) k' e 0 z1 z2 := (Blk.keep HR8.out.rd (hk9 _ (by decide))).keep (ks _ (by decide))
                  obtain ⟨q1, q2, q3, q4, _⟩ := HO.out W8 HR8.out.grown
                  cases x with
                  | error y =>
                    obtain ⟨h1, h2, h3⟩ := HE6.out.1 y rfl
                    subst h2 h3
                    rw [HXm.out]
                    exact ⟨rfl, hlow, h1, k', 0, hrd⟩
                  | ok i =>
                    obtain ⟨h1, h2, h3⟩ := HE6.out.2 i rfl
                    subst h1 h2 h3
                    obtain ⟨cs, j1, j2⟩ := HI8.out.v
                    rw [HXm.out]
                    exact ⟨rfl, hlow, ⟨k', 0, hrd⟩, _, _, HP9.out.set21 _, (PrgV.line (q := ⟨tw, ta, l'⟩) (own_tag q1 (ka _)) (q2.imp (fun _ _ h => h.keep (ka _))) (own_tag q3 (ka _)) (q4.imp (fun _ _ h => h.keep (ka _) (ka _))) hg9 hown9 (own_tag j1 (ka _)) (j2.keep (ka _))).keep (fun t _ _ _ ht => ks t ht)⟩
end Go.Proofs.YtfpneopobbfabaaDoor
namespace Go.Proofs.YtfpneopobbfabaaDoor
open Go.RowKit Go.Shelf Go.Sort

theorem PrgV.from {w : World} {b b' : Nat} {vi vl : Value} {p : Prg} (h : PrgV w b vi vl p) (hb : b' ≤ b) : PrgV w b' vi vl p := let ⟨ci, cl, h1, h2, h3, h4⟩ := h; ⟨ci, cl, own_base h1 hb, h2, own_base h3 hb, h4⟩
theorem PrgS.tags2 {w w' : World} {P B : Nat} {p : Prg} (h : PrgS w P B p) (hk : ∀ t, t ≠ 64 → KeepTag t w w') : PrgS w' P B p := by
  obtain ⟨vi, vl, h1, ci, cl, o1, o2, o3, o4⟩ := h
  exact ⟨vi, vl, h1.keep (hk _ (by decide)), ci, cl, own_tag o1 (hk _ (by decide)), o2.imp (fun _ _ h => h.keep (hk _ (by decide))), own_tag o3 (hk _ (by decide)), o4.imp (fun _ _ h => h.keep (hk _ (by decide)) (hk _ (by decide)))⟩
theorem PrgS.below {w w' : World} {P B : Nat} {p : Prg} (h : PrgS w P B p) (hb : Below w.heap.size w w') : PrgS w' P B p := h.tags (fun _ _ => KeepTag.below hb)
/-- A line's end behind the tokens that have been gathered. -/
theorem lines_step {n : Int} {toks own : List Tok} {k : Nat} {t : Tok} {p : Prg} {lines : Nat} {over : Bool} (ht : (toks ++ [⟨4, n, [], 0⟩])[k]? = some t) (hl : notLine t = false) (ho : ∀ x ∈ own, notLine x = true) :
    linesX n (own ++ toks.drop k) p lines over = if own = [] then linesX n (toks.drop (k + 1)) p lines over else match intoP t.at_ own p lines over with
      | .error x => .error x
      | .ok q => linesX n (toks.drop (k + 1)) q (lines + 1) (overP q) := by
  by_cases hk : k < toks.length
  · rw [List.getElem?_append_left hk] at ht
    rw [drop_cons ht]
    exact linesX_line n own t _ p lines over ho hl
  · rw [List.getElem?_append_right (by omega)] at ht
    have hz : k - toks.length = 0 := by
      have := (List.getElem?_eq_some_iff.1 ht).1
      simp at this
      omega
    rw [hz] at ht
    simp at ht
    subst ht
    rw [List.drop_of_length_le (show toks.length ≤ k by omega), List.drop_of_length_le (show toks.length ≤ k + 1 by omega), List.append_nil]
    by_cases hn : own = []
    · rw [if_pos hn, hn]
    · rw [if_neg hn]
      exact linesX_last n own p lines over ho hn
theorem notLine_at {n : Int} {toks : List Tok} {k : Nat} {t : Tok} (ht : (toks ++ [⟨4, n, [], 0⟩])[k]? = some t) (hl : notLine t = true) : toks[k]? = some t := by
  by_cases hk : k < toks.length
  · rwa [List.getElem?_append_left hk] at ht
  · rw [List.getElem?_append_right (by omega)] at ht
    have hz : k - toks.length = 0 := by
      have := (List.getElem?_eq_some_iff.1 ht).1
      simp at this
      omega
    rw [hz] at ht
    simp at ht
    subst ht
    cases hl
theorem lexAt_count (f : Nat) : ∀ (k : Nat) (l : List UInt8) (toks : List Tok), l.length ≤ f → lexAt k l = .ok toks → toks.length ≤ l.length := by
  induction f with
  | zero =>
    intro k l toks hl h
    have : l = [] := by cases l <;> simp_all
    subst this
    injection h with h
    subst h
    exact Nat.le_refl _
  | succ f ih =>
    intro k l toks hl h
    cases l with
    | nil => injection h with h; subst h; exact Nat.le_refl _
    | cons b r =>
      rw [lexAt_cons] at h
      have hr : r.length ≤ f := by simpa using hl
      by_cases c1 : b = 32 ∨ b = 9
      · rw [if_pos c1] at h
        have := ih _ _ _ hr h
        simp only [List.length_cons]
        omega
      · rw [if_neg c1] at h
        by_cases c2 : b = 35
        · have hn : 1 ≤ runL noteB (b :: r) := by subst c2; rw [runL_cons]; simp [noteB]
          rw [if_pos c2] at h
          have := ih _ _ _ (by simp only [List.length_drop, List.length_cons]; omega) h
          simp only [List.length_drop, List.length_cons] at this ⊢
          omega
        · rw [if_neg c2] at h
          by_cases c3 : (tokL (b :: r)).2.2 ≠ 0
          · rw [if_pos c3] at h; cases h
          · rw [if_neg c3] at h
            have hn := tokL_len (b :: r) (by simp) (by simpa using c3)
            cases hx : lexAt (k + (tokL (b :: r)).2.1) ((b :: r).drop (tokL (b :: r)).2.1) with
            | error e => rw [hx] at h; cases h
            | ok v =>
              rw [hx] at h
              injection h with h
              subst h
              have := ih _ _ _ (by simp only [List.length_drop, List.length_cons]; omega) hx
              simp only [List.length_drop, List.length_cons] at this ⊢
              omega
theorem lex_count {l : List UInt8} {toks : List Tok} (h : lexL l = .ok toks) : toks.length ≤ 65536 := by
  obtain ⟨h1, h2⟩ := (lexL_ok_iff _ _).1 h
  have := lexAt_count l.length 0 l toks (Nat.le_refl _) h2
  omega
set_option maxHeartbeats 16000000 in
set_option maxRecDepth 100000 in
theorem RdParse_any (s : ByteArray) (w : World) (hs : s.size ≤ maxLen) : Calls Tryd.prog 13 #[.string s] w (ParsePost (parseL s.data.toList) w) := by
  have HL := Lib.hid (fun w => RLex_any s w hs)
  obtain ⟨X, hX⟩ : ∃ X, X = parseL s.data.toList := ⟨_, rfl⟩
  rw [← hX]
  have HX := Lib.hid hX
  obtain ⟨i0, hi, hz0, hz1, hz2⟩ := info_parts Tryd.infoTok
  have hsz : s.data.toList.length = s.size := rfl
  have hs1 : (s.size : Int) ≤ 9223372036854775807 := by unfold maxLen at hs; omega
  clear hX hs
  go_enter Tryd.func13, Tryd.ntmps13
  go_wp2_with fail
  have hR0 : Blk ((w.alloc (.cells #[.slice none 0 0, .slice none 0 0] 26)).alloc (.cells #[.int .i64 0, .int .i64 0] 29)) w.heap.size 26 #[.slice none 0 0, .slice none 0 0] := (Blk.new w _ _ rfl).alloc _
  have hR1 : Blk ((w.alloc (.cells #[.slice none 0 0, .slice none 0 0] 26)).alloc (.cells #[.int .i64 0, .int .i64 0] 29)) (w.heap.size + 1) 29 #[.int .i64 0, .int .i64 0] := Blk.new _ _ _ (by simp)
  have hba : Below w.heap.size w ((w.alloc (.cells #[.slice none 0 0, .slice none 0 0] 26)).alloc (.cells #[.int .i64 0, .int .i64 0] 29)) := ((Below.refl _ _).alloc (Nat.le_refl _) _).alloc (by simp) _
  generalize (w.alloc (.cells #[.slice none 0 0, .slice none 0 0] 26)).alloc (.cells #[.int .i64 0, .int .i64 0] 29) = Wa at hR0 hR1 hba ⊢
  refine (HL.out Wa).mono ?_
  intro en w1 hp
  have hza := hR1.lt
  rcases hp with ⟨v, toks, hlex, rfl, hown, hb⟩ | ⟨k, c, hlex, rfl, hb⟩
  · have HXt : Hid (X = linesX s.size toks Prg.none 0 false) := Lib.hid (by rw [HX.out]; unfold parseL; rw [hlex]; rfl)
    have hlx : ∀ t ∈ toks, t.lexed := lexAt_lexed s.data.toList.length 0 s.data.toList toks (Nat.le_refl _) ((lexL_ok_iff _ _).1 hlex).2
    have hlen := ((lexL_ok_iff _ _).1 hlex).1
    have hcnt := lex_count hlex
    rw [hsz] at hlen
    have HLx := Lib.hid hlx
    have HO1 := Lib.hid hown
    have HR0 := Lib.hid (hR0.below hb)
    have HR1 := Lib.hid (hR1.below hb)
    have HB1 := Lib.hid (hba.trans (hb.mono hba.size))
    have hz1' := hb.size
    obtain ⟨av, cv, rfl⟩ := own_form hown
    obtain ⟨nt, hnt⟩ : ∃ nt, nt = toks.length := ⟨_, rfl⟩
    rw [← hnt] at HO1 hcnt ⊢
    have HNt := Lib.hid hnt
    clear hR0 hR1 hba hb hown hlx hlex hnt HL
    go_wp2_with (at_builtin; refine wpList_append_own _ rfl (.tmp 22) (.tmp 26) 57 rfl Wa.heap.size 64 i0 (.agg #[.int .i64 0, .int .i64 0, .string ⟨#[]⟩, .int .i64 0]) 4 40 Tryd.underlying57 hi hz0 hz1 hz2 rfl (by decide) _ _ _ rfl ((HO1.out.alloc _).alloc _) ⟨w1.heap.size + 1, 0, none⟩ 1 1 (Tok.cells ⟨4, s.size, [], 0⟩) rfl rfl ?c1 ?c2 ?c3 ?c4 ?c5 ?_)
    case c1 => exact cells4 _ _ _ _ _ _ (by simp)
    case c2 => intro u hu; simp [Tok.cells] at hu; rcases hu with rfl | rfl | rfl | rfl <;> rfl
    case c3 => unfold maxLen; omega
    case c4 => omega
    case c5 => simp; omega
    intro v4 W4 hown4 hg4 _
    have hrow4 : ∀ j, (Value.slice av nt cv).ownBlock = some j → Wa.heap.size ≤ j := fun j hj => (HO1.out.lt j hj).1
    have hk4 : ∀ t, t ≠ 64 → KeepTag t w1 W4 := fun t ht => (KeepTag.alloc _).trans ((KeepTag.alloc _).trans (KeepTag.own hg4 ((HO1.out.alloc _).alloc _) ht))
    have hb4 : Below Wa.heap.size w1 W4 := (((Below.refl _ _).alloc hz1' _).alloc (by simp; omega) _).grown hg4 (by simp; omega) hrow4
    have HB4 := Lib.hid (HB1.out.trans (hb4.mono (by omega)))
    have HR04 := Lib.hid (HR0.out.keep (hk4 _ (by decide)))
    have HR14 : Hid (Blk W4 (w.heap.size + 1) 29 #[.int .i64 0, .int .i64 0]) := Lib.hid ((hb4.block (w.heap.size + 1) (by omega)).trans HR1.out)
    have hown5 : W4.ownsRow Wa.heap.size 64 4 v4 (toks ++ [(⟨4, s.size, [], 0⟩ : Tok)]).length (tokCells (toks ++ [(⟨4, s.size, [], 0⟩ : Tok)])) := by
      rw [List.length_append, tokCells_append, ← HNt.out]
      exact hown4
    have HT4 := Lib.hid (TokS.of_own hown5)
    obtain ⟨a4, c4, rfl⟩ := own_form hown4
    have hw4 : w.heap.size + 1 < W4.heap.size := by have := hb4.size; omega
    have HP5 : Hid (PrgS (W4.alloc (.cells #[.slice none 0 0, .slice none 0 0] 26)) W4.heap.size W4.heap.size Prg.none) := Lib.hid ⟨_, _, Blk.new W4 _ _ rfl, [], [], World.ownsRow_nil _ _ _ _, RowC.nil _ _, World.ownsRow_nil _ _ _ _, RowC.nil _ _⟩
    have HG0 : Hid (Good Prg.none 0 false) := Lib.hid ⟨fun x hx => (by cases hx), fun x hx => (by cases hx), by simp [Prg.none], rfl, by omega⟩
    obtain ⟨N, hN⟩ : ∃ N, N = nt + 1 := ⟨_, rfl⟩
    have HNN : Hid ((toks ++ [(⟨4, s.size, [], 0⟩ : Tok)]).length = N) := Lib.hid (by rw [List.length_append, hN, HNt.out]; rfl)
    rw [← hN]
    have HN := Lib.hid hN
    have hNb : N ≤ 65537 := by omega
    have HB := Lib.hid (fun wx (hb : Below W4.heap.size W4 wx) => And.intro ((hb.block w.heap.size (by omega)).trans HR04.out) ((hb.block (w.heap.size + 1) hw4).trans HR14.out))
    clear hrow4 hk4 hb4 hown5 hown4 hg4 hN HO1
    go_wp2_with fail
    go_loopw [7, 8, 9, 10] (fun s7 s8 s9 s10 wx => ∃ (k : Nat) (own : List Tok) (p : Prg) (lines : Nat) (over : Bool), s10 = .int .i64 k ∧ s8 = .int .i64 lines ∧ s9 = .bool over ∧ k ≤ N ∧ own.length ≤ k ∧ wx.ownsRow W4.heap.size 64 4 s7 own.length (tokCells own) ∧
        Below W4.heap.size W4 wx ∧ PrgS wx W4.heap.size W4.heap.size p ∧ (∀ t ∈ own, t ∈ toks ∧ notLine t = true) ∧ Good p lines over ∧ over = overP p ∧ linesX s.size (own ++ toks.drop k) p lines over = X ∧ (k = N → own = []))
      (fun _ _ _ i _ => N - (intOf i).toNat)
    case atStart => exact ⟨0, [], Prg.none, 0, false, rfl, rfl, rfl, Nat.zero_le _, Nat.le_refl _, World.ownsRow_nil _ _ _ _, (Below.refl _ _).alloc (Nat.le_refl _) _, HP5.out, fun t ht => by simp at ht, HG0.out, rfl, HXt.out.symm, fun _ => rfl⟩
    case round =>
      obtain ⟨k, own, p, lines, over, rfl, rfl, rfl, hkN, hok, hown, hbel, hprg, hmem, hgood, hov, hres, hlast⟩ := hrel
      have HBl := Lib.hid hbel
      have HOw := Lib.hid hown
      have HPg := Lib.hid hprg
      have HMem := Lib.hid hmem
      have HGd := Lib.hid hgood
      have HOv := Lib.hid hov
      have HRes := Lib.hid hres
      have HLast := Lib.hid hlast
      have hlines := hgood.most
      have hcount := hgood.count
      obtain ⟨ao, co, rfl⟩ := own_form hown
      have hsx := hbel.size
      have hPl : W4.heap.size < wr.heap.size := by obtain ⟨_, _, h, _⟩ := hprg; exact h.lt
      obtain ⟨mo, hmo⟩ : ∃ mo, mo = own.length := ⟨_, rfl⟩
      rw [← hmo] at HOw hok ⊢
      have HMo := Lib.hid hmo
      clear hown hbel hprg hmem hgood hov hres hlast hmo
      by_cases hlt : k < N
      · have hlt2 : (k : Int) < N := by omega
        obtain ⟨t, ht⟩ : ∃ t, (toks ++ [(⟨4, s.size, [], 0⟩ : Tok)])[k]? = some t := ⟨_, List.getElem?_eq_getElem (by rw [HNN.out]; exact hlt)⟩
        have hT := HT4.out
        obtain ⟨ax, cx, hvx, hcx, hmx, hcells⟩ := hT
        rw [HNN.out] at hvx hcx hcells
        obtain ⟨g, o, hga, hgl, hcell⟩ := hcells (by omega)
        injection hvx with e1 e2 e3
        subst hga
        have e1' := e1
        subst e1
        rw [← e3] at hcx hmx
        obtain ⟨d0, d1, d2, d3⟩ := hcell k t ht
        have d0 := (HBl.out.cell (p := ⟨g, _, none⟩) hgl).trans d0
        have d1 := (HBl.out.cell (p := ⟨g, _, none⟩) hgl).trans d1
        have d2 := (HBl.out.cell (p := ⟨g, _, none⟩) hgl).trans d2
        have d3 := (HBl.out.cell (p := ⟨g, _, none⟩) hgl).trans d3
        have hgr : g < wr.heap.size := by omega
        have hcN : N ≤ c4 := hcx
        unfold maxLen at hmx
        have HTk := Lib.hid ht
        clear hcells hcell e3 hcx e1' ht
        cases hnl : notLine t with
        | true =>
          have HTm := Lib.hid (notLine_at HTk.out hnl)
          obtain ⟨tk, ta, tw, tn⟩ := t
          have hk4 : (tk != 4) = true := hnl
          dsimp only at d0 d1 d2 d3
          have HNl := Lib.hid hnl
          clear hnl
          have hmo' : mo ≤ 65537 := by omega
          go_wp2_with (at_builtin; refine wpList_append_own _ rfl (.tmp 40) (.tmp 45) 57 rfl W4.heap.size 64 i0 (.agg #[.int .i64 0, .int .i64 0, .string ⟨#[]⟩, .int .i64 0]) 4 40 Tryd.underlying57 hi hz0 hz1 hz2 rfl (by decide) _ _ _ rfl (HOw.out.alloc _) ⟨wr.heap.size, 0, none⟩ 1 1 (Tok.cells ⟨tk, ta, tw, tn⟩) rfl rfl ?c1 ?c2 ?c3 ?c4 ?c5 ?_)
          case c1 => first | exact fun j u h => h | exact cells4 _ _ _ _ _ _ rfl
          case c2 => intro u hu; simp [Tok.cells] at hu; rcases hu with rfl | rfl | rfl | rfl <;> rfl
          case c3 => unfold maxLen; omega
          case c4 => omega
          case c5 => first | omega | (simp; omega)
          intro v5 w5 hown5 hg5 _
          have hrow5 : ∀ j, (Value.slice ao mo co).ownBlock = some j → W4.heap.size ≤ j := fun j hj => (HOw.out.lt j hj).1
          have HBl5 := Lib.hid ((HBl.out.alloc HBl.out.size _).grown hg5 (by simp; omega) hrow5)
          have HPg5 := Lib.hid (HPg.out.tags2 (fun t ht => (KeepTag.alloc _).trans (KeepTag.own hg5 (HOw.out.alloc _) ht)))
          have HO5 := Lib.hid hown5
          clear hown5 hg5
          go_wp2_with fail
          go_roundw
          case rel =>
            refine ⟨k + 1, own ++ [⟨tk, ta, tw, tn⟩], p, lines, over, by go_num, rfl, rfl, by omega, by rw [List.length_append, ← HMo.out]; show mo + 1 ≤ k + 1; omega, ?_, HBl5.out, HPg5.out, ?_, HGd.out, HOv.out, ?_, ?_⟩
            · rw [List.length_append, tokCells_append, ← HMo.out]
              exact HO5.out
            · intro u hu
              rcases List.mem_append.1 hu with hu | hu
              · exact HMem.out u hu
              · rw [List.mem_singleton.1 hu]; exact ⟨List.mem_of_getElem? HTm.out, HNl.out⟩
            · rw [List.append_assoc]
              have := HRes.out
              rw [drop_cons HTm.out] at this
              exact this
            · intro hk
              have := (List.getElem?_eq_some_iff.1 HTm.out).1
              have := HNt.out
              have := HN.out
              omega
          case measure => simp [intOf]; omega
        | false =>
          have hstep := lines_step (p := p) (lines := lines) (over := over) HTk.out hnl (fun x hx => (HMem.out x hx).2)
          rw [HRes.out] at hstep
          have HSt := Lib.hid hstep
          obtain ⟨tk, ta, tw, tn⟩ := t
          have hk4 : (tk != 4) = false := hnl
          dsimp only at d0 d1 d2 d3 HSt
          clear hnl hstep
          by_cases hm0 : mo = 0
          · have hown0 : own = [] := List.eq_nil_of_length_eq_zero (by rw [← HMo.out]; exact hm0)
            rw [hown0, if_pos rfl] at HSt
            subst hm0
            clear hown0
            go_wp2_with fail
            go_roundw
            case rel => exact ⟨k + 1, [], p, lines, over, by go_num, rfl, rfl, by omega, Nat.zero_le _, World.ownsRow_nil _ _ _ _, HBl.out, HPg.out, fun u hu => by simp at hu, HGd.out, HOv.out, HSt.out.symm, fun _ => rfl⟩
            case measure => simp [intOf]; omega
          · have hown0 : own ≠ [] := fun h => hm0 (by rw [HMo.out, h]; rfl)
            rw [if_neg hown0] at HSt
            have hm0i : (mo : Int) > 0 := by omega
            have hm0b : decide (0 < mo) = true := by rw [decide_eq_true_iff]; omega
            have hownlen : own.length ≤ 100000 := by rw [← HMo.out]; omega
            have HLine := Lib.hid (fun wx h1 h2 => rline_any W4.heap.size W4.heap.size wr.heap.size (.slice ao mo co) own ta p lines over wx hownlen (fun t ht => HLx.out t (HMem.out t ht).1) (fun t ht => by have := (HMem.out t ht).2; simpa [notLine] using this) (by rw [← HMo.out]; omega) (show W4.heap.size ≤ wx.heap.size from h1) (by omega) (Nat.le_refl _) (by omega) hlines (by omega) h2)
            have HRd0 : Hid (RdAt (wr.alloc (.cells #[.slice ao mo co, .int .i64 0, .int .i64 ta, .int .i64 0, .int .i64 0, .int .i64 0] 69)) (wr.alloc (.cells #[.slice ao mo co, .int .i64 0, .int .i64 ta, .int .i64 0, .int .i64 0, .int .i64 0] 69)) wr.heap.size (.slice ao mo co) own 0 ta 0 0 0) := Lib.hid ⟨World.grownBy.refl _ _, Blk.new wr _ _ rfl, (TokS.of_own (by rw [← HMo.out]; exact HOw.out)).below ((Below.refl _ _).alloc (Nat.le_refl _) _)⟩
            have HPg1 : Hid (PrgS (wr.alloc (.cells #[.slice ao mo co, .int .i64 0, .int .i64 ta, .int .i64 0, .int .i64 0, .int .i64 0] 69)) W4.heap.size W4.heap.size p) := Lib.hid (HPg.out.below ((Below.refl _ _).alloc (Nat.le_refl _) _))
            have HBl1 : Hid (Below W4.heap.size W4 (wr.alloc (.cells #[.slice ao mo co, .int .i64 0, .int .i64 ta, .int .i64 0, .int .i64 0, .int .i64 0] 69))) := Lib.hid (HBl.out.alloc HBl.out.size _)
            obtain ⟨x, hx⟩ : ∃ x, x = intoP ta own p lines over := ⟨_, rfl⟩
            have HIx := Lib.hid hx
            rw [← hx] at HSt HLine
            clear hx
            go_wp2_with fail
            refine (HLine.out _ (by simp; omega) HRd0.out HPg1.out).mono ?_
            rintro _ w2 ⟨rfl, hb2, hm2⟩
            have HBl2 := Lib.hid (HBl1.out.trans hb2)
            clear hb2
            cases x with
            | error y =>
              obtain ⟨hy, k', nest', hrd⟩ := hm2
              have c4' := Blk.cell hrd 4
              have c5' := Blk.cell hrd 5
              simp at c4' c5'
              have hy0 : ¬ (y.2 : Int) = 0 := by omega
              have hyb : ((y.2 : Int) != 0) = true := by rw [bne_iff_ne]; exact hy0
              have hLlt := Blk.lt hrd
              have hbz := HB.out w2 HBl2.out
              have r0 := Blk.cell hbz.1 0
              have r1 := Blk.cell hbz.1 1
              have q0 := Blk.cell hbz.2 0
              have q1 := Blk.cell hbz.2 1
              simp at r0 r1 q0 q1
              have rf := Blk.froz hbz.1
              have qf := Blk.froz hbz.2
              have hzz := (HBl2.out).size
              have hzr : w.heap.size < w2.heap.size := by omega
              have hzq : w.heap.size + 1 < w2.heap.size := by omega
              have HZ := Lib.hid (HB4.out.trans (HBl2.out.mono (by omega)))
              clear hrd hy hbz d0 d1 d2 d3
              go_wp2_with fail
              go_region
              go_wp2_with fail
              refine bodyPost_ret (v := .tuple #[.agg #[.slice none 0 0, .slice none 0 0], .agg #[.int .i64 y.1, .int .i64 y.2]]) (by simp [results, Tryd.results13, go_sem, r0, r1, q0, q1]) rfl ?_
              rw [HSt.out]
              refine ⟨?_, rfl⟩
              have hzs : w.heap.size ≤ w2.heap.size := by omega
              repeat (first | with_reducible exact HZ.out | with_reducible refine Below.setCell ?_ (by first | exact Nat.le_refl _ | exact Nat.le_succ _) _ | with_reducible refine Below.alloc ?_ (by first | omega | (simp [World.setCell]; omega)) _ | with_reducible refine Below.drew ?_)
            | ok q =>
              obtain ⟨⟨k', nest', hrd⟩, hq2⟩ := hm2
              dsimp only at HSt
              have c5' := Blk.cell hrd 5
              simp at c5'
              have HQ2 := Lib.hid hq2
              have HGq := Lib.hid (HGd.out.into HOv.out (fun x hx => (HMem.out x hx).2) hown0 HIx.out.symm)
              have hcq := HGq.out.count
              have hmq := HGq.out.most
              obtain ⟨vi, vl, hPb, ci, cl, o1, o2, o3, o4⟩ := hq2
              obtain ⟨ai, capi, rfl⟩ := own_form o1
              obtain ⟨al, capl, rfl⟩ := own_form o3
              have hPl2 := hPb.lt
              clear hrd d0 d1 d2 d3
              rcases List.eq_nil_or_concat q.lines with hq | ⟨ls, x, hq⟩
              · have HOq : Hid (overP q = false) := Lib.hid (by unfold overP; rw [hq]; rfl)
                rw [hq, List.length_nil] at hPb
                have p1 : w2.cell? ⟨W4.heap.size, 1, none⟩ = some (.slice al 0 capl) := hPb.cell 1
                rw [HOq.out] at HSt HGq
                clear hPb o1 o2 o3 o4 hq
                go_wp2_with fail
                go_roundw
                case rel => exact ⟨k + 1, [], q, lines + 1, false, by go_num, by rw [Int.natCast_add]; rfl, rfl, by omega, Nat.zero_le _, World.ownsRow_nil _ _ _ _, HBl2.out, HQ2.out, fun u hu => by simp at hu, HGq.out, HOq.out.symm, HSt.out.symm, fun _ => rfl⟩
                case measure => simp [intOf]; omega
              · rw [List.concat_eq_append] at hq
                have HOq : Hid (overP q = (x.name == [])) := Lib.hid (over_last hq)
                have hql : q.lines.length = ls.length + 1 := by rw [hq]; simp
                rw [hql] at o3
                obtain ⟨gl, capl', el, hgl1, hgl2, hgl3, hgl4, hgc, -⟩ := own_cells o3 (by omega)
                injection el with el1 el2 el3
                clear el2
                subst el1 el3
                rw [hql] at hPb
                have p1 : w2.cell? ⟨W4.heap.size, 1, none⟩ = some (.slice (some ⟨gl, 0, none⟩) (ls.length + 1) capl) := hPb.cell 1
                obtain ⟨c, hcl, ⟨vx, cx, rfl, -⟩, hcj⟩ := o4.2 ls.length x (by rw [hq]; simp)
                have x0' : w2.cell? ⟨gl, ls.length * 3, none⟩ = some (.string (mkS x.name)) := by
                  rw [hgc _ (by omega)]
                  exact hcj 0 _ rfl
                have hi1 : ((ls.length + 1 : Nat) : Int) - 1 = (ls.length : Int) := by omega
                have hlt1 : ls.length < ls.length + 1 := Nat.lt_succ_self _
                have hlsb : ls.length ≤ 100 := by omega
                have hlsi : (ls.length : Int) ≤ 100 := by omega
                clear hPb o1 o2 o3 o4 hq hgc hcj hcl hql
                rw [HOq.out] at HSt HGq
                cases hnm : x.name == [] with
                | true =>
                  have hne1 : (mkS x.name).toList = [] := by rw [ByteArray.toList_eq, mkS_toList, beq_iff_eq.1 hnm]
                  have hne0 : (mkS x.name).toList.isEmpty = true := by rw [hne1]; rfl
                  rw [hnm] at HOq HSt HGq
                  clear hnm
                  go_wp2_with fail
                  go_roundw
                  case rel => exact ⟨k + 1, [], q, lines + 1, true, by go_num, by rw [Int.natCast_add]; rfl, rfl, by omega, Nat.zero_le _, World.ownsRow_nil _ _ _ _, HBl2.out, HQ2.out, fun u hu => by simp at hu, HGq.out, HOq.out.symm, HSt.out.symm, fun _ => rfl⟩
                  case measure => simp [intOf]; omega
                | false =>
                  have hne1 : ¬ (mkS x.name).toList = [] := by rw [ByteArray.toList_eq, mkS_toList]; simpa using hnm
                  have hne0 : (mkS x.name).toList.isEmpty = false := by rw [List.isEmpty_eq_false_iff]; exact hne1
                  rw [hnm] at HOq HSt HGq
                  clear hnm
                  go_wp2_with fail
                  go_roundw
                  case rel => exact ⟨k + 1, [], q, lines + 1, false, by go_num, by rw [Int.natCast_add]; rfl, rfl, by omega, Nat.zero_le _, World.ownsRow_nil _ _ _ _, HBl2.out, HQ2.out, fun u hu => by simp at hu, HGq.out, HOq.out.symm, HSt.out.symm, fun _ => rfl⟩
                  case measure => simp [intOf]; omega
      · obtain rfl : k = N := by omega
        have hlt2 : ¬ (k : Int) < k := by omega
        have hown0 := HLast.out rfl
        have hx := HRes.out
        rw [hown0, List.drop_of_length_le (by have := HNt.out; have := HN.out; omega), List.append_nil, linesX_nil] at hx
        have HXf := Lib.hid hx
        have hbz := HB.out wr HBl.out
        have r0 := Blk.cell hbz.1 0
        have r1 := Blk.cell hbz.1 1
        have q0 := Blk.cell hbz.2 0
        have q1 := Blk.cell hbz.2 1
        simp at r0 r1 q0 q1
        have rf := Blk.froz hbz.1
        have qf := Blk.froz hbz.2
        have hzz := (HBl.out).size
        have hzr : w.heap.size < wr.heap.size := by omega
        have hzq : w.heap.size + 1 < wr.heap.size := by omega
        have HZ := Lib.hid (HB4.out.trans (HBl.out.mono (by omega)))
        clear hx hbz hown0
        cases over with
        | false =>
          rw [if_neg (by simp)] at HXf
          go_wp2_with fail
          refine bodyPost_ret (v := .tuple #[.agg #[.slice none 0 0, .slice none 0 0], .agg #[.int .i64 s.size, .int .i64 42]]) (by simp [results, Tryd.results13, go_sem, r0, r1, q0, q1]) rfl ?_
          rw [← HXf.out]
          refine ⟨?_, rfl⟩
          have hzs : w.heap.size ≤ wr.heap.size := by omega
          repeat (first | with_reducible exact HZ.out | with_reducible refine Below.setCell ?_ (by first | exact Nat.le_refl _ | exact Nat.le_succ _) _ | with_reducible refine Below.alloc ?_ (by first | omega | (simp [World.setCell]; omega)) _ | with_reducible refine Below.drew ?_)
        | true =>
          rw [if_pos rfl] at HXf
          obtain ⟨vi, vl, hPb, hpv⟩ := HPg.out
          replace hpv : PrgV wr W4.heap.size vi vl p := hpv
          have HPv := Lib.hid hpv
          obtain ⟨⟨ai, ci, rfl⟩, ⟨al, cl, rfl⟩⟩ := PrgV.forms hpv
          have p0 := hPb.cell 0
          have p1 := hPb.cell 1
          simp at p0 p1
          clear hpv hPb
          go_wp2_with fail
          refine bodyPost_ret (v := .tuple #[.agg #[.slice ai p.inputs.length ci, .slice al p.lines.length cl], .agg #[.int .i64 0, .int .i64 0]]) (by simp [results, Tryd.results13, go_sem, r0, r1, q0, q1]) rfl ?_
          rw [← HXf.out]
          refine ⟨?_, _, _, rfl, ?_⟩
          · have hzs : w.heap.size ≤ wr.heap.size := by omega
            repeat (first | with_reducible exact HZ.out | with_reducible refine Below.setCell ?_ (by first | exact Nat.le_refl _ | exact Nat.le_succ _) _ | with_reducible refine Below.alloc ?_ (by first | omega | (simp [World.setCell]; omega)) _ | with_reducible refine Below.drew ?_)
          · exact (HPv.out.from (by omega)).keep (fun t h1 h2 h3 h4 => ((KeepTag.set (HB.out wr HBl.out).1 h4 0 _).trans (KeepTag.set (Blk.set20 (HB.out wr HBl.out).1 _) h4 1 _)).trans ((KeepTag.set (b := w.heap.size + 1) (t := t) (s := 29) ((HB.out wr HBl.out).2 |> fun h => (Blk.other (Blk.other h (by omega) _ _) (by omega) _ _)) h2 0 _).trans (KeepTag.set (b := w.heap.size + 1) (Blk.set20 ((HB.out wr HBl.out).2 |> fun h => (Blk.other (Blk.other h (by omega) _ _) (by omega) _ _)) _) h2 1 _)))
  · have HXe : Hid (X = .error (k, c)) := Lib.hid (by rw [HX.out]; unfold parseL; rw [hlex])
    have hc30 := (lexL_bad hlex)
    have hc0 : ¬ (c : Int) = 0 := by omega
    have hcb : ((c : Int) != 0) = true := by rw [bne_iff_ne]; exact hc0
    have HR0 := Lib.hid (hR0.below hb)
    have HR1 := Lib.hid (hR1.below hb)
    have HB1 := Lib.hid (hba.trans (hb.mono hba.size))
    have hz1' := hb.size
    have r0 := HR0.out.cell 0
    have r1 := HR0.out.cell 1
    have q0 := HR1.out.cell 0
    have q1 := HR1.out.cell 1
    simp at r0 r1 q0 q1
    have rf := HR0.out.froz
    have qf := HR1.out.froz
    have hzr : w.heap.size < w1.heap.size := by omega
    have hzq : w.heap.size + 1 < w1.heap.size := by omega
    clear hR0 hR1 hba hb hc30 hlex HL
    go_wp2_with fail
    go_region
    go_wp2_with fail
    refine bodyPost_ret (v := .tuple #[.agg #[.slice none 0 0, .slice none 0 0], .agg #[.int .i64 k, .int .i64 c]]) (by simp [results, Tryd.results13, go_sem, World.cell?_alloc_lt, hzr, hzq, r0, r1, q0, q1]) rfl ?_
    rw [HXe.out]
    refine ⟨?_, rfl⟩
    have hzs : w.heap.size ≤ w1.heap.size := by omega
    repeat (first | with_reducible exact HB1.out | with_reducible refine Below.setCell ?_ (by first | exact Nat.le_refl _ | exact Nat.le_succ _) _ | with_reducible refine Below.alloc ?_ (by first | omega | (simp [World.setCell]; omega)) _ | with_reducible refine Below.drew ?_)
end Go.Proofs.YtfpneopobbfabaaDoor
namespace Go.Proofs.YtfpneopobbfabaaDoor
open Go.RowKit Go.Shelf Go.Sort

set_option maxHeartbeats 8000000 in
set_option maxRecDepth 100000 in
theorem PSame_true (vi vl ui ul : Value) (p : Prg) (b b' : Nat) (w : World) (h1 : PrgV w b vi vl p) (h2 : PrgV w b' ui ul p) :
    Calls Tryd.prog 14 #[.agg #[vi, vl], .agg #[ui, ul]] w fun e w' => e = .returned (.bool true) ∧ Below w.heap.size w w' := by
  obtain ⟨⟨ai, ci, hvi⟩, ⟨al, cl, hvl⟩⟩ := h1.forms
  obtain ⟨⟨bi, di, hui⟩, ⟨bl, dl, hul⟩⟩ := h2.forms
  have HAl := Lib.hid (fun wx (hb : Below w.heap.size w wx) => Alike_true vi vl ui ul p p b b' wx (h1.all (fun t => KeepTag.below hb)) (h2.all (fun t => KeepTag.below hb)) rfl)
  have H1 := Lib.hid h1
  have H2 := Lib.hid h2
  obtain ⟨n, hn⟩ : ∃ n, n = p.inputs.length := ⟨_, rfl⟩
  obtain ⟨m, hm⟩ : ∃ m, m = p.lines.length := ⟨_, rfl⟩
  rw [← hn] at hvi hui
  rw [← hm] at hvl hul
  have HN := Lib.hid hn
  have HM := Lib.hid hm
  clear h1 h2 hn hm
  subst hvi hvl hui hul
  go_enter Tryd.func14, Tryd.ntmps14
  have HBx0 : Hid (Boxes w ((w.alloc (.cells #[.slice ai n ci, .slice al m cl] 26)).alloc (.cells #[.slice bi n di, .slice bl m dl] 26)) (.slice ai n ci) (.slice al m cl) (.slice bi n di) (.slice bl m dl)) := Lib.hid ⟨((Below.refl _ _).alloc (Nat.le_refl _) _).alloc (by simp) _, by simp, by simp, by simp, by simp, by simp⟩
  go_wp2_with fail
  refine (HAl.out _ HBx0.out.below).mono ?_
  rintro _ w0 ⟨rfl, hb0⟩
  have HBx := Lib.hid (HBx0.out.next hb0)
  have a0 := HBx.out.a0
  have b0 := HBx.out.b0
  clear hb0
  go_wp2_with fail
  clear a0 b0
  go_loopg [5] n (fun gg s5 wx => ∃ k : Nat, gg = n - k ∧ s5 = .int .i64 k ∧ k ≤ n ∧ Boxes w wx (.slice ai n ci) (.slice al m cl) (.slice bi n di) (.slice bl m dl))
  case atStart => exact ⟨0, rfl, rfl, Nat.zero_le _, HBx.out⟩
  case round =>
    obtain ⟨k, rfl, rfl, hk, hbx⟩ := hrel
    have a0 := hbx.a0
    have b0 := hbx.b0
    have HBy := Lib.hid hbx
    by_cases hlt : k < n
    · have hlt' : (k : Int) < (n : Int) := by omega
      obtain ⟨g1, p1, e1, hc1, hm1, _, hg1, hat1⟩ := H1.out.input_at (by have := HN.out; omega)
      obtain ⟨g2, p2, e2, hc2, hm2, _, hg2, hat2⟩ := H2.out.input_at (by have := HN.out; omega)
      injection e1 with ea1 en1 ec1
      injection e2 with ea2 en2 ec2
      clear en1 en2
      obtain ⟨x, hx⟩ : ∃ x, p.inputs[k]? = some x := ⟨p.inputs[k]'(by have := HN.out; omega), List.getElem?_eq_getElem _⟩
      obtain ⟨vn1, hn1, _, q1, _⟩ := hat1 k x hx
      obtain ⟨vn2, hn2, _, r1, _⟩ := hat2 k x hx
      have hcc1 : n ≤ ci := by have := HN.out; omega
      have hcc2 : n ≤ di := by have := HN.out; omega
      rw [← ec1] at hm1
      rw [← ec2] at hm2
      unfold maxLen at hm1 hm2
      subst ea1 ea2
      have d1 := (hbx.below.cell (p := ⟨g1, _, none⟩) hg1).trans q1
      have t1 := (hbx.below.cell (p := ⟨g2, _, none⟩) hg2).trans r1
      clear q1 r1 hn1 hn2 hx hat1 hat2 hc1 hc2 hbx ec1 ec2
      go_upto_region 6 with fail
      go_quiet (fail)
      go_wp2_with fail
      go_roundg (n - (k + 1))
      case measure => omega
      case rel => exact ⟨k + 1, rfl, by rw [Int.natCast_add]; rfl, by omega, HBy.out.draws _⟩
    · obtain rfl : k = n := by omega
      have hlt' : ¬ (k : Int) < (k : Int) := by omega
      clear hbx
      go_wp2_with fail
      clear a0 b0
      go_loopg [6] m (fun gg s6 wx => ∃ j : Nat, gg = m - j ∧ s6 = .int .i64 j ∧ j ≤ m ∧ Boxes w wx (.slice ai k ci) (.slice al m cl) (.slice bi k di) (.slice bl m dl))
      case atStart => exact ⟨0, rfl, rfl, Nat.zero_le _, HBy.out⟩
      case round =>
        obtain ⟨j, rfl, rfl, hj, hbx⟩ := hrel
        have a1 := hbx.a1
        have b1 := hbx.b1
        have HBz := Lib.hid hbx
        by_cases hjm : j < m
        · have hjm' : (j : Int) < (m : Int) := by omega
          obtain ⟨g1, p1, e1, hc1, hm1, _, hg1, hat1⟩ := H1.out.line_at (by have := HM.out; omega)
          obtain ⟨g2, p2, e2, hc2, hm2, _, hg2, hat2⟩ := H2.out.line_at (by have := HM.out; omega)
          injection e1 with ea1 en1 ec1
          injection e2 with ea2 en2 ec2
          clear en1 en2
          obtain ⟨x, hx⟩ : ∃ x, p.lines[j]? = some x := ⟨p.lines[j]'(by have := HM.out; omega), List.getElem?_eq_getElem _⟩
          obtain ⟨vn1, hn1, _, q1, q2⟩ := hat1 j x hx
          obtain ⟨vn2, hn2, _, r1, r2⟩ := hat2 j x hx
          obtain ⟨xn, xa, xs⟩ := x
          dsimp only at q1 q2 r1 r2 hn1 hn2
          obtain ⟨an1, cn1, rfl⟩ := hn1.form
          obtain ⟨an2, cn2, rfl⟩ := hn2.form
          have HV1 := Lib.hid hn1
          have HV2 := Lib.hid hn2
          obtain ⟨t, ht⟩ : ∃ t, t = xs.length := ⟨_, rfl⟩
          rw [← ht] at q2 r2 HV1 HV2
          have HT := Lib.hid ht
          have hcc1 : m ≤ cl := by have := HM.out; omega
          have hcc2 : m ≤ dl := by have := HM.out; omega
          rw [← ec1] at hm1
          rw [← ec2] at hm2
          unfold maxLen at hm1 hm2
          subst ea1 ea2
          have HQ := Lib.hid (And.intro q2 r2)
          have d1 := (hbx.below.cell (p := ⟨g1, _, none⟩) hg1).trans q1
          have d2 := (hbx.below.cell (p := ⟨g1, _, none⟩) hg1).trans q2
          have t1 := (hbx.below.cell (p := ⟨g2, _, none⟩) hg2).trans r1
          have t2 := (hbx.below.cell (p := ⟨g2, _, none⟩) hg2).trans r2
          clear q1 q2 r1 r2 hn1 hn2 hx hat1 hat2 hc1 hc2 hbx ec1 ec2 ht
          go_upto_region 11 with fail
          go_quiet (fail)
          go_wp2_with fail
          clear d1 d2 t1 t2 a1 b1
          go_loopg [7] t (fun gg s7 wx => ∃ i : Nat, gg = t - i ∧ s7 = .int .i64 i ∧ i ≤ t ∧ Boxes w wx (.slice ai k ci) (.slice (some ⟨g1, 0, none⟩) m cl) (.slice bi k di) (.slice (some ⟨g2, 0, none⟩) m dl))
          case atStart => exact ⟨0, rfl, rfl, Nat.zero_le _, HBz.out.draws _⟩
          case round =>
            obtain ⟨i, rfl, rfl, hi, hbx⟩ := hrel
            have a1 := hbx.a1
            have b1 := hbx.b1
            have d2 := (hbx.below.cell (p := ⟨g1, _, none⟩) hg1).trans HQ.out.1
            have t2 := (hbx.below.cell (p := ⟨g2, _, none⟩) hg2).trans HQ.out.2
            have HBu := Lib.hid hbx
            by_cases hit : i < t
            · have hit' : (i : Int) < (t : Int) := by omega
              obtain ⟨u1, cu1, e1, hcu1, hmu1, hgu1, hau1⟩ := HV1.out.at (by have := HT.out; omega)
              obtain ⟨u2, cu2, e2, hcu2, hmu2, hgu2, hau2⟩ := HV2.out.at (by have := HT.out; omega)
              injection e1 with ea1 en1 ec1
              injection e2 with ea2 en2 ec2
              clear en1 en2
              subst ea1 ec1 ea2 ec2
              obtain ⟨z, hz⟩ : ∃ z, xs[i]? = some z := ⟨xs[i]'(by have := HT.out; omega), List.getElem?_eq_getElem _⟩
              obtain ⟨_, _, _, w1', _, _, _⟩ := hau1 i z hz
              obtain ⟨_, _, _, w2', _, _, _⟩ := hau2 i z hz
              have x1 := (hbx.below.cell (p := ⟨u1, _, none⟩) hgu1).trans w1'
              have x2 := (hbx.below.cell (p := ⟨u2, _, none⟩) hgu2).trans w2'
              have hmc1 : t ≤ cn1 := by have := HT.out; omega
              have hmc2 : t ≤ cn2 := by have := HT.out; omega
              unfold maxLen at hmu1 hmu2
              clear w1' w2' hau1 hau2 hz hbx hcu1 hcu2
              go_upto_region 16 with fail
              go_quiet (fail)
              go_wp2_with fail
              go_roundg (t - (i + 1))
              case measure => omega
              case rel => exact ⟨i + 1, rfl, by rw [Int.natCast_add]; rfl, by omega, HBu.out.draws _⟩
            · obtain rfl : i = t := by omega
              have hit' : ¬ (i : Int) < (i : Int) := by omega
              clear hbx
              go_wp2_with fail
              go_roundg (m - (j + 1))
              case measure => omega
              case rel => exact ⟨j + 1, rfl, by rw [Int.natCast_add]; rfl, by omega, HBu.out⟩
        · obtain rfl : j = m := by omega
          have hjm' : ¬ (j : Int) < (j : Int) := by omega
          clear hbx
          go_wp2_with fail
          go_ret
          exact ⟨rfl, HBz.out.below⟩
end Go.Proofs.YtfpneopobbfabaaDoor
namespace Go.Proofs.YtfpneopobbfabaaDoor
open Go.RowKit Go.Shelf Go.Sort

theorem PrgV.empty (w : World) (b : Nat) : PrgV w b (.slice none 0 0) (.slice none 0 0) Prg.none := ⟨[], [], World.ownsRow_nil _ _ _ _, RowC.nil _ _, World.ownsRow_nil _ _ _ _, RowC.nil _ _⟩
/-- What a text is read as: its program, its fault. -/
def resF (x : Except Fault Prg) : Prg × Int × Int := match x with
  | .error y => (Prg.none, y.1, y.2)
  | .ok p => (p, 0, 0)
theorem ParsePost.res {x : Except Fault Prg} {w w' : World} {en : Ending} (h : ParsePost x w en w') : ∃ vi vl, en = .returned (.tuple #[.agg #[vi, vl], .agg #[.int .i64 (resF x).2.1, .int .i64 (resF x).2.2]]) ∧ PrgV w' w.heap.size vi vl (resF x).1 ∧ Below w.heap.size w w' := by
  obtain ⟨hb, hm⟩ := h
  cases x with
  | error y => exact ⟨_, _, hm, PrgV.empty _ _, hb⟩
  | ok p =>
    obtain ⟨vi, vl, he, hv⟩ := hm
    exact ⟨vi, vl, he, hv, hb⟩
set_option maxHeartbeats 8000000 in
set_option maxRecDepth 100000 in
theorem PReads_any (s : ByteArray) (w : World) (hs : s.size ≤ maxLen) (hE : ErrIs w) : Calls Tryd.prog 3 #[.string s] w fun e w' => e = .returned (.bool true) ∧ Below w.heap.size w w' := by
  have HSh := Lib.hid (fun w h => shown_any w h)
  have HP1 := Lib.hid (fun w h => (Parse_any s w hs h).mono (fun _ _ h => h.res))
  have HP2 := Lib.hid (fun w => (RdParse_any s w hs).mono (fun _ _ h => h.res))
  generalize resF (parseL s.data.toList) = R at HP1 HP2
  obtain ⟨p, fa, fc⟩ := R
  dsimp only at HP1 HP2
  go_enter Tryd.func3, Tryd.ntmps3
  go_wp2_with fail
  refine (HSh.out w hE).mono ?_
  rintro _ w1 ⟨rfl, hb1⟩
  have HB1 := Lib.hid hb1
  have HE1 := Lib.hid (hE.kept hb1)
  clear hb1 hs
  go_wp2_with fail
  refine (HP1.out w1 HE1.out).mono ?_
  rintro _ w2 ⟨vi, vl, rfl, hp2, hb2⟩
  have HB2 := Lib.hid (HB1.out.trans (hb2.mono HB1.out.size))
  have HP2' := Lib.hid hp2
  obtain ⟨⟨ai, ci, rfl⟩, ⟨al, cl, rfl⟩⟩ := hp2.forms
  clear hp2 hb2
  go_wp2_with fail
  refine (HP2.out _).mono ?_
  rintro _ w3 ⟨ui, ul, rfl, hp3, hb3⟩
  have x0 : w3.cell? ⟨w2.heap.size, 0, none⟩ = some (.slice ai p.inputs.length ci) := (hb3.cell (p := ⟨w2.heap.size, 0, none⟩) (by simp; omega)).trans (by simp)
  have x1 : w3.cell? ⟨w2.heap.size, 1, none⟩ = some (.slice al p.lines.length cl) := (hb3.cell (p := ⟨w2.heap.size, 1, none⟩) (by simp; omega)).trans (by simp)
  have y0 : w3.cell? ⟨w2.heap.size + 1, 0, none⟩ = some (.int .i64 fa) := (hb3.cell (p := ⟨w2.heap.size + 1, 0, none⟩) (by simp)).trans (by simp)
  have y1 : w3.cell? ⟨w2.heap.size + 1, 1, none⟩ = some (.int .i64 fc) := (hb3.cell (p := ⟨w2.heap.size + 1, 1, none⟩) (by simp)).trans (by simp)
  have hz3 : w2.heap.size + 1 < w3.heap.size := by have := hb3.size; simp at this; omega
  have HP2b := Lib.hid (HP2'.out.all (fun t => (keep_two _ _ _ t).trans (KeepTag.below hb3)))
  have HP3 := Lib.hid hp3
  have hsz2 := HB2.out.size
  have HB3 := Lib.hid (((HB2.out.alloc HB2.out.size _).alloc (by simp; omega) _).trans (hb3.mono (by simp; omega)))
  obtain ⟨⟨bi, di, rfl⟩, ⟨bl, dl, rfl⟩⟩ := hp3.forms
  clear hp3 hb3
  go_upto_region 4 with fail
  obtain ⟨W, hW⟩ : ∃ W : World, W = (w3.alloc (.cells #[.slice bi p.inputs.length di, .slice bl p.lines.length dl] 26)).alloc (.cells #[.int .i64 fa, .int .i64 fc] 29) := ⟨_, rfl⟩
  have HP5 : Hid (PrgV W w1.heap.size (.slice ai p.inputs.length ci) (.slice al p.lines.length cl) p) := Lib.hid (by rw [hW]; exact HP2b.out.all (keep_two _ _ _))
  have HP6 : Hid (PrgV W _ (.slice bi p.inputs.length di) (.slice bl p.lines.length dl) p) := Lib.hid (by rw [hW]; exact HP3.out.all (keep_two _ _ _))
  have hbW : Below w3.heap.size w3 W := by rw [hW]; exact ((Below.refl _ _).alloc (Nat.le_refl _) _).alloc (by simp) _
  have HB4b := Lib.hid (HB3.out.trans (hbW.mono HB3.out.size))
  have z0 := (hbW.cell (p := ⟨w2.heap.size, 0, none⟩) (by show w2.heap.size < _; omega)).trans x0
  have z1 := (hbW.cell (p := ⟨w2.heap.size, 1, none⟩) (by show w2.heap.size < _; omega)).trans x1
  have z2 := (hbW.cell (p := ⟨w2.heap.size + 1, 0, none⟩) (by show w2.heap.size + 1 < _; omega)).trans y0
  have z2' := (hbW.cell (p := ⟨w2.heap.size + 1, 1, none⟩) (by show w2.heap.size + 1 < _; omega)).trans y1
  have z3 : W.cell? ⟨w3.heap.size, 0, none⟩ = some (.slice bi p.inputs.length di) := by rw [hW]; simp
  have z4 : W.cell? ⟨w3.heap.size, 1, none⟩ = some (.slice bl p.lines.length dl) := by rw [hW]; simp
  have z5 : W.cell? ⟨w3.heap.size + 1, 0, none⟩ = some (.int .i64 fa) := by rw [hW]; simp
  have z5' : W.cell? ⟨w3.heap.size + 1, 1, none⟩ = some (.int .i64 fc) := by rw [hW]; simp
  rw [← hW]
  clear hW hbW x0 x1 y0 y1
  go_wp2_with fail
  refine (PSame_true _ _ _ _ p _ _ _ HP5.out HP6.out).mono ?_
  rintro _ w4 ⟨rfl, hb4⟩
  have HB5 := Lib.hid (HB4b.out.trans (hb4.mono HB4b.out.size))
  clear hb4
  go_wp2_with fail
  go_ret
  exact ⟨rfl, HB5.out⟩
end Go.Proofs.YtfpneopobbfabaaDoor
