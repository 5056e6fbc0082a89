/-
  Walks of the document's reader (windrowref04): operand, Expr. Condition: the reader lies in memory, its tokens too; they are a text's.
-/
import Derived.Test.YtfpneopobbfabaaDoorRdB
import Derived.Test.YtfpneopobbfabaaDoorPwI
import Derived.Deep.RegionHeld3
import Derived.Deep.RegionLaw
import Derived.Test.YtfpneopobbfabaaDoorLwG
import Derived.Laws.OwnMore
namespace Go.Proofs.YtfpneopobbfabaaDoor
open Go.RowKit Go.Shelf Go.Sort

theorem phrase_err {left : Bool} {t : Tok} {r : List Tok} {y : Fault} (h : phraseP left t r = .error y) : y = (t.at_, 43) := by
  unfold phraseP at h
  split at h
  · split at h
    · injection h with h; exact h.symm
    · cases h
  · split at h
    · split at h
      · injection h with h; exact h.symm
      · cases h
    · split at h
      · injection h with h; exact h.symm
      · cases h
theorem TokS.cells {w : World} {L g o n cap : Nat} {toks : List Tok} (h : TokS w L (.slice (some ⟨g, o, none⟩) n cap) toks) {k : Nat} {t : Tok} (ht : toks[k]? = some t) :
    g < L ∧ w.cell? ⟨g, o + k * 4, none⟩ = some (.int .i64 t.kind) ∧ w.cell? ⟨g, o + k * 4 + 1, none⟩ = some (.int .i64 t.at_) ∧ w.cell? ⟨g, o + k * 4 + 2, none⟩ = some (.string (mkS t.word)) ∧ w.cell? ⟨g, o + k * 4 + 3, none⟩ = some (.int .i64 t.n) := by
  obtain ⟨a, c, h1, h2, h3, h4⟩ := h
  have hlt := (List.getElem?_eq_some_iff.1 ht).1
  obtain ⟨g', o', k1, k2, k3⟩ := h4 (by omega)
  injection h1 with e1 e2 e3
  rw [k1] at e1
  injection e1 with e1
  injection e1 with e4 e5 e6
  subst e4 e5
  exact ⟨k2, k3 k t ht⟩
theorem RdAt.self {w0 w : World} {L : Nat} {vt : Value} {toks : List Tok} {k : Nat} {e : Int} {nest : Nat} {fa fc : Int} (h : RdAt w0 w L vt toks k e nest fa fc) : RdAt w w L vt toks k e nest fa fc := ⟨World.grownBy.refl _ _, h.rd, h.tok⟩
theorem RdAt.base {w0 w w' : World} {L : Nat} {vt : Value} {toks : List Tok} {k k' : Nat} {e : Int} {nest nest' : Nat} {fa fc fa' fc' : Int} (h : RdAt w0 w L vt toks k e nest fa fc) (h' : RdAt w w' L vt toks k' e nest' fa' fc') : RdAt w0 w' L vt toks k' e nest' fa' fc' := ⟨gb_trans h.grown h'.grown, h'.rd, h'.tok⟩
theorem ItsO.nil (w : World) (b : Nat) : ItsO w b (.slice none 0 0) [] := ⟨[], World.ownsRow_nil _ _ _ _, ItsC.nil _⟩
theorem ItsO.from {w : World} {b b' : Nat} {v : Value} {l : List Itm} (h : ItsO w b v l) (hb : b' ≤ b) : ItsO w b' v l := let ⟨cs, h1, h2⟩ := h; ⟨cs, own_base h1 hb, h2⟩
theorem ItsO.tag {w w' : World} {b : Nat} {v : Value} {l : List Itm} (h : ItsO w b v l) (hk : KeepTag 48 w w') (hn : KeepTag 2 w w') : ItsO w' b v l := let ⟨cs, h1, h2⟩ := h; ⟨cs, own_tag h1 hk, h2.keep hn⟩
/-- A store into the reader leaves rows as they are. -/
theorem ItsO.rd {w : World} {b : Nat} {v : Value} {l : List Itm} (h : ItsO w b v l) {L : Nat} {vt : Value} {k : Nat} {e : Int} {nest : Nat} {fa fc : Int} (hr : RdB w L vt k e nest fa fc) (o : Nat) (u : Value) : ItsO (w.setCell ⟨L, o, none⟩ u) b v l :=
  h.tag (KeepTag.set hr (by decide) o u) (KeepTag.set hr (by decide) o u)
/-- What an expression, or an operand, gives: its items; its fault. -/
def RExprPost (L : Nat) (vt : Value) (toks : List Tok) (k : Nat) (e : Int) (nest : Nat) (x : Except Fault (List Itm × List Tok)) (b : Nat) (w : World) (en : Ending) (w' : World) : Prop :=
  ∃ v l', en = .returned v ∧ ItsO w' w.heap.size v l' ∧ l'.length ≤ toks.length - k ∧
    match x with
    | .error y => y.2 ≠ 0 ∧ ∃ k', k' ≤ toks.length + b ∧ RdAt w w' L vt toks k' e nest y.1 y.2
    | .ok (l, r') => l' = l ∧ ∃ k', RdAt w w' L vt toks k' e nest 0 0 ∧ toks.drop k' = r' ∧ k + l.length ≤ k' ∧ k < k' ∧ k' ≤ toks.length
def ExprOK (f L : Nat) (vt : Value) (toks : List Tok) (e : Int) : Prop := ∀ (k nest : Nat) (w : World), 2 * (toks.length - k) + 2 ≤ f → k ≤ toks.length → nest ≤ 32 → RdAt w w L vt toks k e nest 0 0 →
  Calls Tryd.prog 65 #[.pointer (some ⟨L, 0, none⟩)] w (RExprPost L vt toks k e nest (exprR e f nest (toks.drop k)) f w)
section
variable (f L : Nat) (vt : Value) (toks : List Tok) (e : Int) (k nest : Nat) (w : World)
set_option maxHeartbeats 8000000 in
set_option maxRecDepth 100000 in
/-- In brackets. -/
theorem roperand_open (hE : ExprOK f L vt toks e) (hlen : toks.length ≤ 100000) (hf0 : f ≤ 300000) (t : Tok) (ht : toks[k]? = some t) (hlx : ∀ t ∈ toks, t.lexed) (ho : signIs [40] t = true) (hf : 2 * (toks.length - k) + 1 ≤ f + 1) (hn : nest ≤ 32) (hR : RdAt w w L vt toks k e nest 0 0) :
    Calls Tryd.prog 72 #[.pointer (some ⟨L, 0, none⟩)] w (RExprPost L vt toks k e nest (operandR e (f + 1) nest t (toks.drop (k + 1))) (f + 1) w) := by
  have HIs := Lib.hid (fun (s : ByteArray) (k' nest' : Nat) (wx : World) (h : RdAt w wx L vt toks k' e nest' 0 0) => ris_any s L vt toks k' e nest' 0 0 wx h.rd h.full)
  have HNo := Lib.hid (fun (c : Int) (k' nest' : Nat) (wx : World) (h : RdAt w wx L vt toks k' e nest' 0 0) => rno_any c L vt toks k' e nest' 0 0 wx h.rd h.full)
  have I40 := Lib.hid (fun (wx : World) (h : RdAt w wx L vt toks k e nest 0 0) => HIs.out ⟨#[40]⟩ k nest wx h)
  have hk := (List.getElem?_eq_some_iff.1 ht).1
  have hd := drop_cons ht
  rw [show (⟨#[40]⟩ : ByteArray).data.toList = [40] from rfl, hd, isP_sign (hlx t (List.mem_of_getElem? ht)) 40 (by decide), ho] at I40
  have HX : Hid (operandR e (f + 1) nest t (toks.drop (k + 1)) = if nest = 32 then .error (t.at_, 44) else match exprR e f (nest + 1) (toks.drop (k + 1)) with
      | .error x => .error x
      | .ok (l, r2) => match r2 with
        | [] => .error (e, 42)
        | c :: r3 => if signIs [41] c then .ok (l, r3) else .error (c.at_, 42)) := by
    apply Lib.hid
    rw [operandR]
    simp only [ho, if_true]
    rfl
  obtain ⟨X, hX⟩ : ∃ X, X = operandR e (f + 1) nest t (toks.drop (k + 1)) := ⟨_, rfl⟩
  rw [← hX] at HX ⊢
  have HR := Lib.hid hR
  have HLx := Lib.hid hlx
  have HPl := Lib.hid (place_in e ht)
  have HEx := Lib.hid (fun w' h => hE (k + 1) (nest + 1) w' (by omega) (by omega) h)
  have hL := hR.rd.lt
  clear hX ht hd hlx ho hR hE
  by_cases h32 : nest = 32
  · subst h32
    rw [if_pos rfl] at HX
    go_enter Tryd.func72, Tryd.ntmps72
    go_wp2_with fail
    refine (I40.out w HR.out).mono ?_
    rintro _ w1 ⟨rfl, hb1⟩
    have H1 := HR.out.below hb1
    have c3 : w1.cell? ⟨L, 3, none⟩ = some (.int .i64 (32 : Nat)) := H1.rd.cell 3
    have HR1 := Lib.hid H1
    clear hb1 H1
    go_wp2_with fail
    refine (HNo.out 44 k 32 w1 HR1.out).mono ?_
    rintro _ w2 ⟨rfl, hr2, hg2⟩
    have HR2 := Lib.hid (HR1.out.to hg2 hr2)
    clear hr2 hg2
    go_wp2_with fail
    go_ret
    rw [HX.out]
    refine ⟨.slice none 0 0, [], rfl, ItsO.nil _ _, Nat.zero_le _, Nat.succ_ne_zero 43, k, by omega, ?_⟩
    have := HR2.out
    rw [HPl.out] at this
    exact this
  · rw [if_neg h32] at HX
    have h32i : ¬ (nest : Int) = 32 := by omega
    have h32b : ((nest : Int) == 32) = false := by rw [beq_eq_false_iff_ne]; exact h32i
    have hn1 : nest + 1 ≤ 32 := by omega
    go_enter Tryd.func72, Tryd.ntmps72
    go_wp2_with fail
    refine (I40.out w HR.out).mono ?_
    rintro _ w1 ⟨rfl, hb1⟩
    have H1 := HR.out.below hb1
    have c3 : w1.cell? ⟨L, 3, none⟩ = some (.int .i64 nest) := H1.rd.cell 3
    have c1 : w1.cell? ⟨L, 1, none⟩ = some (.int .i64 k) := H1.rd.cell 1
    have f1 : w1.frozen? ⟨L, 1, none⟩ = false := H1.rd.froz 1
    have f3 : w1.frozen? ⟨L, 3, none⟩ = false := H1.rd.froz 3
    have HR1 := Lib.hid H1
    have HR2 : Hid (RdAt w ((w1.setCell ⟨L, 1, none⟩ (.int .i64 ((k : Int) + 1))).setCell ⟨L, 3, none⟩ (.int .i64 ((nest : Int) + 1))) L vt toks (k + 1) e (nest + 1) 0 0) := Lib.hid ((H1.put1 (k + 1)).put3 (nest + 1))
    clear hb1 H1
    go_wp2_with fail
    generalize (w1.setCell ⟨L, 1, none⟩ (.int .i64 ((k : Int) + 1))).setCell ⟨L, 3, none⟩ (.int .i64 ((nest : Int) + 1)) = W2 at HR2 ⊢
    refine (HEx.out W2 hn1 HR2.out.self).mono ?_
    rintro _ w3 ⟨v3, l3, rfl, hi3, hl3, hm3⟩
    clear c1 c3 f1 f3
    have HW2 : Hid (w.heap.size ≤ W2.heap.size) := Lib.hid HR2.out.grown.size
    generalize exprR e f (nest + 1) (toks.drop (k + 1)) = x at hm3 HX
    cases x with
    | error y =>
      obtain ⟨hy, k', hk', hr3⟩ := hm3
      have H3 := HR2.out.base hr3
      have c1 : w3.cell? ⟨L, 1, none⟩ = some (.int .i64 k') := H3.rd.cell 1
      have c3 : w3.cell? ⟨L, 3, none⟩ = some (.int .i64 ((nest + 1 : Nat) : Int)) := H3.rd.cell 3
      have c5 : w3.cell? ⟨L, 5, none⟩ = some (.int .i64 y.2) := H3.rd.cell 5
      have f1 : w3.frozen? ⟨L, 1, none⟩ = false := H3.rd.froz 1
      have f3 : w3.frozen? ⟨L, 3, none⟩ = false := H3.rd.froz 3
      simp at c3
      have hy0 : ¬ (y.2 : Int) = 0 := by omega
      have hyb : ((y.2 : Int) == 0) = false := by rw [beq_eq_false_iff_ne]; exact hy0
      have HI := Lib.hid (hi3.from HW2.out)
      have HY := Lib.hid hy
      have HR3 := Lib.hid H3
      clear hi3 hr3 H3 hy
      go_wp2_with fail
      go_ret
      rw [HX.out]
      have g1 := HR3.out.put3 nest
      refine ⟨v3, l3, rfl, (HI.out.rd HR3.out.rd 3 _).rd g1.rd 1 _, by omega, HY.out, k' + 1, by omega, ?_⟩
      exact g1.put1 (k' + 1)
    | ok q =>
      obtain ⟨l, r2⟩ := q
      obtain ⟨rfl, k', hr3, hd3, hb3, hb4, hb5⟩ := hm3
      have H3 := HR2.out.base hr3
      have c1 : w3.cell? ⟨L, 1, none⟩ = some (.int .i64 k') := H3.rd.cell 1
      have c3 : w3.cell? ⟨L, 3, none⟩ = some (.int .i64 ((nest + 1 : Nat) : Int)) := H3.rd.cell 3
      have c5 : w3.cell? ⟨L, 5, none⟩ = some (.int .i64 0) := H3.rd.cell 5
      have f3 : w3.frozen? ⟨L, 3, none⟩ = false := H3.rd.froz 3
      simp at c3
      have HI := Lib.hid ((hi3.from HW2.out).rd H3.rd 3 (.int .i64 nest))
      have HR3 : Hid (RdAt w (w3.setCell ⟨L, 3, none⟩ (.int .i64 nest)) L vt toks k' e nest 0 0) := Lib.hid (H3.put3 nest)
      have HD3 := Lib.hid hd3
      have I41 := Lib.hid (fun (wx : World) (h : RdAt w wx L vt toks k' e nest 0 0) => HIs.out ⟨#[41]⟩ k' nest wx h)
      have HN41 := Lib.hid (fun (wx : World) (h : RdAt w wx L vt toks k' e nest 0 0) => HNo.out 42 k' nest wx h)
      rw [show (⟨#[41]⟩ : ByteArray).data.toList = [41] from rfl, hd3] at I41
      rw [hd3] at HN41
      clear hi3 hr3 H3
      have key : ∀ c : Bool, isP [41] r2 = c → True := fun _ _ => trivial
      cases hc : isP [41] r2 with
      | false =>
        have HX2 : Hid (X = .error (placeP e r2, 42)) := by
          apply Lib.hid
          rw [HX.out]
          cases r2 with
          | nil => rfl
          | cons c r3 =>
            have hcl := HLx.out c (List.mem_of_mem_drop (by rw [HD3.out]; exact List.mem_cons_self))
            rw [isP_sign hcl 41 (by decide)] at hc
            dsimp only
            rw [hc]
            rfl
        rw [hc] at I41
        clear hc key hd3
        go_wp2_with fail
        refine (I41.out _ HR3.out).mono ?_
        rintro _ w4 ⟨rfl, hb6⟩
        have HR4 := Lib.hid (HR3.out.below hb6)
        have HI4 := Lib.hid (HI.out.keep (fun t => KeepTag.below hb6))
        clear hb6
        go_wp2_with fail
        refine (HN41.out _ HR4.out).mono ?_
        rintro _ w5 ⟨rfl, hr5, hg5⟩
        have HR5 := Lib.hid (HR4.out.to hg5 hr5)
        clear hr5 hg5
        go_wp2_with fail
        go_ret
        rw [HX2.out]
        exact ⟨.slice none 0 0, [], rfl, ItsO.nil _ _, Nat.zero_le _, Nat.succ_ne_zero 41, k', by omega, HR5.out⟩
      | true =>
        obtain ⟨c, r3, hr2⟩ : ∃ c r3, r2 = c :: r3 := by
          cases r2 with
          | nil => cases hc
          | cons c r3 => exact ⟨c, r3, rfl⟩
        have HX2 : Hid (X = .ok (l3, r3)) := by
          apply Lib.hid
          rw [HX.out, hr2]
          rw [hr2] at hc hd3
          have hcl := HLx.out c (List.mem_of_mem_drop (by rw [hd3]; exact List.mem_cons_self))
          rw [isP_sign hcl 41 (by decide)] at hc
          dsimp only
          rw [hc]
          rfl
        have HDr : Hid (toks.drop (k' + 1) = r3) := Lib.hid (by rw [← List.drop_drop, List.drop_one, hd3, hr2]; rfl)
        have hk1 : k' < toks.length := by
          have := congrArg List.length hd3
          rw [List.length_drop, hr2, List.length_cons] at this
          omega
        rw [hc] at I41
        clear hc key hd3 hr2
        go_wp2_with fail
        refine (I41.out _ HR3.out).mono ?_
        rintro _ w4 ⟨rfl, hb6⟩
        have H4 := HR3.out.below hb6
        have c1 : w4.cell? ⟨L, 1, none⟩ = some (.int .i64 k') := H4.rd.cell 1
        have f1 : w4.frozen? ⟨L, 1, none⟩ = false := H4.rd.froz 1
        have HR4 := Lib.hid H4
        have HI4 := Lib.hid (HI.out.keep (fun t => KeepTag.below hb6))
        clear hb6 H4
        go_wp2_with fail
        go_ret
        rw [HX2.out]
        exact ⟨v3, l3, rfl, HI4.out.rd HR4.out.rd 1 _, by omega, rfl, k' + 1, HR4.out.put1 (k' + 1), HDr.out, by omega, by omega, by omega⟩
end
end Go.Proofs.YtfpneopobbfabaaDoor
namespace Go.Proofs.YtfpneopobbfabaaDoor
open Go.RowKit Go.Shelf Go.Sort

theorem RdAt.drew {w0 w : World} {L : Nat} {vt : Value} {toks : List Tok} {k : Nat} {e : Int} {nest : Nat} {fa fc : Int} (h : RdAt w0 w L vt toks k e nest fa fc) : RdAt w0 w.drew L vt toks k e nest fa fc := h.below ((Below.refl _ _).drew)
theorem ItsO.one (w : World) (it : Itm) (vn : Value) (hn : NumS w vn it.nums) {b : Nat} (hb : b ≤ w.heap.size) : ItsO (w.alloc (.cells #[.int .i64 it.how, .int .i64 it.at_, .int .u8 it.fn, .string (mkS it.name), vn] 48)) b (.slice (some ⟨w.heap.size, 0, none⟩) 1 1) [it] := by
  refine ⟨it.cells vn, ⟨rfl, .inr ⟨w.heap.size, 1, _, rfl, hb, heap_alloc_new w _, Nat.le_refl _, by unfold maxLen; omega, rfl, rfl⟩⟩, ?_⟩
  have := (ItsC.nil (w.alloc (.cells #[.int .i64 it.how, .int .i64 it.at_, .int .u8 it.fn, .string (mkS it.name), vn] 48))).snoc (it := it) (vn := vn) (hn.keep (KeepTag.alloc _))
  exact this
theorem take_step {r : List Tok} {u : Tok} {q : List Tok} (h : r = u :: q) (hn : isNum u = true) : r.takeWhile isNum = u :: q.takeWhile isNum ∧ r.dropWhile isNum = q.dropWhile isNum := by
  subst h
  rw [List.takeWhile_cons, List.dropWhile_cons, hn]
  exact ⟨rfl, rfl⟩
theorem take_stop {r : List Tok} {u : Tok} {q : List Tok} (h : r = u :: q) (hn : isNum u = false) : r.takeWhile isNum = [] ∧ r.dropWhile isNum = r := by
  subst h
  rw [List.takeWhile_cons, List.dropWhile_cons, hn]
  exact ⟨rfl, rfl⟩
theorem RdAt.row {w0 w w' : World} {L : Nat} {vt : Value} {toks : List Tok} {k : Nat} {e : Int} {nest : Nat} {fa fc : Int} {row : Option Nat} (h : RdAt w0 w L vt toks k e nest fa fc) (hg : w.grownBy w' row) (hr : ∀ j, row = some j → w0.heap.size ≤ j) (hL : L < w0.heap.size) : RdAt w0 w' L vt toks k e nest fa fc := by
  have hs := h.grown.size
  have hb : ∀ j, j < w0.heap.size → w'.heap[j]? = w.heap[j]? := fun j hj => hg.block j (by omega) (fun e => by have := hr j e.symm; omega)
  exact ⟨h.grown.andThen hg (fun j hj => .inl (hr j hj)), (hb L hL).trans h.rd, h.tok.below ⟨hg.os, hg.tape, hg.output, hg.size, fun j hj => hb j (by omega)⟩⟩
section
variable (f L : Nat) (vt : Value) (toks : List Tok) (e : Int) (k nest : Nat) (w : World)
set_option maxHeartbeats 8000000 in
set_option maxRecDepth 100000 in
/-- Numbers. -/
theorem roperand_num (hlen : toks.length ≤ 100000) (t : Tok) (ht : toks[k]? = some t) (hlx : ∀ t ∈ toks, t.lexed) (ho : t.kind = 2) (hR : RdAt w w L vt toks k e nest 0 0) :
    Calls Tryd.prog 72 #[.pointer (some ⟨L, 0, none⟩)] w (RExprPost L vt toks k e nest (operandR e (f + 1) nest t (toks.drop (k + 1))) (f + 1) w) := by
  have I40 := Lib.hid (fun (wx : World) (h : RdAt w wx L vt toks k e nest 0 0) => ris_any ⟨#[40]⟩ L vt toks k e nest 0 0 wx h.rd h.full)
  have hk := (List.getElem?_eq_some_iff.1 ht).1
  have hd := drop_cons ht
  have hs : signIs [40] t = false := by unfold signIs; rw [ho]; rfl
  have hn2 : isNum t = true := by unfold isNum; rw [ho]; rfl
  rw [show (⟨#[40]⟩ : ByteArray).data.toList = [40] from rfl, hd, isP_sign (hlx t (List.mem_of_getElem? ht)) 40 (by decide), hs] at I40
  have HX : Hid (operandR e (f + 1) nest t (toks.drop (k + 1)) = .ok ([⟨1, t.at_, 0, [], ((toks.drop k).takeWhile isNum).map Tok.n⟩], (toks.drop k).dropWhile isNum)) := by
    apply Lib.hid
    rw [operandR, hs, hn2, (take_step hd hn2).1, (take_step hd hn2).2]
    rfl
  obtain ⟨X, hX⟩ : ∃ X, X = operandR e (f + 1) nest t (toks.drop (k + 1)) := ⟨_, rfl⟩
  rw [← hX] at HX ⊢
  have HR := Lib.hid hR
  have HTk := Lib.hid ht
  have hL := hR.rd.lt
  obtain ⟨a, cap, rfl, hc, hm, hcells⟩ := hR.tok
  obtain ⟨n, hn⟩ : ∃ n, n = toks.length := ⟨_, rfl⟩
  obtain ⟨g, o, rfl, hg, _⟩ := hcells (by omega)
  rw [← hn] at hc hk hlen HR I40 ⊢
  have HN := Lib.hid hn
  unfold maxLen at hm
  have hk2 : (k : Int) < n := by omega
  have hgw : g < w.heap.size := by omega
  have HN1 : Hid (1 ≤ (((toks.drop k).takeWhile isNum).map Tok.n).length) := Lib.hid (by rw [(take_step hd hn2).1]; simp)
  obtain ⟨tk, ta, tw, tn⟩ := t
  dsimp only at ho HX
  subst ho
  clear hX ht hd hlx hR hs hn2 hcells hn
  go_enter Tryd.func72, Tryd.ntmps72
  go_wp2_with fail
  refine (I40.out w HR.out).mono ?_
  rintro _ w1 ⟨rfl, hb1⟩
  have H1 := HR.out.below hb1
  have e0 : w1.cell? ⟨L, 0, none⟩ = some (.slice (some ⟨g, o, none⟩) n cap) := H1.rd.cell 0
  have e1 : w1.cell? ⟨L, 1, none⟩ = some (.int .i64 k) := H1.rd.cell 1
  obtain ⟨_, d0, d1, d2, d3⟩ := H1.tok.cells HTk.out
  have hLw1 := H1.rd.lt
  have hgw1 : g < w1.heap.size := by omega
  have HR1 := Lib.hid H1
  dsimp only at d0 d1 d2 d3
  clear hb1 H1
  go_wp2_with fail
  go_quiet (fail)
  go_wp2_with fail
  clear e0 e1 d0 d1 d2 d3
  have H2 := HR1.out.draws nq
  generalize w1.drewN nq = W2 at H2 ⊢
  have e0 : W2.cell? ⟨L, 0, none⟩ = some (.slice (some ⟨g, o, none⟩) n cap) := H2.rd.cell 0
  have e1 : W2.cell? ⟨L, 1, none⟩ = some (.int .i64 k) := H2.rd.cell 1
  obtain ⟨_, d0, d1, d2, d3⟩ := H2.tok.cells HTk.out
  dsimp only at d0 d1 d2 d3
  have hLw2 := H2.rd.lt
  have hgw2 : g < W2.heap.size := by omega
  have HR2 := Lib.hid H2
  clear H2
  go_region
  go_wp2_with fail
  obtain ⟨i0, hi, hz0, hz1, hz2⟩ := info_parts Tryd.infoI64
  have hsW := HR2.out.grown.size
  clear e0 e1 d0 d1 d2 d3
  go_loopg [] (n - k) (fun gg wx => ∃ (k3 : Nat) (nums : List Int) (vn : Value), gg = n - k3 ∧ RdAt w wx L (.slice (some ⟨g, o, none⟩) n cap) toks k3 e nest 0 0 ∧ Blk wx W2.heap.size 48 #[.int .i64 1, .int .i64 ta, .int .u8 0, .string ⟨#[]⟩, vn] ∧
      wx.ownsRow (W2.heap.size + 1) 2 1 vn nums.length (nums.map (Value.int .i64)) ∧ k ≤ k3 ∧ k3 ≤ n ∧ nums ++ ((toks.drop k3).takeWhile isNum).map Tok.n = ((toks.drop k).takeWhile isNum).map Tok.n ∧ (toks.drop k3).dropWhile isNum = (toks.drop k).dropWhile isNum ∧ nums.length ≤ k3 - k)
  case atStart => exact ⟨k, [], .slice none 0 0, rfl, (HR2.out.alloc _).drew, Blk.new W2 _ _ rfl, World.ownsRow_nil _ _ _ _, Nat.le_refl _, by omega, by simp, rfl, by simp⟩
  case round =>
    obtain ⟨k3, nums, vn, rfl, hr3, hx3, hown3, hk3, hk3n, hnum, hdr, hnl⟩ := hrel
    have HNum := Lib.hid (And.intro hnum hdr)
    clear hnum hdr
    have hs3 := hr3.grown.size
    have e0 : wr.cell? ⟨L, 0, none⟩ = some (.slice (some ⟨g, o, none⟩) n cap) := hr3.rd.cell 0
    have e1 : wr.cell? ⟨L, 1, none⟩ = some (.int .i64 k3) := hr3.rd.cell 1
    have hLr := hr3.rd.lt
    have hgr : g < wr.heap.size := by omega
    have hxl := hx3.lt
    by_cases hlt : k3 < n
    · have hlt2 : (k3 : Int) < n := by omega
      have hlt3 : decide ((k3 : Int) < n) = true := by rw [decide_eq_true_iff]; exact hlt2
      obtain ⟨u, hu⟩ : ∃ u, toks[k3]? = some u := ⟨toks[k3]'(by have := HN.out; omega), List.getElem?_eq_getElem _⟩
      obtain ⟨_, d0, _, _, d3⟩ := hr3.tok.cells hu
      have hdu := drop_cons hu
      cases hnu : isNum u with
      | true =>
        obtain ⟨hs1, hs2⟩ := take_step hdu hnu
        have HS := Lib.hid (And.intro hs1 hs2)
        have HU := Lib.hid hu
        obtain ⟨uk, ua, uw, un⟩ := u
        obtain rfl : uk = 2 := by simpa [isNum] using hnu
        dsimp only at d0 d3
        have HR3 := Lib.hid hr3
        have HX3 := Lib.hid hx3
        have HO3 := Lib.hid hown3
        clear hr3 hx3 hown3 hs1 hs2 hu hdu hnu d3
        go_wp2_with fail
        go_quiet (fail)
        go_wp2_with fail
        clear e0 e1 d0
        have H4 := HR3.out.draws nq
        have X4 : Blk (wr.drewN nq) W2.heap.size 48 #[.int .i64 1, .int .i64 ta, .int .u8 0, .string ⟨#[]⟩, vn] := HX3.out
        have O4 : (wr.drewN nq).ownsRow (W2.heap.size + 1) 2 1 vn nums.length (nums.map (Value.int .i64)) := HO3.out
        have hz4 : W2.heap.size < (wr.drewN nq).heap.size := hxl
        generalize wr.drewN nq = W4 at H4 X4 O4 hz4 ⊢
        have e0 : W4.cell? ⟨L, 0, none⟩ = some (.slice (some ⟨g, o, none⟩) n cap) := H4.rd.cell 0
        have e1 : W4.cell? ⟨L, 1, none⟩ = some (.int .i64 k3) := H4.rd.cell 1
        obtain ⟨_, _, _, _, d3⟩ := H4.tok.cells HU.out
        dsimp only at d3
        have hLw4 := H4.rd.lt
        have hgw4 : g < W4.heap.size := by omega
        obtain ⟨ad, capd, rfl⟩ := own_form O4
        have x4 : W4.cell? ⟨W2.heap.size, 4, none⟩ = some (.slice ad nums.length capd) := X4.cell 4
        have HR4 := Lib.hid H4
        have HX4 := Lib.hid X4
        have HO4 := Lib.hid O4
        have hcap5 : nums.length + 1 ≤ maxLen := by unfold maxLen; omega
        have hby5 : (nums.length + 1) * 8 ≤ 140737488355328 := by omega
        clear H4 X4 O4 HR3 HX3 HO3
        go_region_law (refine step_append_lies _ (by rfl) _ _ _ (by rfl) (W2.heap.size + 1) 2 i0 (.int .i64 0) 1 8 Tryd.underlying46 hi hz0 hz1 hz2 rfl (by decide) (.slice ad nums.length capd) nums.length (nums.map (Value.int .i64)) (by rfl) ((HO4.out.alloc _).drew) ⟨W4.heap.size, 0, none⟩ 1 1 [.int .i64 un] (by rfl) (by rfl) (World.news_of_block (cs := #[.int .i64 un]) (t := 2) (fr := (0, 0)) (heap_alloc_new W4 _)) (by simp [Value.oneCell']) (by decide) hcap5 hby5 (by simp; omega) (W4.heap.size + 1) (by simp) ?_; intro g2 cap2 w5 hown5 hgrow5 hat5 hlt5; have hk5 : ∀ t, t ≠ 2 → KeepTag t W4 w5 := (fun t h => (KeepTag.alloc _).trans (KeepTag.own (w := ((W4.alloc (.cells #[.int .i64 un] 2)).drew)) hgrow5 ((HO4.out.alloc _).drew) h)); have HX5 := Lib.hid (HX4.out.keep (hk5 _ (by decide))); have HR5 := Lib.hid (((HR4.out.alloc (.cells #[.int .i64 un] 2)).drew).row hgrow5 (fun j hj => by have := (HO4.out.lt j hj).1; omega) hL); have x5 : w5.cell? ⟨W2.heap.size, 4, none⟩ = some (.slice ad nums.length capd) := HX5.out.cell 4; have x5f : w5.frozen? ⟨W2.heap.size, 4, none⟩ = false := HX5.out.froz 4; have r5 : w5.cell? ⟨L, 1, none⟩ = some (.int .i64 k3) := HR5.out.rd.cell 1; have r5f : w5.frozen? ⟨L, 1, none⟩ = false := HR5.out.rd.froz 1)
        all_goals
          have hLne : ¬ L = W2.heap.size := by omega
          have hLne2 : ¬ W2.heap.size = L := by omega
          go_wp2_with fail
          go_roundg (n - (k3 + 1))
          case measure => omega
          case rel =>
            obtain ⟨n1, n2⟩ := HNum.out
            obtain ⟨p1, p2⟩ := HS.out
            have hw5 := HR5.out.new (b := W2.heap.size) (by omega) hL 4 (.slice (some ⟨g2, 0, none⟩) (nums.length + 1) cap2)
            refine ⟨k3 + 1, nums ++ [un], .slice (some ⟨g2, 0, none⟩) (nums.length + 1) cap2, rfl, hw5.put1 (k3 + 1), (HX5.out.put4 _).other (by omega) _ _, ?_, by omega, by omega, ?_, ?_, ?_⟩
            · have := own_tag (own_tag hown5 (KeepTag.set HX5.out (by decide) 4 (.slice (some ⟨g2, 0, none⟩) (nums.length + 1) cap2))) (KeepTag.set hw5.rd (by decide) 1 (.int .i64 ((k3 : Int) + 1)))
              rw [List.length_append, List.map_append]
              exact this
            · rw [← n1, p1]
              simp
            · rw [← n2, p2]
            · rw [List.length_append]
              show nums.length + 1 ≤ k3 + 1 - k
              omega
      | false =>
        obtain ⟨hs1, hs2⟩ := take_stop hdu hnu
        have HS := Lib.hid (And.intro hs1 hs2)
        obtain ⟨uk, ua, uw, un⟩ := u
        have hk0 : (uk == 2) = false := hnu
        have hk1 : ¬ uk = 2 := by simpa using hk0
        dsimp only at d0
        have HR3 := Lib.hid hr3
        have HX3 := Lib.hid hx3
        have HO3 := Lib.hid hown3
        obtain ⟨ad, capd, rfl⟩ := own_form hown3
        have x0 := hx3.cell 0
        have x1 := hx3.cell 1
        have x2 := hx3.cell 2
        have x3 := hx3.cell 3
        have x4 := hx3.cell 4
        simp at x0 x1 x2 x3 x4
        clear hr3 hx3 hown3 hs1 hs2 hu hdu hnu d3
        go_wp2_with fail
        go_quiet (fail)
        go_wp2_with fail
        go_ret
        rw [HX.out]
        obtain ⟨n1, n2⟩ := HNum.out
        obtain ⟨p1, p2⟩ := HS.out
        rw [p1, List.map_nil, List.append_nil] at n1
        rw [p2] at n2
        have hge := HN1.out
        rw [← n1] at hge
        refine ⟨_, [⟨1, ta, 0, [], nums⟩], rfl, ItsO.one (wr.drewN nq) ⟨1, ta, 0, [], nums⟩ (.slice ad nums.length capd) (own_base (base := W2.heap.size + 1) HO3.out (Nat.zero_le _)) (by show w.heap.size ≤ wr.heap.size; omega), by simp; have := HN.out; omega, by rw [n1], k3, (HR3.out.draws nq).alloc _, n2, by simp; omega, by omega, by have := HN.out; omega⟩
    · obtain rfl : k3 = n := by omega
      have hlt2 : ¬ (k3 : Int) < k3 := by omega
      have HR3 := Lib.hid hr3
      have HX3 := Lib.hid hx3
      have HO3 := Lib.hid hown3
      obtain ⟨ad, capd, rfl⟩ := own_form hown3
      have x0 := hx3.cell 0
      have x1 := hx3.cell 1
      have x2 := hx3.cell 2
      have x3 := hx3.cell 3
      have x4 := hx3.cell 4
      simp at x0 x1 x2 x3 x4
      have HD : Hid (toks.drop k3 = []) := Lib.hid (List.drop_of_length_le (by have := HN.out; omega))
      clear hr3 hx3 hown3
      go_wp2_with fail
      go_quiet (fail)
      go_wp2_with fail
      go_ret
      rw [HX.out]
      obtain ⟨n1, n2⟩ := HNum.out
      rw [HD.out, List.takeWhile_nil, List.map_nil, List.append_nil] at n1
      rw [HD.out, List.dropWhile_nil] at n2
      have hge := HN1.out
      rw [← n1] at hge
      refine ⟨_, [⟨1, ta, 0, [], nums⟩], rfl, ItsO.one (wr.drewN nq) ⟨1, ta, 0, [], nums⟩ (.slice ad nums.length capd) (own_base (base := W2.heap.size + 1) HO3.out (Nat.zero_le _)) (by show w.heap.size ≤ wr.heap.size; omega), by simp; have := HN.out; omega, by rw [n1], k3, (HR3.out.draws nq).alloc _, by rw [HD.out]; exact n2, by simp; omega, by omega, by have := HN.out; omega⟩
end
end Go.Proofs.YtfpneopobbfabaaDoor
namespace Go.Proofs.YtfpneopobbfabaaDoor
open Go.RowKit Go.Shelf Go.Sort

theorem ItsO.one' (w : World) (it : Itm) (vn : Value) (hn : NumS w vn it.nums) {b : Nat} (hb : b ≤ w.heap.size) {g : Nat} (hg : g = w.heap.size) : ItsO (w.alloc (.cells #[.int .i64 it.how, .int .i64 it.at_, .int .u8 it.fn, .string (mkS it.name), vn] 48)) b (.slice (some ⟨g, 0, none⟩) 1 1) [it] := by
  subst hg
  exact ItsO.one w it vn hn hb
section
variable (f L : Nat) (vt : Value) (toks : List Tok) (e : Int) (k nest : Nat) (w : World)
set_option maxHeartbeats 8000000 in
set_option maxRecDepth 100000 in
/-- A name. -/
theorem roperand_name (hlen : toks.length ≤ 100000) (t : Tok) (ht : toks[k]? = some t) (hlx : ∀ t ∈ toks, t.lexed) (ho : nameT t = true) (hR : RdAt w w L vt toks k e nest 0 0) :
    Calls Tryd.prog 72 #[.pointer (some ⟨L, 0, none⟩)] w (RExprPost L vt toks k e nest (operandR e (f + 1) nest t (toks.drop (k + 1))) (f + 1) w) := by
  have I40 := Lib.hid (fun (wx : World) (h : RdAt w wx L vt toks k e nest 0 0) => ris_any ⟨#[40]⟩ L vt toks k e nest 0 0 wx h.rd h.full)
  have hk := (List.getElem?_eq_some_iff.1 ht).1
  have hd := drop_cons ht
  have ho2 : t.kind = 1 ∧ nameB t.word = true := by simpa [nameT] using ho
  have hs : signIs [40] t = false := by unfold signIs; rw [ho2.1]; rfl
  have hn2 : isNum t = false := by unfold isNum; rw [ho2.1]; rfl
  rw [show (⟨#[40]⟩ : ByteArray).data.toList = [40] from rfl, hd, isP_sign (hlx t (List.mem_of_getElem? ht)) 40 (by decide), hs] at I40
  have HX : Hid (operandR e (f + 1) nest t (toks.drop (k + 1)) = .ok ([⟨2, t.at_, 0, t.word, []⟩], toks.drop (k + 1))) := by
    apply Lib.hid
    rw [operandR, hs, hn2, ho]
    rfl
  obtain ⟨X, hX⟩ : ∃ X, X = operandR e (f + 1) nest t (toks.drop (k + 1)) := ⟨_, rfl⟩
  rw [← hX] at HX ⊢
  have hsz : t.word.length ≤ 16 := name_len ho2.2
  have HNm := Lib.hid (fun wx => rName_any (mkS t.word) wx (by rw [mkS_size]; unfold maxLen; omega))
  rw [mkS_toList, ho2.2] at HNm
  have HR := Lib.hid hR
  have HTk := Lib.hid ht
  have hL := hR.rd.lt
  obtain ⟨a, cap, rfl, hc, hm, hcells⟩ := hR.tok
  obtain ⟨n, hn⟩ : ∃ n, n = toks.length := ⟨_, rfl⟩
  obtain ⟨g, o, rfl, hg, _⟩ := hcells (by omega)
  rw [← hn] at hc hk hlen HR I40 ⊢
  have HN := Lib.hid hn
  unfold maxLen at hm
  have hk2 : (k : Int) < n := by omega
  have hk3 : decide ((k : Int) < n) = true := by rw [decide_eq_true_iff]; exact hk2
  have hgw : g < w.heap.size := by omega
  obtain ⟨tk, ta, tw, tn⟩ := t
  obtain ⟨ho3, _⟩ := ho2
  dsimp only at ho3 HX hsz HNm
  subst ho3
  clear hX ht hd hlx hR hs hn2 hcells hn ho
  go_enter Tryd.func72, Tryd.ntmps72
  go_wp2_with fail
  refine (I40.out w HR.out).mono ?_
  rintro _ w1 ⟨rfl, hb1⟩
  have H1 := HR.out.below hb1
  have e0 : w1.cell? ⟨L, 0, none⟩ = some (.slice (some ⟨g, o, none⟩) n cap) := H1.rd.cell 0
  have e1 : w1.cell? ⟨L, 1, none⟩ = some (.int .i64 k) := H1.rd.cell 1
  obtain ⟨_, d0, d1, d2, d3⟩ := H1.tok.cells HTk.out
  have hLw1 := H1.rd.lt
  have hgw1 : g < w1.heap.size := by omega
  have HR1 := Lib.hid H1
  dsimp only at d0 d1 d2 d3
  clear hb1 H1
  go_wp2_with fail
  go_quiet (fail)
  go_wp2_with fail
  clear e0 e1 d0 d1 d2 d3
  have H2 := HR1.out.draws nq
  generalize w1.drewN nq = W2 at H2 ⊢
  have e0 : W2.cell? ⟨L, 0, none⟩ = some (.slice (some ⟨g, o, none⟩) n cap) := H2.rd.cell 0
  have e1 : W2.cell? ⟨L, 1, none⟩ = some (.int .i64 k) := H2.rd.cell 1
  obtain ⟨_, d0, d1, d2, d3⟩ := H2.tok.cells HTk.out
  dsimp only at d0 d1 d2 d3
  have hLw2 := H2.rd.lt
  have hgw2 : g < W2.heap.size := by omega
  have HR2 := Lib.hid H2
  clear H2 HR1
  go_region_held3 (fun wy => wy.cell? ⟨L, 0, none⟩ = some (.slice (some ⟨g, o, none⟩) n cap) ∧ wy.cell? ⟨L, 1, none⟩ = some (.int .i64 k) ∧ wy.cell? ⟨g, o + k * 4, none⟩ = some (.int .i64 1) ∧ wy.cell? ⟨g, o + k * 4 + 2, none⟩ = some (.string (mkS tw)))
    (first | go_keep)
    (first | (go_at_call 18; refine (HNm.out _).mono ?_; rintro _ w9 ⟨rfl, hb9⟩; have HR9 : Hid (RdAt w w9 L (.slice (some ⟨g, o, none⟩) n cap) toks k e nest 0 0) := Lib.hid (RdAt.below (by repeat (first | exact HR2.out | refine RdAt.draws ?_ _ | refine RdAt.drew ?_)) hb9); have e0' : w9.cell? ⟨L, 0, none⟩ = some (.slice (some ⟨g, o, none⟩) n cap) := HR9.out.rd.cell 0; have e1' : w9.cell? ⟨L, 1, none⟩ = some (.int .i64 k) := HR9.out.rd.cell 1; have d0' : w9.cell? ⟨g, o + k * 4, none⟩ = some (.int .i64 1) := (hb9.cell (p := ⟨g, o + k * 4, none⟩) hgw2).trans d0; have d2' : w9.cell? ⟨g, o + k * 4 + 2, none⟩ = some (.string (mkS tw)) := (hb9.cell (p := ⟨g, o + k * 4 + 2, none⟩) hgw2).trans d2; clear hb9))
  go_wp2_with fail
  clear e0 e1 d0 d1 d2 d3 e0' e1' d0' d2'
  have e0 : w9.cell? ⟨L, 0, none⟩ = some (.slice (some ⟨g, o, none⟩) n cap) := HR9.out.rd.cell 0
  have e1 : w9.cell? ⟨L, 1, none⟩ = some (.int .i64 k) := HR9.out.rd.cell 1
  have f1 : w9.frozen? ⟨L, 1, none⟩ = false := HR9.out.rd.froz 1
  obtain ⟨_, d0, d1, d2, d3⟩ := HR9.out.tok.cells HTk.out
  dsimp only at d0 d1 d2 d3
  have hLw9 := HR9.out.rd.lt
  have hgw9 : g < w9.heap.size := by omega
  have hLne : ¬ L = w9.heap.size := by omega
  have hLne2 : ¬ w9.heap.size = L := by omega
  have hs9 := HR9.out.grown.size

  go_region
  go_wp2_with fail
  go_ret
  rw [HX.out]
  have hbz : w.heap.size ≤ ((w9.setCell ⟨L, 1, none⟩ (.int .i64 ((k : Int) + 1))).alloc (.cells #[.int .i64 2, .int .i64 ta, .int .u8 0, .string (mkS tw), .slice none 0 0] 48)).heap.size := by
    simp [World.setCell]
    omega
  have hone := ItsO.one' ((w9.setCell ⟨L, 1, none⟩ (.int .i64 ((k : Int) + 1))).alloc (.cells #[.int .i64 2, .int .i64 ta, .int .u8 0, .string (mkS tw), .slice none 0 0] 48)) ⟨2, ta, 0, tw, []⟩ (.slice none 0 0) (NumS.nil _) hbz (g := w9.heap.size + 1) (by simp [World.setCell])
  exact ⟨_, [⟨2, ta, 0, tw, []⟩], rfl, hone.keep (fun t => KeepTag.below ((Below.refl _ _).drew)), by have := HN.out; simp; omega, rfl, k + 1, (((HR9.out.put1 (k + 1)).alloc _).alloc _).drew, rfl, by simp, by omega, by have := HN.out; omega⟩
def faultC (r : List Tok) : Nat := if isP [105, 110] r = true ∨ isP [111, 117, 116] r = true then 41 else 42
set_option maxHeartbeats 8000000 in
set_option maxRecDepth 100000 in
/-- What is no operand. -/
theorem roperand_no (hlen : toks.length ≤ 100000) (hkn : k ≤ toks.length) (hlx : ∀ t ∈ toks, t.lexed) (ho : isP [40] (toks.drop k) = false) (hno : ∀ t, toks[k]? = some t → t.kind ≠ 2 ∧ nameT t = false) (hR : RdAt w w L vt toks k e nest 0 0) :
    Calls Tryd.prog 72 #[.pointer (some ⟨L, 0, none⟩)] w (RExprPost L vt toks k e nest (.error (placeP e (toks.drop k), faultC (toks.drop k))) f w) := by
  have HIs := Lib.hid (fun (s : ByteArray) (wx : World) (h : RdAt w wx L vt toks k e nest 0 0) => ris_any s L vt toks k e nest 0 0 wx h.rd h.full)
  have HNo := Lib.hid (fun (c : Int) (wx : World) (h : RdAt w wx L vt toks k e nest 0 0) => rno_any c L vt toks k e nest 0 0 wx h.rd h.full)
  have I40 := Lib.hid (fun (wx : World) (h : RdAt w wx L vt toks k e nest 0 0) => HIs.out ⟨#[40]⟩ wx h)
  have Iin := Lib.hid (fun (wx : World) (h : RdAt w wx L vt toks k e nest 0 0) => HIs.out ⟨#[105, 110]⟩ wx h)
  have Iout := Lib.hid (fun (wx : World) (h : RdAt w wx L vt toks k e nest 0 0) => HIs.out ⟨#[111, 117, 116]⟩ wx h)
  rw [show (⟨#[40]⟩ : ByteArray).data.toList = [40] from rfl, ho] at I40
  rw [show (⟨#[105, 110]⟩ : ByteArray).data.toList = [105, 110] from rfl] at Iin
  rw [show (⟨#[111, 117, 116]⟩ : ByteArray).data.toList = [111, 117, 116] from rfl] at Iout
  have HR := Lib.hid hR
  have hL := hR.rd.lt
  obtain ⟨a, cap, rfl, hc, hm, hcells⟩ := hR.tok
  obtain ⟨n, hn⟩ : ∃ n, n = toks.length := ⟨_, rfl⟩
  have HC := Lib.hid hcells
  have HNn := Lib.hid hno
  have HLx := Lib.hid hlx
  rw [← hn] at hc hkn hlen HR I40 Iin Iout HNo HC ⊢
  have HN := Lib.hid hn
  unfold maxLen at hm
  have HFC : Hid (faultC (toks.drop k) = if isP [105, 110] (toks.drop k) = true ∨ isP [111, 117, 116] (toks.drop k) = true then 41 else 42) := Lib.hid rfl
  obtain ⟨fc, hfc⟩ : ∃ fc, fc = faultC (toks.drop k) := ⟨_, rfl⟩
  rw [← hfc] at HFC ⊢
  clear hfc hcells hn hR hlx ho hno HIs
  by_cases hlt : k < n
  · obtain ⟨t, ht⟩ : ∃ t, toks[k]? = some t := ⟨toks[k]'(by have := HN.out; omega), List.getElem?_eq_getElem _⟩
    obtain ⟨g, o, rfl, hg, _⟩ := HC.out (by omega)
    have hk2 : (k : Int) < n := by omega
    have hk3 : decide ((k : Int) < n) = true := by rw [decide_eq_true_iff]; exact hk2
    have hgw : g < w.heap.size := by omega
    obtain ⟨hq2, hqn⟩ := HNn.out t ht
    have hlx := HLx.out t (List.mem_of_getElem? ht)
    have hq2b : (t.kind == 2) = false := by rw [beq_eq_false_iff_ne]; exact hq2
    have HTk := Lib.hid ht
    have hd := drop_cons ht
    by_cases hk1 : t.kind = 1
    · have hw16 : t.word.length ≤ 16 := by
        rcases hlx with ⟨_, _, _, _, h⟩ | ⟨h, _⟩ | ⟨h, _⟩ | ⟨h, _⟩
        · exact h
        · rw [hk1] at h; cases h
        · rw [hk1] at h; cases h
        · rw [hk1] at h; cases h
      have HNm := Lib.hid (fun wx => rName_any (mkS t.word) wx (by rw [mkS_size]; unfold maxLen; omega))
      rw [mkS_toList, show nameB t.word = false by unfold nameT at hqn; rw [hk1] at hqn; simpa using hqn] at HNm
      obtain ⟨tk, ta, tw, tn⟩ := t
      dsimp only at hk1 HNm hq2b
      subst hk1
      clear hd hlx hq2 hqn ht hw16
      go_enter Tryd.func72, Tryd.ntmps72
      go_wp2_with fail
      refine (I40.out w HR.out).mono ?_
      rintro _ w1 ⟨rfl, hb1⟩
      have H1 := HR.out.below hb1
      have e0 : w1.cell? ⟨L, 0, none⟩ = some (.slice (some ⟨g, o, none⟩) n cap) := H1.rd.cell 0
      have e1 : w1.cell? ⟨L, 1, none⟩ = some (.int .i64 k) := H1.rd.cell 1
      obtain ⟨_, d0, d1, d2, d3⟩ := H1.tok.cells HTk.out
      have hLw1 := H1.rd.lt
      have hgw1 : g < w1.heap.size := by omega
      have HR1 := Lib.hid H1
      dsimp only at d0 d1 d2 d3
      clear hb1 H1
      go_wp2_with fail
      go_quiet (fail)
      go_wp2_with fail
      clear e0 e1 d0 d1 d2 d3
      have H2 := HR1.out.draws nq
      generalize w1.drewN nq = W2 at H2 ⊢
      have e0 : W2.cell? ⟨L, 0, none⟩ = some (.slice (some ⟨g, o, none⟩) n cap) := H2.rd.cell 0
      have e1 : W2.cell? ⟨L, 1, none⟩ = some (.int .i64 k) := H2.rd.cell 1
      obtain ⟨_, d0, d1, d2, d3⟩ := H2.tok.cells HTk.out
      dsimp only at d0 d1 d2 d3
      have hLw2 := H2.rd.lt
      have hgw2 : g < W2.heap.size := by omega
      have HR2 := Lib.hid H2
      clear H2 HR1
      go_region_held3 (fun wy => wy.cell? ⟨L, 0, none⟩ = some (.slice (some ⟨g, o, none⟩) n cap) ∧ wy.cell? ⟨L, 1, none⟩ = some (.int .i64 k) ∧ wy.cell? ⟨g, o + k * 4, none⟩ = some (.int .i64 1) ∧ wy.cell? ⟨g, o + k * 4 + 2, none⟩ = some (.string (mkS tw)))
        (first | go_keep)
        (first | (go_at_call 18; refine (HNm.out _).mono ?_; rintro _ w9 ⟨rfl, hb9⟩; have HR9 : Hid (RdAt w w9 L (.slice (some ⟨g, o, none⟩) n cap) toks k e nest 0 0) := Lib.hid (RdAt.below (by repeat (first | exact HR2.out | refine RdAt.draws ?_ _ | refine RdAt.drew ?_)) hb9); have e0' : w9.cell? ⟨L, 0, none⟩ = some (.slice (some ⟨g, o, none⟩) n cap) := HR9.out.rd.cell 0; have e1' : w9.cell? ⟨L, 1, none⟩ = some (.int .i64 k) := HR9.out.rd.cell 1; have d0' : w9.cell? ⟨g, o + k * 4, none⟩ = some (.int .i64 1) := (hb9.cell (p := ⟨g, o + k * 4, none⟩) hgw2).trans d0; have d2' : w9.cell? ⟨g, o + k * 4 + 2, none⟩ = some (.string (mkS tw)) := (hb9.cell (p := ⟨g, o + k * 4 + 2, none⟩) hgw2).trans d2; clear hb9))
      clear e0 e1 d0 d1 d2 d3 e0' e1' d0' d2'
      cases hin : isP [105, 110] (toks.drop k) with
      | true =>
        rw [hin] at Iin
        rw [hin, if_pos (.inl rfl)] at HFC
        clear hin
        go_wp2_with fail
        refine (Iin.out _ HR9.out).mono ?_
        rintro _ wa ⟨rfl, hba⟩
        have HRa := Lib.hid (HR9.out.below hba)
        clear hba
        go_wp2_with fail
        refine (HNo.out 41 _ HRa.out).mono ?_
        rintro _ wc ⟨rfl, hrc, hgc⟩
        have HRc := Lib.hid (HRa.out.to hgc hrc)
        clear hrc hgc
        go_wp2_with fail
        go_ret
        rw [HFC.out]
        exact ⟨.slice none 0 0, [], rfl, ItsO.nil _ _, Nat.zero_le _, Nat.succ_ne_zero 40, k, by have := HN.out; omega, HRc.out⟩
      | false =>
        rw [hin] at Iin
        cases hout : isP [111, 117, 116] (toks.drop k) with
        | true =>
          rw [hout] at Iout
          rw [hin, hout, if_pos (.inr rfl)] at HFC
          clear hin hout
          go_wp2_with fail
          refine (Iin.out _ HR9.out).mono ?_
          rintro _ wa ⟨rfl, hba⟩
          have HRa := Lib.hid (HR9.out.below hba)
          clear hba
          go_wp2_with fail
          refine (Iout.out _ HRa.out).mono ?_
          rintro _ wb ⟨rfl, hbb⟩
          have HRb := Lib.hid (HRa.out.below hbb)
          clear hbb
          go_wp2_with fail
          refine (HNo.out 41 _ HRb.out).mono ?_
          rintro _ wc ⟨rfl, hrc, hgc⟩
          have HRc := Lib.hid (HRb.out.to hgc hrc)
          clear hrc hgc
          go_wp2_with fail
          go_ret
          rw [HFC.out]
          exact ⟨.slice none 0 0, [], rfl, ItsO.nil _ _, Nat.zero_le _, Nat.succ_ne_zero 40, k, by have := HN.out; omega, HRc.out⟩
        | false =>
          rw [hout] at Iout
          rw [hin, hout, if_neg (by simp)] at HFC
          clear hin hout
          go_wp2_with fail
          refine (Iin.out _ HR9.out).mono ?_
          rintro _ wa ⟨rfl, hba⟩
          have HRa := Lib.hid (HR9.out.below hba)
          clear hba
          go_wp2_with fail
          refine (Iout.out _ HRa.out).mono ?_
          rintro _ wb ⟨rfl, hbb⟩
          have HRb := Lib.hid (HRa.out.below hbb)
          clear hbb
          go_wp2_with fail
          refine (HNo.out 42 _ HRb.out).mono ?_
          rintro _ wc ⟨rfl, hrc, hgc⟩
          have HRc := Lib.hid (HRb.out.to hgc hrc)
          clear hrc hgc
          go_wp2_with fail
          go_ret
          rw [HFC.out]
          exact ⟨.slice none 0 0, [], rfl, ItsO.nil _ _, Nat.zero_le _, Nat.succ_ne_zero 41, k, by have := HN.out; omega, HRc.out⟩
    · have hk1b : (t.kind == 1) = false := by rw [beq_eq_false_iff_ne]; exact hk1
      obtain ⟨tk, ta, tw, tn⟩ := t
      dsimp only at hk1 hq2 hk1b hq2b
      clear hd hlx hqn ht
      go_enter Tryd.func72, Tryd.ntmps72
      go_wp2_with fail
      refine (I40.out w HR.out).mono ?_
      rintro _ w1 ⟨rfl, hb1⟩
      have H1 := HR.out.below hb1
      have e0 : w1.cell? ⟨L, 0, none⟩ = some (.slice (some ⟨g, o, none⟩) n cap) := H1.rd.cell 0
      have e1 : w1.cell? ⟨L, 1, none⟩ = some (.int .i64 k) := H1.rd.cell 1
      obtain ⟨_, d0, d1, d2, d3⟩ := H1.tok.cells HTk.out
      have hLw1 := H1.rd.lt
      have hgw1 : g < w1.heap.size := by omega
      have HR1 := Lib.hid H1
      dsimp only at d0 d1 d2 d3
      clear hb1 H1
      go_wp2_with fail
      go_quiet (fail)
      go_wp2_with fail
      clear e0 e1 d0 d1 d2 d3
      have H2 := HR1.out.draws nq
      generalize w1.drewN nq = W2 at H2 ⊢
      have e0 : W2.cell? ⟨L, 0, none⟩ = some (.slice (some ⟨g, o, none⟩) n cap) := H2.rd.cell 0
      have e1 : W2.cell? ⟨L, 1, none⟩ = some (.int .i64 k) := H2.rd.cell 1
      obtain ⟨_, d0, d1, d2, d3⟩ := H2.tok.cells HTk.out
      dsimp only at d0 d1 d2 d3
      have HR2 := Lib.hid H2
      clear H2 HR1
      go_quiet (fail)
      clear e0 e1 d0 d1 d2 d3
      have HR9 := Lib.hid (HR2.out.draws nq)
      generalize W2.drewN nq = w9 at HR9 ⊢
      cases hin : isP [105, 110] (toks.drop k) with
      | true =>
        rw [hin] at Iin
        rw [hin, if_pos (.inl rfl)] at HFC
        clear hin
        go_wp2_with fail
        refine (Iin.out _ HR9.out).mono ?_
        rintro _ wa ⟨rfl, hba⟩
        have HRa := Lib.hid (HR9.out.below hba)
        clear hba
        go_wp2_with fail
        refine (HNo.out 41 _ HRa.out).mono ?_
        rintro _ wc ⟨rfl, hrc, hgc⟩
        have HRc := Lib.hid (HRa.out.to hgc hrc)
        clear hrc hgc
        go_wp2_with fail
        go_ret
        rw [HFC.out]
        exact ⟨.slice none 0 0, [], rfl, ItsO.nil _ _, Nat.zero_le _, Nat.succ_ne_zero 40, k, by have := HN.out; omega, HRc.out⟩
      | false =>
        rw [hin] at Iin
        cases hout : isP [111, 117, 116] (toks.drop k) with
        | true =>
          rw [hout] at Iout
          rw [hin, hout, if_pos (.inr rfl)] at HFC
          clear hin hout
          go_wp2_with fail
          refine (Iin.out _ HR9.out).mono ?_
          rintro _ wa ⟨rfl, hba⟩
          have HRa := Lib.hid (HR9.out.below hba)
          clear hba
          go_wp2_with fail
          refine (Iout.out _ HRa.out).mono ?_
          rintro _ wb ⟨rfl, hbb⟩
          have HRb := Lib.hid (HRa.out.below hbb)
          clear hbb
          go_wp2_with fail
          refine (HNo.out 41 _ HRb.out).mono ?_
          rintro _ wc ⟨rfl, hrc, hgc⟩
          have HRc := Lib.hid (HRb.out.to hgc hrc)
          clear hrc hgc
          go_wp2_with fail
          go_ret
          rw [HFC.out]
          exact ⟨.slice none 0 0, [], rfl, ItsO.nil _ _, Nat.zero_le _, Nat.succ_ne_zero 40, k, by have := HN.out; omega, HRc.out⟩
        | false =>
          rw [hout] at Iout
          rw [hin, hout, if_neg (by simp)] at HFC
          clear hin hout
          go_wp2_with fail
          refine (Iin.out _ HR9.out).mono ?_
          rintro _ wa ⟨rfl, hba⟩
          have HRa := Lib.hid (HR9.out.below hba)
          clear hba
          go_wp2_with fail
          refine (Iout.out _ HRa.out).mono ?_
          rintro _ wb ⟨rfl, hbb⟩
          have HRb := Lib.hid (HRa.out.below hbb)
          clear hbb
          go_wp2_with fail
          refine (HNo.out 42 _ HRb.out).mono ?_
          rintro _ wc ⟨rfl, hrc, hgc⟩
          have HRc := Lib.hid (HRb.out.to hgc hrc)
          clear hrc hgc
          go_wp2_with fail
          go_ret
          rw [HFC.out]
          exact ⟨.slice none 0 0, [], rfl, ItsO.nil _ _, Nat.zero_le _, Nat.succ_ne_zero 41, k, by have := HN.out; omega, HRc.out⟩
  · obtain rfl : k = n := by omega
    have hk2 : ¬ (k : Int) < k := by omega
    have hk3 : decide ((k : Int) < k) = false := by rw [decide_eq_false_iff_not]; exact hk2
    go_enter Tryd.func72, Tryd.ntmps72
    go_wp2_with fail
    refine (I40.out w HR.out).mono ?_
    rintro _ w1 ⟨rfl, hb1⟩
    have H1 := HR.out.below hb1
    have e0 : w1.cell? ⟨L, 0, none⟩ = some (.slice a k cap) := H1.rd.cell 0
    have e1 : w1.cell? ⟨L, 1, none⟩ = some (.int .i64 k) := H1.rd.cell 1
    have hLw1 := H1.rd.lt
    have HR1 := Lib.hid H1
    clear hb1 H1
    go_wp2_with fail
    go_quiet (fail)
    go_wp2_with fail
    clear e0 e1
    have H2 := HR1.out.draws nq
    generalize w1.drewN nq = W2 at H2 ⊢
    have e0 : W2.cell? ⟨L, 0, none⟩ = some (.slice a k cap) := H2.rd.cell 0
    have e1 : W2.cell? ⟨L, 1, none⟩ = some (.int .i64 k) := H2.rd.cell 1
    have HR2 := Lib.hid H2
    clear H2 HR1
    go_quiet (fail)
    clear e0 e1
    have HR9 := Lib.hid (HR2.out.draws nq)
    generalize W2.drewN nq = w9 at HR9 ⊢
    cases hin : isP [105, 110] (toks.drop k) with
    | true =>
      rw [hin] at Iin
      rw [hin, if_pos (.inl rfl)] at HFC
      clear hin
      go_wp2_with fail
      refine (Iin.out _ HR9.out).mono ?_
      rintro _ wa ⟨rfl, hba⟩
      have HRa := Lib.hid (HR9.out.below hba)
      clear hba
      go_wp2_with fail
      refine (HNo.out 41 _ HRa.out).mono ?_
      rintro _ wc ⟨rfl, hrc, hgc⟩
      have HRc := Lib.hid (HRa.out.to hgc hrc)
      clear hrc hgc
      go_wp2_with fail
      go_ret
      rw [HFC.out]
      exact ⟨.slice none 0 0, [], rfl, ItsO.nil _ _, Nat.zero_le _, Nat.succ_ne_zero 40, k, by have := HN.out; omega, HRc.out⟩
    | false =>
      rw [hin] at Iin
      cases hout : isP [111, 117, 116] (toks.drop k) with
      | true =>
        rw [hout] at Iout
        rw [hin, hout, if_pos (.inr rfl)] at HFC
        clear hin hout
        go_wp2_with fail
        refine (Iin.out _ HR9.out).mono ?_
        rintro _ wa ⟨rfl, hba⟩
        have HRa := Lib.hid (HR9.out.below hba)
        clear hba
        go_wp2_with fail
        refine (Iout.out _ HRa.out).mono ?_
        rintro _ wb ⟨rfl, hbb⟩
        have HRb := Lib.hid (HRa.out.below hbb)
        clear hbb
        go_wp2_with fail
        refine (HNo.out 41 _ HRb.out).mono ?_
        rintro _ wc ⟨rfl, hrc, hgc⟩
        have HRc := Lib.hid (HRb.out.to hgc hrc)
        clear hrc hgc
        go_wp2_with fail
        go_ret
        rw [HFC.out]
        exact ⟨.slice none 0 0, [], rfl, ItsO.nil _ _, Nat.zero_le _, Nat.succ_ne_zero 40, k, by have := HN.out; omega, HRc.out⟩
      | false =>
        rw [hout] at Iout
        rw [hin, hout, if_neg (by simp)] at HFC
        clear hin hout
        go_wp2_with fail
        refine (Iin.out _ HR9.out).mono ?_
        rintro _ wa ⟨rfl, hba⟩
        have HRa := Lib.hid (HR9.out.below hba)
        clear hba
        go_wp2_with fail
        refine (Iout.out _ HRa.out).mono ?_
        rintro _ wb ⟨rfl, hbb⟩
        have HRb := Lib.hid (HRa.out.below hbb)
        clear hbb
        go_wp2_with fail
        refine (HNo.out 42 _ HRb.out).mono ?_
        rintro _ wc ⟨rfl, hrc, hgc⟩
        have HRc := Lib.hid (HRb.out.to hgc hrc)
        clear hrc hgc
        go_wp2_with fail
        go_ret
        rw [HFC.out]
        exact ⟨.slice none 0 0, [], rfl, ItsO.nil _ _, Nat.zero_le _, Nat.succ_ne_zero 41, k, by have := HN.out; omega, HRc.out⟩
end
end Go.Proofs.YtfpneopobbfabaaDoor
namespace Go.Proofs.YtfpneopobbfabaaDoor
open Go.RowKit Go.Shelf Go.Sort

theorem ItsO.form {w : World} {b : Nat} {v : Value} {l : List Itm} (h : ItsO w b v l) : ∃ a c, v = .slice a l.length c := let ⟨_, h1, _⟩ := h; own_form h1
theorem ItsO.lt {w : World} {b : Nat} {v : Value} {l : List Itm} (h : ItsO w b v l) {j : Nat} (hj : v.ownBlock = some j) : b ≤ j := let ⟨_, h1, _⟩ := h; (h1.lt j hj).1
set_option maxRecDepth 100000 in
/-- A row behind a row that the call made, empty ones too. -/
theorem wpList_append_rows {ops : Array Oper} {rest : List Oper} {o : Oper} {a : Act} {w : World} {Q : Exit → Act → World → Prop} (hgd : o.guard = none) (s x : Operand)
    (ho : o.op = .call { callee := .builtin .append, args := #[s, x], argTypes := #[40, 40] }) (base : Nat) (v v2 : Value) (l1 l2 : List Itm) (hs : a.eval s = v) (h1 : ItsO w base v l1) (hx : a.eval x = v2) (h2 : ItsV w v2 l2)
    (hb1 : l1.length ≤ 200000) (hb2 : l2.length ≤ 200000) (hbase : base ≤ w.heap.size)
    (h : ∀ v' w', ItsO w' base v' (l1 ++ l2) → w.grownBy w' v.ownBlock → (∀ t, t ≠ 48 → KeepTag t w w') → wpList Tryd.prog ops Q rest (a.put o.dst v') w') :
    wpList Tryd.prog ops Q (o :: rest) a w := by
  obtain ⟨i0, hi, hz0, hz1, hz2⟩ := info_parts Tryd.infoItem
  obtain ⟨cs1, o1, c1⟩ := h1
  obtain ⟨cs2, o2, c2⟩ := h2
  have o2' := o2
  by_cases hn : v2 = .slice none 0 0
  · subst hn
    have hl : l2 = [] := by
      obtain ⟨a', c', he⟩ := own_form o2
      injection he with _ he _
      exact List.eq_nil_of_length_eq_zero he.symm
    subst hl
    refine wpList_plain hgd fun K hK => ?_
    have hr := run_append_owned_none (P := Tryd.prog) w base 40 o.type 48 i0 5 Tryd.underlying40 hi v l1.length cs1 o1
    unfold Oper.wp execOp
    simp only [ho, resolve, invoke, builtin, Sem.run_bind, Sem.run_pure, Result.andThen_ok, List.map_toArray, List.map_cons, List.map_nil, hs, hx, hr]
    refine hK _ _ (h v w ⟨cs1, by rw [List.append_nil]; exact o1, by rw [List.append_nil]; exact c1⟩ (World.grownBy.refl _ _) (fun t _ => KeepTag.refl t w))
  · rcases o2.2 with ⟨h0, _⟩ | ⟨g2, cap2, cur, rfl, _, hg, hc, hm, hsz, htk⟩
    · exact absurd h0 hn
    · refine wpList_append_own w hgd s x 40 ho base 48 i0 (.agg #[.int .i64 0, .int .i64 0, .int .u8 0, .string ⟨#[]⟩, .slice none 0 0]) 5 64 Tryd.underlying40 hi hz0 hz1 hz2 rfl (by decide) v l1.length cs1 hs o1 ⟨g2, 0, none⟩ l2.length cap2 cs2 hx c2.1 (o2.cells rfl) c2.one (by unfold maxLen; omega) (by omega) hbase ?_
      intro v' w' hown hgrow _
      have kt : ∀ t, t ≠ 48 → KeepTag t w w' := fun t ht => KeepTag.own hgrow o1 ht
      exact h v' w' ⟨cs1 ++ cs2, by rw [List.length_append]; exact hown, (c1.append c2).keep (kt _ (by decide))⟩ hgrow kt
/-- What operand gives, whatever token stands there. -/
theorem roperand_all (f L : Nat) (vt : Value) (toks : List Tok) (e : Int) (k nest : Nat) (w : World) (hE : ExprOK f L vt toks e) (hlen : toks.length ≤ 100000) (hf0 : f ≤ 300000) (t : Tok) (ht : toks[k]? = some t) (hlx : ∀ t ∈ toks, t.lexed) (hv : isVerb t = false) (hf : 2 * (toks.length - k) + 1 ≤ f + 1) (hn : nest ≤ 32) (hR : RdAt w w L vt toks k e nest 0 0) :
    Calls Tryd.prog 72 #[.pointer (some ⟨L, 0, none⟩)] w (RExprPost L vt toks k e nest (operandR e (f + 1) nest t (toks.drop (k + 1))) (f + 1) w) := by
  have hl := hlx t (List.mem_of_getElem? ht)
  have hd := drop_cons ht
  by_cases ho : signIs [40] t = true
  · exact roperand_open f L vt toks e k nest w hE hlen hf0 t ht hlx ho hf hn hR
  · by_cases h2 : t.kind = 2
    · exact roperand_num f L vt toks e k nest w hlen t ht hlx h2 hR
    · by_cases hnm : nameT t = true
      · exact roperand_name f L vt toks e k nest w hlen t ht hlx hnm hR
      · have ho' : signIs [40] t = false := by simpa using ho
        have hnm' : nameT t = false := by simpa using hnm
        have hnum : isNum t = false := by unfold isNum; rw [beq_eq_false_iff_ne]; exact h2
        have h := roperand_no (f + 1) L vt toks e k nest w hlen (Nat.le_of_lt (List.getElem?_eq_some_iff.1 ht).1) hlx (by rw [hd, isP_sign hl 40 (by decide)]; exact ho') (fun u hu => by rw [ht] at hu; injection hu with hu; subst hu; exact ⟨h2, hnm'⟩) hR
        have he : operandR e (f + 1) nest t (toks.drop (k + 1)) = .error (placeP e (toks.drop k), faultC (toks.drop k)) := by
          rw [operandR, ho', hnum, hnm', place_in e ht, hd]
          unfold faultC
          rw [isP_word hl 105 [110] (by decide), isP_word hl 111 [117, 116] (by decide)]
          by_cases h1 : t.kind = 1
          · have hvb : verbB t.word = false := by
              unfold isVerb at hv
              rw [h1] at hv
              simpa using hv
            have hio := word_in_out hl h1 hvb hnm'
            have : isWord [105, 110] t = true ∨ isWord [111, 117, 116] t = true := by
              unfold isWord
              rw [h1]
              rcases hio with h | h <;> rw [h] <;> simp
            rw [if_pos this]
            simp [h1]
          · have : ¬ (isWord [105, 110] t = true ∨ isWord [111, 117, 116] t = true) := by
              unfold isWord
              simp [h1]
            rw [if_neg this]
            simp [h1]
        rw [he]
        exact h
set_option maxHeartbeats 8000000 in
set_option maxRecDepth 100000 in
/-- A verb, and what stands on its right. -/
theorem rexpr_verb (f L : Nat) (vt : Value) (toks : List Tok) (e : Int) (k nest : Nat) (w : World) (hE : ExprOK f L vt toks e) (hlen : toks.length ≤ 100000) (hf0 : f ≤ 300000) (t : Tok) (ht : toks[k]? = some t) (hlx : ∀ t ∈ toks, t.lexed) (hv : isVerb t = true) (hf : 2 * (toks.length - k) + 2 ≤ f + 1) (hn : nest ≤ 32) (hR : RdAt w w L vt toks k e nest 0 0) :
    Calls Tryd.prog 65 #[.pointer (some ⟨L, 0, none⟩)] w (RExprPost L vt toks k e nest (exprR e (f + 1) nest (toks.drop k)) (f + 1) w) := by
  have hk := (List.getElem?_eq_some_iff.1 ht).1
  have hd := drop_cons ht
  have HX : Hid (exprR e (f + 1) nest (toks.drop k) = match phraseP false t (toks.drop (k + 1)) with
      | .error x => .error x
      | .ok (it, r2) => match exprR e f nest r2 with
        | .error x => .error x
        | .ok (l, r3) => .ok (l ++ [it], r3)) := by
    apply Lib.hid
    rw [hd, exprR]
    simp only [hv, if_true]
    rfl
  obtain ⟨X, hX⟩ : ∃ X, X = exprR e (f + 1) nest (toks.drop k) := ⟨_, rfl⟩
  rw [← hX] at HX ⊢
  have HV := Lib.hid (rverb_any L vt toks k e nest 0 0 w hR.rd hR.full)
  rw [hd, show verbP (t :: toks.drop (k + 1)) = true from hv] at HV
  have HPh := Lib.hid (fun wx h => rphrase_any false L vt toks k e nest t ht hlx (by omega) wx h)
  have HPe := Lib.hid (fun y h => @phrase_err false t (toks.drop (k + 1)) y h)
  have HR := Lib.hid hR
  have hL := hR.rd.lt
  have HE := Lib.hid hE
  obtain ⟨n, hn⟩ : ∃ n, n = toks.length := ⟨_, rfl⟩
  have HN := Lib.hid hn
  obtain ⟨x, hx⟩ : ∃ x, x = phraseP false t (toks.drop (k + 1)) := ⟨_, rfl⟩
  rw [← hx] at HX HPh HPe
  clear hX ht hd hlx hv hR hE hn hx
  go_enter Tryd.func65, Tryd.ntmps65
  go_wp2_with fail
  refine HV.out.mono ?_
  rintro _ w1 ⟨rfl, hb1⟩
  have HR1 := Lib.hid (HR.out.below hb1)
  clear hb1
  go_wp2_with fail
  refine (HPh.out w1 HR1.out.self).mono ?_
  intro en w2 hp
  cases x with
  | error y =>
    obtain ⟨it, rfl, hr2⟩ := hp
    have hy := HPe.out y rfl
    have hy2 : y.2 = 43 := by rw [hy]
    have HR2 := Lib.hid (HR1.out.base hr2)
    have c5 : w2.cell? ⟨L, 5, none⟩ = some (.int .i64 y.2) := hr2.rd.cell 5
    rw [hy2] at c5
    simp at c5
    have hL2 := hr2.rd.lt
    clear hr2 hy
    unfold phraseV
    go_wp2_with fail
    go_ret
    rw [HX.out]
    exact ⟨.slice none 0 0, [], rfl, ItsO.nil _ _, Nat.zero_le _, by rw [hy2]; exact Nat.succ_ne_zero 42, k, by omega, HR2.out.alloc _⟩
  | ok q =>
    obtain ⟨⟨how, at_, fn, nm, nums⟩, r2⟩ := q
    obtain ⟨rfl, hnm, hns, k', hr2, hd2, hk1, hk2⟩ := hp
    dsimp only at hnm hns
    subst hnm hns
    unfold phraseV
    dsimp only
    have hr2b := HR1.out.base hr2
    have c5 : w2.cell? ⟨L, 5, none⟩ = some (.int .i64 0) := hr2b.rd.cell 5
    have hL2 := hr2b.rd.lt
    have HR3 : Hid (RdAt w (w2.alloc (.cells #[.int .i64 how, .int .i64 at_, .int .u8 fn, .string ⟨#[]⟩, .slice none 0 0] 48)) L vt toks k' e nest 0 0) := Lib.hid (hr2b.alloc _)
    have HB3 : Hid (Blk (w2.alloc (.cells #[.int .i64 how, .int .i64 at_, .int .u8 fn, .string ⟨#[]⟩, .slice none 0 0] 48)) w2.heap.size 48 #[.int .i64 how, .int .i64 at_, .int .u8 fn, .string ⟨#[]⟩, .slice none 0 0]) := Lib.hid (Blk.new w2 _ _ rfl)
    have hs2 := hr2b.grown.size
    have hLb : w2.heap.size ≠ L := by omega
    have HEx := Lib.hid (fun wx h => HE.out k' nest wx (by have := HN.out; omega) hk2 hn h)
    rw [hd2] at HEx
    dsimp only at HX
    generalize exprR e f nest r2 = y at HX HEx
    clear hr2 hr2b hd2
    go_wp2_with fail
    generalize w2.alloc (.cells #[.int .i64 how, .int .i64 at_, .int .u8 fn, .string ⟨#[]⟩, .slice none 0 0] 48) = w3 at HR3 HB3 ⊢
    refine (HEx.out w3 HR3.out.self).mono ?_
    rintro _ w4 ⟨v, l', rfl, hi4, hl4, hm4⟩
    clear c5
    have hs3 := HR3.out.grown.size
    have hg4 : w3.grownBy w4 (some L) := by
      cases y with
      | error z => obtain ⟨_, _, _, h⟩ := hm4; exact h.grown
      | ok z => obtain ⟨_, _, h, _⟩ := hm4; exact h.grown
    have hB4 : Blk w4 w2.heap.size 48 #[.int .i64 how, .int .i64 at_, .int .u8 fn, .string ⟨#[]⟩, .slice none 0 0] := (hg4.block w2.heap.size HB3.out.lt (fun h => by injection h with h; exact hLb h)).trans HB3.out
    have hs4 := hg4.size
    have i0 := hB4.cell 0
    have i1 := hB4.cell 1
    have i2 := hB4.cell 2
    have i3 := hB4.cell 3
    have i4 := hB4.cell 4
    simp at i0 i1 i2 i3 i4
    have HI4 := Lib.hid (hi4.from hs3)
    obtain ⟨av, cv, rfl⟩ := hi4.form
    obtain ⟨m, hm⟩ : ∃ m, m = l'.length := ⟨_, rfl⟩
    rw [← hm] at HI4 hl4 ⊢
    have HM := Lib.hid hm
    have HM4 := Lib.hid hm4
    clear hi4 hg4 hB4 hm hm4
    go_wp2_with (at_builtin; refine wpList_append_rows rfl (.tmp 20) (.tmp 22) rfl w.heap.size _ _ l' [⟨how, at_, fn, [], []⟩] rfl ?h1 rfl ?h2 ?b1 ?b2 ?b3 ?_)
    case h1 => exact HI4.out.keep (fun t => KeepTag.alloc _)
    case h2 => exact (ItsO.one w4 ⟨how, at_, fn, [], []⟩ (.slice none 0 0) (NumS.nil _) (Nat.le_refl _)).v
    case b1 => have := HM.out; omega
    case b2 => simp
    case b3 => simp; omega
    intro v5 w5 hi5 hg5 hk5
    have hrow : ∀ j, (Value.slice av m cv).ownBlock = some j → w.heap.size ≤ j := fun j hj => HI4.out.lt hj
    have HI5 := Lib.hid hi5
    have HG5 := Lib.hid hg5
    clear hi5 hg5 hk5 i0 i1 i2 i3 i4
    go_wp2_with fail
    go_ret
    rw [HX.out]
    have hlm : (l' ++ [(⟨how, at_, fn, [], []⟩ : Itm)]).length = m + 1 := by rw [List.length_append, ← HM.out]; rfl
    have hh := HM4.out
    cases y with
    | error z =>
      obtain ⟨z1, k'', z2, z3⟩ := hh
      exact ⟨v5, _, rfl, HI5.out, by rw [hlm]; omega, z1, k'', by omega, (((HR3.out.base z3).alloc _).row HG5.out hrow hL)⟩
    | ok z =>
      obtain ⟨l, r3⟩ := z
      obtain ⟨rfl, k'', z1, z2, z3, z4, z5⟩ := hh
      exact ⟨v5, _, rfl, HI5.out, by rw [hlm]; omega, rfl, k'', (((HR3.out.base z1).alloc _).row HG5.out hrow hL), z2, by rw [hlm]; have := HM.out; omega, by omega, z5⟩
set_option maxHeartbeats 8000000 in
set_option maxRecDepth 100000 in
/-- An operand, and what stands behind it. -/
theorem rexpr_opnd (f L : Nat) (vt : Value) (toks : List Tok) (e : Int) (k nest : Nat) (w : World) (hE' : ExprOK f L vt toks e) (hE : ExprOK (f + 1) L vt toks e) (hlen : toks.length ≤ 100000) (hf0 : f ≤ 300000) (t : Tok) (ht : toks[k]? = some t) (hlx : ∀ t ∈ toks, t.lexed) (hv : isVerb t = false) (hf : 2 * (toks.length - k) + 2 ≤ f + 2) (hn : nest ≤ 32) (hR : RdAt w w L vt toks k e nest 0 0) :
    Calls Tryd.prog 65 #[.pointer (some ⟨L, 0, none⟩)] w (RExprPost L vt toks k e nest (exprR e (f + 2) nest (toks.drop k)) (f + 2) w) := by
  have hk := (List.getElem?_eq_some_iff.1 ht).1
  have hd := drop_cons ht
  have HX : Hid (exprR e (f + 2) nest (toks.drop k) = match operandR e (f + 1) nest t (toks.drop (k + 1)) with
      | .error x => .error x
      | .ok (l0, r2) => match r2 with
        | [] => .ok (l0, [])
        | c :: r3 =>
          if signIs [41] c then .ok (l0, c :: r3)
          else if !isVerb c then .error (c.at_, 46)
          else match phraseP true c r3 with
            | .error x => .error x
            | .ok (it, r4) => match exprR e (f + 1) nest r4 with
              | .error x => .error x
              | .ok (l, r5) => .ok (l0 ++ l ++ [it], r5)) := by
    apply Lib.hid
    rw [hd, exprR]
    simp only [hv, Bool.false_eq_true, if_false]
    rfl
  obtain ⟨X, hX⟩ : ∃ X, X = exprR e (f + 2) nest (toks.drop k) := ⟨_, rfl⟩
  rw [← hX] at HX ⊢
  have HV := Lib.hid (rverb_any L vt toks k e nest 0 0 w hR.rd hR.full)
  rw [hd, show verbP (t :: toks.drop (k + 1)) = false from hv] at HV
  have HOp := Lib.hid (fun wx h => roperand_all f L vt toks e k nest wx hE' hlen hf0 t ht hlx hv (by omega) hn h)
  have HIs := Lib.hid (fun (s : ByteArray) (k' : Nat) (wx : World) (h : RdAt w wx L vt toks k' e nest 0 0) => ris_any s L vt toks k' e nest 0 0 wx h.rd h.full)
  have HVb := Lib.hid (fun (k' : Nat) (wx : World) (h : RdAt w wx L vt toks k' e nest 0 0) => rverb_any L vt toks k' e nest 0 0 wx h.rd h.full)
  have HNo := Lib.hid (fun (k' : Nat) (wx : World) (h : RdAt w wx L vt toks k' e nest 0 0) => rno_any 46 L vt toks k' e nest 0 0 wx h.rd h.full)
  have HPh := Lib.hid (fun (k' : Nat) (u : Tok) (hu : toks[k']? = some u) wx h => rphrase_any true L vt toks k' e nest u hu hlx (by omega) wx h)
  have HLx := Lib.hid hlx
  have HR := Lib.hid hR
  have hL := hR.rd.lt
  have HE := Lib.hid hE
  obtain ⟨n, hn'⟩ : ∃ n, n = toks.length := ⟨_, rfl⟩
  have HN := Lib.hid hn'
  obtain ⟨x, hx⟩ : ∃ x, x = operandR e (f + 1) nest t (toks.drop (k + 1)) := ⟨_, rfl⟩
  rw [← hx] at HX HOp
  obtain ⟨a, cap, hvt, hcap, hmx, _⟩ := hR.tok
  subst hvt
  rw [← hn'] at hcap HOp HIs HVb HNo HPh HR HE ⊢
  unfold maxLen at hmx
  clear hX ht hd hlx hv hR hE hE' hx hn'
  go_enter Tryd.func65, Tryd.ntmps65
  go_wp2_with fail
  refine HV.out.mono ?_
  rintro _ w1 ⟨rfl, hb1⟩
  have HR1 := Lib.hid (HR.out.below hb1)
  clear hb1
  go_wp2_with fail
  refine (HOp.out w1 HR1.out.self).mono ?_
  rintro _ w2 ⟨v, l0', rfl, hi2, hl2, hm2⟩
  have hs1 := HR1.out.grown.size
  have HI2 := Lib.hid (hi2.from hs1)
  clear hi2
  cases x with
  | error y =>
    obtain ⟨hy, k', hk', hr2⟩ := hm2
    have HR2 := Lib.hid (HR1.out.base hr2)
    have c5 : w2.cell? ⟨L, 5, none⟩ = some (.int .i64 y.2) := hr2.rd.cell 5
    have hy0 : ¬ (y.2 : Int) = 0 := by omega
    have hyb : ((y.2 : Int) != 0) = true := by rw [bne_iff_ne]; exact hy0
    clear hr2
    go_wp2_with fail
    go_quiet (fail)
    go_wp2_with fail
    go_ret
    rw [HX.out]
    exact ⟨v, l0', rfl, HI2.out.keep (fun t => KeepTag.below (below_drewN' (Below.refl _ _) _)), hl2, hy, k', by omega, HR2.out.draws _⟩
  | ok q =>
    obtain ⟨l0, r2⟩ := q
    obtain ⟨rfl, k2, hr2, hd2, hb1, hb2, hb3⟩ := hm2
    have hr2b := HR1.out.base hr2
    have HR2 := Lib.hid hr2b
    have c5 : w2.cell? ⟨L, 5, none⟩ = some (.int .i64 0) := hr2b.rd.cell 5
    have c1 : w2.cell? ⟨L, 1, none⟩ = some (.int .i64 k2) := hr2b.rd.cell 1
    have c0 : w2.cell? ⟨L, 0, none⟩ = some (.slice a n cap) := hr2b.rd.cell 0
    have hL2 := hr2b.rd.lt
    clear hr2 hr2b
    cases r2 with
    | nil =>
      have hk2n : k2 = n := by
        have := congrArg List.length hd2
        rw [List.length_drop, List.length_nil] at this
        have := HN.out
        omega
      subst hk2n
      have hge : (k2 : Int) ≥ k2 := by omega
      have hgeb : decide ((k2 : Int) ≤ k2) = true := by rw [decide_eq_true_iff]; omega
      go_wp2_with fail
      go_quiet (fail)
      go_wp2_with fail
      go_ret
      rw [HX.out]
      exact ⟨v, _, rfl, HI2.out.keep (fun t => KeepTag.below (below_drewN' (Below.refl _ _) _)), hl2, rfl, k2, HR2.out.draws _, hd2, hb1, hb2, hb3⟩
    | cons c r3 =>
      have hk2n : k2 < n := by
        have := congrArg List.length hd2
        rw [List.length_drop, List.length_cons] at this
        have := HN.out
        omega
      have hlti : (k2 : Int) < n := by omega
      have hnge : ¬ (k2 : Int) ≥ n := by omega
      have hngeb : decide ((n : Int) ≤ k2) = false := by rw [decide_eq_false_iff_not]; omega
      obtain ⟨c', hc'⟩ : ∃ c', toks[k2]? = some c' := ⟨toks[k2]'(by have := HN.out; omega), List.getElem?_eq_getElem _⟩
      have hdc := drop_cons hc'
      rw [hd2] at hdc
      injection hdc with hdc1 hdc2
      subst hdc1
      have hcl := HLx.out c (List.mem_of_getElem? hc')
      have I41 := Lib.hid (fun (wx : World) (h : RdAt w wx L (.slice a n cap) toks k2 e nest 0 0) => HIs.out ⟨#[41]⟩ k2 wx h)
      rw [show (⟨#[41]⟩ : ByteArray).data.toList = [41] from rfl, hd2, isP_sign hcl 41 (by decide)] at I41
      have HD2 := Lib.hid hd2
      have HC := Lib.hid hc'
      have HPl := Lib.hid (place_in e hc')
      have HD3 := Lib.hid hdc2
      dsimp only at HX
      clear hd2 hc' hdc2 hcl
      have HI2l : Hid (∀ j, v.ownBlock = some j → j < w2.heap.size) := Lib.hid (fun j hj => HI2.out.v.lt hj)
      have held : True := trivial
      cases hs41 : signIs [41] c with
      | true =>
        rw [hs41] at I41
        rw [hs41, if_pos rfl] at HX
        clear hs41 held
        go_wp2_with fail
        have hngeb2 : decide (n ≤ k2) = false := by rw [decide_eq_false_iff_not]; omega
        go_region_held3 (fun wy => wy.cell? ⟨L, 5, none⟩ = some (.int .i64 0) ∧ wy.cell? ⟨L, 1, none⟩ = some (.int .i64 k2) ∧ wy.cell? ⟨L, 0, none⟩ = some (.slice a n cap))
          (first | go_keep)
          (first | (go_at_call 45; refine (I41.out _ (by repeat (first | exact HR2.out | refine RdAt.draws ?_ _ | refine RdAt.drew ?_))).mono ?_; rintro _ w9 ⟨rfl, hb9⟩; have HR9 : Hid (RdAt w w9 L (.slice a n cap) toks k2 e nest 0 0) := Lib.hid (RdAt.below (by repeat (first | exact HR2.out | refine RdAt.draws ?_ _ | refine RdAt.drew ?_)) hb9); have e0' : w9.cell? ⟨L, 0, none⟩ = some (.slice a n cap) := HR9.out.rd.cell 0; have e1' : w9.cell? ⟨L, 1, none⟩ = some (.int .i64 k2) := HR9.out.rd.cell 1; have e5' : w9.cell? ⟨L, 5, none⟩ = some (.int .i64 0) := HR9.out.rd.cell 5; have HI9 : Hid (ItsO w9 w.heap.size v l0') := Lib.hid ((HI2.out.keep (fun t => KeepTag.below (Below.drew (Below.refl _ _)))).keep (fun t => KeepTag.below hb9)); have hs9 : w2.heap.size ≤ w9.heap.size := hb9.size; clear hb9))
        clear c0 c1 c5 e0' e1' e5'
        go_wp2_with fail
        go_ret
        rw [HX.out]
        exact ⟨v, _, rfl, HI9.out, hl2, rfl, k2, HR9.out, HD2.out, hb1, hb2, hb3⟩
      | false =>
        rw [hs41] at I41
        rw [hs41, if_neg (by simp)] at HX
        clear hs41 held
        have HVc := Lib.hid (fun wx h => HVb.out k2 wx h)
        rw [HD2.out, show verbP (c :: r3) = isVerb c from rfl] at HVc
        cases hvc : isVerb c with
        | false =>
          rw [hvc] at HVc
          rw [hvc, if_pos (show (!false) = true from rfl)] at HX
          clear hvc
          go_wp2_with fail
          have hngeb2 : decide (n ≤ k2) = false := by rw [decide_eq_false_iff_not]; omega
          go_region_held3 (fun wy => wy.cell? ⟨L, 5, none⟩ = some (.int .i64 0) ∧ wy.cell? ⟨L, 1, none⟩ = some (.int .i64 k2) ∧ wy.cell? ⟨L, 0, none⟩ = some (.slice a n cap))
            (first | go_keep)
            (first | (go_at_call 45; refine (I41.out _ (by repeat (first | exact HR2.out | refine RdAt.draws ?_ _ | refine RdAt.drew ?_))).mono ?_; rintro _ w9 ⟨rfl, hb9⟩; have HR9 : Hid (RdAt w w9 L (.slice a n cap) toks k2 e nest 0 0) := Lib.hid (RdAt.below (by repeat (first | exact HR2.out | refine RdAt.draws ?_ _ | refine RdAt.drew ?_)) hb9); have e0' : w9.cell? ⟨L, 0, none⟩ = some (.slice a n cap) := HR9.out.rd.cell 0; have e1' : w9.cell? ⟨L, 1, none⟩ = some (.int .i64 k2) := HR9.out.rd.cell 1; have e5' : w9.cell? ⟨L, 5, none⟩ = some (.int .i64 0) := HR9.out.rd.cell 5; have HI9 : Hid (ItsO w9 w.heap.size v l0') := Lib.hid ((HI2.out.keep (fun t => KeepTag.below (Below.drew (Below.refl _ _)))).keep (fun t => KeepTag.below hb9)); have hs9 : w2.heap.size ≤ w9.heap.size := hb9.size; clear hb9))
          clear c0 c1 c5 e0' e1' e5'
          go_wp2_with fail
          refine (HVc.out _ HR9.out).mono ?_
          rintro _ wa ⟨rfl, hba⟩
          have HRa := Lib.hid (HR9.out.below hba)
          clear hba
          go_wp2_with fail
          refine (HNo.out k2 _ HRa.out).mono ?_
          rintro _ wb ⟨rfl, hrb, hgb⟩
          have HRb := Lib.hid (HRa.out.to hgb hrb)
          rw [HPl.out] at HRb
          clear hrb hgb
          go_wp2_with fail
          go_ret
          rw [HX.out]
          exact ⟨.slice none 0 0, [], rfl, ItsO.nil _ _, Nat.zero_le _, Nat.succ_ne_zero 45, k2, by omega, HRb.out⟩
        | true =>
          rw [hvc] at HVc
          rw [hvc, if_neg (show ¬ (!true) = true by simp)] at HX
          have HPc := Lib.hid (fun wx h => HPh.out k2 c HC.out wx h)
          rw [← HD3.out] at HPc
          have HPe := Lib.hid (fun y h => @phrase_err true c r3 y h)
          obtain ⟨z, hz⟩ : ∃ z, z = phraseP true c r3 := ⟨_, rfl⟩
          rw [← hz] at HX HPc HPe
          clear hvc hz
          go_wp2_with fail
          have hngeb2 : decide (n ≤ k2) = false := by rw [decide_eq_false_iff_not]; omega
          go_region_held3 (fun wy => wy.cell? ⟨L, 5, none⟩ = some (.int .i64 0) ∧ wy.cell? ⟨L, 1, none⟩ = some (.int .i64 k2) ∧ wy.cell? ⟨L, 0, none⟩ = some (.slice a n cap))
            (first | go_keep)
            (first | (go_at_call 45; refine (I41.out _ (by repeat (first | exact HR2.out | refine RdAt.draws ?_ _ | refine RdAt.drew ?_))).mono ?_; rintro _ w9 ⟨rfl, hb9⟩; have HR9 : Hid (RdAt w w9 L (.slice a n cap) toks k2 e nest 0 0) := Lib.hid (RdAt.below (by repeat (first | exact HR2.out | refine RdAt.draws ?_ _ | refine RdAt.drew ?_)) hb9); have e0' : w9.cell? ⟨L, 0, none⟩ = some (.slice a n cap) := HR9.out.rd.cell 0; have e1' : w9.cell? ⟨L, 1, none⟩ = some (.int .i64 k2) := HR9.out.rd.cell 1; have e5' : w9.cell? ⟨L, 5, none⟩ = some (.int .i64 0) := HR9.out.rd.cell 5; have HI9 : Hid (ItsO w9 w.heap.size v l0') := Lib.hid ((HI2.out.keep (fun t => KeepTag.below (Below.drew (Below.refl _ _)))).keep (fun t => KeepTag.below hb9)); have hs9 : w2.heap.size ≤ w9.heap.size := hb9.size; clear hb9))
          clear c0 c1 c5 e0' e1' e5'
          go_wp2_with fail
          refine (HVc.out _ HR9.out).mono ?_
          rintro _ wa ⟨rfl, hba⟩
          have HRa := Lib.hid (HR9.out.below hba)
          have HIa := Lib.hid (HI9.out.keep (fun t => KeepTag.below hba))
          have hsa : w2.heap.size ≤ wa.heap.size := Nat.le_trans hs9 hba.size
          clear hba
          go_wp2_with fail
          refine (HPc.out wa HRa.out.self).mono ?_
          intro en wb hp
          cases z with
          | error y =>
            obtain ⟨it, rfl, hrb⟩ := hp
            have hy := HPe.out y rfl
            have hy2 : y.2 = 43 := by rw [hy]
            have HRb := Lib.hid (HRa.out.base hrb)
            have b5 : wb.cell? ⟨L, 5, none⟩ = some (.int .i64 y.2) := hrb.rd.cell 5
            rw [hy2] at b5
            simp at b5
            have hLb := hrb.rd.lt
            clear hrb hy
            unfold phraseV
            go_wp2_with fail
            go_ret
            rw [HX.out]
            exact ⟨.slice none 0 0, [], rfl, ItsO.nil _ _, Nat.zero_le _, by rw [hy2]; exact Nat.succ_ne_zero 42, k2, by omega, HRb.out.alloc _⟩
          | ok q =>
            obtain ⟨⟨how, at_, fn, nm, nums⟩, r4⟩ := q
            obtain ⟨rfl, hnm, hns, k4, hrb, hd4, hk1, hk2'⟩ := hp
            dsimp only at hnm hns
            subst hnm hns
            unfold phraseV
            dsimp only
            have hrb2 := HRa.out.base hrb
            have b5 : wb.cell? ⟨L, 5, none⟩ = some (.int .i64 0) := hrb2.rd.cell 5
            have hLb := hrb2.rd.lt
            have HRc : Hid (RdAt w (wb.alloc (.cells #[.int .i64 how, .int .i64 at_, .int .u8 fn, .string ⟨#[]⟩, .slice none 0 0] 48)) L (.slice a n cap) toks k4 e nest 0 0) := Lib.hid (hrb2.alloc _)
            have HBc : Hid (Blk (wb.alloc (.cells #[.int .i64 how, .int .i64 at_, .int .u8 fn, .string ⟨#[]⟩, .slice none 0 0] 48)) wb.heap.size 48 #[.int .i64 how, .int .i64 at_, .int .u8 fn, .string ⟨#[]⟩, .slice none 0 0]) := Lib.hid (Blk.new wb _ _ rfl)
            have HIc : Hid (ItsO (wb.alloc (.cells #[.int .i64 how, .int .i64 at_, .int .u8 fn, .string ⟨#[]⟩, .slice none 0 0] 48)) w.heap.size v l0') := Lib.hid ((HIa.out.tag (KeepTag.gb hrb.grown HRa.out.rd (by decide)) (KeepTag.gb hrb.grown HRa.out.rd (by decide))).keep (fun t => KeepTag.alloc _))
            have hsb : w2.heap.size ≤ wb.heap.size := Nat.le_trans hsa hrb.grown.size
            have hsw : w.heap.size ≤ wb.heap.size := hrb2.grown.size
            have hLbn : wb.heap.size ≠ L := by omega
            have hszc : (wb.alloc (.cells #[.int .i64 how, .int .i64 at_, .int .u8 fn, .string ⟨#[]⟩, .slice none 0 0] 48)).heap.size = wb.heap.size + 1 := by simp
            have HEx := Lib.hid (fun wx h => HE.out k4 nest wx (by have := HN.out; omega) (by have := HN.out; omega) hn h)
            rw [hd4] at HEx
            dsimp only at HX
            generalize exprR e (f + 1) nest r4 = y at HX HEx
            clear hrb hrb2 hd4 HIa HRa
            go_wp2_with fail
            generalize wb.alloc (.cells #[.int .i64 how, .int .i64 at_, .int .u8 fn, .string ⟨#[]⟩, .slice none 0 0] 48) = wc at HRc HBc HIc hszc ⊢
            refine (HEx.out wc HRc.out.self).mono ?_
            rintro _ wd ⟨v4, l4, rfl, hi4, hl4, hm4⟩
            clear b5
            have hg4 : wc.grownBy wd (some L) := by
              cases y with
              | error z => obtain ⟨_, _, _, h⟩ := hm4; exact h.grown
              | ok z => obtain ⟨_, _, h, _⟩ := hm4; exact h.grown
            have hBd : Blk wd wb.heap.size 48 #[.int .i64 how, .int .i64 at_, .int .u8 fn, .string ⟨#[]⟩, .slice none 0 0] := (hg4.block wb.heap.size HBc.out.lt (fun h => by injection h with h; exact hLbn h)).trans HBc.out
            have hsd := hg4.size
            have HBd := Lib.hid hBd
            have HId := Lib.hid (HIc.out.tag (KeepTag.gb hg4 HRc.out.rd (by decide)) (KeepTag.gb hg4 HRc.out.rd (by decide)))
            have HI4 := Lib.hid (hi4.from (show w.heap.size ≤ wc.heap.size by omega))
            have HM4 := Lib.hid hm4
            have hl0 : l0'.length ≤ n := by have := HN.out; omega
            have hl4n : l4.length ≤ n := by have := HN.out; omega
            clear hi4 hg4 hBd hm4 HIc HBc
            go_wp2_with (at_builtin; refine wpList_append_rows rfl (.tmp 65) (.tmp 66) rfl w.heap.size _ _ l0' l4 rfl HId.out rfl HI4.out.v ?b1 ?b2 ?b3 ?_)
            case b1 => omega
            case b2 => omega
            case b3 => omega
            intro v5 w5 hi5 hg5 hk5
            have hrow : ∀ j, v.ownBlock = some j → w.heap.size ≤ j := fun j hj => HId.out.lt hj
            have hB5 : Blk w5 wb.heap.size 48 #[.int .i64 how, .int .i64 at_, .int .u8 fn, .string ⟨#[]⟩, .slice none 0 0] := (hg5.block wb.heap.size HBd.out.lt (fun h => by have := HI2l.out _ h.symm; omega)).trans HBd.out
            have HG5 := Lib.hid hg5
            have HI5 := Lib.hid hi5
            have hs5 := hg5.size
            have i0 := hB5.cell 0
            have i1 := hB5.cell 1
            have i2 := hB5.cell 2
            have i3 := hB5.cell 3
            have i4 := hB5.cell 4
            simp at i0 i1 i2 i3 i4
            clear hg5 hi5 hk5 hB5
            go_wp2_with (at_builtin; refine wpList_append_rows rfl (.tmp 68) (.tmp 70) rfl w.heap.size _ _ (l0' ++ l4) [⟨how, at_, fn, [], []⟩] rfl ?h1 rfl ?h2 ?d1 ?d2 ?d3 ?_)
            case h1 => exact HI5.out.keep (fun t => KeepTag.alloc _)
            case h2 => exact (ItsO.one w5 ⟨how, at_, fn, [], []⟩ (.slice none 0 0) (NumS.nil _) (Nat.le_refl _)).v
            case d1 => rw [List.length_append]; omega
            case d2 => simp
            case d3 => simp; omega
            intro v6 w6 hi6 hg6 hk6
            have hrow6 : ∀ j, v5.ownBlock = some j → w.heap.size ≤ j := fun j hj => HI5.out.lt hj
            have HI6 : Hid (ItsO w6 w.heap.size v6 (l0' ++ l4 ++ [⟨how, at_, fn, [], []⟩])) := Lib.hid (by rw [List.append_assoc]; simpa using hi6)
            have HG6 := Lib.hid hg6
            clear hi6 hg6 hk6 i0 i1 i2 i3 i4
            go_wp2_with fail
            go_ret
            rw [HX.out]
            have hlm : (l0' ++ l4 ++ [(⟨how, at_, fn, [], []⟩ : Itm)]).length = l0'.length + l4.length + 1 := by rw [List.length_append, List.length_append]; rfl
            have hh := HM4.out
            cases y with
            | error z =>
              obtain ⟨z1, k'', z2, z3⟩ := hh
              exact ⟨v6, _, rfl, HI6.out, by rw [hlm]; have := HN.out; omega, z1, k'', by omega, (((HRc.out.base z3).row HG5.out hrow hL).alloc _).row HG6.out hrow6 hL⟩
            | ok z =>
              obtain ⟨l, r5⟩ := z
              obtain ⟨rfl, k'', z1, z2, z3, z4, z5⟩ := hh
              exact ⟨v6, _, rfl, HI6.out, by rw [hlm]; have := HN.out; omega, rfl, k'', (((HRc.out.base z1).row HG5.out hrow hL).alloc _).row HG6.out hrow6 hL, z2, by rw [hlm]; omega, by omega, z5⟩
set_option maxHeartbeats 4000000 in
set_option maxRecDepth 100000 in
/-- Nothing is left. -/
theorem rexpr_end (f L : Nat) (vt : Value) (toks : List Tok) (e : Int) (k nest : Nat) (w : World) (hlen : toks.length ≤ 100000) (hlx : ∀ t ∈ toks, t.lexed) (hk : k = toks.length) (hR : RdAt w w L vt toks k e nest 0 0) :
    Calls Tryd.prog 65 #[.pointer (some ⟨L, 0, none⟩)] w (RExprPost L vt toks k e nest (exprR e (f + 1) nest (toks.drop k)) (f + 1) w) := by
  have hd : toks.drop k = [] := List.drop_of_length_le (by omega)
  have HX : Hid (exprR e (f + 1) nest (toks.drop k) = .error (e, 42)) := by
    apply Lib.hid
    rw [hd, exprR]
  obtain ⟨X, hX⟩ : ∃ X, X = exprR e (f + 1) nest (toks.drop k) := ⟨_, rfl⟩
  rw [← hX] at HX ⊢
  have HV := Lib.hid (rverb_any L vt toks k e nest 0 0 w hR.rd hR.full)
  rw [hd, show verbP [] = false from rfl] at HV
  have HOp := Lib.hid (fun wx h => roperand_no f L vt toks e k nest wx hlen (by omega) hlx (by rw [hd]; rfl) (fun t ht => by have := (List.getElem?_eq_some_iff.1 ht).1; omega) h)
  rw [hd, show placeP e [] = e from rfl, show faultC [] = 42 from rfl] at HOp
  have HR := Lib.hid hR
  have HK := Lib.hid hk
  clear hX hd hlx hR hk
  go_enter Tryd.func65, Tryd.ntmps65
  go_wp2_with fail
  refine HV.out.mono ?_
  rintro _ w1 ⟨rfl, hb1⟩
  have HR1 := Lib.hid (HR.out.below hb1)
  clear hb1
  go_wp2_with fail
  refine (HOp.out w1 HR1.out.self).mono ?_
  rintro _ w2 ⟨v, l0', rfl, hi2, hl2, hy, k', hk', hr2⟩
  have hs1 := HR1.out.grown.size
  have HI2 := Lib.hid (hi2.from hs1)
  have HR2 := Lib.hid (HR1.out.base hr2)
  have c5 : w2.cell? ⟨L, 5, none⟩ = some (.int .i64 (42 : Nat)) := hr2.rd.cell 5
  simp at c5
  clear hr2 hi2 hy
  go_wp2_with fail
  go_quiet (fail)
  go_wp2_with fail
  go_ret
  rw [HX.out]
  exact ⟨v, l0', rfl, HI2.out.keep (fun t => KeepTag.below (below_drewN' (Below.refl _ _) _)), hl2, Nat.succ_ne_zero 41, k', by omega, HR2.out.draws _⟩
theorem rexpr_all (L : Nat) (vt : Value) (toks : List Tok) (e : Int) (hlen : toks.length ≤ 100000) (hlx : ∀ t ∈ toks, t.lexed) (f : Nat) (hf0 : f ≤ 300000) : ExprOK f L vt toks e := by
  induction f using Nat.strongRecOn with
  | ind f ih =>
    intro k nest w hf hk hn hR
    obtain ⟨f', rfl⟩ : ∃ f', f = f' + 1 := ⟨f - 1, by omega⟩
    by_cases hkl : k < toks.length
    · obtain ⟨t, ht⟩ : ∃ t, toks[k]? = some t := ⟨toks[k], List.getElem?_eq_getElem _⟩
      cases hv : isVerb t with
      | true => exact rexpr_verb f' L vt toks e k nest w (ih f' (by omega) (by omega)) hlen (by omega) t ht hlx hv (by omega) hn hR
      | false =>
        obtain ⟨g, rfl⟩ : ∃ g, f' = g + 1 := ⟨f' - 1, by omega⟩
        exact rexpr_opnd g L vt toks e k nest w (ih g (by omega) (by omega)) (ih (g + 1) (by omega) (by omega)) hlen (by omega) t ht hlx hv (by omega) hn hR
    · exact rexpr_end f' L vt toks e k nest w hlen hlx (by omega) hR
end Go.Proofs.YtfpneopobbfabaaDoor
