/-
  Walk of the document's reader (windrowref04): phrase. Condition: the reader lies in memory, its tokens too; they are a text's.
-/
import Derived.Test.YtfpneopobbfabaaDoorRdA
import Derived.Test.YtfpneopobbfabaaDoorParJ
namespace Go.Proofs.YtfpneopobbfabaaDoor
open Go.RowKit Go.Shelf Go.Sort

theorem TokS.grown {w w' : World} {L : Nat} {vt : Value} {toks : List Tok} (h : TokS w L vt toks) (hL : L ≤ w.heap.size) (hg : w.grownBy w' (some L)) : TokS w' L vt toks := by
  obtain ⟨a, cap, h1, h2, h3, h4⟩ := h
  refine ⟨a, cap, h1, h2, h3, fun hn => ?_⟩
  obtain ⟨g, o, k1, k2, k3⟩ := h4 hn
  have hb : ∀ j, w'.cell? ⟨g, j, none⟩ = w.cell? ⟨g, j, none⟩ := fun j => World.cell?_of_block (a := ⟨g, j, none⟩) (hg.block g (by omega) (fun e => by injection e with e; omega))
  refine ⟨g, o, k1, k2, fun i t hi => ?_⟩
  obtain ⟨c0, c1, c2, c3⟩ := k3 i t hi
  exact ⟨(hb _).trans c0, (hb _).trans c1, (hb _).trans c2, (hb _).trans c3⟩
/-- The reader of a line, and its tokens. -/
structure RdAt (w0 w : World) (L : Nat) (vt : Value) (toks : List Tok) (k : Nat) (e : Int) (nest : Nat) (fa fc : Int) : Prop where
  grown : w0.grownBy w (some L)
  rd : RdB w L vt k e nest fa fc
  tok : TokS w L vt toks
section
variable {w0 w w' : World} {L : Nat} {vt : Value} {toks : List Tok} {k : Nat} {e : Int} {nest : Nat} {fa fc : Int}
theorem RdAt.full (h : RdAt w0 w L vt toks k e nest fa fc) : TokS w w.heap.size vt toks := h.tok.mono (Nat.le_of_lt h.rd.lt)
theorem RdAt.below (h : RdAt w0 w L vt toks k e nest fa fc) (hb : Below w.heap.size w w') : RdAt w0 w' L vt toks k e nest fa fc :=
  ⟨gb_then h.grown hb, Blk.below h.rd hb, h.tok.below (hb.mono (Nat.le_of_lt h.rd.lt))⟩
theorem RdAt.draws (h : RdAt w0 w L vt toks k e nest fa fc) (n : Nat) : RdAt w0 (w.drewN n) L vt toks k e nest fa fc := h.below (below_drewN' (Below.refl _ _) n)
theorem RdAt.alloc (h : RdAt w0 w L vt toks k e nest fa fc) (o : Obj) : RdAt w0 (w.alloc o) L vt toks k e nest fa fc := h.below ((Below.refl _ _).alloc (Nat.le_refl _) o)
theorem RdAt.to (h : RdAt w0 w L vt toks k e nest fa fc) {k' : Nat} {nest' : Nat} {fa' fc' : Int} (hg : w.grownBy w' (some L)) (hr : RdB w' L vt k' e nest' fa' fc') : RdAt w0 w' L vt toks k' e nest' fa' fc' :=
  ⟨gb_trans h.grown hg, hr, h.tok.grown (Nat.le_of_lt h.rd.lt) hg⟩
theorem RdAt.put1 (h : RdAt w0 w L vt toks k e nest fa fc) (x : Nat) : RdAt w0 (w.setCell ⟨L, 1, none⟩ (.int .i64 x)) L vt toks x e nest fa fc := h.to (gb_own (gb_below (Below.refl _ _)) 1 _) (h.rd.at1 x)
theorem RdAt.put3 (h : RdAt w0 w L vt toks k e nest fa fc) (x : Nat) : RdAt w0 (w.setCell ⟨L, 3, none⟩ (.int .i64 x)) L vt toks k e x fa fc := h.to (gb_own (gb_below (Below.refl _ _)) 3 _) (h.rd.at3 x)
/-- A store into a block that was made since. -/
theorem RdAt.new (h : RdAt w0 w L vt toks k e nest fa fc) {b : Nat} (hb : w0.heap.size ≤ b) (hL : L < w0.heap.size) (o : Nat) (u : Value) : RdAt w0 (w.setCell ⟨b, o, none⟩ u) L vt toks k e nest fa fc := by
  have hn : ∀ j, j < w0.heap.size → (w.setCell ⟨b, o, none⟩ u).heap[j]? = w.heap[j]? := fun j hj => Below.heap_setCell w ⟨b, o, none⟩ u j (by show j ≠ b; omega)
  refine ⟨gb_new h.grown hb o u, (hn L hL).trans h.rd, h.tok.below ⟨rfl, rfl, rfl, by simp [World.setCell], fun j hj => hn j (by omega)⟩⟩
end
/-- What a phrase gives. -/
def RPhrasePost (L : Nat) (vt : Value) (toks : List Tok) (k : Nat) (e : Int) (nest : Nat) (x : Except Fault (Itm × List Tok)) (w : World) (en : Ending) (w' : World) : Prop :=
  match x with
  | .error y => ∃ it, en = .returned (phraseV it) ∧ RdAt w w' L vt toks k e nest y.1 y.2
  | .ok (it, r2) => en = .returned (phraseV it) ∧ it.name = [] ∧ it.nums = [] ∧ ∃ k', RdAt w w' L vt toks k' e nest 0 0 ∧ toks.drop k' = r2 ∧ k < k' ∧ k' ≤ toks.length
/-- In a phrase: the reader, the result's cell, the item. -/
structure PhAt (w0 w : World) (L : Nat) (vt : Value) (toks : List Tok) (k : Nat) (e : Int) (nest : Nat) (how at_ : Int) : Prop where
  at1 : RdAt w0 w L vt toks k e nest 0 0
  res : Blk w w0.heap.size 48 #[.int .i64 0, .int .i64 0, .int .u8 0, .string ⟨#[]⟩, .slice none 0 0]
  x : Blk w (w0.heap.size + 1) 48 #[.int .i64 how, .int .i64 at_, .int .u8 0, .string ⟨#[]⟩, .slice none 0 0]
theorem PhAt.below {w0 w w' : World} {L : Nat} {vt : Value} {toks : List Tok} {k : Nat} {e : Int} {nest : Nat} {how at_ : Int} (h : PhAt w0 w L vt toks k e nest how at_) (hb : Below w.heap.size w w') : PhAt w0 w' L vt toks k e nest how at_ :=
  ⟨h.at1.below hb, h.res.below hb, h.x.below hb⟩
theorem Blk.set50 {w : World} {b : Nat} {t : TypeId} {x0 x1 x2 x3 x4 : Value} (h : Blk w b t #[x0, x1, x2, x3, x4]) (u : Value) : Blk (w.setCell ⟨b, 0, none⟩ u) b t #[u, x1, x2, x3, x4] := by
  unfold Blk at h ⊢
  simp [World.setCell, Array.getElem?_modify, h]
theorem PhAt.how {w0 w : World} {L : Nat} {vt : Value} {toks : List Tok} {k : Nat} {e : Int} {nest : Nat} {how at_ : Int} (h : PhAt w0 w L vt toks k e nest how at_) (hL : L < w0.heap.size) (u : Int) : PhAt w0 (w.setCell ⟨w0.heap.size + 1, 0, none⟩ (.int .i64 u)) L vt toks k e nest u at_ :=
  ⟨h.at1.new (Nat.le_succ _) hL 0 _, h.res.other (by omega) _ _, h.x.set50 _⟩
set_option maxHeartbeats 40000000 in
set_option maxRecDepth 100000 in
theorem rphrase_any (two : Bool) (L : Nat) (vt : Value) (toks : List Tok) (k : Nat) (e : Int) (nest : Nat) (t : Tok) (ht : toks[k]? = some t) (hlx : ∀ t ∈ toks, t.lexed) (hlen : toks.length ≤ 1000000) (w : World) (hR : RdAt w w L vt toks k e nest 0 0) :
    Calls Tryd.prog 71 #[.pointer (some ⟨L, 0, none⟩), .bool two] w (RPhrasePost L vt toks k e nest (phraseP two t (toks.drop (k + 1))) w) := by
  have hk := (List.getElem?_eq_some_iff.1 ht).1
  have hL := hR.rd.lt
  have c0 : w.cell? ⟨L, 0, none⟩ = some vt := hR.rd.cell 0
  have c1 : w.cell? ⟨L, 1, none⟩ = some (.int .i64 k) := hR.rd.cell 1
  have f1 : w.frozen? ⟨L, 1, none⟩ = false := hR.rd.froz 1
  have HR := Lib.hid hR
  have HLx := Lib.hid hlx
  have HT := Lib.hid ht
  obtain ⟨a, cap, rfl, hc, hm, hcells⟩ := hR.tok
  obtain ⟨n, hn⟩ : ∃ n, n = toks.length := ⟨_, rfl⟩
  obtain ⟨g, o, rfl, hg, hcell⟩ := hcells (by omega)
  obtain ⟨d0, d1, d2, d3⟩ := hcell k t ht
  rw [← hn] at hc c0 hk hlen
  rw [← hn] at HR ⊢
  have HN := Lib.hid hn
  unfold maxLen at hm
  have hk2 : (k : Int) < n := by omega
  have hgw : g < w.heap.size := by omega
  have HV := Lib.hid (fun w => rVerb_any (mkS t.word) two w)
  rw [mkS_toList] at HV
  obtain ⟨tk, ta, tw, tn⟩ := t
  dsimp only at d0 d1 d2 d3 HV ⊢
  clear hcell hcells hn hR ht hlx d0 d3
  have HIs := Lib.hid (fun (s : ByteArray) (wx : World) (h : RdAt w wx L (.slice (some ⟨g, o, none⟩) n cap) toks (k + 1) e nest 0 0) => ris_any s L (.slice (some ⟨g, o, none⟩) n cap) toks (k + 1) e nest 0 0 wx h.rd h.full)
  have HNo := Lib.hid (fun (wx : World) (h : RdAt w wx L (.slice (some ⟨g, o, none⟩) n cap) toks k e nest 0 0) => rno_any 43 L (.slice (some ⟨g, o, none⟩) n cap) toks k e nest 0 0 wx h.rd h.full)
  rw [place_in e HT.out] at HNo
  have hlr : ∀ t ∈ toks.drop (k + 1), t.lexed := fun t h => HLx.out t (List.mem_of_mem_drop h)
  obtain ⟨X, hX⟩ : ∃ X, X = phraseP two ⟨tk, ta, tw, tn⟩ (toks.drop (k + 1)) := ⟨_, rfl⟩
  rw [← hX]
  have HX := Lib.hid hX
  clear hX
  cases two with
  | true =>
    cases hop : opP (toks.drop (k + 1)) with
    | false =>
      obtain ⟨⟨i47, i92⟩, i46⟩ : (isP [47] (toks.drop (k + 1)) = false ∧ isP [92] (toks.drop (k + 1)) = false) ∧ isP [46] (toks.drop (k + 1)) = false := by
        have := (opP_eq hlr).symm.trans hop
        simpa [Bool.or_eq_false_iff] using this
      have I47 := Lib.hid (fun wx h => HIs.out ⟨#[47]⟩ wx h)
      have I92 := Lib.hid (fun wx h => HIs.out ⟨#[92]⟩ wx h)
      have I46 := Lib.hid (fun wx h => HIs.out ⟨#[46]⟩ wx h)
      rw [show (⟨#[47]⟩ : ByteArray).data.toList = [47] from rfl, i47] at I47
      rw [show (⟨#[92]⟩ : ByteArray).data.toList = [92] from rfl, i92] at I92
      rw [show (⟨#[46]⟩ : ByteArray).data.toList = [46] from rfl, i46] at I46
      have HXn := Lib.hid (HX.out.trans (phrase_nop (left := true) hop))
      clear i47 i92 i46 hop hlr HIs
      obtain ⟨fv, hfv⟩ : ∃ fv, fv = verbF tw true := ⟨_, rfl⟩
      dsimp only at HXn
      rw [← hfv] at HV HXn
      have HFv := Lib.hid hfv
      clear hfv

      go_enter Tryd.func71, Tryd.ntmps71
      go_wp2_with fail
      go_region
      go_wp2_with fail
      have H0 : PhAt w ((w.alloc (.cells #[.int .i64 0, .int .i64 0, .int .u8 0, .string ⟨#[]⟩, .slice none 0 0] 48)).alloc (.cells #[.int .i64 4, .int .i64 ta, .int .u8 0, .string ⟨#[]⟩, .slice none 0 0] 48)).drew L (.slice (some ⟨g, o, none⟩) n cap) toks k e nest 4 ta :=
        ⟨HR.out.below ((((Below.refl _ _).alloc (Nat.le_refl _) _).alloc (by simp) _).drew), (Blk.new w _ _ rfl).alloc _, Blk.new _ _ _ (by simp)⟩
      generalize ((w.alloc (.cells #[.int .i64 0, .int .i64 0, .int .u8 0, .string ⟨#[]⟩, .slice none 0 0] 48)).alloc (.cells #[.int .i64 4, .int .i64 ta, .int .u8 0, .string ⟨#[]⟩, .slice none 0 0] 48)).drew = W at H0 ⊢
      have b0 : W.cell? ⟨L, 0, none⟩ = some (.slice (some ⟨g, o, none⟩) n cap) := H0.at1.rd.cell 0
      have b1 : W.cell? ⟨L, 1, none⟩ = some (.int .i64 k) := H0.at1.rd.cell 1
      have bf : W.frozen? ⟨L, 1, none⟩ = false := H0.at1.rd.froz 1
      have b2 : W.cell? ⟨g, o + k * 4 + 2, none⟩ = some (.string (mkS tw)) := by
        rw [World.cell?_of_block (a := ⟨g, o + k * 4 + 2, none⟩) (H0.at1.grown.block g hgw (fun e => by injection e with e; omega))]
        exact d2
      have H0' := Lib.hid H0
      clear H0 c0 c1 f1 d1 d2
      go_quiet (fail)
      go_wp2_with fail
      refine (HV.out _).mono ?_
      rintro _ _ ⟨rfl, rfl⟩
      have H6 : PhAt w ((W.drewN nq).setCell ⟨L, 1, none⟩ (.int .i64 ((k : Int) + 1))) L (.slice (some ⟨g, o, none⟩) n cap) toks (k + 1) e nest 4 ta := ⟨(H0'.out.at1.draws nq).put1 (k + 1), (H0'.out.res.draws nq).other (by omega) _ _, (H0'.out.x.draws nq).other (by omega) _ _⟩
      generalize ((W.drewN nq).setCell ⟨L, 1, none⟩ (.int .i64 ((k : Int) + 1))) = W6 at H6 ⊢
      have W6' := Lib.hid H6
      clear H6 b0 b1 bf b2 H0'
      by_cases h0 : fv = 0
      · subst h0
        go_wp2_with fail
        refine (I47.out _ W6'.out.at1).mono ?_
        rintro _ W6_1 ⟨rfl, hb1⟩
        have W6_1' := Lib.hid (W6'.out.below hb1)
        clear hb1

        go_wp2_with fail
        refine (I92.out _ W6_1'.out.at1).mono ?_
        rintro _ W6_2 ⟨rfl, hb2⟩
        have W6_2' := Lib.hid (W6_1'.out.below hb2)
        clear hb2

        go_wp2_with fail
        refine (I46.out _ W6_2'.out.at1).mono ?_
        rintro _ W6_3 ⟨rfl, hb3⟩
        have W6_3' := Lib.hid (W6_2'.out.below hb3)
        clear hb3

        have HXe : Hid (X = .error (ta, 43)) := Lib.hid (by rw [HXn.out]; rfl)
        have hq := W6_3'.out
        have rf1 : W6_3.frozen? ⟨L, 1, none⟩ = false := hq.at1.rd.froz 1
        have r1 := hq.at1.rd.cell 1
        simp at r1
        have H8 : RdAt w (W6_3.setCell ⟨L, 1, none⟩ (.int .i64 k)) L (.slice (some ⟨g, o, none⟩) n cap) toks k e nest 0 0 := (hq.at1).put1 k
        have hres8 : Blk (W6_3.setCell ⟨L, 1, none⟩ (.int .i64 k)) w.heap.size 48 #[.int .i64 0, .int .i64 0, .int .u8 0, .string ⟨#[]⟩, .slice none 0 0] := hq.res.other (by omega) _ _
        have hx8 : Blk (W6_3.setCell ⟨L, 1, none⟩ (.int .i64 k)) (w.heap.size + 1) 48 #[.int .i64 4, .int .i64 ta, .int .u8 0, .string ⟨#[]⟩, .slice none 0 0] := hq.x.other (by omega) _ _
        have H8' := Lib.hid H8
        have HB8 := Lib.hid (And.intro hres8 hx8)
        clear hq H8 hres8 hx8
        go_wp2_with fail
        refine (HNo.out _ H8'.out).mono ?_
        rintro _ w9 ⟨rfl, hr9, hg9⟩
        have hrd := H8'.out.to hg9 hr9
        have hres := (hg9.block w.heap.size HB8.out.1.lt (fun e => by injection e with e; omega)).trans HB8.out.1
        have hx := (hg9.block (w.heap.size + 1) HB8.out.2.lt (fun e => by injection e with e; omega)).trans HB8.out.2
        replace hres : Blk w9 w.heap.size 48 #[.int .i64 0, .int .i64 0, .int .u8 0, .string ⟨#[]⟩, .slice none 0 0] := hres
        replace hx : Blk w9 (w.heap.size + 1) 48 #[.int .i64 4, .int .i64 ta, .int .u8 0, .string ⟨#[]⟩, .slice none 0 0] := hx
        clear hr9 hg9 rf1 r1

        have a0 := hres.cell 0
        have a1 := hres.cell 1
        have a2 := hres.cell 2
        have a3 := hres.cell 3
        have a4 := hres.cell 4
        have i0 := hx.cell 0
        have i1 := hx.cell 1
        have i2 := hx.cell 2
        have i3 := hx.cell 3
        have i4 := hx.cell 4
        simp at a0 a1 a2 a3 a4 i0 i1 i2 i3 i4
        have fa := hres.froz
        have fi := hx.froz
        have HRD := Lib.hid hrd
        clear hrd hres hx
        go_wp2_with fail
        refine bodyPost_ret (v := .agg #[.int .i64 4, .int .i64 ta, .int .u8 0, .string ⟨#[]⟩, .slice none 0 0]) (by simp [results, Tryd.results71, go_sem, a0, a1, a2, a3, a4]) rfl ?_
        rw [HXe.out]
        refine ⟨⟨4, ta, 0, [], []⟩, rfl, ?_⟩
        show RdAt w _ L _ toks k e nest ta 43
        repeat (first | with_reducible exact HRD.out | with_reducible refine RdAt.new ?_ (by omega) hL _ _)
      · have h0b : (fv != 0) = true := by rw [bne_iff_ne]; exact h0
        have HH0 := Lib.hid h0
        clear h0
        go_wp2_with fail
        refine (I47.out _ W6'.out.at1).mono ?_
        rintro _ W6_1 ⟨rfl, hb1⟩
        have W6_1' := Lib.hid (W6'.out.below hb1)
        clear hb1

        go_wp2_with fail
        refine (I92.out _ W6_1'.out.at1).mono ?_
        rintro _ W6_2 ⟨rfl, hb2⟩
        have W6_2' := Lib.hid (W6_1'.out.below hb2)
        clear hb2

        go_wp2_with fail
        refine (I46.out _ W6_2'.out.at1).mono ?_
        rintro _ W6_3 ⟨rfl, hb3⟩
        have W6_3' := Lib.hid (W6_2'.out.below hb3)
        clear hb3

        have HXe : Hid (X = .ok (⟨4, ta, fv, [], []⟩, toks.drop (k + 1))) := Lib.hid (by rw [HXn.out, if_neg HH0.out]; rfl)
        have hrd := W6_3'.out.at1
        have hres := W6_3'.out.res
        have hx := W6_3'.out.x

        have a0 := hres.cell 0
        have a1 := hres.cell 1
        have a2 := hres.cell 2
        have a3 := hres.cell 3
        have a4 := hres.cell 4
        have i0 := hx.cell 0
        have i1 := hx.cell 1
        have i2 := hx.cell 2
        have i3 := hx.cell 3
        have i4 := hx.cell 4
        simp at a0 a1 a2 a3 a4 i0 i1 i2 i3 i4
        have fa := hres.froz
        have fi := hx.froz
        have HRD := Lib.hid hrd
        clear hrd hres hx
        go_wp2_with fail
        refine bodyPost_ret (v := .agg #[.int .i64 4, .int .i64 ta, .int .u8 fv, .string ⟨#[]⟩, .slice none 0 0]) (by simp [results, Tryd.results71, go_sem, a0, a1, a2, a3, a4]) rfl ?_
        rw [HXe.out]
        refine ⟨rfl, rfl, rfl, k + 1, ?_, rfl, by omega, by have := HN.out; omega⟩
        repeat (first | with_reducible exact HRD.out | with_reducible refine RdAt.new ?_ (by omega) hL _ _)
    | true =>
      obtain ⟨q, r2, hd, hop⟩ : ∃ q r2, toks.drop (k + 1) = q :: r2 ∧ isOp q = true := by
        cases hd : toks.drop (k + 1) with
        | nil => rw [hd] at hop; cases hop
        | cons q r2 => rw [hd] at hop; exact ⟨q, r2, rfl, hop⟩
      obtain ⟨hqk, hqw | hqw | hqw⟩ := op_cases hop
      · have I47 := Lib.hid (fun wx h => HIs.out ⟨#[47]⟩ wx h)
        have I92 := Lib.hid (fun wx h => HIs.out ⟨#[92]⟩ wx h)
        have I46 := Lib.hid (fun wx h => HIs.out ⟨#[46]⟩ wx h)
        rw [show (⟨#[47]⟩ : ByteArray).data.toList = [47] from rfl, show isP [47] (toks.drop (k + 1)) = true by rw [hd]; simp [isP, hqk, hqw]] at I47
        rw [show (⟨#[92]⟩ : ByteArray).data.toList = [92] from rfl, show isP [92] (toks.drop (k + 1)) = false by rw [hd]; simp [isP, hqk, hqw]] at I92
        rw [show (⟨#[46]⟩ : ByteArray).data.toList = [46] from rfl, show isP [46] (toks.drop (k + 1)) = false by rw [hd]; simp [isP, hqk, hqw]] at I46
        have HXn : Hid (X = if 17 < twoF tw ∨ false ≠ true ∨ twoF tw = 0 then .error (ta, 43) else .ok (⟨5, ta, twoF tw, [], []⟩, r2)) := by
          apply Lib.hid
          rw [HX.out, hd, phrase_op hop, hqw]
          rfl
        have HW := Lib.hid (fun w => rVerb_any (mkS tw) true w)
        rw [mkS_toList, show verbF tw true = twoF tw from rfl] at HW
        obtain ⟨fv, hfv⟩ : ∃ fv, fv = twoF tw := ⟨_, rfl⟩
        rw [← hfv] at HW HXn
        have HFv := Lib.hid hfv
        have HD := Lib.hid hd
        clear hfv hlr HIs hop hqk hqw hd
        have HDr : Hid (toks.drop (k + 1 + 1) = r2) := Lib.hid (by rw [← List.drop_drop, List.drop_one, HD.out]; rfl)
        have hk1 : k + 1 < n := by
          have := congrArg List.length HD.out
          rw [List.length_drop, List.length_cons] at this
          have := HN.out
          omega

        go_enter Tryd.func71, Tryd.ntmps71
        go_wp2_with fail
        go_region
        go_wp2_with fail
        have H0 : PhAt w ((w.alloc (.cells #[.int .i64 0, .int .i64 0, .int .u8 0, .string ⟨#[]⟩, .slice none 0 0] 48)).alloc (.cells #[.int .i64 4, .int .i64 ta, .int .u8 0, .string ⟨#[]⟩, .slice none 0 0] 48)).drew L (.slice (some ⟨g, o, none⟩) n cap) toks k e nest 4 ta :=
          ⟨HR.out.below ((((Below.refl _ _).alloc (Nat.le_refl _) _).alloc (by simp) _).drew), (Blk.new w _ _ rfl).alloc _, Blk.new _ _ _ (by simp)⟩
        generalize ((w.alloc (.cells #[.int .i64 0, .int .i64 0, .int .u8 0, .string ⟨#[]⟩, .slice none 0 0] 48)).alloc (.cells #[.int .i64 4, .int .i64 ta, .int .u8 0, .string ⟨#[]⟩, .slice none 0 0] 48)).drew = W at H0 ⊢
        have b0 : W.cell? ⟨L, 0, none⟩ = some (.slice (some ⟨g, o, none⟩) n cap) := H0.at1.rd.cell 0
        have b1 : W.cell? ⟨L, 1, none⟩ = some (.int .i64 k) := H0.at1.rd.cell 1
        have bf : W.frozen? ⟨L, 1, none⟩ = false := H0.at1.rd.froz 1
        have b2 : W.cell? ⟨g, o + k * 4 + 2, none⟩ = some (.string (mkS tw)) := by
          rw [World.cell?_of_block (a := ⟨g, o + k * 4 + 2, none⟩) (H0.at1.grown.block g hgw (fun e => by injection e with e; omega))]
          exact d2
        have H0' := Lib.hid H0
        clear H0 c0 c1 f1 d1 d2
        go_quiet (fail)
        go_wp2_with fail
        refine (HV.out _).mono ?_
        rintro _ _ ⟨rfl, rfl⟩
        have H6 : PhAt w ((W.drewN nq).setCell ⟨L, 1, none⟩ (.int .i64 ((k : Int) + 1))) L (.slice (some ⟨g, o, none⟩) n cap) toks (k + 1) e nest 4 ta := ⟨(H0'.out.at1.draws nq).put1 (k + 1), (H0'.out.res.draws nq).other (by omega) _ _, (H0'.out.x.draws nq).other (by omega) _ _⟩
        generalize ((W.drewN nq).setCell ⟨L, 1, none⟩ (.int .i64 ((k : Int) + 1))) = W6 at H6 ⊢
        have W6' := Lib.hid H6
        clear H6 b0 b1 bf b2 H0'

        go_wp2_with fail
        refine (I47.out _ W6'.out.at1).mono ?_
        rintro _ W6_1 ⟨rfl, hb1⟩
        have W6_1' := Lib.hid (W6'.out.below hb1)
        clear hb1

        go_wp2_with fail
        refine (I46.out _ W6_1'.out.at1).mono ?_
        rintro _ W6_2 ⟨rfl, hb2⟩
        have W6_2' := Lib.hid (W6_1'.out.below hb2)
        clear hb2

        have x0 := W6_2'.out.x.cell 0
        simp at x0
        have xf : W6_2.frozen? ⟨w.heap.size + 1, 0, none⟩ = false := W6_2'.out.x.froz 0
        have W7' := Lib.hid (W6_2'.out.how hL 6)
        go_wp2_with fail
        refine (I47.out _ W7'.out.at1).mono ?_
        rintro _ W8 ⟨rfl, hb8⟩
        have W8' := Lib.hid (W7'.out.below hb8)
        clear hb8 x0 xf

        have x0 := W8'.out.x.cell 0
        simp at x0
        have xf : W8.frozen? ⟨w.heap.size + 1, 0, none⟩ = false := W8'.out.x.froz 0
        have W9' := Lib.hid (W8'.out.how hL 5)
        go_wp2_with fail
        refine (HW.out _).mono ?_
        rintro _ _ ⟨rfl, rfl⟩
        generalize W8.setCell ⟨w.heap.size + 1, 0, none⟩ (.int .i64 5) = W9 at W9' ⊢
        clear x0 xf
        by_cases h0 : fv = 0
        · subst h0

          have HXe : Hid (X = .error (ta, 43)) := Lib.hid (by rw [HXn.out, if_pos (.inr (.inr rfl))])
          have hq := W9'.out
          have rf1 : W9.frozen? ⟨L, 1, none⟩ = false := hq.at1.rd.froz 1
          have r1 := hq.at1.rd.cell 1
          simp at r1
          have H8 : RdAt w ((W9.setCell ⟨L, 1, none⟩ (.int .i64 ((k : Int) + 1 + 1))).setCell ⟨L, 1, none⟩ (.int .i64 k)) L (.slice (some ⟨g, o, none⟩) n cap) toks k e nest 0 0 := ((hq.at1.put1 (k + 1 + 1))).put1 k
          have hres8 : Blk ((W9.setCell ⟨L, 1, none⟩ (.int .i64 ((k : Int) + 1 + 1))).setCell ⟨L, 1, none⟩ (.int .i64 k)) w.heap.size 48 #[.int .i64 0, .int .i64 0, .int .u8 0, .string ⟨#[]⟩, .slice none 0 0] := (hq.res.other (by omega) _ _).other (by omega) _ _
          have hx8 : Blk ((W9.setCell ⟨L, 1, none⟩ (.int .i64 ((k : Int) + 1 + 1))).setCell ⟨L, 1, none⟩ (.int .i64 k)) (w.heap.size + 1) 48 #[.int .i64 5, .int .i64 ta, .int .u8 0, .string ⟨#[]⟩, .slice none 0 0] := (hq.x.other (by omega) _ _).other (by omega) _ _
          have H8' := Lib.hid H8
          have HB8 := Lib.hid (And.intro hres8 hx8)
          clear hq H8 hres8 hx8
          go_wp2_with fail
          refine (HNo.out _ H8'.out).mono ?_
          rintro _ w9 ⟨rfl, hr9, hg9⟩
          have hrd := H8'.out.to hg9 hr9
          have hres := (hg9.block w.heap.size HB8.out.1.lt (fun e => by injection e with e; omega)).trans HB8.out.1
          have hx := (hg9.block (w.heap.size + 1) HB8.out.2.lt (fun e => by injection e with e; omega)).trans HB8.out.2
          replace hres : Blk w9 w.heap.size 48 #[.int .i64 0, .int .i64 0, .int .u8 0, .string ⟨#[]⟩, .slice none 0 0] := hres
          replace hx : Blk w9 (w.heap.size + 1) 48 #[.int .i64 5, .int .i64 ta, .int .u8 0, .string ⟨#[]⟩, .slice none 0 0] := hx
          clear hr9 hg9 rf1 r1

          have a0 := hres.cell 0
          have a1 := hres.cell 1
          have a2 := hres.cell 2
          have a3 := hres.cell 3
          have a4 := hres.cell 4
          have i0 := hx.cell 0
          have i1 := hx.cell 1
          have i2 := hx.cell 2
          have i3 := hx.cell 3
          have i4 := hx.cell 4
          simp at a0 a1 a2 a3 a4 i0 i1 i2 i3 i4
          have fa := hres.froz
          have fi := hx.froz
          have HRD := Lib.hid hrd
          clear hrd hres hx
          go_wp2_with fail
          refine bodyPost_ret (v := .agg #[.int .i64 5, .int .i64 ta, .int .u8 0, .string ⟨#[]⟩, .slice none 0 0]) (by simp [results, Tryd.results71, go_sem, a0, a1, a2, a3, a4]) rfl ?_
          rw [HXe.out]
          refine ⟨⟨5, ta, 0, [], []⟩, rfl, ?_⟩
          show RdAt w _ L _ toks k e nest ta 43
          repeat (first | with_reducible exact HRD.out | with_reducible refine RdAt.new ?_ (by omega) hL _ _)
        · have h0b : (fv != 0) = true := by rw [bne_iff_ne]; exact h0
          by_cases h17 : 17 < fv
          · have h17i : ¬ (fv : Int) ≤ 17 := by omega
            have h17b : decide ((fv : Int) ≤ 17) = false := by rw [decide_eq_false_iff_not]; exact h17i

            have HXe : Hid (X = .error (ta, 43)) := Lib.hid (by rw [HXn.out, if_pos (.inl h17)])
            have hq := W9'.out
            have rf1 : W9.frozen? ⟨L, 1, none⟩ = false := hq.at1.rd.froz 1
            have r1 := hq.at1.rd.cell 1
            simp at r1
            have H8 : RdAt w ((W9.setCell ⟨L, 1, none⟩ (.int .i64 ((k : Int) + 1 + 1))).setCell ⟨L, 1, none⟩ (.int .i64 k)) L (.slice (some ⟨g, o, none⟩) n cap) toks k e nest 0 0 := ((hq.at1.put1 (k + 1 + 1))).put1 k
            have hres8 : Blk ((W9.setCell ⟨L, 1, none⟩ (.int .i64 ((k : Int) + 1 + 1))).setCell ⟨L, 1, none⟩ (.int .i64 k)) w.heap.size 48 #[.int .i64 0, .int .i64 0, .int .u8 0, .string ⟨#[]⟩, .slice none 0 0] := (hq.res.other (by omega) _ _).other (by omega) _ _
            have hx8 : Blk ((W9.setCell ⟨L, 1, none⟩ (.int .i64 ((k : Int) + 1 + 1))).setCell ⟨L, 1, none⟩ (.int .i64 k)) (w.heap.size + 1) 48 #[.int .i64 5, .int .i64 ta, .int .u8 0, .string ⟨#[]⟩, .slice none 0 0] := (hq.x.other (by omega) _ _).other (by omega) _ _
            have H8' := Lib.hid H8
            have HB8 := Lib.hid (And.intro hres8 hx8)
            clear hq H8 hres8 hx8
            go_wp2_with fail
            refine (HNo.out _ H8'.out).mono ?_
            rintro _ w9 ⟨rfl, hr9, hg9⟩
            have hrd := H8'.out.to hg9 hr9
            have hres := (hg9.block w.heap.size HB8.out.1.lt (fun e => by injection e with e; omega)).trans HB8.out.1
            have hx := (hg9.block (w.heap.size + 1) HB8.out.2.lt (fun e => by injection e with e; omega)).trans HB8.out.2
            replace hres : Blk w9 w.heap.size 48 #[.int .i64 0, .int .i64 0, .int .u8 0, .string ⟨#[]⟩, .slice none 0 0] := hres
            replace hx : Blk w9 (w.heap.size + 1) 48 #[.int .i64 5, .int .i64 ta, .int .u8 0, .string ⟨#[]⟩, .slice none 0 0] := hx
            clear hr9 hg9 rf1 r1

            have a0 := hres.cell 0
            have a1 := hres.cell 1
            have a2 := hres.cell 2
            have a3 := hres.cell 3
            have a4 := hres.cell 4
            have i0 := hx.cell 0
            have i1 := hx.cell 1
            have i2 := hx.cell 2
            have i3 := hx.cell 3
            have i4 := hx.cell 4
            simp at a0 a1 a2 a3 a4 i0 i1 i2 i3 i4
            have fa := hres.froz
            have fi := hx.froz
            have HRD := Lib.hid hrd
            clear hrd hres hx
            go_wp2_with fail
            refine bodyPost_ret (v := .agg #[.int .i64 5, .int .i64 ta, .int .u8 fv, .string ⟨#[]⟩, .slice none 0 0]) (by simp [results, Tryd.results71, go_sem, a0, a1, a2, a3, a4]) rfl ?_
            rw [HXe.out]
            refine ⟨⟨5, ta, fv, [], []⟩, rfl, ?_⟩
            show RdAt w _ L _ toks k e nest ta 43
            repeat (first | with_reducible exact HRD.out | with_reducible refine RdAt.new ?_ (by omega) hL _ _)
          · have h17i : (fv : Int) ≤ 17 := by omega
            have h17b : decide ((fv : Int) ≤ 17) = true := by rw [decide_eq_true_iff]; exact h17i

            have HXe : Hid (X = .error (ta, 43)) := Lib.hid (by rw [HXn.out, if_pos (.inr (.inl (by decide)))])
            have hq := W9'.out
            have rf1 : W9.frozen? ⟨L, 1, none⟩ = false := hq.at1.rd.froz 1
            have r1 := hq.at1.rd.cell 1
            simp at r1
            have H8 : RdAt w ((W9.setCell ⟨L, 1, none⟩ (.int .i64 ((k : Int) + 1 + 1))).setCell ⟨L, 1, none⟩ (.int .i64 k)) L (.slice (some ⟨g, o, none⟩) n cap) toks k e nest 0 0 := ((hq.at1.put1 (k + 1 + 1))).put1 k
            have hres8 : Blk ((W9.setCell ⟨L, 1, none⟩ (.int .i64 ((k : Int) + 1 + 1))).setCell ⟨L, 1, none⟩ (.int .i64 k)) w.heap.size 48 #[.int .i64 0, .int .i64 0, .int .u8 0, .string ⟨#[]⟩, .slice none 0 0] := (hq.res.other (by omega) _ _).other (by omega) _ _
            have hx8 : Blk ((W9.setCell ⟨L, 1, none⟩ (.int .i64 ((k : Int) + 1 + 1))).setCell ⟨L, 1, none⟩ (.int .i64 k)) (w.heap.size + 1) 48 #[.int .i64 5, .int .i64 ta, .int .u8 0, .string ⟨#[]⟩, .slice none 0 0] := (hq.x.other (by omega) _ _).other (by omega) _ _
            have H8' := Lib.hid H8
            have HB8 := Lib.hid (And.intro hres8 hx8)
            clear hq H8 hres8 hx8
            go_wp2_with fail
            refine (HNo.out _ H8'.out).mono ?_
            rintro _ w9 ⟨rfl, hr9, hg9⟩
            have hrd := H8'.out.to hg9 hr9
            have hres := (hg9.block w.heap.size HB8.out.1.lt (fun e => by injection e with e; omega)).trans HB8.out.1
            have hx := (hg9.block (w.heap.size + 1) HB8.out.2.lt (fun e => by injection e with e; omega)).trans HB8.out.2
            replace hres : Blk w9 w.heap.size 48 #[.int .i64 0, .int .i64 0, .int .u8 0, .string ⟨#[]⟩, .slice none 0 0] := hres
            replace hx : Blk w9 (w.heap.size + 1) 48 #[.int .i64 5, .int .i64 ta, .int .u8 0, .string ⟨#[]⟩, .slice none 0 0] := hx
            clear hr9 hg9 rf1 r1

            have a0 := hres.cell 0
            have a1 := hres.cell 1
            have a2 := hres.cell 2
            have a3 := hres.cell 3
            have a4 := hres.cell 4
            have i0 := hx.cell 0
            have i1 := hx.cell 1
            have i2 := hx.cell 2
            have i3 := hx.cell 3
            have i4 := hx.cell 4
            simp at a0 a1 a2 a3 a4 i0 i1 i2 i3 i4
            have fa := hres.froz
            have fi := hx.froz
            have HRD := Lib.hid hrd
            clear hrd hres hx
            go_wp2_with fail
            refine bodyPost_ret (v := .agg #[.int .i64 5, .int .i64 ta, .int .u8 fv, .string ⟨#[]⟩, .slice none 0 0]) (by simp [results, Tryd.results71, go_sem, a0, a1, a2, a3, a4]) rfl ?_
            rw [HXe.out]
            refine ⟨⟨5, ta, fv, [], []⟩, rfl, ?_⟩
            show RdAt w _ L _ toks k e nest ta 43
            repeat (first | with_reducible exact HRD.out | with_reducible refine RdAt.new ?_ (by omega) hL _ _)
      · have I47 := Lib.hid (fun wx h => HIs.out ⟨#[47]⟩ wx h)
        have I92 := Lib.hid (fun wx h => HIs.out ⟨#[92]⟩ wx h)
        have I46 := Lib.hid (fun wx h => HIs.out ⟨#[46]⟩ wx h)
        rw [show (⟨#[47]⟩ : ByteArray).data.toList = [47] from rfl, show isP [47] (toks.drop (k + 1)) = false by rw [hd]; simp [isP, hqk, hqw]] at I47
        rw [show (⟨#[92]⟩ : ByteArray).data.toList = [92] from rfl, show isP [92] (toks.drop (k + 1)) = true by rw [hd]; simp [isP, hqk, hqw]] at I92
        rw [show (⟨#[46]⟩ : ByteArray).data.toList = [46] from rfl, show isP [46] (toks.drop (k + 1)) = false by rw [hd]; simp [isP, hqk, hqw]] at I46
        have HXn : Hid (X = if 17 < twoF tw ∨ false ≠ true ∨ twoF tw = 0 then .error (ta, 43) else .ok (⟨6, ta, twoF tw, [], []⟩, r2)) := by
          apply Lib.hid
          rw [HX.out, hd, phrase_op hop, hqw]
          rfl
        have HW := Lib.hid (fun w => rVerb_any (mkS tw) true w)
        rw [mkS_toList, show verbF tw true = twoF tw from rfl] at HW
        obtain ⟨fv, hfv⟩ : ∃ fv, fv = twoF tw := ⟨_, rfl⟩
        rw [← hfv] at HW HXn
        have HFv := Lib.hid hfv
        have HD := Lib.hid hd
        clear hfv hlr HIs hop hqk hqw hd
        have HDr : Hid (toks.drop (k + 1 + 1) = r2) := Lib.hid (by rw [← List.drop_drop, List.drop_one, HD.out]; rfl)
        have hk1 : k + 1 < n := by
          have := congrArg List.length HD.out
          rw [List.length_drop, List.length_cons] at this
          have := HN.out
          omega

        go_enter Tryd.func71, Tryd.ntmps71
        go_wp2_with fail
        go_region
        go_wp2_with fail
        have H0 : PhAt w ((w.alloc (.cells #[.int .i64 0, .int .i64 0, .int .u8 0, .string ⟨#[]⟩, .slice none 0 0] 48)).alloc (.cells #[.int .i64 4, .int .i64 ta, .int .u8 0, .string ⟨#[]⟩, .slice none 0 0] 48)).drew L (.slice (some ⟨g, o, none⟩) n cap) toks k e nest 4 ta :=
          ⟨HR.out.below ((((Below.refl _ _).alloc (Nat.le_refl _) _).alloc (by simp) _).drew), (Blk.new w _ _ rfl).alloc _, Blk.new _ _ _ (by simp)⟩
        generalize ((w.alloc (.cells #[.int .i64 0, .int .i64 0, .int .u8 0, .string ⟨#[]⟩, .slice none 0 0] 48)).alloc (.cells #[.int .i64 4, .int .i64 ta, .int .u8 0, .string ⟨#[]⟩, .slice none 0 0] 48)).drew = W at H0 ⊢
        have b0 : W.cell? ⟨L, 0, none⟩ = some (.slice (some ⟨g, o, none⟩) n cap) := H0.at1.rd.cell 0
        have b1 : W.cell? ⟨L, 1, none⟩ = some (.int .i64 k) := H0.at1.rd.cell 1
        have bf : W.frozen? ⟨L, 1, none⟩ = false := H0.at1.rd.froz 1
        have b2 : W.cell? ⟨g, o + k * 4 + 2, none⟩ = some (.string (mkS tw)) := by
          rw [World.cell?_of_block (a := ⟨g, o + k * 4 + 2, none⟩) (H0.at1.grown.block g hgw (fun e => by injection e with e; omega))]
          exact d2
        have H0' := Lib.hid H0
        clear H0 c0 c1 f1 d1 d2
        go_quiet (fail)
        go_wp2_with fail
        refine (HV.out _).mono ?_
        rintro _ _ ⟨rfl, rfl⟩
        have H6 : PhAt w ((W.drewN nq).setCell ⟨L, 1, none⟩ (.int .i64 ((k : Int) + 1))) L (.slice (some ⟨g, o, none⟩) n cap) toks (k + 1) e nest 4 ta := ⟨(H0'.out.at1.draws nq).put1 (k + 1), (H0'.out.res.draws nq).other (by omega) _ _, (H0'.out.x.draws nq).other (by omega) _ _⟩
        generalize ((W.drewN nq).setCell ⟨L, 1, none⟩ (.int .i64 ((k : Int) + 1))) = W6 at H6 ⊢
        have W6' := Lib.hid H6
        clear H6 b0 b1 bf b2 H0'

        go_wp2_with fail
        refine (I47.out _ W6'.out.at1).mono ?_
        rintro _ W6_1 ⟨rfl, hb1⟩
        have W6_1' := Lib.hid (W6'.out.below hb1)
        clear hb1

        go_wp2_with fail
        refine (I92.out _ W6_1'.out.at1).mono ?_
        rintro _ W6_2 ⟨rfl, hb2⟩
        have W6_2' := Lib.hid (W6_1'.out.below hb2)
        clear hb2

        go_wp2_with fail
        refine (I46.out _ W6_2'.out.at1).mono ?_
        rintro _ W6_3 ⟨rfl, hb3⟩
        have W6_3' := Lib.hid (W6_2'.out.below hb3)
        clear hb3

        have x0 := W6_3'.out.x.cell 0
        simp at x0
        have xf : W6_3.frozen? ⟨w.heap.size + 1, 0, none⟩ = false := W6_3'.out.x.froz 0
        have W7' := Lib.hid (W6_3'.out.how hL 6)
        go_wp2_with fail
        refine (I47.out _ W7'.out.at1).mono ?_
        rintro _ W8 ⟨rfl, hb8⟩
        have W8' := Lib.hid (W7'.out.below hb8)
        clear hb8 x0 xf

        go_wp2_with fail
        refine (HW.out _).mono ?_
        rintro _ _ ⟨rfl, rfl⟩
        by_cases h0 : fv = 0
        · subst h0

          have HXe : Hid (X = .error (ta, 43)) := Lib.hid (by rw [HXn.out, if_pos (.inr (.inr rfl))])
          have hq := W8'.out
          have rf1 : W8.frozen? ⟨L, 1, none⟩ = false := hq.at1.rd.froz 1
          have r1 := hq.at1.rd.cell 1
          simp at r1
          have H8 : RdAt w ((W8.setCell ⟨L, 1, none⟩ (.int .i64 ((k : Int) + 1 + 1))).setCell ⟨L, 1, none⟩ (.int .i64 k)) L (.slice (some ⟨g, o, none⟩) n cap) toks k e nest 0 0 := ((hq.at1.put1 (k + 1 + 1))).put1 k
          have hres8 : Blk ((W8.setCell ⟨L, 1, none⟩ (.int .i64 ((k : Int) + 1 + 1))).setCell ⟨L, 1, none⟩ (.int .i64 k)) w.heap.size 48 #[.int .i64 0, .int .i64 0, .int .u8 0, .string ⟨#[]⟩, .slice none 0 0] := (hq.res.other (by omega) _ _).other (by omega) _ _
          have hx8 : Blk ((W8.setCell ⟨L, 1, none⟩ (.int .i64 ((k : Int) + 1 + 1))).setCell ⟨L, 1, none⟩ (.int .i64 k)) (w.heap.size + 1) 48 #[.int .i64 6, .int .i64 ta, .int .u8 0, .string ⟨#[]⟩, .slice none 0 0] := (hq.x.other (by omega) _ _).other (by omega) _ _
          have H8' := Lib.hid H8
          have HB8 := Lib.hid (And.intro hres8 hx8)
          clear hq H8 hres8 hx8
          go_wp2_with fail
          refine (HNo.out _ H8'.out).mono ?_
          rintro _ w9 ⟨rfl, hr9, hg9⟩
          have hrd := H8'.out.to hg9 hr9
          have hres := (hg9.block w.heap.size HB8.out.1.lt (fun e => by injection e with e; omega)).trans HB8.out.1
          have hx := (hg9.block (w.heap.size + 1) HB8.out.2.lt (fun e => by injection e with e; omega)).trans HB8.out.2
          replace hres : Blk w9 w.heap.size 48 #[.int .i64 0, .int .i64 0, .int .u8 0, .string ⟨#[]⟩, .slice none 0 0] := hres
          replace hx : Blk w9 (w.heap.size + 1) 48 #[.int .i64 6, .int .i64 ta, .int .u8 0, .string ⟨#[]⟩, .slice none 0 0] := hx
          clear hr9 hg9 rf1 r1

          have a0 := hres.cell 0
          have a1 := hres.cell 1
          have a2 := hres.cell 2
          have a3 := hres.cell 3
          have a4 := hres.cell 4
          have i0 := hx.cell 0
          have i1 := hx.cell 1
          have i2 := hx.cell 2
          have i3 := hx.cell 3
          have i4 := hx.cell 4
          simp at a0 a1 a2 a3 a4 i0 i1 i2 i3 i4
          have fa := hres.froz
          have fi := hx.froz
          have HRD := Lib.hid hrd
          clear hrd hres hx
          go_wp2_with fail
          refine bodyPost_ret (v := .agg #[.int .i64 6, .int .i64 ta, .int .u8 0, .string ⟨#[]⟩, .slice none 0 0]) (by simp [results, Tryd.results71, go_sem, a0, a1, a2, a3, a4]) rfl ?_
          rw [HXe.out]
          refine ⟨⟨6, ta, 0, [], []⟩, rfl, ?_⟩
          show RdAt w _ L _ toks k e nest ta 43
          repeat (first | with_reducible exact HRD.out | with_reducible refine RdAt.new ?_ (by omega) hL _ _)
        · have h0b : (fv != 0) = true := by rw [bne_iff_ne]; exact h0
          by_cases h17 : 17 < fv
          · have h17i : ¬ (fv : Int) ≤ 17 := by omega
            have h17b : decide ((fv : Int) ≤ 17) = false := by rw [decide_eq_false_iff_not]; exact h17i

            have HXe : Hid (X = .error (ta, 43)) := Lib.hid (by rw [HXn.out, if_pos (.inl h17)])
            have hq := W8'.out
            have rf1 : W8.frozen? ⟨L, 1, none⟩ = false := hq.at1.rd.froz 1
            have r1 := hq.at1.rd.cell 1
            simp at r1
            have H8 : RdAt w ((W8.setCell ⟨L, 1, none⟩ (.int .i64 ((k : Int) + 1 + 1))).setCell ⟨L, 1, none⟩ (.int .i64 k)) L (.slice (some ⟨g, o, none⟩) n cap) toks k e nest 0 0 := ((hq.at1.put1 (k + 1 + 1))).put1 k
            have hres8 : Blk ((W8.setCell ⟨L, 1, none⟩ (.int .i64 ((k : Int) + 1 + 1))).setCell ⟨L, 1, none⟩ (.int .i64 k)) w.heap.size 48 #[.int .i64 0, .int .i64 0, .int .u8 0, .string ⟨#[]⟩, .slice none 0 0] := (hq.res.other (by omega) _ _).other (by omega) _ _
            have hx8 : Blk ((W8.setCell ⟨L, 1, none⟩ (.int .i64 ((k : Int) + 1 + 1))).setCell ⟨L, 1, none⟩ (.int .i64 k)) (w.heap.size + 1) 48 #[.int .i64 6, .int .i64 ta, .int .u8 0, .string ⟨#[]⟩, .slice none 0 0] := (hq.x.other (by omega) _ _).other (by omega) _ _
            have H8' := Lib.hid H8
            have HB8 := Lib.hid (And.intro hres8 hx8)
            clear hq H8 hres8 hx8
            go_wp2_with fail
            refine (HNo.out _ H8'.out).mono ?_
            rintro _ w9 ⟨rfl, hr9, hg9⟩
            have hrd := H8'.out.to hg9 hr9
            have hres := (hg9.block w.heap.size HB8.out.1.lt (fun e => by injection e with e; omega)).trans HB8.out.1
            have hx := (hg9.block (w.heap.size + 1) HB8.out.2.lt (fun e => by injection e with e; omega)).trans HB8.out.2
            replace hres : Blk w9 w.heap.size 48 #[.int .i64 0, .int .i64 0, .int .u8 0, .string ⟨#[]⟩, .slice none 0 0] := hres
            replace hx : Blk w9 (w.heap.size + 1) 48 #[.int .i64 6, .int .i64 ta, .int .u8 0, .string ⟨#[]⟩, .slice none 0 0] := hx
            clear hr9 hg9 rf1 r1

            have a0 := hres.cell 0
            have a1 := hres.cell 1
            have a2 := hres.cell 2
            have a3 := hres.cell 3
            have a4 := hres.cell 4
            have i0 := hx.cell 0
            have i1 := hx.cell 1
            have i2 := hx.cell 2
            have i3 := hx.cell 3
            have i4 := hx.cell 4
            simp at a0 a1 a2 a3 a4 i0 i1 i2 i3 i4
            have fa := hres.froz
            have fi := hx.froz
            have HRD := Lib.hid hrd
            clear hrd hres hx
            go_wp2_with fail
            refine bodyPost_ret (v := .agg #[.int .i64 6, .int .i64 ta, .int .u8 fv, .string ⟨#[]⟩, .slice none 0 0]) (by simp [results, Tryd.results71, go_sem, a0, a1, a2, a3, a4]) rfl ?_
            rw [HXe.out]
            refine ⟨⟨6, ta, fv, [], []⟩, rfl, ?_⟩
            show RdAt w _ L _ toks k e nest ta 43
            repeat (first | with_reducible exact HRD.out | with_reducible refine RdAt.new ?_ (by omega) hL _ _)
          · have h17i : (fv : Int) ≤ 17 := by omega
            have h17b : decide ((fv : Int) ≤ 17) = true := by rw [decide_eq_true_iff]; exact h17i

            have HXe : Hid (X = .error (ta, 43)) := Lib.hid (by rw [HXn.out, if_pos (.inr (.inl (by decide)))])
            have hq := W8'.out
            have rf1 : W8.frozen? ⟨L, 1, none⟩ = false := hq.at1.rd.froz 1
            have r1 := hq.at1.rd.cell 1
            simp at r1
            have H8 : RdAt w ((W8.setCell ⟨L, 1, none⟩ (.int .i64 ((k : Int) + 1 + 1))).setCell ⟨L, 1, none⟩ (.int .i64 k)) L (.slice (some ⟨g, o, none⟩) n cap) toks k e nest 0 0 := ((hq.at1.put1 (k + 1 + 1))).put1 k
            have hres8 : Blk ((W8.setCell ⟨L, 1, none⟩ (.int .i64 ((k : Int) + 1 + 1))).setCell ⟨L, 1, none⟩ (.int .i64 k)) w.heap.size 48 #[.int .i64 0, .int .i64 0, .int .u8 0, .string ⟨#[]⟩, .slice none 0 0] := (hq.res.other (by omega) _ _).other (by omega) _ _
            have hx8 : Blk ((W8.setCell ⟨L, 1, none⟩ (.int .i64 ((k : Int) + 1 + 1))).setCell ⟨L, 1, none⟩ (.int .i64 k)) (w.heap.size + 1) 48 #[.int .i64 6, .int .i64 ta, .int .u8 0, .string ⟨#[]⟩, .slice none 0 0] := (hq.x.other (by omega) _ _).other (by omega) _ _
            have H8' := Lib.hid H8
            have HB8 := Lib.hid (And.intro hres8 hx8)
            clear hq H8 hres8 hx8
            go_wp2_with fail
            refine (HNo.out _ H8'.out).mono ?_
            rintro _ w9 ⟨rfl, hr9, hg9⟩
            have hrd := H8'.out.to hg9 hr9
            have hres := (hg9.block w.heap.size HB8.out.1.lt (fun e => by injection e with e; omega)).trans HB8.out.1
            have hx := (hg9.block (w.heap.size + 1) HB8.out.2.lt (fun e => by injection e with e; omega)).trans HB8.out.2
            replace hres : Blk w9 w.heap.size 48 #[.int .i64 0, .int .i64 0, .int .u8 0, .string ⟨#[]⟩, .slice none 0 0] := hres
            replace hx : Blk w9 (w.heap.size + 1) 48 #[.int .i64 6, .int .i64 ta, .int .u8 0, .string ⟨#[]⟩, .slice none 0 0] := hx
            clear hr9 hg9 rf1 r1

            have a0 := hres.cell 0
            have a1 := hres.cell 1
            have a2 := hres.cell 2
            have a3 := hres.cell 3
            have a4 := hres.cell 4
            have i0 := hx.cell 0
            have i1 := hx.cell 1
            have i2 := hx.cell 2
            have i3 := hx.cell 3
            have i4 := hx.cell 4
            simp at a0 a1 a2 a3 a4 i0 i1 i2 i3 i4
            have fa := hres.froz
            have fi := hx.froz
            have HRD := Lib.hid hrd
            clear hrd hres hx
            go_wp2_with fail
            refine bodyPost_ret (v := .agg #[.int .i64 6, .int .i64 ta, .int .u8 fv, .string ⟨#[]⟩, .slice none 0 0]) (by simp [results, Tryd.results71, go_sem, a0, a1, a2, a3, a4]) rfl ?_
            rw [HXe.out]
            refine ⟨⟨6, ta, fv, [], []⟩, rfl, ?_⟩
            show RdAt w _ L _ toks k e nest ta 43
            repeat (first | with_reducible exact HRD.out | with_reducible refine RdAt.new ?_ (by omega) hL _ _)
      · have I47 := Lib.hid (fun wx h => HIs.out ⟨#[47]⟩ wx h)
        have I92 := Lib.hid (fun wx h => HIs.out ⟨#[92]⟩ wx h)
        have I46 := Lib.hid (fun wx h => HIs.out ⟨#[46]⟩ wx h)
        rw [show (⟨#[47]⟩ : ByteArray).data.toList = [47] from rfl, show isP [47] (toks.drop (k + 1)) = false by rw [hd]; simp [isP, hqk, hqw]] at I47
        rw [show (⟨#[92]⟩ : ByteArray).data.toList = [92] from rfl, show isP [92] (toks.drop (k + 1)) = false by rw [hd]; simp [isP, hqk, hqw]] at I92
        rw [show (⟨#[46]⟩ : ByteArray).data.toList = [46] from rfl, show isP [46] (toks.drop (k + 1)) = true by rw [hd]; simp [isP, hqk, hqw]] at I46
        have HXn : Hid (X = if 17 < twoF tw ∨ true ≠ true ∨ twoF tw = 0 then .error (ta, 43) else .ok (⟨7, ta, twoF tw, [], []⟩, r2)) := by
          apply Lib.hid
          rw [HX.out, hd, phrase_op hop, hqw]
          rfl
        have HW := Lib.hid (fun w => rVerb_any (mkS tw) true w)
        rw [mkS_toList, show verbF tw true = twoF tw from rfl] at HW
        obtain ⟨fv, hfv⟩ : ∃ fv, fv = twoF tw := ⟨_, rfl⟩
        rw [← hfv] at HW HXn
        have HFv := Lib.hid hfv
        have HD := Lib.hid hd
        clear hfv hlr HIs hop hqk hqw hd
        have HDr : Hid (toks.drop (k + 1 + 1) = r2) := Lib.hid (by rw [← List.drop_drop, List.drop_one, HD.out]; rfl)
        have hk1 : k + 1 < n := by
          have := congrArg List.length HD.out
          rw [List.length_drop, List.length_cons] at this
          have := HN.out
          omega

        go_enter Tryd.func71, Tryd.ntmps71
        go_wp2_with fail
        go_region
        go_wp2_with fail
        have H0 : PhAt w ((w.alloc (.cells #[.int .i64 0, .int .i64 0, .int .u8 0, .string ⟨#[]⟩, .slice none 0 0] 48)).alloc (.cells #[.int .i64 4, .int .i64 ta, .int .u8 0, .string ⟨#[]⟩, .slice none 0 0] 48)).drew L (.slice (some ⟨g, o, none⟩) n cap) toks k e nest 4 ta :=
          ⟨HR.out.below ((((Below.refl _ _).alloc (Nat.le_refl _) _).alloc (by simp) _).drew), (Blk.new w _ _ rfl).alloc _, Blk.new _ _ _ (by simp)⟩
        generalize ((w.alloc (.cells #[.int .i64 0, .int .i64 0, .int .u8 0, .string ⟨#[]⟩, .slice none 0 0] 48)).alloc (.cells #[.int .i64 4, .int .i64 ta, .int .u8 0, .string ⟨#[]⟩, .slice none 0 0] 48)).drew = W at H0 ⊢
        have b0 : W.cell? ⟨L, 0, none⟩ = some (.slice (some ⟨g, o, none⟩) n cap) := H0.at1.rd.cell 0
        have b1 : W.cell? ⟨L, 1, none⟩ = some (.int .i64 k) := H0.at1.rd.cell 1
        have bf : W.frozen? ⟨L, 1, none⟩ = false := H0.at1.rd.froz 1
        have b2 : W.cell? ⟨g, o + k * 4 + 2, none⟩ = some (.string (mkS tw)) := by
          rw [World.cell?_of_block (a := ⟨g, o + k * 4 + 2, none⟩) (H0.at1.grown.block g hgw (fun e => by injection e with e; omega))]
          exact d2
        have H0' := Lib.hid H0
        clear H0 c0 c1 f1 d1 d2
        go_quiet (fail)
        go_wp2_with fail
        refine (HV.out _).mono ?_
        rintro _ _ ⟨rfl, rfl⟩
        have H6 : PhAt w ((W.drewN nq).setCell ⟨L, 1, none⟩ (.int .i64 ((k : Int) + 1))) L (.slice (some ⟨g, o, none⟩) n cap) toks (k + 1) e nest 4 ta := ⟨(H0'.out.at1.draws nq).put1 (k + 1), (H0'.out.res.draws nq).other (by omega) _ _, (H0'.out.x.draws nq).other (by omega) _ _⟩
        generalize ((W.drewN nq).setCell ⟨L, 1, none⟩ (.int .i64 ((k : Int) + 1))) = W6 at H6 ⊢
        have W6' := Lib.hid H6
        clear H6 b0 b1 bf b2 H0'

        go_wp2_with fail
        refine (I47.out _ W6'.out.at1).mono ?_
        rintro _ W6_1 ⟨rfl, hb1⟩
        have W6_1' := Lib.hid (W6'.out.below hb1)
        clear hb1

        go_wp2_with fail
        refine (I92.out _ W6_1'.out.at1).mono ?_
        rintro _ W6_2 ⟨rfl, hb2⟩
        have W6_2' := Lib.hid (W6_1'.out.below hb2)
        clear hb2

        go_wp2_with fail
        refine (I46.out _ W6_2'.out.at1).mono ?_
        rintro _ W6_3 ⟨rfl, hb3⟩
        have W6_3' := Lib.hid (W6_2'.out.below hb3)
        clear hb3

        go_wp2_with fail
        refine (I46.out _ W6_3'.out.at1).mono ?_
        rintro _ W6_4 ⟨rfl, hb4⟩
        have W6_4' := Lib.hid (W6_3'.out.below hb4)
        clear hb4

        have x0 := W6_4'.out.x.cell 0
        simp at x0
        have xf : W6_4.frozen? ⟨w.heap.size + 1, 0, none⟩ = false := W6_4'.out.x.froz 0
        have W7' := Lib.hid (W6_4'.out.how hL 6)
        go_wp2_with fail
        refine (I47.out _ W7'.out.at1).mono ?_
        rintro _ W8 ⟨rfl, hb8⟩
        have W8' := Lib.hid (W7'.out.below hb8)
        clear hb8 x0 xf

        have x0 := W8'.out.x.cell 0
        simp at x0
        have xf : W8.frozen? ⟨w.heap.size + 1, 0, none⟩ = false := W8'.out.x.froz 0
        have W9' := Lib.hid (W8'.out.how hL 7)
        go_wp2_with fail
        refine (HW.out _).mono ?_
        rintro _ _ ⟨rfl, rfl⟩
        generalize W8.setCell ⟨w.heap.size + 1, 0, none⟩ (.int .i64 7) = W9 at W9' ⊢
        clear x0 xf
        by_cases h0 : fv = 0
        · subst h0

          have HXe : Hid (X = .error (ta, 43)) := Lib.hid (by rw [HXn.out, if_pos (.inr (.inr rfl))])
          have hq := W9'.out
          have rf1 : W9.frozen? ⟨L, 1, none⟩ = false := hq.at1.rd.froz 1
          have r1 := hq.at1.rd.cell 1
          simp at r1
          have H8 : RdAt w ((W9.setCell ⟨L, 1, none⟩ (.int .i64 ((k : Int) + 1 + 1))).setCell ⟨L, 1, none⟩ (.int .i64 k)) L (.slice (some ⟨g, o, none⟩) n cap) toks k e nest 0 0 := ((hq.at1.put1 (k + 1 + 1))).put1 k
          have hres8 : Blk ((W9.setCell ⟨L, 1, none⟩ (.int .i64 ((k : Int) + 1 + 1))).setCell ⟨L, 1, none⟩ (.int .i64 k)) w.heap.size 48 #[.int .i64 0, .int .i64 0, .int .u8 0, .string ⟨#[]⟩, .slice none 0 0] := (hq.res.other (by omega) _ _).other (by omega) _ _
          have hx8 : Blk ((W9.setCell ⟨L, 1, none⟩ (.int .i64 ((k : Int) + 1 + 1))).setCell ⟨L, 1, none⟩ (.int .i64 k)) (w.heap.size + 1) 48 #[.int .i64 7, .int .i64 ta, .int .u8 0, .string ⟨#[]⟩, .slice none 0 0] := (hq.x.other (by omega) _ _).other (by omega) _ _
          have H8' := Lib.hid H8
          have HB8 := Lib.hid (And.intro hres8 hx8)
          clear hq H8 hres8 hx8
          go_wp2_with fail
          refine (HNo.out _ H8'.out).mono ?_
          rintro _ w9 ⟨rfl, hr9, hg9⟩
          have hrd := H8'.out.to hg9 hr9
          have hres := (hg9.block w.heap.size HB8.out.1.lt (fun e => by injection e with e; omega)).trans HB8.out.1
          have hx := (hg9.block (w.heap.size + 1) HB8.out.2.lt (fun e => by injection e with e; omega)).trans HB8.out.2
          replace hres : Blk w9 w.heap.size 48 #[.int .i64 0, .int .i64 0, .int .u8 0, .string ⟨#[]⟩, .slice none 0 0] := hres
          replace hx : Blk w9 (w.heap.size + 1) 48 #[.int .i64 7, .int .i64 ta, .int .u8 0, .string ⟨#[]⟩, .slice none 0 0] := hx
          clear hr9 hg9 rf1 r1

          have a0 := hres.cell 0
          have a1 := hres.cell 1
          have a2 := hres.cell 2
          have a3 := hres.cell 3
          have a4 := hres.cell 4
          have i0 := hx.cell 0
          have i1 := hx.cell 1
          have i2 := hx.cell 2
          have i3 := hx.cell 3
          have i4 := hx.cell 4
          simp at a0 a1 a2 a3 a4 i0 i1 i2 i3 i4
          have fa := hres.froz
          have fi := hx.froz
          have HRD := Lib.hid hrd
          clear hrd hres hx
          go_wp2_with fail
          refine bodyPost_ret (v := .agg #[.int .i64 7, .int .i64 ta, .int .u8 0, .string ⟨#[]⟩, .slice none 0 0]) (by simp [results, Tryd.results71, go_sem, a0, a1, a2, a3, a4]) rfl ?_
          rw [HXe.out]
          refine ⟨⟨7, ta, 0, [], []⟩, rfl, ?_⟩
          show RdAt w _ L _ toks k e nest ta 43
          repeat (first | with_reducible exact HRD.out | with_reducible refine RdAt.new ?_ (by omega) hL _ _)
        · have h0b : (fv != 0) = true := by rw [bne_iff_ne]; exact h0
          by_cases h17 : 17 < fv
          · have h17i : ¬ (fv : Int) ≤ 17 := by omega
            have h17b : decide ((fv : Int) ≤ 17) = false := by rw [decide_eq_false_iff_not]; exact h17i

            have HXe : Hid (X = .error (ta, 43)) := Lib.hid (by rw [HXn.out, if_pos (.inl h17)])
            have hq := W9'.out
            have rf1 : W9.frozen? ⟨L, 1, none⟩ = false := hq.at1.rd.froz 1
            have r1 := hq.at1.rd.cell 1
            simp at r1
            have H8 : RdAt w ((W9.setCell ⟨L, 1, none⟩ (.int .i64 ((k : Int) + 1 + 1))).setCell ⟨L, 1, none⟩ (.int .i64 k)) L (.slice (some ⟨g, o, none⟩) n cap) toks k e nest 0 0 := ((hq.at1.put1 (k + 1 + 1))).put1 k
            have hres8 : Blk ((W9.setCell ⟨L, 1, none⟩ (.int .i64 ((k : Int) + 1 + 1))).setCell ⟨L, 1, none⟩ (.int .i64 k)) w.heap.size 48 #[.int .i64 0, .int .i64 0, .int .u8 0, .string ⟨#[]⟩, .slice none 0 0] := (hq.res.other (by omega) _ _).other (by omega) _ _
            have hx8 : Blk ((W9.setCell ⟨L, 1, none⟩ (.int .i64 ((k : Int) + 1 + 1))).setCell ⟨L, 1, none⟩ (.int .i64 k)) (w.heap.size + 1) 48 #[.int .i64 7, .int .i64 ta, .int .u8 0, .string ⟨#[]⟩, .slice none 0 0] := (hq.x.other (by omega) _ _).other (by omega) _ _
            have H8' := Lib.hid H8
            have HB8 := Lib.hid (And.intro hres8 hx8)
            clear hq H8 hres8 hx8
            go_wp2_with fail
            refine (HNo.out _ H8'.out).mono ?_
            rintro _ w9 ⟨rfl, hr9, hg9⟩
            have hrd := H8'.out.to hg9 hr9
            have hres := (hg9.block w.heap.size HB8.out.1.lt (fun e => by injection e with e; omega)).trans HB8.out.1
            have hx := (hg9.block (w.heap.size + 1) HB8.out.2.lt (fun e => by injection e with e; omega)).trans HB8.out.2
            replace hres : Blk w9 w.heap.size 48 #[.int .i64 0, .int .i64 0, .int .u8 0, .string ⟨#[]⟩, .slice none 0 0] := hres
            replace hx : Blk w9 (w.heap.size + 1) 48 #[.int .i64 7, .int .i64 ta, .int .u8 0, .string ⟨#[]⟩, .slice none 0 0] := hx
            clear hr9 hg9 rf1 r1

            have a0 := hres.cell 0
            have a1 := hres.cell 1
            have a2 := hres.cell 2
            have a3 := hres.cell 3
            have a4 := hres.cell 4
            have i0 := hx.cell 0
            have i1 := hx.cell 1
            have i2 := hx.cell 2
            have i3 := hx.cell 3
            have i4 := hx.cell 4
            simp at a0 a1 a2 a3 a4 i0 i1 i2 i3 i4
            have fa := hres.froz
            have fi := hx.froz
            have HRD := Lib.hid hrd
            clear hrd hres hx
            go_wp2_with fail
            refine bodyPost_ret (v := .agg #[.int .i64 7, .int .i64 ta, .int .u8 fv, .string ⟨#[]⟩, .slice none 0 0]) (by simp [results, Tryd.results71, go_sem, a0, a1, a2, a3, a4]) rfl ?_
            rw [HXe.out]
            refine ⟨⟨7, ta, fv, [], []⟩, rfl, ?_⟩
            show RdAt w _ L _ toks k e nest ta 43
            repeat (first | with_reducible exact HRD.out | with_reducible refine RdAt.new ?_ (by omega) hL _ _)
          · have h17i : (fv : Int) ≤ 17 := by omega
            have h17b : decide ((fv : Int) ≤ 17) = true := by rw [decide_eq_true_iff]; exact h17i

            have HXe : Hid (X = .ok (⟨7, ta, fv, [], []⟩, r2)) := Lib.hid (by rw [HXn.out, if_neg (by rintro (h | h | h) <;> simp_all)])
            have hrd : RdAt w (W9.setCell ⟨L, 1, none⟩ (.int .i64 ((k : Int) + 1 + 1))) L (.slice (some ⟨g, o, none⟩) n cap) toks (k + 1 + 1) e nest 0 0 := W9'.out.at1.put1 (k + 1 + 1)
            have r1 := W9'.out.at1.rd.cell 1
            simp at r1
            have rf1 : W9.frozen? ⟨L, 1, none⟩ = false := W9'.out.at1.rd.froz 1
            have hres := W9'.out.res
            have hx := W9'.out.x

            have a0 := hres.cell 0
            have a1 := hres.cell 1
            have a2 := hres.cell 2
            have a3 := hres.cell 3
            have a4 := hres.cell 4
            have i0 := hx.cell 0
            have i1 := hx.cell 1
            have i2 := hx.cell 2
            have i3 := hx.cell 3
            have i4 := hx.cell 4
            simp at a0 a1 a2 a3 a4 i0 i1 i2 i3 i4
            have fa := hres.froz
            have fi := hx.froz
            have HRD := Lib.hid hrd
            clear hrd hres hx
            go_wp2_with fail
            refine bodyPost_ret (v := .agg #[.int .i64 7, .int .i64 ta, .int .u8 fv, .string ⟨#[]⟩, .slice none 0 0]) (by simp [results, Tryd.results71, go_sem, a0, a1, a2, a3, a4]) rfl ?_
            rw [HXe.out]
            refine ⟨rfl, rfl, rfl, k + 1 + 1, ?_, HDr.out, by omega, by have := HN.out; omega⟩
            repeat (first | with_reducible exact HRD.out | with_reducible refine RdAt.new ?_ (by omega) hL _ _)
  | false =>
    cases hop : opP (toks.drop (k + 1)) with
    | false =>
      obtain ⟨⟨i47, i92⟩, i46⟩ : (isP [47] (toks.drop (k + 1)) = false ∧ isP [92] (toks.drop (k + 1)) = false) ∧ isP [46] (toks.drop (k + 1)) = false := by
        have := (opP_eq hlr).symm.trans hop
        simpa [Bool.or_eq_false_iff] using this
      have I47 := Lib.hid (fun wx h => HIs.out ⟨#[47]⟩ wx h)
      have I92 := Lib.hid (fun wx h => HIs.out ⟨#[92]⟩ wx h)
      have I46 := Lib.hid (fun wx h => HIs.out ⟨#[46]⟩ wx h)
      rw [show (⟨#[47]⟩ : ByteArray).data.toList = [47] from rfl, i47] at I47
      rw [show (⟨#[92]⟩ : ByteArray).data.toList = [92] from rfl, i92] at I92
      rw [show (⟨#[46]⟩ : ByteArray).data.toList = [46] from rfl, i46] at I46
      have HXn := Lib.hid (HX.out.trans (phrase_nop (left := false) hop))
      clear i47 i92 i46 hop hlr HIs
      obtain ⟨fv, hfv⟩ : ∃ fv, fv = verbF tw false := ⟨_, rfl⟩
      dsimp only at HXn
      rw [← hfv] at HV HXn
      have HFv := Lib.hid hfv
      clear hfv

      go_enter Tryd.func71, Tryd.ntmps71
      go_wp2_with fail
      go_region
      go_wp2_with fail
      have H0 : PhAt w ((w.alloc (.cells #[.int .i64 0, .int .i64 0, .int .u8 0, .string ⟨#[]⟩, .slice none 0 0] 48)).alloc (.cells #[.int .i64 3, .int .i64 ta, .int .u8 0, .string ⟨#[]⟩, .slice none 0 0] 48)).drew L (.slice (some ⟨g, o, none⟩) n cap) toks k e nest 3 ta :=
        ⟨HR.out.below ((((Below.refl _ _).alloc (Nat.le_refl _) _).alloc (by simp) _).drew), (Blk.new w _ _ rfl).alloc _, Blk.new _ _ _ (by simp)⟩
      generalize ((w.alloc (.cells #[.int .i64 0, .int .i64 0, .int .u8 0, .string ⟨#[]⟩, .slice none 0 0] 48)).alloc (.cells #[.int .i64 3, .int .i64 ta, .int .u8 0, .string ⟨#[]⟩, .slice none 0 0] 48)).drew = W at H0 ⊢
      have b0 : W.cell? ⟨L, 0, none⟩ = some (.slice (some ⟨g, o, none⟩) n cap) := H0.at1.rd.cell 0
      have b1 : W.cell? ⟨L, 1, none⟩ = some (.int .i64 k) := H0.at1.rd.cell 1
      have bf : W.frozen? ⟨L, 1, none⟩ = false := H0.at1.rd.froz 1
      have b2 : W.cell? ⟨g, o + k * 4 + 2, none⟩ = some (.string (mkS tw)) := by
        rw [World.cell?_of_block (a := ⟨g, o + k * 4 + 2, none⟩) (H0.at1.grown.block g hgw (fun e => by injection e with e; omega))]
        exact d2
      have H0' := Lib.hid H0
      clear H0 c0 c1 f1 d1 d2
      go_quiet (fail)
      go_wp2_with fail
      refine (HV.out _).mono ?_
      rintro _ _ ⟨rfl, rfl⟩
      have H6 : PhAt w ((W.drewN nq).setCell ⟨L, 1, none⟩ (.int .i64 ((k : Int) + 1))) L (.slice (some ⟨g, o, none⟩) n cap) toks (k + 1) e nest 3 ta := ⟨(H0'.out.at1.draws nq).put1 (k + 1), (H0'.out.res.draws nq).other (by omega) _ _, (H0'.out.x.draws nq).other (by omega) _ _⟩
      generalize ((W.drewN nq).setCell ⟨L, 1, none⟩ (.int .i64 ((k : Int) + 1))) = W6 at H6 ⊢
      have W6' := Lib.hid H6
      clear H6 b0 b1 bf b2 H0'
      by_cases h0 : fv = 0
      · subst h0
        go_wp2_with fail
        refine (I47.out _ W6'.out.at1).mono ?_
        rintro _ W6_1 ⟨rfl, hb1⟩
        have W6_1' := Lib.hid (W6'.out.below hb1)
        clear hb1

        go_wp2_with fail
        refine (I92.out _ W6_1'.out.at1).mono ?_
        rintro _ W6_2 ⟨rfl, hb2⟩
        have W6_2' := Lib.hid (W6_1'.out.below hb2)
        clear hb2

        go_wp2_with fail
        refine (I46.out _ W6_2'.out.at1).mono ?_
        rintro _ W6_3 ⟨rfl, hb3⟩
        have W6_3' := Lib.hid (W6_2'.out.below hb3)
        clear hb3

        have HXe : Hid (X = .error (ta, 43)) := Lib.hid (by rw [HXn.out]; rfl)
        have hq := W6_3'.out
        have rf1 : W6_3.frozen? ⟨L, 1, none⟩ = false := hq.at1.rd.froz 1
        have r1 := hq.at1.rd.cell 1
        simp at r1
        have H8 : RdAt w (W6_3.setCell ⟨L, 1, none⟩ (.int .i64 k)) L (.slice (some ⟨g, o, none⟩) n cap) toks k e nest 0 0 := (hq.at1).put1 k
        have hres8 : Blk (W6_3.setCell ⟨L, 1, none⟩ (.int .i64 k)) w.heap.size 48 #[.int .i64 0, .int .i64 0, .int .u8 0, .string ⟨#[]⟩, .slice none 0 0] := hq.res.other (by omega) _ _
        have hx8 : Blk (W6_3.setCell ⟨L, 1, none⟩ (.int .i64 k)) (w.heap.size + 1) 48 #[.int .i64 3, .int .i64 ta, .int .u8 0, .string ⟨#[]⟩, .slice none 0 0] := hq.x.other (by omega) _ _
        have H8' := Lib.hid H8
        have HB8 := Lib.hid (And.intro hres8 hx8)
        clear hq H8 hres8 hx8
        go_wp2_with fail
        refine (HNo.out _ H8'.out).mono ?_
        rintro _ w9 ⟨rfl, hr9, hg9⟩
        have hrd := H8'.out.to hg9 hr9
        have hres := (hg9.block w.heap.size HB8.out.1.lt (fun e => by injection e with e; omega)).trans HB8.out.1
        have hx := (hg9.block (w.heap.size + 1) HB8.out.2.lt (fun e => by injection e with e; omega)).trans HB8.out.2
        replace hres : Blk w9 w.heap.size 48 #[.int .i64 0, .int .i64 0, .int .u8 0, .string ⟨#[]⟩, .slice none 0 0] := hres
        replace hx : Blk w9 (w.heap.size + 1) 48 #[.int .i64 3, .int .i64 ta, .int .u8 0, .string ⟨#[]⟩, .slice none 0 0] := hx
        clear hr9 hg9 rf1 r1

        have a0 := hres.cell 0
        have a1 := hres.cell 1
        have a2 := hres.cell 2
        have a3 := hres.cell 3
        have a4 := hres.cell 4
        have i0 := hx.cell 0
        have i1 := hx.cell 1
        have i2 := hx.cell 2
        have i3 := hx.cell 3
        have i4 := hx.cell 4
        simp at a0 a1 a2 a3 a4 i0 i1 i2 i3 i4
        have fa := hres.froz
        have fi := hx.froz
        have HRD := Lib.hid hrd
        clear hrd hres hx
        go_wp2_with fail
        refine bodyPost_ret (v := .agg #[.int .i64 3, .int .i64 ta, .int .u8 0, .string ⟨#[]⟩, .slice none 0 0]) (by simp [results, Tryd.results71, go_sem, a0, a1, a2, a3, a4]) rfl ?_
        rw [HXe.out]
        refine ⟨⟨3, ta, 0, [], []⟩, rfl, ?_⟩
        show RdAt w _ L _ toks k e nest ta 43
        repeat (first | with_reducible exact HRD.out | with_reducible refine RdAt.new ?_ (by omega) hL _ _)
      · have h0b : (fv != 0) = true := by rw [bne_iff_ne]; exact h0
        have HH0 := Lib.hid h0
        clear h0
        go_wp2_with fail
        refine (I47.out _ W6'.out.at1).mono ?_
        rintro _ W6_1 ⟨rfl, hb1⟩
        have W6_1' := Lib.hid (W6'.out.below hb1)
        clear hb1

        go_wp2_with fail
        refine (I92.out _ W6_1'.out.at1).mono ?_
        rintro _ W6_2 ⟨rfl, hb2⟩
        have W6_2' := Lib.hid (W6_1'.out.below hb2)
        clear hb2

        go_wp2_with fail
        refine (I46.out _ W6_2'.out.at1).mono ?_
        rintro _ W6_3 ⟨rfl, hb3⟩
        have W6_3' := Lib.hid (W6_2'.out.below hb3)
        clear hb3

        have HXe : Hid (X = .ok (⟨3, ta, fv, [], []⟩, toks.drop (k + 1))) := Lib.hid (by rw [HXn.out, if_neg HH0.out]; rfl)
        have hrd := W6_3'.out.at1
        have hres := W6_3'.out.res
        have hx := W6_3'.out.x

        have a0 := hres.cell 0
        have a1 := hres.cell 1
        have a2 := hres.cell 2
        have a3 := hres.cell 3
        have a4 := hres.cell 4
        have i0 := hx.cell 0
        have i1 := hx.cell 1
        have i2 := hx.cell 2
        have i3 := hx.cell 3
        have i4 := hx.cell 4
        simp at a0 a1 a2 a3 a4 i0 i1 i2 i3 i4
        have fa := hres.froz
        have fi := hx.froz
        have HRD := Lib.hid hrd
        clear hrd hres hx
        go_wp2_with fail
        refine bodyPost_ret (v := .agg #[.int .i64 3, .int .i64 ta, .int .u8 fv, .string ⟨#[]⟩, .slice none 0 0]) (by simp [results, Tryd.results71, go_sem, a0, a1, a2, a3, a4]) rfl ?_
        rw [HXe.out]
        refine ⟨rfl, rfl, rfl, k + 1, ?_, rfl, by omega, by have := HN.out; omega⟩
        repeat (first | with_reducible exact HRD.out | with_reducible refine RdAt.new ?_ (by omega) hL _ _)
    | true =>
      obtain ⟨q, r2, hd, hop⟩ : ∃ q r2, toks.drop (k + 1) = q :: r2 ∧ isOp q = true := by
        cases hd : toks.drop (k + 1) with
        | nil => rw [hd] at hop; cases hop
        | cons q r2 => rw [hd] at hop; exact ⟨q, r2, rfl, hop⟩
      obtain ⟨hqk, hqw | hqw | hqw⟩ := op_cases hop
      · have I47 := Lib.hid (fun wx h => HIs.out ⟨#[47]⟩ wx h)
        have I92 := Lib.hid (fun wx h => HIs.out ⟨#[92]⟩ wx h)
        have I46 := Lib.hid (fun wx h => HIs.out ⟨#[46]⟩ wx h)
        rw [show (⟨#[47]⟩ : ByteArray).data.toList = [47] from rfl, show isP [47] (toks.drop (k + 1)) = true by rw [hd]; simp [isP, hqk, hqw]] at I47
        rw [show (⟨#[92]⟩ : ByteArray).data.toList = [92] from rfl, show isP [92] (toks.drop (k + 1)) = false by rw [hd]; simp [isP, hqk, hqw]] at I92
        rw [show (⟨#[46]⟩ : ByteArray).data.toList = [46] from rfl, show isP [46] (toks.drop (k + 1)) = false by rw [hd]; simp [isP, hqk, hqw]] at I46
        have HXn : Hid (X = if 17 < twoF tw ∨ false ≠ false ∨ twoF tw = 0 then .error (ta, 43) else .ok (⟨5, ta, twoF tw, [], []⟩, r2)) := by
          apply Lib.hid
          rw [HX.out, hd, phrase_op hop, hqw]
          rfl
        have HW := Lib.hid (fun w => rVerb_any (mkS tw) true w)
        rw [mkS_toList, show verbF tw true = twoF tw from rfl] at HW
        obtain ⟨fv, hfv⟩ : ∃ fv, fv = twoF tw := ⟨_, rfl⟩
        rw [← hfv] at HW HXn
        have HFv := Lib.hid hfv
        have HD := Lib.hid hd
        clear hfv hlr HIs hop hqk hqw hd
        have HDr : Hid (toks.drop (k + 1 + 1) = r2) := Lib.hid (by rw [← List.drop_drop, List.drop_one, HD.out]; rfl)
        have hk1 : k + 1 < n := by
          have := congrArg List.length HD.out
          rw [List.length_drop, List.length_cons] at this
          have := HN.out
          omega

        go_enter Tryd.func71, Tryd.ntmps71
        go_wp2_with fail
        go_region
        go_wp2_with fail
        have H0 : PhAt w ((w.alloc (.cells #[.int .i64 0, .int .i64 0, .int .u8 0, .string ⟨#[]⟩, .slice none 0 0] 48)).alloc (.cells #[.int .i64 3, .int .i64 ta, .int .u8 0, .string ⟨#[]⟩, .slice none 0 0] 48)).drew L (.slice (some ⟨g, o, none⟩) n cap) toks k e nest 3 ta :=
          ⟨HR.out.below ((((Below.refl _ _).alloc (Nat.le_refl _) _).alloc (by simp) _).drew), (Blk.new w _ _ rfl).alloc _, Blk.new _ _ _ (by simp)⟩
        generalize ((w.alloc (.cells #[.int .i64 0, .int .i64 0, .int .u8 0, .string ⟨#[]⟩, .slice none 0 0] 48)).alloc (.cells #[.int .i64 3, .int .i64 ta, .int .u8 0, .string ⟨#[]⟩, .slice none 0 0] 48)).drew = W at H0 ⊢
        have b0 : W.cell? ⟨L, 0, none⟩ = some (.slice (some ⟨g, o, none⟩) n cap) := H0.at1.rd.cell 0
        have b1 : W.cell? ⟨L, 1, none⟩ = some (.int .i64 k) := H0.at1.rd.cell 1
        have bf : W.frozen? ⟨L, 1, none⟩ = false := H0.at1.rd.froz 1
        have b2 : W.cell? ⟨g, o + k * 4 + 2, none⟩ = some (.string (mkS tw)) := by
          rw [World.cell?_of_block (a := ⟨g, o + k * 4 + 2, none⟩) (H0.at1.grown.block g hgw (fun e => by injection e with e; omega))]
          exact d2
        have H0' := Lib.hid H0
        clear H0 c0 c1 f1 d1 d2
        go_quiet (fail)
        go_wp2_with fail
        refine (HV.out _).mono ?_
        rintro _ _ ⟨rfl, rfl⟩
        have H6 : PhAt w ((W.drewN nq).setCell ⟨L, 1, none⟩ (.int .i64 ((k : Int) + 1))) L (.slice (some ⟨g, o, none⟩) n cap) toks (k + 1) e nest 3 ta := ⟨(H0'.out.at1.draws nq).put1 (k + 1), (H0'.out.res.draws nq).other (by omega) _ _, (H0'.out.x.draws nq).other (by omega) _ _⟩
        generalize ((W.drewN nq).setCell ⟨L, 1, none⟩ (.int .i64 ((k : Int) + 1))) = W6 at H6 ⊢
        have W6' := Lib.hid H6
        clear H6 b0 b1 bf b2 H0'

        go_wp2_with fail
        refine (I47.out _ W6'.out.at1).mono ?_
        rintro _ W6_1 ⟨rfl, hb1⟩
        have W6_1' := Lib.hid (W6'.out.below hb1)
        clear hb1

        go_wp2_with fail
        refine (I46.out _ W6_1'.out.at1).mono ?_
        rintro _ W6_2 ⟨rfl, hb2⟩
        have W6_2' := Lib.hid (W6_1'.out.below hb2)
        clear hb2

        have x0 := W6_2'.out.x.cell 0
        simp at x0
        have xf : W6_2.frozen? ⟨w.heap.size + 1, 0, none⟩ = false := W6_2'.out.x.froz 0
        have W7' := Lib.hid (W6_2'.out.how hL 6)
        go_wp2_with fail
        refine (I47.out _ W7'.out.at1).mono ?_
        rintro _ W8 ⟨rfl, hb8⟩
        have W8' := Lib.hid (W7'.out.below hb8)
        clear hb8 x0 xf

        have x0 := W8'.out.x.cell 0
        simp at x0
        have xf : W8.frozen? ⟨w.heap.size + 1, 0, none⟩ = false := W8'.out.x.froz 0
        have W9' := Lib.hid (W8'.out.how hL 5)
        go_wp2_with fail
        refine (HW.out _).mono ?_
        rintro _ _ ⟨rfl, rfl⟩
        generalize W8.setCell ⟨w.heap.size + 1, 0, none⟩ (.int .i64 5) = W9 at W9' ⊢
        clear x0 xf
        by_cases h0 : fv = 0
        · subst h0

          have HXe : Hid (X = .error (ta, 43)) := Lib.hid (by rw [HXn.out, if_pos (.inr (.inr rfl))])
          have hq := W9'.out
          have rf1 : W9.frozen? ⟨L, 1, none⟩ = false := hq.at1.rd.froz 1
          have r1 := hq.at1.rd.cell 1
          simp at r1
          have H8 : RdAt w ((W9.setCell ⟨L, 1, none⟩ (.int .i64 ((k : Int) + 1 + 1))).setCell ⟨L, 1, none⟩ (.int .i64 k)) L (.slice (some ⟨g, o, none⟩) n cap) toks k e nest 0 0 := ((hq.at1.put1 (k + 1 + 1))).put1 k
          have hres8 : Blk ((W9.setCell ⟨L, 1, none⟩ (.int .i64 ((k : Int) + 1 + 1))).setCell ⟨L, 1, none⟩ (.int .i64 k)) w.heap.size 48 #[.int .i64 0, .int .i64 0, .int .u8 0, .string ⟨#[]⟩, .slice none 0 0] := (hq.res.other (by omega) _ _).other (by omega) _ _
          have hx8 : Blk ((W9.setCell ⟨L, 1, none⟩ (.int .i64 ((k : Int) + 1 + 1))).setCell ⟨L, 1, none⟩ (.int .i64 k)) (w.heap.size + 1) 48 #[.int .i64 5, .int .i64 ta, .int .u8 0, .string ⟨#[]⟩, .slice none 0 0] := (hq.x.other (by omega) _ _).other (by omega) _ _
          have H8' := Lib.hid H8
          have HB8 := Lib.hid (And.intro hres8 hx8)
          clear hq H8 hres8 hx8
          go_wp2_with fail
          refine (HNo.out _ H8'.out).mono ?_
          rintro _ w9 ⟨rfl, hr9, hg9⟩
          have hrd := H8'.out.to hg9 hr9
          have hres := (hg9.block w.heap.size HB8.out.1.lt (fun e => by injection e with e; omega)).trans HB8.out.1
          have hx := (hg9.block (w.heap.size + 1) HB8.out.2.lt (fun e => by injection e with e; omega)).trans HB8.out.2
          replace hres : Blk w9 w.heap.size 48 #[.int .i64 0, .int .i64 0, .int .u8 0, .string ⟨#[]⟩, .slice none 0 0] := hres
          replace hx : Blk w9 (w.heap.size + 1) 48 #[.int .i64 5, .int .i64 ta, .int .u8 0, .string ⟨#[]⟩, .slice none 0 0] := hx
          clear hr9 hg9 rf1 r1

          have a0 := hres.cell 0
          have a1 := hres.cell 1
          have a2 := hres.cell 2
          have a3 := hres.cell 3
          have a4 := hres.cell 4
          have i0 := hx.cell 0
          have i1 := hx.cell 1
          have i2 := hx.cell 2
          have i3 := hx.cell 3
          have i4 := hx.cell 4
          simp at a0 a1 a2 a3 a4 i0 i1 i2 i3 i4
          have fa := hres.froz
          have fi := hx.froz
          have HRD := Lib.hid hrd
          clear hrd hres hx
          go_wp2_with fail
          refine bodyPost_ret (v := .agg #[.int .i64 5, .int .i64 ta, .int .u8 0, .string ⟨#[]⟩, .slice none 0 0]) (by simp [results, Tryd.results71, go_sem, a0, a1, a2, a3, a4]) rfl ?_
          rw [HXe.out]
          refine ⟨⟨5, ta, 0, [], []⟩, rfl, ?_⟩
          show RdAt w _ L _ toks k e nest ta 43
          repeat (first | with_reducible exact HRD.out | with_reducible refine RdAt.new ?_ (by omega) hL _ _)
        · have h0b : (fv != 0) = true := by rw [bne_iff_ne]; exact h0
          by_cases h17 : 17 < fv
          · have h17i : ¬ (fv : Int) ≤ 17 := by omega
            have h17b : decide ((fv : Int) ≤ 17) = false := by rw [decide_eq_false_iff_not]; exact h17i

            have HXe : Hid (X = .error (ta, 43)) := Lib.hid (by rw [HXn.out, if_pos (.inl h17)])
            have hq := W9'.out
            have rf1 : W9.frozen? ⟨L, 1, none⟩ = false := hq.at1.rd.froz 1
            have r1 := hq.at1.rd.cell 1
            simp at r1
            have H8 : RdAt w ((W9.setCell ⟨L, 1, none⟩ (.int .i64 ((k : Int) + 1 + 1))).setCell ⟨L, 1, none⟩ (.int .i64 k)) L (.slice (some ⟨g, o, none⟩) n cap) toks k e nest 0 0 := ((hq.at1.put1 (k + 1 + 1))).put1 k
            have hres8 : Blk ((W9.setCell ⟨L, 1, none⟩ (.int .i64 ((k : Int) + 1 + 1))).setCell ⟨L, 1, none⟩ (.int .i64 k)) w.heap.size 48 #[.int .i64 0, .int .i64 0, .int .u8 0, .string ⟨#[]⟩, .slice none 0 0] := (hq.res.other (by omega) _ _).other (by omega) _ _
            have hx8 : Blk ((W9.setCell ⟨L, 1, none⟩ (.int .i64 ((k : Int) + 1 + 1))).setCell ⟨L, 1, none⟩ (.int .i64 k)) (w.heap.size + 1) 48 #[.int .i64 5, .int .i64 ta, .int .u8 0, .string ⟨#[]⟩, .slice none 0 0] := (hq.x.other (by omega) _ _).other (by omega) _ _
            have H8' := Lib.hid H8
            have HB8 := Lib.hid (And.intro hres8 hx8)
            clear hq H8 hres8 hx8
            go_wp2_with fail
            refine (HNo.out _ H8'.out).mono ?_
            rintro _ w9 ⟨rfl, hr9, hg9⟩
            have hrd := H8'.out.to hg9 hr9
            have hres := (hg9.block w.heap.size HB8.out.1.lt (fun e => by injection e with e; omega)).trans HB8.out.1
            have hx := (hg9.block (w.heap.size + 1) HB8.out.2.lt (fun e => by injection e with e; omega)).trans HB8.out.2
            replace hres : Blk w9 w.heap.size 48 #[.int .i64 0, .int .i64 0, .int .u8 0, .string ⟨#[]⟩, .slice none 0 0] := hres
            replace hx : Blk w9 (w.heap.size + 1) 48 #[.int .i64 5, .int .i64 ta, .int .u8 0, .string ⟨#[]⟩, .slice none 0 0] := hx
            clear hr9 hg9 rf1 r1

            have a0 := hres.cell 0
            have a1 := hres.cell 1
            have a2 := hres.cell 2
            have a3 := hres.cell 3
            have a4 := hres.cell 4
            have i0 := hx.cell 0
            have i1 := hx.cell 1
            have i2 := hx.cell 2
            have i3 := hx.cell 3
            have i4 := hx.cell 4
            simp at a0 a1 a2 a3 a4 i0 i1 i2 i3 i4
            have fa := hres.froz
            have fi := hx.froz
            have HRD := Lib.hid hrd
            clear hrd hres hx
            go_wp2_with fail
            refine bodyPost_ret (v := .agg #[.int .i64 5, .int .i64 ta, .int .u8 fv, .string ⟨#[]⟩, .slice none 0 0]) (by simp [results, Tryd.results71, go_sem, a0, a1, a2, a3, a4]) rfl ?_
            rw [HXe.out]
            refine ⟨⟨5, ta, fv, [], []⟩, rfl, ?_⟩
            show RdAt w _ L _ toks k e nest ta 43
            repeat (first | with_reducible exact HRD.out | with_reducible refine RdAt.new ?_ (by omega) hL _ _)
          · have h17i : (fv : Int) ≤ 17 := by omega
            have h17b : decide ((fv : Int) ≤ 17) = true := by rw [decide_eq_true_iff]; exact h17i

            have HXe : Hid (X = .ok (⟨5, ta, fv, [], []⟩, r2)) := Lib.hid (by rw [HXn.out, if_neg (by rintro (h | h | h) <;> simp_all)])
            have hrd : RdAt w (W9.setCell ⟨L, 1, none⟩ (.int .i64 ((k : Int) + 1 + 1))) L (.slice (some ⟨g, o, none⟩) n cap) toks (k + 1 + 1) e nest 0 0 := W9'.out.at1.put1 (k + 1 + 1)
            have r1 := W9'.out.at1.rd.cell 1
            simp at r1
            have rf1 : W9.frozen? ⟨L, 1, none⟩ = false := W9'.out.at1.rd.froz 1
            have hres := W9'.out.res
            have hx := W9'.out.x

            have a0 := hres.cell 0
            have a1 := hres.cell 1
            have a2 := hres.cell 2
            have a3 := hres.cell 3
            have a4 := hres.cell 4
            have i0 := hx.cell 0
            have i1 := hx.cell 1
            have i2 := hx.cell 2
            have i3 := hx.cell 3
            have i4 := hx.cell 4
            simp at a0 a1 a2 a3 a4 i0 i1 i2 i3 i4
            have fa := hres.froz
            have fi := hx.froz
            have HRD := Lib.hid hrd
            clear hrd hres hx
            go_wp2_with fail
            refine bodyPost_ret (v := .agg #[.int .i64 5, .int .i64 ta, .int .u8 fv, .string ⟨#[]⟩, .slice none 0 0]) (by simp [results, Tryd.results71, go_sem, a0, a1, a2, a3, a4]) rfl ?_
            rw [HXe.out]
            refine ⟨rfl, rfl, rfl, k + 1 + 1, ?_, HDr.out, by omega, by have := HN.out; omega⟩
            repeat (first | with_reducible exact HRD.out | with_reducible refine RdAt.new ?_ (by omega) hL _ _)
      · have I47 := Lib.hid (fun wx h => HIs.out ⟨#[47]⟩ wx h)
        have I92 := Lib.hid (fun wx h => HIs.out ⟨#[92]⟩ wx h)
        have I46 := Lib.hid (fun wx h => HIs.out ⟨#[46]⟩ wx h)
        rw [show (⟨#[47]⟩ : ByteArray).data.toList = [47] from rfl, show isP [47] (toks.drop (k + 1)) = false by rw [hd]; simp [isP, hqk, hqw]] at I47
        rw [show (⟨#[92]⟩ : ByteArray).data.toList = [92] from rfl, show isP [92] (toks.drop (k + 1)) = true by rw [hd]; simp [isP, hqk, hqw]] at I92
        rw [show (⟨#[46]⟩ : ByteArray).data.toList = [46] from rfl, show isP [46] (toks.drop (k + 1)) = false by rw [hd]; simp [isP, hqk, hqw]] at I46
        have HXn : Hid (X = if 17 < twoF tw ∨ false ≠ false ∨ twoF tw = 0 then .error (ta, 43) else .ok (⟨6, ta, twoF tw, [], []⟩, r2)) := by
          apply Lib.hid
          rw [HX.out, hd, phrase_op hop, hqw]
          rfl
        have HW := Lib.hid (fun w => rVerb_any (mkS tw) true w)
        rw [mkS_toList, show verbF tw true = twoF tw from rfl] at HW
        obtain ⟨fv, hfv⟩ : ∃ fv, fv = twoF tw := ⟨_, rfl⟩
        rw [← hfv] at HW HXn
        have HFv := Lib.hid hfv
        have HD := Lib.hid hd
        clear hfv hlr HIs hop hqk hqw hd
        have HDr : Hid (toks.drop (k + 1 + 1) = r2) := Lib.hid (by rw [← List.drop_drop, List.drop_one, HD.out]; rfl)
        have hk1 : k + 1 < n := by
          have := congrArg List.length HD.out
          rw [List.length_drop, List.length_cons] at this
          have := HN.out
          omega

        go_enter Tryd.func71, Tryd.ntmps71
        go_wp2_with fail
        go_region
        go_wp2_with fail
        have H0 : PhAt w ((w.alloc (.cells #[.int .i64 0, .int .i64 0, .int .u8 0, .string ⟨#[]⟩, .slice none 0 0] 48)).alloc (.cells #[.int .i64 3, .int .i64 ta, .int .u8 0, .string ⟨#[]⟩, .slice none 0 0] 48)).drew L (.slice (some ⟨g, o, none⟩) n cap) toks k e nest 3 ta :=
          ⟨HR.out.below ((((Below.refl _ _).alloc (Nat.le_refl _) _).alloc (by simp) _).drew), (Blk.new w _ _ rfl).alloc _, Blk.new _ _ _ (by simp)⟩
        generalize ((w.alloc (.cells #[.int .i64 0, .int .i64 0, .int .u8 0, .string ⟨#[]⟩, .slice none 0 0] 48)).alloc (.cells #[.int .i64 3, .int .i64 ta, .int .u8 0, .string ⟨#[]⟩, .slice none 0 0] 48)).drew = W at H0 ⊢
        have b0 : W.cell? ⟨L, 0, none⟩ = some (.slice (some ⟨g, o, none⟩) n cap) := H0.at1.rd.cell 0
        have b1 : W.cell? ⟨L, 1, none⟩ = some (.int .i64 k) := H0.at1.rd.cell 1
        have bf : W.frozen? ⟨L, 1, none⟩ = false := H0.at1.rd.froz 1
        have b2 : W.cell? ⟨g, o + k * 4 + 2, none⟩ = some (.string (mkS tw)) := by
          rw [World.cell?_of_block (a := ⟨g, o + k * 4 + 2, none⟩) (H0.at1.grown.block g hgw (fun e => by injection e with e; omega))]
          exact d2
        have H0' := Lib.hid H0
        clear H0 c0 c1 f1 d1 d2
        go_quiet (fail)
        go_wp2_with fail
        refine (HV.out _).mono ?_
        rintro _ _ ⟨rfl, rfl⟩
        have H6 : PhAt w ((W.drewN nq).setCell ⟨L, 1, none⟩ (.int .i64 ((k : Int) + 1))) L (.slice (some ⟨g, o, none⟩) n cap) toks (k + 1) e nest 3 ta := ⟨(H0'.out.at1.draws nq).put1 (k + 1), (H0'.out.res.draws nq).other (by omega) _ _, (H0'.out.x.draws nq).other (by omega) _ _⟩
        generalize ((W.drewN nq).setCell ⟨L, 1, none⟩ (.int .i64 ((k : Int) + 1))) = W6 at H6 ⊢
        have W6' := Lib.hid H6
        clear H6 b0 b1 bf b2 H0'

        go_wp2_with fail
        refine (I47.out _ W6'.out.at1).mono ?_
        rintro _ W6_1 ⟨rfl, hb1⟩
        have W6_1' := Lib.hid (W6'.out.below hb1)
        clear hb1

        go_wp2_with fail
        refine (I92.out _ W6_1'.out.at1).mono ?_
        rintro _ W6_2 ⟨rfl, hb2⟩
        have W6_2' := Lib.hid (W6_1'.out.below hb2)
        clear hb2

        go_wp2_with fail
        refine (I46.out _ W6_2'.out.at1).mono ?_
        rintro _ W6_3 ⟨rfl, hb3⟩
        have W6_3' := Lib.hid (W6_2'.out.below hb3)
        clear hb3

        have x0 := W6_3'.out.x.cell 0
        simp at x0
        have xf : W6_3.frozen? ⟨w.heap.size + 1, 0, none⟩ = false := W6_3'.out.x.froz 0
        have W7' := Lib.hid (W6_3'.out.how hL 6)
        go_wp2_with fail
        refine (I47.out _ W7'.out.at1).mono ?_
        rintro _ W8 ⟨rfl, hb8⟩
        have W8' := Lib.hid (W7'.out.below hb8)
        clear hb8 x0 xf

        go_wp2_with fail
        refine (HW.out _).mono ?_
        rintro _ _ ⟨rfl, rfl⟩
        by_cases h0 : fv = 0
        · subst h0

          have HXe : Hid (X = .error (ta, 43)) := Lib.hid (by rw [HXn.out, if_pos (.inr (.inr rfl))])
          have hq := W8'.out
          have rf1 : W8.frozen? ⟨L, 1, none⟩ = false := hq.at1.rd.froz 1
          have r1 := hq.at1.rd.cell 1
          simp at r1
          have H8 : RdAt w ((W8.setCell ⟨L, 1, none⟩ (.int .i64 ((k : Int) + 1 + 1))).setCell ⟨L, 1, none⟩ (.int .i64 k)) L (.slice (some ⟨g, o, none⟩) n cap) toks k e nest 0 0 := ((hq.at1.put1 (k + 1 + 1))).put1 k
          have hres8 : Blk ((W8.setCell ⟨L, 1, none⟩ (.int .i64 ((k : Int) + 1 + 1))).setCell ⟨L, 1, none⟩ (.int .i64 k)) w.heap.size 48 #[.int .i64 0, .int .i64 0, .int .u8 0, .string ⟨#[]⟩, .slice none 0 0] := (hq.res.other (by omega) _ _).other (by omega) _ _
          have hx8 : Blk ((W8.setCell ⟨L, 1, none⟩ (.int .i64 ((k : Int) + 1 + 1))).setCell ⟨L, 1, none⟩ (.int .i64 k)) (w.heap.size + 1) 48 #[.int .i64 6, .int .i64 ta, .int .u8 0, .string ⟨#[]⟩, .slice none 0 0] := (hq.x.other (by omega) _ _).other (by omega) _ _
          have H8' := Lib.hid H8
          have HB8 := Lib.hid (And.intro hres8 hx8)
          clear hq H8 hres8 hx8
          go_wp2_with fail
          refine (HNo.out _ H8'.out).mono ?_
          rintro _ w9 ⟨rfl, hr9, hg9⟩
          have hrd := H8'.out.to hg9 hr9
          have hres := (hg9.block w.heap.size HB8.out.1.lt (fun e => by injection e with e; omega)).trans HB8.out.1
          have hx := (hg9.block (w.heap.size + 1) HB8.out.2.lt (fun e => by injection e with e; omega)).trans HB8.out.2
          replace hres : Blk w9 w.heap.size 48 #[.int .i64 0, .int .i64 0, .int .u8 0, .string ⟨#[]⟩, .slice none 0 0] := hres
          replace hx : Blk w9 (w.heap.size + 1) 48 #[.int .i64 6, .int .i64 ta, .int .u8 0, .string ⟨#[]⟩, .slice none 0 0] := hx
          clear hr9 hg9 rf1 r1

          have a0 := hres.cell 0
          have a1 := hres.cell 1
          have a2 := hres.cell 2
          have a3 := hres.cell 3
          have a4 := hres.cell 4
          have i0 := hx.cell 0
          have i1 := hx.cell 1
          have i2 := hx.cell 2
          have i3 := hx.cell 3
          have i4 := hx.cell 4
          simp at a0 a1 a2 a3 a4 i0 i1 i2 i3 i4
          have fa := hres.froz
          have fi := hx.froz
          have HRD := Lib.hid hrd
          clear hrd hres hx
          go_wp2_with fail
          refine bodyPost_ret (v := .agg #[.int .i64 6, .int .i64 ta, .int .u8 0, .string ⟨#[]⟩, .slice none 0 0]) (by simp [results, Tryd.results71, go_sem, a0, a1, a2, a3, a4]) rfl ?_
          rw [HXe.out]
          refine ⟨⟨6, ta, 0, [], []⟩, rfl, ?_⟩
          show RdAt w _ L _ toks k e nest ta 43
          repeat (first | with_reducible exact HRD.out | with_reducible refine RdAt.new ?_ (by omega) hL _ _)
        · have h0b : (fv != 0) = true := by rw [bne_iff_ne]; exact h0
          by_cases h17 : 17 < fv
          · have h17i : ¬ (fv : Int) ≤ 17 := by omega
            have h17b : decide ((fv : Int) ≤ 17) = false := by rw [decide_eq_false_iff_not]; exact h17i

            have HXe : Hid (X = .error (ta, 43)) := Lib.hid (by rw [HXn.out, if_pos (.inl h17)])
            have hq := W8'.out
            have rf1 : W8.frozen? ⟨L, 1, none⟩ = false := hq.at1.rd.froz 1
            have r1 := hq.at1.rd.cell 1
            simp at r1
            have H8 : RdAt w ((W8.setCell ⟨L, 1, none⟩ (.int .i64 ((k : Int) + 1 + 1))).setCell ⟨L, 1, none⟩ (.int .i64 k)) L (.slice (some ⟨g, o, none⟩) n cap) toks k e nest 0 0 := ((hq.at1.put1 (k + 1 + 1))).put1 k
            have hres8 : Blk ((W8.setCell ⟨L, 1, none⟩ (.int .i64 ((k : Int) + 1 + 1))).setCell ⟨L, 1, none⟩ (.int .i64 k)) w.heap.size 48 #[.int .i64 0, .int .i64 0, .int .u8 0, .string ⟨#[]⟩, .slice none 0 0] := (hq.res.other (by omega) _ _).other (by omega) _ _
            have hx8 : Blk ((W8.setCell ⟨L, 1, none⟩ (.int .i64 ((k : Int) + 1 + 1))).setCell ⟨L, 1, none⟩ (.int .i64 k)) (w.heap.size + 1) 48 #[.int .i64 6, .int .i64 ta, .int .u8 0, .string ⟨#[]⟩, .slice none 0 0] := (hq.x.other (by omega) _ _).other (by omega) _ _
            have H8' := Lib.hid H8
            have HB8 := Lib.hid (And.intro hres8 hx8)
            clear hq H8 hres8 hx8
            go_wp2_with fail
            refine (HNo.out _ H8'.out).mono ?_
            rintro _ w9 ⟨rfl, hr9, hg9⟩
            have hrd := H8'.out.to hg9 hr9
            have hres := (hg9.block w.heap.size HB8.out.1.lt (fun e => by injection e with e; omega)).trans HB8.out.1
            have hx := (hg9.block (w.heap.size + 1) HB8.out.2.lt (fun e => by injection e with e; omega)).trans HB8.out.2
            replace hres : Blk w9 w.heap.size 48 #[.int .i64 0, .int .i64 0, .int .u8 0, .string ⟨#[]⟩, .slice none 0 0] := hres
            replace hx : Blk w9 (w.heap.size + 1) 48 #[.int .i64 6, .int .i64 ta, .int .u8 0, .string ⟨#[]⟩, .slice none 0 0] := hx
            clear hr9 hg9 rf1 r1

            have a0 := hres.cell 0
            have a1 := hres.cell 1
            have a2 := hres.cell 2
            have a3 := hres.cell 3
            have a4 := hres.cell 4
            have i0 := hx.cell 0
            have i1 := hx.cell 1
            have i2 := hx.cell 2
            have i3 := hx.cell 3
            have i4 := hx.cell 4
            simp at a0 a1 a2 a3 a4 i0 i1 i2 i3 i4
            have fa := hres.froz
            have fi := hx.froz
            have HRD := Lib.hid hrd
            clear hrd hres hx
            go_wp2_with fail
            refine bodyPost_ret (v := .agg #[.int .i64 6, .int .i64 ta, .int .u8 fv, .string ⟨#[]⟩, .slice none 0 0]) (by simp [results, Tryd.results71, go_sem, a0, a1, a2, a3, a4]) rfl ?_
            rw [HXe.out]
            refine ⟨⟨6, ta, fv, [], []⟩, rfl, ?_⟩
            show RdAt w _ L _ toks k e nest ta 43
            repeat (first | with_reducible exact HRD.out | with_reducible refine RdAt.new ?_ (by omega) hL _ _)
          · have h17i : (fv : Int) ≤ 17 := by omega
            have h17b : decide ((fv : Int) ≤ 17) = true := by rw [decide_eq_true_iff]; exact h17i

            have HXe : Hid (X = .ok (⟨6, ta, fv, [], []⟩, r2)) := Lib.hid (by rw [HXn.out, if_neg (by rintro (h | h | h) <;> simp_all)])
            have hrd : RdAt w (W8.setCell ⟨L, 1, none⟩ (.int .i64 ((k : Int) + 1 + 1))) L (.slice (some ⟨g, o, none⟩) n cap) toks (k + 1 + 1) e nest 0 0 := W8'.out.at1.put1 (k + 1 + 1)
            have r1 := W8'.out.at1.rd.cell 1
            simp at r1
            have rf1 : W8.frozen? ⟨L, 1, none⟩ = false := W8'.out.at1.rd.froz 1
            have hres := W8'.out.res
            have hx := W8'.out.x

            have a0 := hres.cell 0
            have a1 := hres.cell 1
            have a2 := hres.cell 2
            have a3 := hres.cell 3
            have a4 := hres.cell 4
            have i0 := hx.cell 0
            have i1 := hx.cell 1
            have i2 := hx.cell 2
            have i3 := hx.cell 3
            have i4 := hx.cell 4
            simp at a0 a1 a2 a3 a4 i0 i1 i2 i3 i4
            have fa := hres.froz
            have fi := hx.froz
            have HRD := Lib.hid hrd
            clear hrd hres hx
            go_wp2_with fail
            refine bodyPost_ret (v := .agg #[.int .i64 6, .int .i64 ta, .int .u8 fv, .string ⟨#[]⟩, .slice none 0 0]) (by simp [results, Tryd.results71, go_sem, a0, a1, a2, a3, a4]) rfl ?_
            rw [HXe.out]
            refine ⟨rfl, rfl, rfl, k + 1 + 1, ?_, HDr.out, by omega, by have := HN.out; omega⟩
            repeat (first | with_reducible exact HRD.out | with_reducible refine RdAt.new ?_ (by omega) hL _ _)
      · have I47 := Lib.hid (fun wx h => HIs.out ⟨#[47]⟩ wx h)
        have I92 := Lib.hid (fun wx h => HIs.out ⟨#[92]⟩ wx h)
        have I46 := Lib.hid (fun wx h => HIs.out ⟨#[46]⟩ wx h)
        rw [show (⟨#[47]⟩ : ByteArray).data.toList = [47] from rfl, show isP [47] (toks.drop (k + 1)) = false by rw [hd]; simp [isP, hqk, hqw]] at I47
        rw [show (⟨#[92]⟩ : ByteArray).data.toList = [92] from rfl, show isP [92] (toks.drop (k + 1)) = false by rw [hd]; simp [isP, hqk, hqw]] at I92
        rw [show (⟨#[46]⟩ : ByteArray).data.toList = [46] from rfl, show isP [46] (toks.drop (k + 1)) = true by rw [hd]; simp [isP, hqk, hqw]] at I46
        have HXn : Hid (X = if 17 < twoF tw ∨ true ≠ false ∨ twoF tw = 0 then .error (ta, 43) else .ok (⟨7, ta, twoF tw, [], []⟩, r2)) := by
          apply Lib.hid
          rw [HX.out, hd, phrase_op hop, hqw]
          rfl
        have HW := Lib.hid (fun w => rVerb_any (mkS tw) true w)
        rw [mkS_toList, show verbF tw true = twoF tw from rfl] at HW
        obtain ⟨fv, hfv⟩ : ∃ fv, fv = twoF tw := ⟨_, rfl⟩
        rw [← hfv] at HW HXn
        have HFv := Lib.hid hfv
        have HD := Lib.hid hd
        clear hfv hlr HIs hop hqk hqw hd
        have HDr : Hid (toks.drop (k + 1 + 1) = r2) := Lib.hid (by rw [← List.drop_drop, List.drop_one, HD.out]; rfl)
        have hk1 : k + 1 < n := by
          have := congrArg List.length HD.out
          rw [List.length_drop, List.length_cons] at this
          have := HN.out
          omega

        go_enter Tryd.func71, Tryd.ntmps71
        go_wp2_with fail
        go_region
        go_wp2_with fail
        have H0 : PhAt w ((w.alloc (.cells #[.int .i64 0, .int .i64 0, .int .u8 0, .string ⟨#[]⟩, .slice none 0 0] 48)).alloc (.cells #[.int .i64 3, .int .i64 ta, .int .u8 0, .string ⟨#[]⟩, .slice none 0 0] 48)).drew L (.slice (some ⟨g, o, none⟩) n cap) toks k e nest 3 ta :=
          ⟨HR.out.below ((((Below.refl _ _).alloc (Nat.le_refl _) _).alloc (by simp) _).drew), (Blk.new w _ _ rfl).alloc _, Blk.new _ _ _ (by simp)⟩
        generalize ((w.alloc (.cells #[.int .i64 0, .int .i64 0, .int .u8 0, .string ⟨#[]⟩, .slice none 0 0] 48)).alloc (.cells #[.int .i64 3, .int .i64 ta, .int .u8 0, .string ⟨#[]⟩, .slice none 0 0] 48)).drew = W at H0 ⊢
        have b0 : W.cell? ⟨L, 0, none⟩ = some (.slice (some ⟨g, o, none⟩) n cap) := H0.at1.rd.cell 0
        have b1 : W.cell? ⟨L, 1, none⟩ = some (.int .i64 k) := H0.at1.rd.cell 1
        have bf : W.frozen? ⟨L, 1, none⟩ = false := H0.at1.rd.froz 1
        have b2 : W.cell? ⟨g, o + k * 4 + 2, none⟩ = some (.string (mkS tw)) := by
          rw [World.cell?_of_block (a := ⟨g, o + k * 4 + 2, none⟩) (H0.at1.grown.block g hgw (fun e => by injection e with e; omega))]
          exact d2
        have H0' := Lib.hid H0
        clear H0 c0 c1 f1 d1 d2
        go_quiet (fail)
        go_wp2_with fail
        refine (HV.out _).mono ?_
        rintro _ _ ⟨rfl, rfl⟩
        have H6 : PhAt w ((W.drewN nq).setCell ⟨L, 1, none⟩ (.int .i64 ((k : Int) + 1))) L (.slice (some ⟨g, o, none⟩) n cap) toks (k + 1) e nest 3 ta := ⟨(H0'.out.at1.draws nq).put1 (k + 1), (H0'.out.res.draws nq).other (by omega) _ _, (H0'.out.x.draws nq).other (by omega) _ _⟩
        generalize ((W.drewN nq).setCell ⟨L, 1, none⟩ (.int .i64 ((k : Int) + 1))) = W6 at H6 ⊢
        have W6' := Lib.hid H6
        clear H6 b0 b1 bf b2 H0'

        go_wp2_with fail
        refine (I47.out _ W6'.out.at1).mono ?_
        rintro _ W6_1 ⟨rfl, hb1⟩
        have W6_1' := Lib.hid (W6'.out.below hb1)
        clear hb1

        go_wp2_with fail
        refine (I92.out _ W6_1'.out.at1).mono ?_
        rintro _ W6_2 ⟨rfl, hb2⟩
        have W6_2' := Lib.hid (W6_1'.out.below hb2)
        clear hb2

        go_wp2_with fail
        refine (I46.out _ W6_2'.out.at1).mono ?_
        rintro _ W6_3 ⟨rfl, hb3⟩
        have W6_3' := Lib.hid (W6_2'.out.below hb3)
        clear hb3

        go_wp2_with fail
        refine (I46.out _ W6_3'.out.at1).mono ?_
        rintro _ W6_4 ⟨rfl, hb4⟩
        have W6_4' := Lib.hid (W6_3'.out.below hb4)
        clear hb4

        have x0 := W6_4'.out.x.cell 0
        simp at x0
        have xf : W6_4.frozen? ⟨w.heap.size + 1, 0, none⟩ = false := W6_4'.out.x.froz 0
        have W7' := Lib.hid (W6_4'.out.how hL 6)
        go_wp2_with fail
        refine (I47.out _ W7'.out.at1).mono ?_
        rintro _ W8 ⟨rfl, hb8⟩
        have W8' := Lib.hid (W7'.out.below hb8)
        clear hb8 x0 xf

        have x0 := W8'.out.x.cell 0
        simp at x0
        have xf : W8.frozen? ⟨w.heap.size + 1, 0, none⟩ = false := W8'.out.x.froz 0
        have W9' := Lib.hid (W8'.out.how hL 7)
        go_wp2_with fail
        refine (HW.out _).mono ?_
        rintro _ _ ⟨rfl, rfl⟩
        generalize W8.setCell ⟨w.heap.size + 1, 0, none⟩ (.int .i64 7) = W9 at W9' ⊢
        clear x0 xf
        by_cases h0 : fv = 0
        · subst h0

          have HXe : Hid (X = .error (ta, 43)) := Lib.hid (by rw [HXn.out, if_pos (.inr (.inr rfl))])
          have hq := W9'.out
          have rf1 : W9.frozen? ⟨L, 1, none⟩ = false := hq.at1.rd.froz 1
          have r1 := hq.at1.rd.cell 1
          simp at r1
          have H8 : RdAt w ((W9.setCell ⟨L, 1, none⟩ (.int .i64 ((k : Int) + 1 + 1))).setCell ⟨L, 1, none⟩ (.int .i64 k)) L (.slice (some ⟨g, o, none⟩) n cap) toks k e nest 0 0 := ((hq.at1.put1 (k + 1 + 1))).put1 k
          have hres8 : Blk ((W9.setCell ⟨L, 1, none⟩ (.int .i64 ((k : Int) + 1 + 1))).setCell ⟨L, 1, none⟩ (.int .i64 k)) w.heap.size 48 #[.int .i64 0, .int .i64 0, .int .u8 0, .string ⟨#[]⟩, .slice none 0 0] := (hq.res.other (by omega) _ _).other (by omega) _ _
          have hx8 : Blk ((W9.setCell ⟨L, 1, none⟩ (.int .i64 ((k : Int) + 1 + 1))).setCell ⟨L, 1, none⟩ (.int .i64 k)) (w.heap.size + 1) 48 #[.int .i64 7, .int .i64 ta, .int .u8 0, .string ⟨#[]⟩, .slice none 0 0] := (hq.x.other (by omega) _ _).other (by omega) _ _
          have H8' := Lib.hid H8
          have HB8 := Lib.hid (And.intro hres8 hx8)
          clear hq H8 hres8 hx8
          go_wp2_with fail
          refine (HNo.out _ H8'.out).mono ?_
          rintro _ w9 ⟨rfl, hr9, hg9⟩
          have hrd := H8'.out.to hg9 hr9
          have hres := (hg9.block w.heap.size HB8.out.1.lt (fun e => by injection e with e; omega)).trans HB8.out.1
          have hx := (hg9.block (w.heap.size + 1) HB8.out.2.lt (fun e => by injection e with e; omega)).trans HB8.out.2
          replace hres : Blk w9 w.heap.size 48 #[.int .i64 0, .int .i64 0, .int .u8 0, .string ⟨#[]⟩, .slice none 0 0] := hres
          replace hx : Blk w9 (w.heap.size + 1) 48 #[.int .i64 7, .int .i64 ta, .int .u8 0, .string ⟨#[]⟩, .slice none 0 0] := hx
          clear hr9 hg9 rf1 r1

          have a0 := hres.cell 0
          have a1 := hres.cell 1
          have a2 := hres.cell 2
          have a3 := hres.cell 3
          have a4 := hres.cell 4
          have i0 := hx.cell 0
          have i1 := hx.cell 1
          have i2 := hx.cell 2
          have i3 := hx.cell 3
          have i4 := hx.cell 4
          simp at a0 a1 a2 a3 a4 i0 i1 i2 i3 i4
          have fa := hres.froz
          have fi := hx.froz
          have HRD := Lib.hid hrd
          clear hrd hres hx
          go_wp2_with fail
          refine bodyPost_ret (v := .agg #[.int .i64 7, .int .i64 ta, .int .u8 0, .string ⟨#[]⟩, .slice none 0 0]) (by simp [results, Tryd.results71, go_sem, a0, a1, a2, a3, a4]) rfl ?_
          rw [HXe.out]
          refine ⟨⟨7, ta, 0, [], []⟩, rfl, ?_⟩
          show RdAt w _ L _ toks k e nest ta 43
          repeat (first | with_reducible exact HRD.out | with_reducible refine RdAt.new ?_ (by omega) hL _ _)
        · have h0b : (fv != 0) = true := by rw [bne_iff_ne]; exact h0
          by_cases h17 : 17 < fv
          · have h17i : ¬ (fv : Int) ≤ 17 := by omega
            have h17b : decide ((fv : Int) ≤ 17) = false := by rw [decide_eq_false_iff_not]; exact h17i

            have HXe : Hid (X = .error (ta, 43)) := Lib.hid (by rw [HXn.out, if_pos (.inl h17)])
            have hq := W9'.out
            have rf1 : W9.frozen? ⟨L, 1, none⟩ = false := hq.at1.rd.froz 1
            have r1 := hq.at1.rd.cell 1
            simp at r1
            have H8 : RdAt w ((W9.setCell ⟨L, 1, none⟩ (.int .i64 ((k : Int) + 1 + 1))).setCell ⟨L, 1, none⟩ (.int .i64 k)) L (.slice (some ⟨g, o, none⟩) n cap) toks k e nest 0 0 := ((hq.at1.put1 (k + 1 + 1))).put1 k
            have hres8 : Blk ((W9.setCell ⟨L, 1, none⟩ (.int .i64 ((k : Int) + 1 + 1))).setCell ⟨L, 1, none⟩ (.int .i64 k)) w.heap.size 48 #[.int .i64 0, .int .i64 0, .int .u8 0, .string ⟨#[]⟩, .slice none 0 0] := (hq.res.other (by omega) _ _).other (by omega) _ _
            have hx8 : Blk ((W9.setCell ⟨L, 1, none⟩ (.int .i64 ((k : Int) + 1 + 1))).setCell ⟨L, 1, none⟩ (.int .i64 k)) (w.heap.size + 1) 48 #[.int .i64 7, .int .i64 ta, .int .u8 0, .string ⟨#[]⟩, .slice none 0 0] := (hq.x.other (by omega) _ _).other (by omega) _ _
            have H8' := Lib.hid H8
            have HB8 := Lib.hid (And.intro hres8 hx8)
            clear hq H8 hres8 hx8
            go_wp2_with fail
            refine (HNo.out _ H8'.out).mono ?_
            rintro _ w9 ⟨rfl, hr9, hg9⟩
            have hrd := H8'.out.to hg9 hr9
            have hres := (hg9.block w.heap.size HB8.out.1.lt (fun e => by injection e with e; omega)).trans HB8.out.1
            have hx := (hg9.block (w.heap.size + 1) HB8.out.2.lt (fun e => by injection e with e; omega)).trans HB8.out.2
            replace hres : Blk w9 w.heap.size 48 #[.int .i64 0, .int .i64 0, .int .u8 0, .string ⟨#[]⟩, .slice none 0 0] := hres
            replace hx : Blk w9 (w.heap.size + 1) 48 #[.int .i64 7, .int .i64 ta, .int .u8 0, .string ⟨#[]⟩, .slice none 0 0] := hx
            clear hr9 hg9 rf1 r1

            have a0 := hres.cell 0
            have a1 := hres.cell 1
            have a2 := hres.cell 2
            have a3 := hres.cell 3
            have a4 := hres.cell 4
            have i0 := hx.cell 0
            have i1 := hx.cell 1
            have i2 := hx.cell 2
            have i3 := hx.cell 3
            have i4 := hx.cell 4
            simp at a0 a1 a2 a3 a4 i0 i1 i2 i3 i4
            have fa := hres.froz
            have fi := hx.froz
            have HRD := Lib.hid hrd
            clear hrd hres hx
            go_wp2_with fail
            refine bodyPost_ret (v := .agg #[.int .i64 7, .int .i64 ta, .int .u8 fv, .string ⟨#[]⟩, .slice none 0 0]) (by simp [results, Tryd.results71, go_sem, a0, a1, a2, a3, a4]) rfl ?_
            rw [HXe.out]
            refine ⟨⟨7, ta, fv, [], []⟩, rfl, ?_⟩
            show RdAt w _ L _ toks k e nest ta 43
            repeat (first | with_reducible exact HRD.out | with_reducible refine RdAt.new ?_ (by omega) hL _ _)
          · have h17i : (fv : Int) ≤ 17 := by omega
            have h17b : decide ((fv : Int) ≤ 17) = true := by rw [decide_eq_true_iff]; exact h17i

            have HXe : Hid (X = .error (ta, 43)) := Lib.hid (by rw [HXn.out, if_pos (.inr (.inl (by decide)))])
            have hq := W9'.out
            have rf1 : W9.frozen? ⟨L, 1, none⟩ = false := hq.at1.rd.froz 1
            have r1 := hq.at1.rd.cell 1
            simp at r1
            have H8 : RdAt w ((W9.setCell ⟨L, 1, none⟩ (.int .i64 ((k : Int) + 1 + 1))).setCell ⟨L, 1, none⟩ (.int .i64 k)) L (.slice (some ⟨g, o, none⟩) n cap) toks k e nest 0 0 := ((hq.at1.put1 (k + 1 + 1))).put1 k
            have hres8 : Blk ((W9.setCell ⟨L, 1, none⟩ (.int .i64 ((k : Int) + 1 + 1))).setCell ⟨L, 1, none⟩ (.int .i64 k)) w.heap.size 48 #[.int .i64 0, .int .i64 0, .int .u8 0, .string ⟨#[]⟩, .slice none 0 0] := (hq.res.other (by omega) _ _).other (by omega) _ _
            have hx8 : Blk ((W9.setCell ⟨L, 1, none⟩ (.int .i64 ((k : Int) + 1 + 1))).setCell ⟨L, 1, none⟩ (.int .i64 k)) (w.heap.size + 1) 48 #[.int .i64 7, .int .i64 ta, .int .u8 0, .string ⟨#[]⟩, .slice none 0 0] := (hq.x.other (by omega) _ _).other (by omega) _ _
            have H8' := Lib.hid H8
            have HB8 := Lib.hid (And.intro hres8 hx8)
            clear hq H8 hres8 hx8
            go_wp2_with fail
            refine (HNo.out _ H8'.out).mono ?_
            rintro _ w9 ⟨rfl, hr9, hg9⟩
            have hrd := H8'.out.to hg9 hr9
            have hres := (hg9.block w.heap.size HB8.out.1.lt (fun e => by injection e with e; omega)).trans HB8.out.1
            have hx := (hg9.block (w.heap.size + 1) HB8.out.2.lt (fun e => by injection e with e; omega)).trans HB8.out.2
            replace hres : Blk w9 w.heap.size 48 #[.int .i64 0, .int .i64 0, .int .u8 0, .string ⟨#[]⟩, .slice none 0 0] := hres
            replace hx : Blk w9 (w.heap.size + 1) 48 #[.int .i64 7, .int .i64 ta, .int .u8 0, .string ⟨#[]⟩, .slice none 0 0] := hx
            clear hr9 hg9 rf1 r1

            have a0 := hres.cell 0
            have a1 := hres.cell 1
            have a2 := hres.cell 2
            have a3 := hres.cell 3
            have a4 := hres.cell 4
            have i0 := hx.cell 0
            have i1 := hx.cell 1
            have i2 := hx.cell 2
            have i3 := hx.cell 3
            have i4 := hx.cell 4
            simp at a0 a1 a2 a3 a4 i0 i1 i2 i3 i4
            have fa := hres.froz
            have fi := hx.froz
            have HRD := Lib.hid hrd
            clear hrd hres hx
            go_wp2_with fail
            refine bodyPost_ret (v := .agg #[.int .i64 7, .int .i64 ta, .int .u8 fv, .string ⟨#[]⟩, .slice none 0 0]) (by simp [results, Tryd.results71, go_sem, a0, a1, a2, a3, a4]) rfl ?_
            rw [HXe.out]
            refine ⟨⟨7, ta, fv, [], []⟩, rfl, ?_⟩
            show RdAt w _ L _ toks k e nest ta 43
            repeat (first | with_reducible exact HRD.out | with_reducible refine RdAt.new ?_ (by omega) hL _ _)
end Go.Proofs.YtfpneopobbfabaaDoor
