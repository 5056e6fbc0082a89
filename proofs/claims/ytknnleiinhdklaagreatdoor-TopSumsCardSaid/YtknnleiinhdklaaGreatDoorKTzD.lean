/-
  Walks of windrowtop: means, begun. Condition: the text is read as a program that may be shown, and means something plainly.
-/
import Derived.Test.YtknnleiinhdklaaGreatDoorKTyJ
import Derived.Test.YtknnleiinhdklaaGreatDoorPk46
import Derived.Test.YtknnleiinhdklaaGreatDoorPk41
import Derived.Test.YtknnleiinhdklaaGreatDoorPk20
import Derived.Test.YtknnleiinhdklaaGreatDoorPk26
namespace Go.Proofs.YtknnleiinhdklaaGreatDoor
open Go.RowKit Go.Shelf Go.Sort Go.Maps

/-- What means gives. -/
def MeansPost (outs : List Arr) (w : World) (e : Ending) (w' : World) : Prop := ∃ v us, e = .returned (.tuple #[v, .bool true]) ∧ ArrsV w' v outs us ∧ Below w.heap.size w w'
theorem ArrsV.open {w : World} {v : Value} {l : List Arr} {us : List (Value × Value)} (h : ArrsV w v l us) (hn : 0 < l.length) :
    ∃ g c, v = .slice (some ⟨g, 0, none⟩) l.length c ∧ l.length ≤ c ∧ c ≤ maxLen ∧ g < w.heap.size ∧ ∀ (i : Nat) (x : Arr), l[i]? = some x → ∃ u1 u2, w.cell? ⟨g, i * 2, none⟩ = some u1 ∧ w.cell? ⟨g, i * 2 + 1, none⟩ = some u2 ∧ IntsS w u1 (ofN x.sides) ∧ IntsS w u2 x.data := by
  obtain ⟨a, c, h1, h2, h3, h4, h5⟩ := h
  obtain ⟨g, rfl, k2, k3⟩ := h5 hn
  refine ⟨g, c, h1, h2, h3, k2, fun i x hi => ?_⟩
  have hl := (List.getElem?_eq_some_iff.1 hi).1
  obtain ⟨q1, q2, vs, vd, q4, q5, q6⟩ := k3 i x _ hi (List.getElem?_eq_getElem (by omega))
  injection q4 with q4
  simp only [Array.mk.injEq, List.cons.injEq, and_true] at q4
  obtain ⟨e1, e2⟩ := q4
  exact ⟨_, _, q1, q2, by rw [e1]; exact q5, by rw [e2]; exact q6⟩
/-- One array in a row of its own. -/
theorem ArrsV.one (w : World) (a b : Value) (x : Arr) (h1 : IntsS w a (ofN x.sides)) (h2 : IntsS w b x.data) : ArrsV (w.alloc (.cells #[a, b] 24)) (.slice (some ⟨w.heap.size, 0, none⟩) 1 1) [x] [(a, b)] := by
  have hb : Below w.heap.size w (w.alloc (.cells #[a, b] 24)) := (Below.refl _ _).alloc (Nat.le_refl _) _
  obtain ⟨c0, c1⟩ := Blk2.new w a b 24
  refine ⟨_, 1, rfl, Nat.le_refl _, by unfold maxLen; decide, rfl, fun _ => ⟨w.heap.size, rfl, by simp, fun i y u h3 h4 => ?_⟩⟩
  have hi : i = 0 := by
    have := (List.getElem?_eq_some_iff.1 h3).1
    simpa using this
  subst hi
  injection h3 with h3
  injection h4 with h4
  subst h3 h4
  exact ⟨by rw [Nat.zero_mul]; exact c0, by rw [Nat.zero_mul, Nat.zero_add]; exact c1, a, b, rfl, h1.below hb, h2.below hb⟩
/-- One array in a row, by its cells. -/
theorem ArrsV.cells {w : World} {g : Nat} {a b : Value} {x : Arr} (hg : g < w.heap.size) (c0 : w.cell? ⟨g, 0, none⟩ = some a) (c1 : w.cell? ⟨g, 1, none⟩ = some b) (h1 : IntsS w a (ofN x.sides)) (h2 : IntsS w b x.data) : ArrsV w (.slice (some ⟨g, 0, none⟩) 1 1) [x] [(a, b)] := by
  refine ⟨_, 1, rfl, Nat.le_refl _, by unfold maxLen; decide, rfl, fun _ => ⟨g, rfl, hg, fun i y u h3 h4 => ?_⟩⟩
  have hi : i = 0 := by
    have := (List.getElem?_eq_some_iff.1 h3).1
    simpa using this
  subst hi
  injection h3 with h3
  injection h4 with h4
  subst h3 h4
  exact ⟨by rw [Nat.zero_mul]; exact c0, by rw [Nat.zero_mul, Nat.zero_add]; exact c1, a, b, rfl, h1, h2⟩
/-- One '+' of texts. -/
theorem add_run {a b c : List UInt8} (h : c = a ++ b) (hl : c.length ≤ 100000) (W : World) : (Op.stringOp .add (mkS a) (mkS b)).run Tryz.prog W = .ok (.string (mkS c)) W := by
  have := run_string_add_sum (P := Tryz.prog) W (mkS a) (mkS b) (by rw [mkS_size, mkS_size, ← List.length_append, ← h]; omega)
  rwa [mk_app2, ← h] at this
/-- What stands when a law's text has been done: the values, the box of the array that came in. -/
structure LawAt (w W : World) (va vb v : Value) (l : List Arr) (us : List (Value × Value)) : Prop where
  arrs : ArrsV W v l us
  bel : Below w.heap.size w W
  box : Blk W w.heap.size 24 #[va, vb]
set_option maxHeartbeats 4000000 in
set_option maxRecDepth 100000 in
theorem means_any (t : List UInt8) (va : Value) (q : Prg) (x : Arr) (u : Value × Value) (outs : List Arr) (w : World) (hE : Env w) (ht : t.length ≤ maxLen) (hp : bareE Prg.bare (parseL t) = .ok q)
    (hok : ShowOk q) (hno : NoNames q) (hi : q.inputs = [xInp x.sides]) (hA : ArrsV w va [x] [u]) (hx : ArrOk x) (hm : MeanR (envX x) q.lines outs) (hc : cntI q.lines ≤ 16) :
    Calls Tryz.prog 9 #[.string (mkS t), va] w (MeansPost outs w) := by
  obtain ⟨p, hpp, rfl⟩ := bareE_eq_ok hp
  have eb : p.bare.inputs = p.inputs.map Inp.bare := rfl
  have el : p.bare.lines = p.lines.map Lin.bare := rfl
  have hin : p.inputs.length = 1 := by
    have := congrArg List.length hi
    rwa [eb, List.length_map] at this
  have hi0 : ∀ q, p.inputs[0]? = some q → q.name = [120] ∧ ofN x.sides = q.sides.map (·.2) := fun q hq => by
    have e : p.bare.inputs[0]? = some q.bare := by rw [eb, List.getElem?_map, hq]; rfl
    rw [hi] at e
    injection e with e
    refine ⟨(congrArg Inp.name e).symm, ?_⟩
    have e2 : x.sides.map (fun n : Nat => (([] : List UInt8), (n : Int))) = q.sides := congrArg Inp.sides e
    rw [← e2, List.map_map]
    rfl
  have hP := Parse_any (mkS t) w (by rw [mkS_size]; exact ht) hE.err
  rw [mkS_toList, hpp] at hP
  rw [el] at hm hc
  have HP := Lib.hid hP
  obtain ⟨nl, hnl⟩ : ∃ n, n = p.lines.length := ⟨_, rfl⟩
  have HN := Lib.hid (And.intro hin hnl)
  have HM := Lib.hid (fun (vi vl : Value) (W : World) (hb : Below w.heap.size w W) (hv : PrgV W 0 vi vl p) => mean_any W vi vl va p x u outs (hE.kept hb) hv hok.ofBare hno.ofBare (hA.below hb) hin hi0 hx (MeanR_bare hm) (by rw [cntI_bare] at hc; exact hc))
  obtain ⟨aa, ca, hva⟩ : ∃ a c, va = .slice a 1 c := by
    obtain ⟨a, c, h1, _⟩ := hA
    exact ⟨a, c, h1⟩
  subst hva
  clear hE ht hp hpp hok hno hi hA hx hm hc hin hi0 hP eb el hnl
  go_enter Tryz.func9, Tryz.ntmps9
  go_upto_region 2 with (go_at_call 16; refine HP.out.mono ?_; rintro _ w1 ⟨hb, vi, vl, rfl, hv⟩; obtain ⟨⟨ai, ci, hfi⟩, al, cl, hfl⟩ := hv.forms; rw [HN.out.1] at hfi; rw [← HN.out.2] at hfl; subst hfi hfl; have HB1 := Lib.hid hb; have HV := Lib.hid (hv.base (Nat.zero_le _)); clear hb hv)
  have HW : Hid (Below w1.heap.size w1 ((w1.alloc (.cells #[.slice ai 1 ci, .slice al nl cl] 41)).alloc (.cells #[.int .i64 0, .int .i64 0] 44))) := Lib.hid (((Below.refl _ _).alloc (Nat.le_refl _) _).alloc (by simp) _)
  have HK : Hid (Blk ((w1.alloc (.cells #[.slice ai 1 ci, .slice al nl cl] 41)).alloc (.cells #[.int .i64 0, .int .i64 0] 44)) (w1.heap.size + 1) 44 #[.int .i64 0, .int .i64 0]) := Lib.hid (Blk.new _ _ _ (by simp))
  go_upto_region 3 with (go_at_call 17; refine (HM.out (.slice ai 1 ci) (.slice al nl cl) _ (HB1.out.trans (HW.out.mono HB1.out.size)) (HV.out.keepS (KeepS.below HW.out))).mono ?_; rintro _ w2 ⟨v, us, rfl, ha, hb⟩; have HA2 := Lib.hid ha; have HB2 := Lib.hid (HB1.out.trans ((HW.out.trans (hb.mono HW.out.size)).mono HB1.out.size)); have HK2 := Lib.hid (HK.out.below hb); clear ha hb)
  obtain ⟨w3, hw3⟩ : ∃ W, W = w2.alloc (.cells #[.int .i64 0, .int .i64 0] 44) := ⟨_, rfl⟩
  have hb3 : Below w2.heap.size w2 w3 := by rw [hw3]; exact (Below.refl _ _).alloc (Nat.le_refl _) _
  have hk3 : Blk w3 w2.heap.size 44 #[.int .i64 0, .int .i64 0] := by rw [hw3]; exact Blk.new _ _ _ rfl
  have HB3 := Lib.hid (HB2.out.trans (hb3.mono HB2.out.size))
  have HA3 := Lib.hid (HA2.out.below hb3)
  have f0 := (HK2.out.below hb3).cell 0 |>.trans (show _ = some (Value.int .i64 0) from rfl)
  have f1 := (HK2.out.below hb3).cell 1 |>.trans (show _ = some (Value.int .i64 0) from rfl)
  have g0 := hk3.cell 0 |>.trans (show _ = some (Value.int .i64 0) from rfl)
  have g1 := hk3.cell 1 |>.trans (show _ = some (Value.int .i64 0) from rfl)
  rw [← hw3]
  clear hw3 hb3 hk3 HW HK HM HP
  go_quiet (fail)
  go_wp2_with fail
  refine bodyPost_ret (v := .tuple #[v, .bool true]) (by simp [results, Tryz.results9, go_sem]) rfl ⟨v, us, rfl, HA3.out.below (below_drewI (Below.refl _ _) _), below_drewI HB3.out _⟩
theorem same_true (v1 v2 u1 u2 : Value) (l1 l2 : List Int) (w : World) (hv1 : IntsS w v1 l1) (hv2 : IntsS w v2 l2) (hu1 : IntsS w u1 l1) (hu2 : IntsS w u2 l2) :
    Calls Tryz.prog 11 #[.agg #[v1, v2], .agg #[u1, u2]] w fun e w' => e = .returned (.bool true) ∧ Below w.heap.size w w' := by
  refine (same_any v1 v2 u1 u2 l1 l2 l1 l2 w hv1 hv2 hu1 hu2).mono ?_
  rintro e w' ⟨rfl, hb⟩
  exact ⟨by simp, hb⟩
theorem ints_true (v u : Value) (l : List Int) (w : World) (hv : IntsS w v l) (hu : IntsS w u l) : Calls Tryz.prog 12 #[v, u] w fun e w' => e = .returned (.bool true) ∧ Below w.heap.size w w' := by
  refine (ints_any v u l l w hv hu).mono ?_
  rintro e w' ⟨rfl, hb⟩
  exact ⟨by simp, hb⟩
theorem IntsS.lit (w : World) (l : List Int) (hl : l.length ≤ maxLen) : IntsS (w.alloc (.cells (l.map (Value.int .i64)).toArray 2)) (.slice (some ⟨w.heap.size, 0, none⟩) l.length l.length) l := by
  refine ⟨_, _, rfl, Nat.le_refl _, hl, fun _ => ⟨w.heap.size, 0, rfl, by simp, fun i x hi => ?_⟩⟩
  have hb : (w.alloc (.cells (l.map (Value.int .i64)).toArray 2)).heap[w.heap.size]? = some (.cells (l.map (Value.int .i64)).toArray 2) := heap_alloc_new w _
  rw [cell_of_row _ _ _ _ _ _ hb, Nat.zero_add]
  simp [hi]
set_option maxHeartbeats 4000000 in
set_option maxRecDepth 100000 in
theorem begun_any (w : World) (hE : Env w) : Calls Tryz.prog 7 #[] w fun e w' => e = .returned (.bool true) ∧ Below w.heap.size w w' := by
  obtain ⟨w1, hw1⟩ : ∃ W, W = w.alloc (.cells #[.int .i64 3] 2) := ⟨_, rfl⟩
  obtain ⟨w2, hw2⟩ : ∃ W, W = w1.alloc (.cells #[.int .i64 1, .int .i64 2, .int .i64 3] 2) := ⟨_, rfl⟩
  have b1 : Below w.heap.size w w1 := by rw [hw1]; exact (Below.refl _ _).alloc (Nat.le_refl _) _
  have b2 : Below w1.heap.size w1 w2 := by rw [hw2]; exact (Below.refl _ _).alloc (Nat.le_refl _) _
  have s1 : IntsS w1 (.slice (some ⟨w.heap.size, 0, none⟩) 1 1) [3] := by rw [hw1]; exact IntsS.lit w [3] (by unfold maxLen; decide)
  have s2 : IntsS w2 (.slice (some ⟨w1.heap.size, 0, none⟩) 3 3) [1, 2, 3] := by rw [hw2]; exact IntsS.lit w1 [1, 2, 3] (by unfold maxLen; decide)
  have hA := ArrsV.one w2 (.slice (some ⟨w.heap.size, 0, none⟩) 1 1) (.slice (some ⟨w1.heap.size, 0, none⟩) 3 3) ⟨[3], [1, 2, 3]⟩ (s1.below b2) s2
  have b3 : Below w2.heap.size w2 (w2.alloc (.cells #[.slice (some ⟨w.heap.size, 0, none⟩) 1 1, .slice (some ⟨w1.heap.size, 0, none⟩) 3 3] 24)) := (Below.refl _ _).alloc (Nat.le_refl _) _
  have HB := Lib.hid (b1.trans ((b2.trans (b3.mono b2.size)).mono b1.size))
  have HM := Lib.hid (means_any begunS _ begunP ⟨[3], [1, 2, 3]⟩ _ [⟨[], [6]⟩] _ (hE.kept HB.out) (by unfold maxLen; decide) parse_begun begun_ok (xInp_no ⟨by decide, by decide, by decide⟩) rfl hA begun_arr mean_begun cnt_begun)
  have e1 : w1.heap.size = w.heap.size + 1 := by rw [hw1]; simp
  have e2 : w2.heap.size = w.heap.size + 2 := by rw [hw2, hw1]; simp
  rw [e1, e2, hw2, hw1] at HM
  rw [e1, hw2, hw1] at HB
  clear hA s1 s2 b1 b2 b3 hw2 e1 e2 w2 hE
  clear hw1 w1
  go_enter Tryz.func7, Tryz.ntmps7
  go_wp2_with fail
  refine HM.out.mono ?_
  rintro _ w4 ⟨v, us, rfl, ha, hb⟩
  have HB4 := Lib.hid (HB.out.trans (hb.mono HB.out.size))
  obtain ⟨g, c, rfl, hc1, hc2, hg, hat⟩ := ha.open (by decide)
  obtain ⟨u1, u2, q1, q2, _, h2⟩ := hat 0 ⟨[], [6]⟩ rfl
  rw [Nat.zero_mul, Nat.zero_add] at q2
  obtain ⟨a2, c2, rfl, _, _, h3⟩ := h2
  obtain ⟨g2, o2, rfl, _, h4⟩ := h3 (by decide)
  have d0 := h4 0 6 rfl
  rw [Nat.add_zero] at d0
  have l1 : ([⟨[], [6]⟩] : List Arr).length = 1 := rfl
  have l2 : (⟨[], [6]⟩ : Arr).data.length = 1 := rfl
  rw [l1] at *
  rw [l2] at q2
  clear ha hb HM HB h3 h4 hat q1 hc1 hc2 hg l1 l2
  go_wp2_with fail
  go_ret
  exact ⟨rfl, HB4.out⟩
end Go.Proofs.YtknnleiinhdklaaGreatDoor
