/-
  Walk of package mean: Mean at the programs of the theorems of stage 8. Condition: the program may be shown, has one input, whose array fits; its lines mean something plainly.
-/
import Derived.Test.YtknnleiinhdklaaGreatDoorPk44
import Derived.Test.YtknnleiinhdklaaGreatDoorPk45
namespace Go.Proofs.YtknnleiinhdklaaGreatDoor
open Go.RowKit Go.Shelf Go.Sort Go.Maps

def MeanPost (outs : List Arr) (w : World) (e : Ending) (w' : World) : Prop := ∃ v us, e = .returned (.tuple #[v, .agg #[.int .i64 0, .int .i64 0]]) ∧ ArrsV w' v outs us ∧ Below w.heap.size w w'
theorem StkV.arrs {w : World} {base : Nat} {v : Value} {us : List (Value × Value)} {st : List Arr} (h : StkV w base v us st) : ArrsV w v st us := by
  obtain ⟨a, c, hf⟩ := h.form
  rcases h.row.2 with ⟨rfl, h0⟩ | ⟨g, cap, cur, rfl, hb, hg, hc, hm, hs, ht⟩
  · obtain rfl : st = [] := List.eq_nil_of_length_eq_zero h0
    exact ⟨none, 0, rfl, Nat.le_refl _, Nat.zero_le _, h.len, fun h => absurd h (Nat.lt_irrefl _)⟩
  · refine ⟨_, cap, rfl, hc, hm, h.len, fun _ => ⟨g, rfl, (Array.getElem?_eq_some_iff.1 hg).1, fun i x u h1 h2 => ?_⟩⟩
    obtain ⟨g', c', u', he, hu', _, _, _, _, k1, k2, k3⟩ := h.at h1
    injection he with he _ _
    injection he with he
    injection he with he _
    subst he
    rw [h2] at hu'
    injection hu' with hu'
    subst hu'
    exact ⟨k1, k2, k3.v⟩
theorem ArrsV.below {w w' : World} {v : Value} {l : List Arr} {us : List (Value × Value)} (h : ArrsV w v l us) (hb : Below w.heap.size w w') : ArrsV w' v l us := by
  obtain ⟨a, cap, h1, h2, h3, h4, h5⟩ := h
  refine ⟨a, cap, h1, h2, h3, h4, fun hn => ?_⟩
  obtain ⟨g, k1, k2, k3⟩ := h5 hn
  exact ⟨g, k1, Nat.lt_of_lt_of_le k2 hb.size, fun i x u e1 e2 => let ⟨a, b, c⟩ := k3 i x u e1 e2; ⟨(hb.cell (p := ⟨g, _, none⟩) k2).trans a, (hb.cell (p := ⟨g, _, none⟩) k2).trans b, c.below hb⟩⟩
set_option maxHeartbeats 8000000 in
set_option maxRecDepth 100000 in
theorem mean_any (w : World) (vi vl va : Value) (p : Prg) (x : Arr) (u : Value × Value) (outs : List Arr) (hE : Env w) (hP : PrgV w 0 vi vl p) (hok : ShowOk p) (hno : NoNames p) (hA : ArrsV w va [x] [u]) (hin : p.inputs.length = 1)
    (hi0 : ∀ q, p.inputs[0]? = some q → q.name = [120] ∧ ofN x.sides = q.sides.map (·.2)) (hx : ArrOk x) (hmean : MeanR (envX x) p.lines outs) (hcnt : cntI p.lines ≤ 16) :
    Calls Tryz.prog 17 #[.agg #[vi, vl], .slice none 0 0, va] w (MeanPost outs w) := by
  obtain ⟨j0, pi, pz0, pz1, pz2⟩ := info_parts info_arr
  have HBg : Hid (∀ W, Below w.heap.size w W → Calls Tryz.prog 21 #[.agg #[vi, vl], .slice none 0 0, va] W fun e w' => ∃ b m, e = .returned (.tuple #[.pointer (some ⟨b, 0, none⟩), .agg #[.int .i64 0, .int .i64 0]]) ∧ W.heap.size ≤ b ∧ W.heap.size ≤ m ∧ b ≠ m ∧
      Blk w' b 76 #[.map (some m), .int .i64 0] ∧ MapV Tryz.prog 9 w' m 1 (putF (fun _ => none) (.string [120]) (.agg #[u.1, u.2])) ∧ Below W.heap.size W w') := Lib.hid (fun W hb => by
    have h := begin_any W vi vl va p [x] [u] (hE.kept hb) (hP.keepS (KeepS.below hb)) hok hno (hA.below hb) hin.symm (fun i y q h1 h2 => by
      have hi : i = 0 := by
        have := (List.getElem?_eq_some_iff.1 h1).1
        simpa using this
      subst hi
      injection h1 with h1
      subst h1
      exact ⟨hx, (hi0 q h2).2⟩)
    refine h.mono ?_
    rintro e w' ⟨b, m, h1, h2, h3, h4, h5, h6, h7⟩
    refine ⟨b, m, h1, h2, h3, h4, h5, ?_, h7⟩
    rw [hin] at h6
    have hq : ∃ q, p.inputs[0]? = some q := ⟨_, List.getElem?_eq_getElem (by omega)⟩
    obtain ⟨q, hq⟩ := hq
    have e : namesF p [u] 1 = putF (fun _ => none) (.string [120]) (.agg #[u.1, u.2]) := by
      show putF _ _ _ = _
      rw [hq, Option.map_some, Option.getD_some, (hi0 q hq).1]
      rfl
    rw [← e]
    exact h6)
  obtain ⟨hX, hA0⟩ : ArrV w (.agg #[u.1, u.2]) x ∧ ∃ a c, va = .slice a 1 c := by
    obtain ⟨a, c, h1, h2, h3, h4, h5⟩ := hA
    obtain ⟨g, k1, k2, k3⟩ := h5 (by simp)
    exact ⟨(k3 0 x u rfl rfl).2.2, a, c, h1⟩
  obtain ⟨aa, ca, rfl⟩ := hA0
  have HP := Lib.hid hP
  have HX := Lib.hid hX
  have HMn := Lib.hid hmean
  have HCt := Lib.hid hcnt
  have HOk := Lib.hid hok
  obtain ⟨⟨ai, ci, hi⟩, al, cl, hl⟩ := hP.forms
  rw [hin] at hi
  obtain ⟨NL, hNL⟩ : ∃ n, n = p.lines.length := ⟨_, rfl⟩
  have HNL := Lib.hid hNL
  have hL64 : NL ≤ 64 := by have := hok.many; omega
  rw [← hNL] at hl
  subst hi hl
  clear hE hP hok hno hA hin hi0 hx hmean hcnt hX hNL
  have HB0 := Lib.hid (((Below.refl _ w).alloc (Nat.le_refl _) (.cells #[.slice ai 1 ci, .slice al NL cl] 41)).alloc (by simp) (.cells #[.int .i64 0, .int .i64 0] 44))
  have HK0 := Lib.hid ((Blk.new w 41 #[.slice ai 1 ci, .slice al NL cl] rfl).alloc (.cells #[.int .i64 0, .int .i64 0] 44))
  have HK1 : Hid (Blk ((w.alloc (.cells #[.slice ai 1 ci, .slice al NL cl] 41)).alloc (.cells #[.int .i64 0, .int .i64 0] 44)) (w.heap.size + 1) 44 #[.int .i64 0, .int .i64 0]) := Lib.hid (Blk.new _ _ _ (by simp))
  go_enter Tryz.func17, Tryz.ntmps17
  go_upto_region 5 with (go_at_call 21; refine (HBg.out _ HB0.out).mono ?_; rintro _ w2 ⟨kr, km, rfl, hk1, hk2, hk3, hrun, hmap, hb⟩; have HR2 := Lib.hid (And.intro hrun (And.intro hmap hb)); have HKs := Lib.hid (And.intro hk1 (And.intro hk2 hk3)); clear hk1 hk2 hk3 hrun hmap hb)
  obtain ⟨wA, hwA⟩ : ∃ W, W = w2.alloc (.cells #[.int .i64 0, .int .i64 0] 44) := ⟨_, rfl⟩
  have HM0 : Hid (MeAt w wA (.slice ai 1 ci) (.slice al NL cl) kr km 1 0 (putF (fun _ => none) (.string [120]) (.agg #[u.1, u.2])) (envX x) (.slice none 0 0) [] []) := Lib.hid (by rw [hwA]; exact (MeAt.start rfl HKs.out.1 HKs.out.2.1 HKs.out.2.2 HR2.out.1 HR2.out.2.1 HR2.out.2.2 HX.out).below ((Below.refl _ _).alloc (Nat.le_refl _) _))
  rw [← hwA]
  have y1 := HM0.out.box.cell 1 |>.trans (show _ = some (Value.slice al NL cl) from rfl)
  clear hwA HR2 HKs HB0 HK0 HK1 HBg HX
  go_wp2_with fail
  clear y1
  go_loopw [6, 10, 12, 13, 15, 16, 17, 32] (fun v6 v10 _ _ _ _ _ v32 wr => ∃ (i nn work : Nat) (F : Lit → Option Value) (E : List UInt8 → Option Arr) (uo : List (Value × Value)) (done rest : List Arr), i ≤ NL ∧ v6 = .slice none 0 0 ∧ v32 = .int .i64 i ∧ Hid (MeAt w wr (.slice ai 1 ci) (.slice al NL cl) kr km nn work F E v10 uo done ∧ MeanR E (p.lines.drop i) rest ∧ outs = done ++ rest ∧ work + 65536 * cntI (p.lines.drop i) ≤ 1048576 ∧ nn ≤ i + 1 ∧ done.length = i)) (fun _ _ _ _ _ _ _ v32 _ => NL - (intOf v32).toNat)
  case atStart => exact ⟨0, 1, 0, _, _, [], [], outs, Nat.zero_le _, rfl, rfl, Lib.hid ⟨HM0.out, HMn.out, rfl, by rw [List.drop_zero]; have := HCt.out; omega, Nat.le_refl _, rfl⟩⟩
  case round =>
    obtain ⟨i, nn, work, F, E, uo, done, rest, hi, rfl, rfl, hA⟩ := hrel
    obtain ⟨wo, rfl⟩ : ∃ W : World, W = wr := ⟨_, rfl⟩
    by_cases hlt : i < NL
    · obtain ⟨l, hl⟩ : ∃ l, p.lines[i]? = some l := ⟨p.lines[i]'(by have := HNL.out; omega), List.getElem?_eq_getElem _⟩
      obtain ⟨gl, cap, hvl, hg1, hg2, hg3, hg4, hg5⟩ := HP.out.line_at (by have := HNL.out; omega)
      rw [← HNL.out] at hvl hg1
      injection hvl with hvl1 hvl2 hvl3
      subst hvl1 hvl3
      obtain ⟨vt, hit, d0, d1, d2⟩ := hg5 i l hl
      have hdr : p.lines.drop i = l :: p.lines.drop (i + 1) := by
        rw [List.drop_eq_getElem_cons (by have := HNL.out; omega)]
        congr 1
        exact Option.some.inj ((List.getElem?_eq_getElem (by have := HNL.out; omega)).symm.trans hl)
      rw [hdr] at hA
      obtain ⟨hA1, ⟨y, rs, hnm, hrun, hy, hre, hrest⟩, hA3, hA4, hA5, hA6⟩ := hA.out
      have hcn : cntI (l :: p.lines.drop (i + 1)) = l.items.length + cntI (p.lines.drop (i + 1)) := rfl
      rw [hcn] at hA4
      obtain ⟨nm, la, its⟩ := l
      dsimp only at hit d0 d1 d2 hnm hrun hrest hA4
      obtain ⟨ait, cit, hfs⟩ := hit.form
      obtain ⟨nit, hnit⟩ : ∃ n, n = its.length := ⟨_, rfl⟩
      rw [← hnit] at hfs hA4
      subst hfs
      have d0 := (hA1.bel.cell (p := ⟨gl, i * 3, none⟩) hg4).trans d0
      have d1 := (hA1.bel.cell (p := ⟨gl, i * 3 + 1, none⟩) hg4).trans d1
      have d2 := (hA1.bel.cell (p := ⟨gl, i * 3 + 2, none⟩) hg4).trans d2
      have HM1 : Hid (MeAt w (wo.alloc (.cells #[.string (mkS nm), .int .i64 la, .slice ait nit cit] 65)) (.slice ai 1 ci) (.slice (some ⟨gl, 0, none⟩) NL cl) kr km nn work F E u10 uo done) := Lib.hid (hA1.below ((Below.refl _ _).alloc (Nat.le_refl _) _))
      have HB1 : Hid (Blk (wo.alloc (.cells #[.string (mkS nm), .int .i64 la, .slice ait nit cit] 65)) wo.heap.size 65 #[.string (mkS nm), .int .i64 la, .slice ait nit cit]) := Lib.hid (Blk.new _ _ _ rfl)
      have HNe : Hid (kr < wo.heap.size ∧ km < wo.heap.size) := Lib.hid ⟨hA1.run.lt, hA1.map.lt⟩
      have HIt := Lib.hid hit
      have HNit := Lib.hid hnit
      have HRun := Lib.hid hrun
      have HY := Lib.hid (And.intro hy (And.intro hre (And.intro hrest hA3)))
      have HC := Lib.hid (And.intro hA4 (And.intro hA5 hA6))
      have HNm := Lib.hid hnm
      have hn16 : nit ≤ 16 := by omega
      have iI : (i : Int) < NL := by omega
      have iI0 : (0 : Int) ≤ i := by omega
      have HLt := Lib.hid hlt
      clear hl hvl2 hg1 hg2 hg3 hg4 hg5 hdr hA hA1 hA3 hA4 hA5 hA6 hcn hit hnit hrun hy hre hrest hnm hlt
      go_wp2_with fail
      clear d0 d1 d2
      obtain ⟨w1, hw1⟩ : ∃ W, W = wo.alloc (.cells #[.string (mkS nm), .int .i64 la, .slice ait nit cit] 65) := ⟨_, rfl⟩
      obtain ⟨b12, hb12⟩ : ∃ b, b = wo.heap.size := ⟨_, rfl⟩
      rw [← hw1, ← hb12] at HB1
      rw [← hw1] at HM1
      rw [← hb12] at HNe
      rw [← hw1]
      rw [← hb12]
      clear hw1 hb12
      clear wo
      go_loopw [6, 13, 15, 16, 17, 39] (fun v6 v13 _ _ _ v39 wj => ∃ (j wk : Nat) (us : List (Value × Value)) (st : List Arr), j ≤ nit ∧ v6 = .slice none 0 0 ∧ v39 = .int .i64 j ∧ Hid (MeAt w wj (.slice ai 1 ci) (.slice (some ⟨gl, 0, none⟩) NL cl) kr km nn wk F E u10 uo done ∧ Blk wj b12 65 #[.string (mkS nm), .int .i64 la, .slice ait nit cit] ∧ StkV wj w.heap.size v13 us st ∧ RunR E (its.drop j) st [y] ∧ wk + 65536 * (nit - j + cntI (p.lines.drop (i + 1))) ≤ 1048576 ∧ st.length ≤ j ∧ ∀ b, v13.ownBlock = some b → u10.ownBlock ≠ some b)) (fun _ _ _ _ _ v39 _ => nit - (intOf v39).toNat)
      case atStart => exact ⟨0, work, [], [], Nat.zero_le _, rfl, rfl, Lib.hid ⟨HM1.out, HB1.out, StkV.nil _ _, HRun.out, HC.out.1, Nat.le_refl _, fun b h => by cases h⟩⟩
      case round =>
        obtain ⟨j, wk, us, st, hj, rfl, rfl, hB⟩ := hrel
        obtain ⟨wi, rfl⟩ : ∃ W : World, W = wr := ⟨_, rfl⟩
        by_cases hjl : j < nit
        · obtain ⟨it, hit⟩ : ∃ it, its[j]? = some it := ⟨its[j]'(by have := HNit.out; omega), List.getElem?_eq_getElem _⟩
          obtain ⟨gi, capi, hvi, hi1, hi2, hi3, hi4⟩ := HIt.out.at (by have := HNit.out; omega)
          rw [← HNit.out] at hvi hi1
          injection hvi with hvi1 hvi2 hvi3
          subst hvi1 hvi3
          obtain ⟨vn, hnum, e0, e1, e2, e3, e4⟩ := hi4 j it hit
          have hdr : its.drop j = it :: its.drop (j + 1) := by
            rw [List.drop_eq_getElem_cons (by have := HNit.out; omega)]
            congr 1
            exact Option.some.inj ((List.getElem?_eq_getElem (by have := HNit.out; omega)).symm.trans hit)
          rw [hdr] at hB
          obtain ⟨hB1, hB2, hB3, ⟨st2, hst, hrun⟩, hB5, hB6, hB7⟩ := hB.out
          have bc : ∀ o v, w.cell? ⟨gi, o, none⟩ = some v → wi.cell? ⟨gi, o, none⟩ = some v := fun o v h => (hB1.bel.cell (p := ⟨gi, o, none⟩) hi3).trans h
          have e0 := bc _ _ e0
          have e1 := bc _ _ e1
          have e2 := bc _ _ e2
          have e3 := bc _ _ e3
          have e4 := bc _ _ e4
          obtain ⟨vnn, hvnn⟩ : ∃ n, n = it.nums.length := ⟨_, rfl⟩
          have HCall : Hid (∀ W, Below wi.heap.size wi W → Calls Tryz.prog 22 #[.pointer (some ⟨kr, 0, none⟩), .agg #[.int .i64 it.how, .int .i64 it.at_, .int .u8 it.fn, .string (mkS it.name), vn], u13] W (ItemPost w.heap.size kr km wk st2 W)) := Lib.hid (fun W hb => by
            have hm := hB1.below hb
            exact item_any W u13 vn us st st2 it hst (IntsO.s (w := W) (base := 0) (own_below hnum (hB1.bel.trans (hb.mono hB1.bel.size)))) hm.map hm.nam hm.run (by omega) (by have := hm.far.1; omega) (hB3.keep (FrI.below hb hB1.bel.size) (KeepTag.below hb)) (by omega))
          obtain ⟨an, cn, hfv⟩ := own_form hnum
          rw [← hvnn] at hfv
          subst hfv
          obtain ⟨how, ia, fn, inm, nums⟩ := it
          dsimp only at e0 e1 e2 e3 e4 HCall
          have HB3 := Lib.hid hB1
          have HL3 := Lib.hid hB2
          have HSt := Lib.hid (And.intro hst hrun)
          have HC3 := Lib.hid (And.intro hB5 hB6)
          have HA3 : Hid (Below wi.heap.size wi (wi.alloc (.cells #[.int .i64 how, .int .i64 ia, .int .u8 fn, .string (mkS inm), .slice an vnn cn] 71))) := Lib.hid ((Below.refl _ _).alloc (Nat.le_refl _) _)
          have jI : (j : Int) < nit := by omega
          have jI0 : (0 : Int) ≤ j := by omega
          have HJl := Lib.hid hjl
          clear hit hvi2 hi1 hi2 hi3 hi4 hnum hdr hB hB1 hB2 hB3 hst hrun hB5 hB6 hB7 bc hjl hvnn
          go_wp2_with (go_at_call 22; refine (HCall.out _ HA3.out).mono ?_; rintro _ w5 ⟨v5, us5, n5, rfl, hs5, hk5, hn5, hg5, hf5⟩; have HF5 := Lib.hid hf5; have HS5 := Lib.hid hs5; have HE5 := Lib.hid ((HB3.out.below HA3.out).item hg5 hk5); have HL5 := Lib.hid ((HL3.out.below HA3.out).gb hg5 (by have := HNe.out.1; have := HB3.out.run; omega)); have HN5 := Lib.hid hn5; clear hs5 hk5 hn5 hg5 hf5)
          go_roundw
          case rel => exact ⟨j + 1, n5, us5, st2, HJl.out, rfl, by go_num, Lib.hid ⟨HE5.out.1, HL5.out, HS5.out, HSt.out.2, by have := HC3.out.1; have := HN5.out; have := HJl.out; omega, by have := HSt.out.1.len; have := HC3.out.2; omega, fun b h e => by have h1 := (HB3.out.out.row.lt b e).2; have h2 := HF5.out b h; have h3 := HA3.out.size; omega⟩⟩
          case measure => have := HJl.out; simp [intOf]; omega
        · obtain rfl : j = nit := by omega
          obtain ⟨hB1, hB2, hB3, hrun, hB5, hB6, hB7⟩ := hB.out
          have hnil : its.drop j = [] := List.drop_of_length_le (by rw [← HNit.out]; exact Nat.le_refl _)
          rw [hnil] at hrun
          have hrun : [y] = st := hrun
          subst hrun
          obtain ⟨g, c, ⟨q1, q2⟩, he, hu, hc1, hc2, hg0, hg, c0, c1, hu2⟩ := hB3.at (i := 0) (x := y) rfl
          have he : u13 = .slice (some ⟨g, 0, none⟩) 1 c := he
          subst he
          have hus : us = [(q1, q2)] := by
            have hl := hB3.len
            match us, hl, hu with
            | [z], _, h => injection h with h; rw [h]
          subst hus
          dsimp only at c0 c1 hu2
          rw [Nat.zero_mul] at c0
          rw [Nat.zero_mul, Nat.zero_add] at c1
          have HU := Lib.hid hu2
          obtain ⟨a1, n1, k1, a2, k2, hfu⟩ := hu2.form
          obtain ⟨n2, hn2⟩ : ∃ n, n = y.data.length := ⟨_, rfl⟩
          rw [← hn2] at hfu
          simp only [Value.agg.injEq, Array.mk.injEq, List.cons.injEq, and_true] at hfu
          obtain ⟨rfl, rfl⟩ := hfu
          have HB1 := Lib.hid hB1
          have HB3 := Lib.hid hB3
          have HB5 := Lib.hid hB5
          have HNe2 := Lib.hid (hB7 g rfl)
          have s0 := hB2.cell 0 |>.trans (show _ = some (Value.string (mkS nm)) from rfl)
          have r0 := hB1.run.cell 0 |>.trans (show _ = some (Value.map (some km)) from rfl)
          clear hB hB1 hB2 hB3 hB5 hB6 hB7 hnil hu hc1 hc2 hg0 hu2 hj hjl hn2
          go_upto_region 17 with fail
          go_still_tail 9, (by kernel_rfl)
          change wpList _ _ _ _ _ wi.drew
          go_upto_region 18 with (refine wpList_put_V rfl _ _ _ 74 rfl 9 24 strKey Tryz.underlying74 km nn _ rfl HB1.out.drew.map (by have := HC.out.2.1; unfold maxLen; omega) _ (.agg #[.slice a1 n1 k1, .slice a2 n2 k2]) _ rfl rfl (Go.WideMaps.keyOf_string_mk (s := mkS nm) Tryz.underlying9 (by rw [mkS_size]; have := HNm.out; unfold maxLen; omega)) ?_; intro w6 hM6 hg6; have HM6 := Lib.hid hM6; have HG6 := Lib.hid hg6; clear hM6 hg6)
          have HQ : Hid (MeAt w w6 (.slice ai 1 ci) (.slice (some ⟨gl, 0, none⟩) NL cl) kr km (nn + 1) wk (putF F (.string nm) (.agg #[.slice a1 n1 k1, .slice a2 n2 k2])) (addE E nm y) u10 uo done ∧ FrI w.heap.size wi.drew w6 ∧ ∀ t, KeepTag t wi.drew w6) := Lib.hid (HB1.out.drew.put HG6.out (by have h := HM6.out; rw [mkS_toList] at h; exact h) (HU.out.keep (FrI.below (Below.refl _ _).drew HB1.out.bel.size)))
          have hk6 : KeepTag 24 wi w6 := (KeepTag.below (Below.refl _ _).drew).trans (HQ.out.2.2 _)
          have p0 := (HB3.out.cells_keep hk6 0).trans c0
          have p1 := (HB3.out.cells_keep hk6 1).trans c1
          have HU6 := Lib.hid (HU.out.keep ((FrI.below (Below.refl _ _).drew HB1.out.bel.size).trans HQ.out.2.1))
          have HC1 := Lib.hid (fun W (hb : Below w6.heap.size w6 W) => clone_any _ _ W (HU6.out.ints.1.below hb) (by rw [ofN_len]; have := HY.out.1.sides.len; omega))
          have HC2 := Lib.hid (fun W (hb : Below w6.heap.size w6 W) => clone_any _ _ W (HU6.out.ints.2.below hb) (by have := HY.out.1.le; omega))
          have HL : Hid (Below w6.heap.size w6 w6) := Lib.hid (Below.refl _ _)
          have lg : g < w6.heap.size := by
            have h1 := HQ.out.2.1.size
            exact Nat.lt_of_lt_of_le hg h1
          clear hk6 s0 r0 c0 c1
          go_region_held3 (fun wy => wy.cell? ⟨g, 0, none⟩ = some (.slice a1 n1 k1) ∧ wy.cell? ⟨g, 1, none⟩ = some (.slice a2 n2 k2))
            (first | go_keep)
            (first
              | (go_at_call 23; refine (HC1.out _ (by repeat (first | exact HL.out | refine Below.drew ?_ | refine below_drewN' ?_ _))).mono ?_; rintro _ w7 ⟨_, rfl, hz, hb⟩; have HZ1 := Lib.hid hz; have HL := Lib.hid ((show Below w6.heap.size w6 _ by repeat (first | exact HL.out | refine Below.drew ?_ | refine below_drewN' ?_ _)).trans (hb.mono (by exact Nat.le_refl _))); have p0' : w7.cell? ⟨g, 0, none⟩ = some (.slice a1 n1 k1) := (HL.out.cell (p := ⟨g, 0, none⟩) lg).trans p0; have p1' : w7.cell? ⟨g, 1, none⟩ = some (.slice a2 n2 k2) := (HL.out.cell (p := ⟨g, 1, none⟩) lg).trans p1; obtain ⟨a3, c3, hf3⟩ := hz.form; subst hf3; clear hz hb)
              | (go_at_call 23; refine (HC2.out _ (by repeat (first | exact HL.out | refine Below.drew ?_ | refine below_drewN' ?_ _))).mono ?_; rintro _ w8 ⟨_, rfl, hz, hb⟩; have HZ2 := Lib.hid hz; have HZ1b := Lib.hid (HZ1.out.below hb); have HL := Lib.hid (HL.out.trans (hb.mono HL.out.size)); have p0' : w8.cell? ⟨g, 0, none⟩ = some (.slice a1 n1 k1) := (HL.out.cell (p := ⟨g, 0, none⟩) lg).trans p0; have p1' : w8.cell? ⟨g, 1, none⟩ = some (.slice a2 n2 k2) := (HL.out.cell (p := ⟨g, 1, none⟩) lg).trans p1; obtain ⟨a4, c4, hf4⟩ := hz.form; subst hf4; have HQ8 := Lib.hid (HQ.out.1.below HL.out); clear hz hb)
              | (refine step_append_lies _ (by rfl) _ _ _ (by rfl) w.heap.size 24 j0 (.agg #[.slice none 0 0, .slice none 0 0]) 2 48 Tryz.underlying27 pi pz0 pz1 pz2 rfl (by decide) u10 done.length (prs uo) (by rfl) (own_below HQ8.out.out.row ((Below.refl _ _).alloc (Nat.le_refl _) _)) ⟨w8.heap.size, 0, none⟩ 1 1 [.slice a3 (ofN y.sides).length c3, .slice a4 y.data.length c4] (by rfl) (by rfl) (World.news_of_block (cs := #[.slice a3 (ofN y.sides).length c3, .slice a4 y.data.length c4]) (t := 24) (fr := (0, 0)) (heap_alloc_new w8 _)) (by simp [Value.oneCell']) (by decide) (by have := HC.out.2.2; unfold maxLen; omega) (by have := HC.out.2.2; omega) (by have := HQ8.out.bel.size; simp; omega) (w8.heap.size + 1) (by simp) ?_; intro g9 cap9 w9 hown9 hg9 hat9 hlt9; have HO9 := Lib.hid hown9; have HG9 := Lib.hid hg9; have p0' : w9.cell? ⟨g, 0, none⟩ = some (.slice a1 n1 k1) := (hg9.cell (a := ⟨g, 0, none⟩) (((((Below.refl _ _).alloc (Nat.le_refl _) _).cell (p := ⟨g, 0, none⟩) (Nat.lt_of_lt_of_le lg HL.out.size)).trans p0')) (fun e => HNe2.out e.symm)); have p1' : w9.cell? ⟨g, 1, none⟩ = some (.slice a2 n2 k2) := (hg9.cell (a := ⟨g, 1, none⟩) (((((Below.refl _ _).alloc (Nat.le_refl _) _).cell (p := ⟨g, 1, none⟩) (Nat.lt_of_lt_of_le lg HL.out.size)).trans p1')) (fun e => HNe2.out e.symm)); clear hown9 hg9 hat9 hlt9))
          have HM9 := Lib.hid ((HQ8.out.below ((Below.refl _ _).alloc (Nat.le_refl _) _)).more (y := y) (u := (.slice a3 (ofN y.sides).length c3, .slice a4 y.data.length c4)) HG9.out HO9.out ⟨_, _, rfl, .own (HZ1b.out.below ((Below.refl _ _).alloc (Nat.le_refl _) _)), .own (HZ2.out.below ((Below.refl _ _).alloc (Nat.le_refl _) _))⟩)
          rename_i hh
          clear hh p0 p1 p0' p1'
          go_wp2_with fail
          go_roundw
          case rel => exact ⟨i + 1, nn + 1, wk, _, _, _, done ++ [y], rs, HLt.out, rfl, by go_num, Lib.hid ⟨HM9.out, HY.out.2.2.1, by rw [HY.out.2.2.2, HY.out.2.1, List.append_assoc]; rfl, by have := HB5.out; omega, by have := HC.out.2.1; omega, by rw [List.length_append, HC.out.2.2]; rfl⟩⟩
          case measure => have := HLt.out; simp [intOf]; omega
    · obtain rfl : i = NL := by omega
      obtain ⟨hA1, hA2, hA3, hA4, hA5, hA6⟩ := hA.out
      have hnil : p.lines.drop i = [] := List.drop_of_length_le (by rw [← HNL.out]; exact Nat.le_refl _)
      rw [hnil] at hA2
      have hA2 : rest = [] := hA2
      subst hA2
      rw [List.append_nil] at hA3
      subst hA3
      have HA1 := Lib.hid hA1
      have f0 := hA1.flt.cell 0 |>.trans (show _ = some (Value.int .i64 0) from rfl)
      have f1 := hA1.flt.cell 1 |>.trans (show _ = some (Value.int .i64 0) from rfl)
      have r0 := hA1.flt.froz 0
      have r1 := hA1.flt.froz 1
      clear hA hA1 hA4 hA5 hA6 hnil hlt hi
      go_wp2_with fail
      obtain ⟨z0, z1, z2, z3⟩ := HA1.out.ended
      exact bodyPost_ret (v := .tuple #[u10, .agg #[.int .i64 0, .int .i64 0]]) (by simp [results, Tryz.results17, go_sem, z0, z1]) rfl ⟨_, _, rfl, z2.arrs, z3⟩
end Go.Proofs.YtknnleiinhdklaaGreatDoor
