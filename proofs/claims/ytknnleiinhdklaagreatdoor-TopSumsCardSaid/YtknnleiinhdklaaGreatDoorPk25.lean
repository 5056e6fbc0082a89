/-
  Walks of package show: program, write, Right, at a program that may be shown. Condition: the program lies in memory; the library's variables are as they were laid.   Walks of package mean: Vars, begin's closures, where no side has a name. Condition: the program lies in memory.
-/
import Derived.Test.YtknnleiinhdklaaGreatDoorPk23
import Derived.Test.YtknnleiinhdklaaGreatDoorPk24
namespace Go.Proofs.YtknnleiinhdklaaGreatDoor
section
open Go.RowKit Go.Shelf Go.Sort Go.Maps
structure InpOk (x : Inp) : Prop where
 name : nameB x.name = true
 short : x.name.length ≤ 100
 four : x.sides.length ≤ 4
 sides : ∀ d ∈ x.sides, d.1 = [] ∧ in64 d.2
structure ShowOk (p : Prg) : Prop where
 many : p.inputs.length + p.lines.length ≤ 64
 pos : 0 < p.lines.length
 ins : ∀ x ∈ p.inputs, InpOk x
 mid : ∀ i x, p.lines[i]? = some x → i + 1 < p.lines.length → nameB x.name = true ∧ x.name ≠ [] ∧ x.name.length ≤ 100 ∧ ExprOk x.items 254
 last : ∀ x, p.lines[p.lines.length - 1]? = some x → x.name = [] ∧ ExprOk x.items 255
 fns : ∀ x ∈ p.lines, ∀ it ∈ x.items, it.fn ≤ 255
theorem PrgV.keepS {w w' : World} {b : Nat} {vi vl : Value} {p : Prg} (h : PrgV w b vi vl p) (hk : KeepS w w') : PrgV w' b vi vl p := by
 obtain ⟨ci, cl, h1, h2, h3, h4⟩ := h
 exact ⟨ci, cl, own_tag h1 (hk _ (by decide) (by decide)), h2.imp (fun x c hx => hx.keep (hk _ (by decide) (by decide))), own_tag h3 (hk _ (by decide) (by decide)), h4.imp (fun x c hx => hx.keep (hk _ (by decide) (by decide)) (hk _ (by decide) (by decide)))⟩
/-- What the loops of program keep. -/
structure ProAt (w0 w wr : World) (ks k1 k2 n : Nat) (vi vl : Value) (p : Prg) : Prop where
 sh : ShowAt wr w0.heap.size ks k1 k2 n
 keep : KeepS w wr
 bel : Below w0.heap.size w0 wr
 box : Blk wr w.heap.size 41 #[vi, vl]
 prg : PrgV wr 0 vi vl p
 size : w.heap.size ≤ wr.heap.size
theorem ProAt.below {w0 w wr w' : World} {ks k1 k2 n : Nat} {vi vl : Value} {p : Prg} (h : ProAt w0 w wr ks k1 k2 n vi vl p) (hb : Below wr.heap.size wr w') : ProAt w0 w w' ks k1 k2 n vi vl p :=
 ⟨h.sh.below hb, h.keep.trans (KeepS.below hb), h.bel.trans (hb.mono h.bel.size), h.box.below hb, h.prg.keepS (KeepS.below hb), Nat.le_trans h.size hb.size⟩
theorem ProAt.lined {w0 w wr w' : World} {ks k1 k2 n m : Nat} {vi vl : Value} {p : Prg} (h : ProAt w0 w wr ks k1 k2 n vi vl p) (hs : ShowAt w' w0.heap.size ks k1 k2 m) (hb : Below w0.heap.size wr w') (hk : KeepS wr w') : ProAt w0 w w' ks k1 k2 m vi vl p :=
 ⟨hs, h.keep.trans hk, h.bel.trans hb, h.box.keep (hk _ (by decide) (by decide)), h.prg.keepS hk, Nat.le_trans h.size hb.size⟩
theorem sideCells_get : ∀ (l : List (List UInt8 × Int)) (j : Nat) (d : List UInt8 × Int), l[j]? = some d → (sideCells l)[j * 2]? = some (.string (mkS d.1)) ∧ (sideCells l)[j * 2 + 1]? = some (.int .i64 d.2)
 | [], j, d, h => by simp at h
 | x :: l, 0, d, h => by
  simp only [List.getElem?_cons_zero, Option.some.injEq] at h
  subst h
  exact ⟨rfl, rfl⟩
 | x :: l, j + 1, d, h => by
  have := sideCells_get l j d (by simpa using h)
  rw [show (j + 1) * 2 = j * 2 + 1 + 1 by omega]
  exact this
set_option maxHeartbeats 8000000 in
set_option maxRecDepth 100000 in
theorem program_any (w0 w : World) (ks k1 k2 : Nat) (vi vl : Value) (p : Prg) (hE : Env w0) (hb0 : Below w0.heap.size w0 w) (hS : ShowAt w w0.heap.size ks k1 k2 0) (hks : w0.heap.size ≤ ks) (hP : PrgV w 0 vi vl p) (hok : ShowOk p) :
  Calls Tryz.prog 82 #[.pointer (some ⟨ks, 0, none⟩), .agg #[vi, vl]] w fun e w' => e = .returned (.bool true) ∧ (∃ m, ShowAt w' w0.heap.size ks k1 k2 m ∧ 0 < m) ∧ Below w0.heap.size w0 w' := by
 have HEn := Lib.hid (fun W (h : Below w0.heap.size w0 W) => hE.kept h)
 have HOk := Lib.hid hok
 have HA0 : Hid (ProAt w0 w (w.alloc (.cells #[vi, vl] 41)) ks k1 k2 0 vi vl p) := Lib.hid ⟨hS.below ((Below.refl _ _).alloc (Nat.le_refl _) _), KeepS.below ((Below.refl _ _).alloc (Nat.le_refl _) _), hb0.alloc hb0.size _, Blk.new _ _ _ rfl, hP.keepS (KeepS.below ((Below.refl _ _).alloc (Nat.le_refl _) _)), by simp⟩
 obtain ⟨⟨ai, ci, hi⟩, al, cl, hl⟩ := hP.forms
 obtain ⟨NI, hNI⟩ : ∃ n, n = p.inputs.length := ⟨_, rfl⟩
 obtain ⟨NL, hNL⟩ : ∃ n, n = p.lines.length := ⟨_, rfl⟩
 have HNI := Lib.hid hNI
 have HNL := Lib.hid hNL
 have hm := hok.many
 have hp := hok.pos
 rw [← hNI, ← hNL] at hm
 rw [← hNL] at hp
 rw [← hNI] at hi
 rw [← hNL] at hl
 subst hi hl
 clear hS hP hok hE hNI hNL hb0
 obtain ⟨L1, hL1⟩ : ∃ L1, NL = L1 + 1 := ⟨NL - 1, by omega⟩
 subst hL1
 have l0 : ¬ (L1 : Int) < 0 := by omega
 have l1 : ¬ (64 : Int) < (NI : Int) := by omega
 have l2 : ¬ (64 : Int) - (NI : Int) < (L1 : Int) + 1 := by omega
 obtain ⟨lk1, lk2⟩ := wr_nat L1 (by omega)
 obtain ⟨lm1, lm2⟩ : wrap64 (64 - (NI : Int)) = 64 - (NI : Int) ∧ IntKind.i64.wrap (64 - (NI : Int)) = 64 - (NI : Int) := ⟨by unfold wrap64; omega, by rw [IntKind.wrap_i64]; omega⟩
 have HK := Lib.hid (And.intro hm (And.intro hp hks))
 go_enter Tryz.func82, Tryz.ntmps82
 go_wp2_with fail
 clear lm1 lm2 l0 l1 l2 hks
 have hI64 : NI ≤ 64 := by omega
 have hL64 : L1 + 1 ≤ 64 := by omega
 clear hm
 go_loopw [7, 8, 10, 42] (fun _ _ _ vk wr => ∃ (k n : Nat), k ≤ NI ∧ vk = .int .i64 k ∧ Hid (ProAt w0 w wr ks k1 k2 n (.slice ai NI ci) (.slice al (L1 + 1) cl) p ∧ n ≤ k * 1001001)) (fun _ _ _ vk _ => NI - (intOf vk).toNat)
 case atStart => exact ⟨0, 0, Nat.zero_le _, rfl, Lib.hid ⟨HA0.out, Nat.zero_le _⟩⟩
 case round =>
  obtain ⟨k, n, hk, rfl, hA⟩ := hrel
  obtain ⟨wo, rfl⟩ : ∃ W : World, W = wr := ⟨_, rfl⟩
  by_cases hlt : k < NI
  ·obtain ⟨x, hx⟩ : ∃ x, p.inputs[k]? = some x := ⟨p.inputs[k]'(by have := HNI.out; omega), List.getElem?_eq_getElem _⟩
   obtain ⟨gi, cap, hvi, hg1, hg2, hg3, hg4, hg5⟩ := hA.out.1.prg.input_at (by have := HNI.out; omega)
   rw [← HNI.out] at hvi hg1
   injection hvi with hvi1 hvi2 hvi3
   subst hvi1 hvi3
   obtain ⟨vs, hsd, d0, d1, d2⟩ := hg5 k x hx
   have hio := HOk.out.ins x (List.mem_of_getElem? hx)
   obtain ⟨nm, ia, sides⟩ := x
   dsimp only at hsd d0 d1 d2
   obtain ⟨ns, hns⟩ : ∃ n, n = sides.length := ⟨_, rfl⟩
   have HNs := Lib.hid hns
   obtain ⟨asd, csd, hfs⟩ := own_form hsd
   rw [← hns] at hfs
   subst hfs
   have HSd := Lib.hid hsd
   have hnm2 := hio.short
   have hns4 := hio.four
   have HIo := Lib.hid hio
   dsimp only at hnm2 hns4
   rw [← hns] at hns4
   have kI : (k : Int) < NI := by omega
   have kI0 : (0 : Int) ≤ k := by omega
   have s4 : ¬ (4 : Int) < (ns : Int) := by omega
   have HNm : Hid (∀ W, Below wo.heap.size wo W → Calls Tryz.prog 30 #[.string (mkS nm)] W fun e w' => e = .returned (.bool true) ∧ Below W.heap.size W w') := Lib.hid (fun W hb => by
    have h := Name_any (mkS nm) W (by rw [mkS_size]; unfold maxLen; omega) (HEn.out W (hA.out.1.bel.trans (hb.mono hA.out.1.bel.size))).err
    rw [mkS_toList, hio.name] at h
    exact h)
   have HLt := Lib.hid hlt
   have HN2 := Lib.hid hnm2
   have HB0 := Lib.hid ((Below.refl _ wo).alloc (Nat.le_refl _) (.cells #[.string (mkS nm), .int .i64 ia, .slice asd ns csd] 86))
   have HX := Lib.hid (Blk.new wo 86 #[.string (mkS nm), .int .i64 ia, .slice asd ns csd] rfl)
   clear hx hvi2 hg1 hg2 hg3 hg4 hg5 hsd hns hio hnm2 hns4 hlt
   go_wp2_with (go_at_call 30; refine (HNm.out _ HB0.out).mono ?_; rintro _ w1 ⟨rfl, hb1⟩; have HB1 := Lib.hid (HB0.out.trans (hb1.mono HB0.out.size)); have hx1 := HX.out.below hb1; have e0 := (hx1.cell 0).trans (show _ = some (Value.string (mkS nm)) from rfl); have e2 := (hx1.cell 2).trans (show _ = some (Value.slice asd ns csd) from rfl); clear hb1 hx1)
   clear d0 d1 d2 e0 e2
   go_loopw [8, 10, 61] (fun v8 _ vj wr => ∃ (j : Nat) (s : ByteArray), j ≤ ns ∧ vj = .int .i64 j ∧ v8 = .string s ∧ s.size ≤ 100 + j * 25 ∧ Hid (Below wo.heap.size wo wr)) (fun _ _ vj _ => ns - (intOf vj).toNat)
   case atStart => exact ⟨0, mkS nm, Nat.zero_le _, rfl, rfl, by rw [mkS_size]; exact HN2.out, HB1⟩
   case round =>
    obtain ⟨j, s, hj, rfl, rfl, hs, hBj⟩ := hrel
    by_cases hjl : j < ns
    ·obtain ⟨d, hd⟩ : ∃ d, sides[j]? = some d := ⟨sides[j]'(by have := HNs.out; omega), List.getElem?_eq_getElem _⟩
     have hds := HIo.out.sides d (List.mem_of_getElem? hd)
     obtain ⟨c0, c1⟩ := sideCells_get sides j d hd
     obtain ⟨gs, cap, hge, hgs0, hgs1, hgs2, hgs3, hgs4, hgs5⟩ := own_cells HSd.out (by have := HNs.out; omega)
     injection hge with hge1 hge2 hge3
     subst hge1 hge3
     have c0 := (hBj.out.cell (p := ⟨gs, _, none⟩) hgs1).trans ((hgs4 (j * 2) (by have := HNs.out; omega)).trans c0)
     have c1 := (hBj.out.cell (p := ⟨gs, _, none⟩) hgs1).trans ((hgs4 (j * 2 + 1) (by have := HNs.out; omega)).trans c1)
     obtain ⟨dn, dv⟩ := d
     dsimp only at hds c0 c1
     obtain ⟨rfl, hdv⟩ := hds
     have hem : (mkS []).toList = [] := by rw [ByteArray.toList_eq, mkS_toList]
     have HNu : Hid (∀ W, Below wr.heap.size wr W → Calls Tryz.prog 99 #[.int .i64 dv] W fun e w' => e = .returned (.string (mkS (spelt dv))) ∧ Below W.heap.size W w') := Lib.hid (fun W hb => snumber_any dv W hdv (HEn.out W (hA.out.1.bel.trans ((hBj.out.trans (hb.mono hBj.out.size)).mono hA.out.1.bel.size))))
     have HB2 := Lib.hid ((Below.refl _ wr).alloc (Nat.le_refl _) (.cells #[.string (mkS []), .int .i64 dv] 96))
     have hsp := spelt_len dv
     have jI : (j : Int) < ns := by omega
     have jI0 : (0 : Int) ≤ j := by omega
     have hs2 : s.size ≤ 1000 := by have := HK.out.1; omega
     have HS := Lib.hid (And.intro hs hjl)
     clear hd hge2 hgs0 hgs1 hgs2 hgs3 hgs4 hgs5 hdv hs hjl
     go_wp2_with (go_at_call 99; refine (HNu.out _ HB2.out).mono ?_; rintro _ w2 ⟨rfl, hb2⟩; have HB3 := Lib.hid (HB2.out.trans (hb2.mono HB2.out.size)); clear hb2)
     go_roundw
     case rel => exact ⟨j + 1, _, HS.out.2, by go_num, rfl, by rw [ByteArray.size_append, ByteArray.size_append, mkS_size]; have := HS.out.1; show s.size + (1 + _) ≤ _; omega, Lib.hid (hBj.out.trans (HB3.out.mono hBj.out.size))⟩
     case measure => have := HS.out.2; simp [intOf]; omega
    ·obtain rfl : j = ns := by omega
     have HAj := Lib.hid (hA.out.1.below hBj.out)
     have HLi := Lib.hid (line_any w0.heap.size ks k1 k2 n ⟨#[105, 110, 32]⟩ s wr HAj.out.sh (by have := hA.out.2; have := HK.out.1; omega) (by decide) (by have := HK.out.1; have := HIo.out.four; have := HNs.out; dsimp only at *; omega) HK.out.2.2 HAj.out.bel.size)
     clear hs hj hjl
     go_wp2_with (go_at_call 100; refine HLi.out.mono ?_; rintro _ w2 ⟨rfl, ⟨m, hm1, hm2, hm3⟩, hb2, hk2⟩; have HA2 := Lib.hid (HAj.out.lined hm1 hb2 hk2); have HM := Lib.hid hm3; clear hm1 hm2 hm3 hb2 hk2)
     go_roundw
     case rel => exact ⟨k + 1, m, HLt.out, by go_num, Lib.hid ⟨HA2.out, by have := HM.out; have := hA.out.2; omega⟩⟩
     case measure => have := HLt.out; simp [intOf]; omega
  ·obtain rfl : k = NI := by omega
   have HN1 := Lib.hid hA.out.2
   have HA1 := Lib.hid hA.out.1
   have e1 := (HA1.out.box.cell 1).trans (show _ = some (Value.slice al (L1 + 1) cl) from rfl)
   clear hlt hA hk
   go_wp2_with fail
   clear e1
   go_loopw [11, 12, 13, 14, 15, 16, 97] (fun _ _ _ _ _ _ vi wr => ∃ (i m : Nat), i ≤ L1 + 1 ∧ vi = .int .i64 i ∧ Hid (ProAt w0 w wr ks k1 k2 m (.slice ai k ci) (.slice al (L1 + 1) cl) p ∧ m ≤ (k + i) * 1001001 ∧ (0 < i → 0 < m))) (fun _ _ _ _ _ _ vi _ => L1 + 1 - (intOf vi).toNat)
   case atStart => exact ⟨0, n, Nat.zero_le _, rfl, Lib.hid ⟨HA1.out, HN1.out, fun h => absurd h (Nat.lt_irrefl _)⟩⟩
   case round =>
    obtain ⟨i, m, hi, rfl, hA2⟩ := hrel
    obtain ⟨wl, rfl⟩ : ∃ W : World, W = wr := ⟨_, rfl⟩
    by_cases hlt : i < L1 + 1
    ·obtain ⟨x, hx⟩ : ∃ x, p.lines[i]? = some x := ⟨p.lines[i]'(by have := HNL.out; omega), List.getElem?_eq_getElem _⟩
     obtain ⟨gl, cap, hvl, hg1, hg2, hg3, hg4, hg5⟩ := hA2.out.1.prg.line_at (by have := HNL.out; omega)
     rw [← HNL.out] at hvl hg1
     injection hvl with hvl1 hvl2 hvl3
     subst hvl1 hvl3
     obtain ⟨vt, hit, d0, d1, d2⟩ := hg5 i x hx
     have HFn := Lib.hid (HOk.out.fns x (List.mem_of_getElem? hx))
     obtain ⟨nm, la, its⟩ := x
     have HX0 := Lib.hid hx
     dsimp only at hit d0 d1 d2 HFn
     obtain ⟨ait, cit, hfs⟩ := hit.form
     obtain ⟨nit, hnit⟩ : ∃ n, n = its.length := ⟨_, rfl⟩
     rw [← hnit] at hfs
     subst hfs
     have HIt := Lib.hid hit
     have HMb : Hid (m ≤ 900000000) := Lib.hid (by have := hA2.out.2.1; have := HK.out.1; omega)
     have iI : (i : Int) < (L1 : Int) + 1 := by omega
     have iI0 : (0 : Int) ≤ i := by omega
     have HLt := Lib.hid hlt
     have HB0 := Lib.hid ((Below.refl _ wl).alloc (Nat.le_refl _) (.cells #[.string (mkS nm), .int .i64 la, .slice ait nit cit] 65))
     have HX := Lib.hid (Blk.new wl 65 #[.string (mkS nm), .int .i64 la, .slice ait nit cit] rfl)
     clear hx hvl2 hg1 hg2 hg3 hg4 hg5 hit hnit
     by_cases hlast : i = L1
     ·subst hlast
      obtain ⟨hn0, hex⟩ := HOk.out.last ⟨nm, la, its⟩ (by have h := HX0.out; have := HNL.out; rw [← this, Nat.add_sub_cancel]; exact h)
      dsimp only at hn0 hex
      subst hn0
      have hem : (mkS []).toList = [] := by rw [ByteArray.toList_eq, mkS_toList]
      have HEx : Hid (∀ W, Below wl.heap.size wl W → Calls Tryz.prog 101 #[.pointer (some ⟨ks, 0, none⟩), .slice ait nit cit, .int .i64 255] W (ShExPost W)) := Lib.hid (fun W hb => expr_show w0.heap.size ks k1 k2 m _ its 255 W (hA2.out.1.sh.below hb) (HIt.out.keep fun t => KeepTag.below hb) hex (Nat.le_refl _) (HEn.out W (hA2.out.1.bel.trans (hb.mono hA2.out.1.bel.size))) HFn.out)
      clear hex
      go_wp2_with (first
       | (go_at_call 101; refine (HEx.out _ HB0.out).mono ?_; rintro _ w1 ⟨s, rfl, hs, hb1⟩; have HB1 := Lib.hid (HB0.out.trans (hb1.mono HB0.out.size)); have hx1 := HX.out.below hb1; have e0 := (hx1.cell 0).trans (show _ = some (Value.string (mkS [])) from rfl); have HSs := Lib.hid hs; have HA3 := Lib.hid (hA2.out.1.below HB1.out); have HLi := Lib.hid (line_any w0.heap.size ks k1 k2 m ⟨#[111, 117, 116, 32]⟩ s w1 HA3.out.sh HMb.out (by decide) HSs.out HK.out.2.2 HA3.out.bel.size); clear hs hb1 hx1)
       | (go_at_call 100; refine HLi.out.mono ?_; rintro _ w2 ⟨rfl, ⟨m2, hm1, hm2, hm3⟩, hb2, hk2⟩; have HA4 := Lib.hid (HA3.out.lined hm1 hb2 hk2); have HM := Lib.hid (And.intro hm2 hm3); clear hm1 hm2 hm3 hb2 hk2))
      go_roundw
      case rel => exact ⟨i + 1, m2, HLt.out, by go_num, Lib.hid ⟨HA4.out, by have := HM.out.2; have := hA2.out.2.1; omega, fun _ => HM.out.1⟩⟩
      case measure => have := HLt.out; first | (simp [intOf]; done) | (simp [intOf]; omega)
     ·have hmid : i < L1 := by omega
      obtain ⟨hnb, hn0, hnl, hex⟩ := HOk.out.mid i ⟨nm, la, its⟩ HX0.out (by have := HNL.out; omega)
      dsimp only at hnb hn0 hnl hex
      have hne : ((mkS nm).toList == []) = false := by rw [beq_eq_false_iff_ne, ByteArray.toList_eq, mkS_toList]; exact hn0
      have i1 : ((i : Int) == (L1 : Int)) = false := by rw [beq_eq_false_iff_ne]; omega
      have i2 : (i : Int) < (L1 : Int) := by omega
      have HEx : Hid (∀ W, Below wl.heap.size wl W → Calls Tryz.prog 101 #[.pointer (some ⟨ks, 0, none⟩), .slice ait nit cit, .int .i64 254] W (ShExPost W)) := Lib.hid (fun W hb => expr_show w0.heap.size ks k1 k2 m _ its 254 W (hA2.out.1.sh.below hb) (HIt.out.keep fun t => KeepTag.below hb) hex (by decide) (HEn.out W (hA2.out.1.bel.trans (hb.mono hA2.out.1.bel.size))) HFn.out)
      have HNm : Hid (∀ W, Below wl.heap.size wl W → Calls Tryz.prog 30 #[.string (mkS nm)] W fun e w' => e = .returned (.bool true) ∧ Below W.heap.size W w') := Lib.hid (fun W hb => by
       have h := Name_any (mkS nm) W (by rw [mkS_size]; unfold maxLen; omega) (HEn.out W (hA2.out.1.bel.trans (hb.mono hA2.out.1.bel.size))).err
       rw [mkS_toList, hnb] at h
       exact h)
      have hhd : (mkS nm ++ (⟨#[58, 32]⟩ : ByteArray)).size ≤ 1000 := by rw [ByteArray.size_append, mkS_size]; show nm.length + 2 ≤ 1000; omega
      have HHd := Lib.hid hhd
      clear hex hnb hn0 hhd hmid
      go_wp2_with (first
       | (go_at_call 101; refine (HEx.out _ HB0.out).mono ?_; rintro _ w1 ⟨s, rfl, hs, hb1⟩; have HB1 := Lib.hid (HB0.out.trans (hb1.mono HB0.out.size)); have hx1 := HX.out.below hb1; have e0 := (hx1.cell 0).trans (show _ = some (Value.string (mkS nm)) from rfl); have HSs := Lib.hid hs; clear hs hb1 hx1)
       | (go_at_call 30; refine (HNm.out _ HB1.out).mono ?_; rintro _ w1b ⟨rfl, hb1⟩; have HB1b := Lib.hid (HB1.out.trans (hb1.mono HB1.out.size)); have HA3 := Lib.hid (hA2.out.1.below HB1b.out); have HLi := Lib.hid (line_any w0.heap.size ks k1 k2 m (mkS nm ++ ⟨#[58, 32]⟩) s w1b HA3.out.sh HMb.out HHd.out HSs.out HK.out.2.2 HA3.out.bel.size); clear hb1)
       | (go_at_call 100; refine HLi.out.mono ?_; rintro _ w2 ⟨rfl, ⟨m2, hm1, hm2, hm3⟩, hb2, hk2⟩; have HA4 := Lib.hid (HA3.out.lined hm1 hb2 hk2); have HM := Lib.hid (And.intro hm2 hm3); clear hm1 hm2 hm3 hb2 hk2))
      go_roundw
      case rel => exact ⟨i + 1, m2, HLt.out, by go_num, Lib.hid ⟨HA4.out, by have := HM.out.2; have := hA2.out.2.1; omega, fun _ => HM.out.1⟩⟩
      case measure => have := HLt.out; first | (simp [intOf]; done) | (simp [intOf]; omega)
    ·obtain rfl : i = L1 + 1 := by omega
     have HF := Lib.hid (And.intro hA2.out.1 (hA2.out.2.2 (Nat.succ_pos _)))
     clear hlt hA2 hi
     go_wp2_with fail
     go_ret
     exact ⟨rfl, ⟨m, HF.out.1.sh, HF.out.2⟩, HF.out.1.bel⟩
end
section
open Go.RowKit Go.Shelf Go.Sort Go.Maps
theorem Blk.gb {w w' : World} {b g : Nat} {t : TypeId} {cs : Array Value} (h : Blk w b t cs) (hg : w.grownBy w' (some g)) (hne : b ≠ g) : Blk w' b t cs := (hg.block b h.lt (fun e => hne (by injection e))).trans h
theorem strKey : Keyed Tryz.prog 9 := string_keyed Tryz.underlying9
theorem zeroBool (w : World) : (zeroValue 4).run Tryz.prog w = .ok (.bool false) w := by kernel_rfl
/-- No side of the inputs has a name. -/
def NoNames (p : Prg) : Prop := p.inputs.length ≤ 64 ∧ ∀ x ∈ p.inputs, x.sides.length ≤ 4 ∧ ∀ d ∈ x.sides, d.1 = []
def seenF : Lit → Option Value := putF (fun _ => none) (.string []) (.bool true)
set_option maxHeartbeats 8000000 in
set_option maxRecDepth 100000 in
theorem vars_any (w : World) (vi vl : Value) (p : Prg) (hP : PrgV w 0 vi vl p) (hno : NoNames p) :
  Calls Tryz.prog 34 #[.agg #[vi, vl]] w fun e w' => e = .returned (.slice none 0 0) ∧ Below w.heap.size w w' := by
 have hmm := @run_makeMap Tryz.prog
 obtain ⟨⟨ai, ci, hi⟩, al, cl, hl⟩ := hP.forms
 obtain ⟨NI, hNI⟩ : ∃ n, n = p.inputs.length := ⟨_, rfl⟩
 have HNI := Lib.hid hNI
 rw [← hNI] at hi
 subst hi hl
 have HNo := Lib.hid hno
 have hI64 : NI ≤ 64 := by rw [hNI]; exact hno.1
 have HP := Lib.hid hP
 clear hP hno hNI
 generalize p.lines.length = NL at *
 have HM0 := Lib.hid (MapV.made (w.alloc (.cells #[.slice ai NI ci, .slice al NL cl] 41)) Tryz.prog 9)
 rw [World.size_alloc] at HM0
 have HB0 := Lib.hid (((Below.refl _ w).alloc (Nat.le_refl _) (.cells #[.slice ai NI ci, .slice al NL cl] 41)).alloc (by simp) (.map #[] 0))
 have HX := Lib.hid ((Blk.new w 41 #[.slice ai NI ci, .slice al NL cl] rfl).alloc (.map #[] 0))
 go_enter Tryz.func34, Tryz.ntmps34
 go_wp2_with (refine wpList_ins_V rfl _ _ _ 114 rfl 9 4 strKey Tryz.underlying114 (w.heap.size + 1) 0 _ rfl HM0.out (by unfold maxLen; omega) _ _ _ rfl rfl (Go.WideMaps.keyOf_string_mk Tryz.underlying9 (Nat.zero_le _)) ?_; intro wa hma hga; have HMa := Lib.hid hma; have HGa := Lib.hid hga; have HXa := Lib.hid (HX.out.gb hga (by omega)); have HBa := Lib.hid (HB0.out.grown hga (by simp <;> omega) (fun j hj => by cases hj; omega)); have x0 := (HXa.out.cell 0).trans (show _ = some (Value.slice ai NI ci) from rfl); clear hma hga)
 clear x0
 go_loopw [3, 6, 8, 14] (fun v3 _ _ vk wr => ∃ k : Nat, k ≤ NI ∧ v3 = .slice none 0 0 ∧ vk = .int .i64 k ∧ Hid (MapV Tryz.prog 9 wr (w.heap.size + 1) 1 seenF ∧ Below w.heap.size w wr)) (fun _ _ _ vk _ => NI - (intOf vk).toNat)
 case atStart => exact ⟨0, Nat.zero_le _, rfl, rfl, Lib.hid ⟨HMa.out, HBa.out⟩⟩
 case round =>
  obtain ⟨k, hk, rfl, rfl, hA⟩ := hrel
  obtain ⟨wo, rfl⟩ : ∃ W : World, W = wr := ⟨_, rfl⟩
  by_cases hlt : k < NI
  ·obtain ⟨x, hx⟩ : ∃ x, p.inputs[k]? = some x := ⟨p.inputs[k]'(by have := HNI.out; omega), List.getElem?_eq_getElem _⟩
   obtain ⟨gi, cap, hvi, hg1, hg2, hg3, hg4, hg5⟩ := (HP.out.keepS (KeepS.below hA.out.2)).input_at (by have := HNI.out; omega)
   rw [← HNI.out] at hvi hg1
   injection hvi with hvi1 hvi2 hvi3
   subst hvi1 hvi3
   obtain ⟨vs, hsd, d0, d1, d2⟩ := hg5 k x hx
   have hio := HNo.out.2 x (List.mem_of_getElem? hx)
   obtain ⟨nm, ia, sides⟩ := x
   dsimp only at hsd d0 d1 d2 hio
   obtain ⟨ns, hns⟩ : ∃ n, n = sides.length := ⟨_, rfl⟩
   have HNs := Lib.hid hns
   obtain ⟨asd, csd, hfs⟩ := own_form hsd
   rw [← hns] at hfs
   subst hfs
   have HSd := Lib.hid hsd
   have HIo := Lib.hid hio
   have hns4 : ns ≤ 4 := by rw [hns]; exact hio.1
   have kI : (k : Int) < NI := by omega
   have kI0 : (0 : Int) ≤ k := by omega
   have HLt := Lib.hid hlt
   have HB1 := Lib.hid ((Below.refl _ wo).alloc (Nat.le_refl _) (.cells #[.string (mkS nm), .int .i64 ia, .slice asd ns csd] 86))
   have HM1 := Lib.hid (hA.out.1.below HB1.out)
   clear hx hvi2 hg1 hg2 hg3 hg4 hg5 hsd hns hio hlt
   go_wp2_with fail
   clear d0 d1 d2
   go_loopw [3, 8, 21] (fun v3 _ vj wr => ∃ j : Nat, j ≤ ns ∧ v3 = .slice none 0 0 ∧ vj = .int .i64 j ∧ Hid (MapV Tryz.prog 9 wr (w.heap.size + 1) 1 seenF ∧ Below wo.heap.size wo wr)) (fun _ _ vj _ => ns - (intOf vj).toNat)
   case atStart => exact ⟨0, Nat.zero_le _, rfl, rfl, Lib.hid ⟨HM1.out, HB1.out⟩⟩
   case round =>
    obtain ⟨j, hj, rfl, rfl, hB⟩ := hrel
    by_cases hjl : j < ns
    ·obtain ⟨d, hd⟩ : ∃ d, sides[j]? = some d := ⟨sides[j]'(by have := HNs.out; omega), List.getElem?_eq_getElem _⟩
     have hds := HIo.out.2 d (List.mem_of_getElem? hd)
     obtain ⟨c0, c1⟩ := sideCells_get sides j d hd
     obtain ⟨gs, cap, hge, hgs0, hgs1, hgs2, hgs3, hgs4, hgs5⟩ := own_cells HSd.out (by have := HNs.out; omega)
     injection hge with hge1 hge2 hge3
     subst hge1 hge3
     have c0 := (hB.out.2.cell (p := ⟨gs, _, none⟩) hgs1).trans ((hgs4 (j * 2) (by have := HNs.out; omega)).trans c0)
     have c1 := (hB.out.2.cell (p := ⟨gs, _, none⟩) hgs1).trans ((hgs4 (j * 2 + 1) (by have := HNs.out; omega)).trans c1)
     obtain ⟨dn, dv⟩ := d
     dsimp only at hds c0 c1
     subst hds
     have HB2 := Lib.hid ((Below.refl _ wr).alloc (Nat.le_refl _) (.cells #[.string (mkS []), .int .i64 dv] 96))
     have HM2 := Lib.hid (hB.out.1.below HB2.out)
     have HB3 := Lib.hid (hB.out.2.trans (HB2.out.mono hB.out.2.size))
     have jI : (j : Int) < ns := by omega
     have jI0 : (0 : Int) ≤ j := by omega
     have HJl := Lib.hid hjl
     clear hd hge2 hgs0 hgs1 hgs2 hgs3 hgs4 hgs5 hjl
     go_wp2_with (at_lookup; refine wpList_look_V rfl _ _ 114 rfl 9 4 strKey Tryz.underlying114 _ (zeroBool _) (w.heap.size + 1) 1 seenF rfl HM2.out _ _ rfl (Go.WideMaps.keyOf_string_mk Tryz.underlying9 (by rw [mkS_size]; exact Nat.zero_le _)) (.bool true) (by rw [mkS_toList]; rfl) ?_)
     go_roundw
     case rel => exact ⟨j + 1, HJl.out, rfl, by go_num, Lib.hid ⟨HM2.out, HB3.out⟩⟩
     case measure => have := HJl.out; simp [intOf]; omega
    ·obtain rfl : j = ns := by omega
     clear hj hjl
     go_wp2_with fail
     go_roundw
     case rel => exact ⟨k + 1, HLt.out, rfl, by go_num, Lib.hid ⟨hB.out.1, hA.out.2.trans (hB.out.2.mono hA.out.2.size)⟩⟩
     case measure => have := HLt.out; simp [intOf]; omega
  ·obtain rfl : k = NI := by omega
   clear hlt hk
   go_wp2_with fail
   go_ret
   exact ⟨rfl, hA.out.2⟩
end
end Go.Proofs.YtknnleiinhdklaaGreatDoor
