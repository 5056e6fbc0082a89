/-
  Walks of package mean: begin, at a program whose sides have no names and arrays that fit. Condition: the program lies in memory; the library's variables are as they were laid.
-/
import Derived.Test.YtknnleiinhdklaaGreatDoorPk44
namespace Go.Proofs.YtknnleiinhdklaaGreatDoor
open Go.RowKit Go.Shelf Go.Sort Go.Maps
/-- A row of arrays in memory. -/
def ArrsV (w : World) (v : Value) (l : List Arr) (us : List (Value × Value)) : Prop :=
 ∃ a cap, v = .slice a l.length cap ∧ l.length ≤ cap ∧ cap ≤ maxLen ∧ us.length = l.length ∧ (0 < l.length → ∃ g, a = some ⟨g, 0, none⟩ ∧ g < w.heap.size ∧
  ∀ (i : Nat) (x : Arr) (u : Value × Value), l[i]? = some x → us[i]? = some u → w.cell? ⟨g, i * 2, none⟩ = some u.1 ∧ w.cell? ⟨g, i * 2 + 1, none⟩ = some u.2 ∧ ArrV w (.agg #[u.1, u.2]) x)
/-- The names behind k inputs. -/
def namesF (p : Prg) (us : List (Value × Value)) : Nat → Lit → Option Value
 | 0 => fun _ => none
 | k + 1 => putF (namesF p us k) (.string ((p.inputs[k]?.map (·.name)).getD [])) (.agg #[((us[k]?).getD (.bool false, .bool false)).1, ((us[k]?).getD (.bool false, .bool false)).2])
theorem begin_bad {p : Prg} {l : List Arr} (hlen : l.length = p.inputs.length) (hfit : ∀ (i : Nat) (x : Arr) (q : Inp), l[i]? = some x → p.inputs[i]? = some q → ArrOk x ∧ ofN x.sides = q.sides.map (·.2)) : ∀ x ∈ p.inputs, ∀ d ∈ x.sides, badB d.2 = false := by
 intro x hx d hd
 obtain ⟨i, hi⟩ := List.mem_iff_getElem?.1 hx
 have hil := (List.getElem?_eq_some_iff.1 hi).1
 obtain ⟨h1, h2⟩ := hfit i _ x (List.getElem?_eq_getElem (by omega : i < l.length)) hi
 have hm : d.2 ∈ ofN (l[i]'(by omega)).sides := by rw [h2]; exact List.mem_map_of_mem hd
 unfold ofN at hm
 obtain ⟨n, hn, he⟩ := List.mem_map.1 hm
 have := h1.sides.each n hn
 rw [← he]
 unfold badB
 rw [decide_eq_false (by omega), decide_eq_false (by omega)]
 rfl
theorem intsS_nil (w : World) : IntsS w (.slice none 0 0) [] := ⟨none, 0, rfl, Nat.le_refl _, Nat.zero_le _, fun h => absurd h (Nat.lt_irrefl _)⟩
/-- begin's boxes. -/
structure BegAt (w wr : World) (vi vl : Value) (kv : Nat) : Prop where
 box0 : Blk wr w.heap.size 41 #[vi, vl]
 box1 : Blk wr (w.heap.size + 1) 22 #[.slice none 0 0]
 box2 : Blk wr (w.heap.size + 1 + 1) 44 #[.int .i64 0, .int .i64 0]
 box3 : Blk wr kv 49 #[.slice none 0 0]
 bel : Below w.heap.size w wr
 far : w.heap.size + 3 ≤ kv
theorem BegAt.below {w wr w' : World} {vi vl : Value} {kv : Nat} (h : BegAt w wr vi vl kv) (hb : Below wr.heap.size wr w') : BegAt w w' vi vl kv :=
 ⟨h.box0.below hb, h.box1.below hb, h.box2.below hb, h.box3.below hb, h.bel.trans (hb.mono h.bel.size), h.far⟩
theorem BegAt.grown {w wr w' : World} {vi vl : Value} {kv km : Nat} (h : BegAt w wr vi vl kv) (hg : wr.grownBy w' (some km)) (hk : kv < km) : BegAt w w' vi vl kv := by
 have hf := h.far
 exact ⟨h.box0.gb hg (by omega), h.box1.gb hg (by omega), h.box2.gb hg (by omega), h.box3.gb hg (by omega), h.bel.grown hg h.bel.size (fun j hj => by cases hj; omega), hf⟩
theorem BegAt.made {w w2 : World} {vi vl : Value} (hb : Below (w.heap.size + 3) (((w.alloc (.cells #[vi, vl] 41)).alloc (.cells #[.slice none 0 0] 22)).alloc (.cells #[.int .i64 0, .int .i64 0] 44)) w2) : BegAt w (w2.alloc (.cells #[.slice none 0 0] 49)) vi vl w2.heap.size := by
 have h0 : (((w.alloc (.cells #[vi, vl] 41)).alloc (.cells #[.slice none 0 0] 22)).alloc (.cells #[.int .i64 0, .int .i64 0] 44)).heap.size = w.heap.size + 3 := by simp
 have hb2 := hb
 rw [← h0] at hb2
 have hB : Below w.heap.size w w2 := ((((Below.refl _ w).alloc (Nat.le_refl _) _).alloc (by simp) _).alloc (by simp; omega) _).trans (hb.mono (by omega))
 have hsz := hb.size
 rw [h0] at hsz
 refine ⟨(Blk.below (((Blk.new w _ _ rfl).alloc _).alloc _) hb2).alloc _, (Blk.below ((Blk.new _ _ _ (by simp)).alloc _) hb2).alloc _, (Blk.below (Blk.new _ _ _ (by simp)) hb2).alloc _, Blk.new _ _ _ rfl, hB.alloc hB.size _, hsz⟩
theorem BegAt.ended {w wr : World} {vi vl : Value} {kv km n : Nat} {F : Lit → Option Value} (h : BegAt w wr vi vl kv) (hk : kv < km) (hM : MapV Tryz.prog 9 wr km n F) (hN : Blk wr (km + 1) 76 #[.map (some km), .int .i64 0]) :
  let W' := (wr.setCell ⟨w.heap.size + 1 + 1, 0, none⟩ (.int .i64 0)).setCell ⟨w.heap.size + 1 + 1, 1, none⟩ (.int .i64 0)
  W'.cell? ⟨w.heap.size + 1 + 1, 0, none⟩ = some (.int .i64 0) ∧ W'.cell? ⟨w.heap.size + 1 + 1, 1, none⟩ = some (.int .i64 0) ∧ Below w.heap.size w W' ∧ Blk W' (km + 1) 76 #[.map (some km), .int .i64 0] ∧ MapV Tryz.prog 9 W' km n F := by
 have hf := h.far
 have hr : ((wr.setCell ⟨w.heap.size + 1 + 1, 0, none⟩ (.int .i64 0)).setCell ⟨w.heap.size + 1 + 1, 1, none⟩ (.int .i64 0)).heap[w.heap.size + 1 + 1]? = some (.cells #[.int .i64 0, .int .i64 0] 44 (0, 0)) := by
  have hb := h.box2
  unfold Blk at hb
  simp [World.setCell, Array.getElem?_modify, hb]
 refine ⟨by rw [cell_of_row _ _ _ _ _ _ hr]; rfl, by rw [cell_of_row _ _ _ _ _ _ hr]; rfl, ?_, ?_, ?_⟩
 ·exact (h.bel.setCell (p := ⟨w.heap.size + 1 + 1, 0, none⟩) (by show w.heap.size ≤ w.heap.size + 1 + 1; omega) _).setCell (p := ⟨w.heap.size + 1 + 1, 1, none⟩) (by show w.heap.size ≤ w.heap.size + 1 + 1; omega) _
 ·exact (hN.other (by omega) 0 _).other (by omega) 1 _
 ·exact (hM.block (Below.heap_setCell _ ⟨w.heap.size + 1 + 1, 0, none⟩ _ km (by show km ≠ w.heap.size + 1 + 1; omega))).block (Below.heap_setCell _ ⟨w.heap.size + 1 + 1, 1, none⟩ _ km (by show km ≠ w.heap.size + 1 + 1; omega))
/-- begin's boxes, its map, its run and its input's box. -/
structure ItAt (w wr : World) (vi vl : Value) (kv km n kq : Nat) (F : Lit → Option Value) (cs : Array Value) : Prop where
 beg : BegAt w wr vi vl kv
 map : MapV Tryz.prog 9 wr km n F
 run : Blk wr (km + 1) 76 #[.map (some km), .int .i64 0]
 inp : Blk wr kq 86 cs
theorem ItAt.below {w wr w' : World} {vi vl : Value} {kv km n kq : Nat} {F : Lit → Option Value} {cs : Array Value} (h : ItAt w wr vi vl kv km n kq F cs) (hb : Below wr.heap.size wr w') : ItAt w w' vi vl kv km n kq F cs :=
 ⟨h.beg.below hb, h.map.below hb, h.run.below hb, h.inp.below hb⟩
theorem ItAt.drew {w wr : World} {vi vl : Value} {kv km n kq : Nat} {F : Lit → Option Value} {cs : Array Value} (h : ItAt w wr vi vl kv km n kq F cs) : ItAt w wr.drew vi vl kv km n kq F cs :=
 h.below (Below.refl _ _).drew
theorem ItAt.draws {w wr : World} {vi vl : Value} {kv km n kq : Nat} {F : Lit → Option Value} {cs : Array Value} (h : ItAt w wr vi vl kv km n kq F cs) (m : Nat) : ItAt w (wr.drewN m) vi vl kv km n kq F cs :=
 h.below (below_drewN' (Below.refl _ _) _)
theorem arrs_at {w : World} {aa : Option Addr} {ca n k : Nat} {l : List Arr} {us : List (Value × Value)} {p : Prg} {x : Inp} (h : ArrsV w (.slice aa n ca) l us) (hk : k < l.length) (hfit : ∀ (i : Nat) (x : Arr) (q : Inp), l[i]? = some x → p.inputs[i]? = some q → ArrOk x ∧ ofN x.sides = q.sides.map (·.2)) (hx : p.inputs[k]? = some x) :
  ∃ y u, l[k]? = some y ∧ us[k]? = some u ∧ ArrOk y ∧ ofN y.sides = x.sides.map (·.2) ∧ ∃ g, aa = some ⟨g, 0, none⟩ ∧ w.cell? ⟨g, k * 2, none⟩ = some u.1 ∧ w.cell? ⟨g, k * 2 + 1, none⟩ = some u.2 ∧ g < w.heap.size ∧ ArrV w (.agg #[u.1, u.2]) y := by
 obtain ⟨a, cap, he, h1, h2, h3, h4⟩ := h
 injection he with he1 he2 he3
 subst he1
 obtain ⟨g, hg1, hg2, hg3⟩ := h4 (by omega)
 have hy : l[k]? = some l[k] := List.getElem?_eq_getElem hk
 have hu : us[k]? = some (us[k]'(by omega)) := List.getElem?_eq_getElem _
 obtain ⟨f1, f2⟩ := hfit k _ x hy hx
 obtain ⟨g4, g5, g6⟩ := hg3 k _ _ hy hu
 exact ⟨_, _, hy, hu, f1, f2, g, hg1, g4, g5, hg2, g6⟩
set_option maxHeartbeats 8000000 in
set_option maxRecDepth 100000 in
theorem begin_any (w : World) (vi vl va : Value) (p : Prg) (l : List Arr) (us : List (Value × Value)) (hE : Env w) (hP : PrgV w 0 vi vl p) (hok : ShowOk p) (hno : NoNames p) (hA : ArrsV w va l us)
  (hlen : l.length = p.inputs.length) (hfit : ∀ (i : Nat) (x : Arr) (q : Inp), l[i]? = some x → p.inputs[i]? = some q → ArrOk x ∧ ofN x.sides = q.sides.map (·.2)) :
  Calls Tryz.prog 21 #[.agg #[vi, vl], .slice none 0 0, va] w fun e w' => ∃ b m, e = .returned (.tuple #[.pointer (some ⟨b, 0, none⟩), .agg #[.int .i64 0, .int .i64 0]]) ∧ w.heap.size ≤ b ∧ w.heap.size ≤ m ∧ b ≠ m ∧
   Blk w' b 76 #[.map (some m), .int .i64 0] ∧ MapV Tryz.prog 9 w' m p.inputs.length (namesF p us p.inputs.length) ∧ Below w.heap.size w w' := by
 have HR := Lib.hid (fun W (hb : Below w.heap.size w W) => sright_any W vi vl p (hE.kept hb) (hP.keepS (KeepS.below hb)) hok)
 have HV := Lib.hid (fun W (hb : Below w.heap.size w W) => vars_any W vi vl p (hP.keepS (KeepS.below hb)) hno)
 have hbad := begin_bad hlen hfit
 have HShort : Hid (∀ x ∈ p.inputs, x.name.length ≤ 100) := Lib.hid (fun x hx => (hok.ins x hx).short)
 obtain ⟨⟨ai, ci, hi⟩, al, cl, hl⟩ := hP.forms
 obtain ⟨NI, hNI⟩ : ∃ n, n = p.inputs.length := ⟨_, rfl⟩
 have HNI := Lib.hid hNI
 rw [← hNI] at hi hlen ⊢
 subst hi hl
 have HNo := Lib.hid hno
 have hI64 : NI ≤ 64 := by rw [hNI]; exact hno.1
 have HP := Lib.hid hP
 have HFit := Lib.hid hfit
 have HLen := Lib.hid hlen
 have HIok : Hid (∀ x ∈ p.inputs, ∀ d ∈ x.sides, badB d.2 = false) := Lib.hid hbad
 have HA := Lib.hid hA
 obtain ⟨aa, ca, hva, hca, hcb, hus, hAat⟩ := hA
 rw [hlen] at hva hca
 subst hva
 clear hP hno hNI hfit hbad hE hok hAat hus hlen hcb
 generalize p.lines.length = NL at *
 go_enter Tryz.func21, Tryz.ntmps21
 have HB0 := Lib.hid ((((Below.refl _ w).alloc (Nat.le_refl _) (.cells #[.slice ai NI ci, .slice al NL cl] 41)).alloc (by simp) (.cells #[.slice none 0 0] 22)).alloc (by simp; omega) (.cells #[.int .i64 0, .int .i64 0] 44))
 have HX0 := Lib.hid (Blk.new w 41 #[.slice ai NI ci, .slice al NL cl] rfl)
 go_upto_region 5 with (first
  | (go_at_call 32; refine (HR.out _ HB0.out).mono ?_; rintro _ w1 ⟨rfl, hb⟩; have HB1 := Lib.hid hb; have HB1w := Lib.hid (HB0.out.trans (hb.mono HB0.out.size)); have x0 := (((HX0.out.alloc (.cells #[.slice none 0 0] 22)).alloc (.cells #[.int .i64 0, .int .i64 0] 44)).below hb).cell 0 |>.trans (show _ = some (Value.slice ai NI ci) from rfl); have x1 := (((HX0.out.alloc (.cells #[.slice none 0 0] 22)).alloc (.cells #[.int .i64 0, .int .i64 0] 44)).below hb).cell 1 |>.trans (show _ = some (Value.slice al NL cl) from rfl); clear hb)
  | (go_at_call 34; refine (HV.out _ HB1w.out).mono ?_; rintro _ w2 ⟨rfl, hb⟩; have HB2 := Lib.hid (HB1.out.trans (hb.mono HB1.out.size)); clear hb))
 obtain ⟨wv, hwv⟩ : ∃ W, W = w2.alloc (.cells #[.slice none 0 0] 49) := ⟨_, rfl⟩
 have HBg := Lib.hid (BegAt.made (HB2.out.mono (by simp)))
 rw [← hwv] at HBg
 rw [← hwv]
 obtain ⟨kv, hkv⟩ : ∃ k, k = w2.heap.size := ⟨_, rfl⟩
 rw [← hkv] at HBg ⊢
 have y0 := HBg.out.box0.cell 0 |>.trans (show _ = some (Value.slice ai NI ci) from rfl)
 clear hwv hkv HB0 HB1 HB1w HB2 x0 x1 HR HV HX0
 clear w1 w2
 go_wp2_with fail
 clear y0
 go_loopw [6, 11, 13, 32] (fun v6 _ _ vk wr => ∃ k : Nat, k ≤ NI ∧ v6 = .pointer none ∧ vk = .int .i64 k ∧ Hid (BegAt w wr (.slice ai NI ci) (.slice al NL cl) kv)) (fun _ _ _ vk _ => NI - (intOf vk).toNat)
 case atStart => exact ⟨0, Nat.zero_le _, rfl, rfl, HBg⟩
 case round =>
  obtain ⟨k, hk, rfl, rfl, hA⟩ := hrel
  obtain ⟨wo, rfl⟩ : ∃ W : World, W = wr := ⟨_, rfl⟩
  by_cases hlt : k < NI
  ·obtain ⟨x, hx⟩ : ∃ x, p.inputs[k]? = some x := ⟨p.inputs[k]'(by have := HNI.out; omega), List.getElem?_eq_getElem _⟩
   obtain ⟨gi, cap, hvi, hg1, hg2, hg3, hg4, hg5⟩ := (HP.out.keepS (KeepS.below hA.out.bel)).input_at (by have := HNI.out; omega)
   rw [← HNI.out] at hvi hg1
   injection hvi with hvi1 hvi2 hvi3
   subst hvi1 hvi3
   obtain ⟨vs, hsd, d0, d1, d2⟩ := hg5 k x hx
   have hio := HNo.out.2 x (List.mem_of_getElem? hx)
   have hio2 := HIok.out x (List.mem_of_getElem? hx)
   obtain ⟨nm, ia, sides⟩ := x
   dsimp only at hsd d0 d1 d2 hio hio2
   obtain ⟨ns, hns⟩ : ∃ n, n = sides.length := ⟨_, rfl⟩
   have HNs := Lib.hid hns
   obtain ⟨asd, csd, hfs⟩ := own_form hsd
   rw [← hns] at hfs
   subst hfs
   have HSd := Lib.hid hsd
   have HIo := Lib.hid hio
   have HIo2 := Lib.hid hio2
   have hns4 : ns ≤ 4 := by rw [hns]; exact hio.1
   have kI : (k : Int) < NI := by omega
   have kI0 : (0 : Int) ≤ k := by omega
   have HLt := Lib.hid hlt
   have HB1 := Lib.hid ((Below.refl _ wo).alloc (Nat.le_refl _) (.cells #[.string (mkS nm), .int .i64 ia, .slice asd ns csd] 86))
   clear hx hvi2 hg1 hg2 hg3 hg4 hg5 hsd hns hio hio2 hlt
   go_wp2_with fail
   clear d0 d1 d2
   go_loopw [6, 13, 39] (fun v6 _ vj wr => ∃ j : Nat, j ≤ ns ∧ v6 = .pointer none ∧ vj = .int .i64 j ∧ Hid (Below wo.heap.size wo wr)) (fun _ _ vj _ => ns - (intOf vj).toNat)
   case atStart => exact ⟨0, Nat.zero_le _, rfl, rfl, HB1⟩
   case round =>
    obtain ⟨j, hj, rfl, rfl, hB⟩ := hrel
    by_cases hjl : j < ns
    ·obtain ⟨d, hd⟩ : ∃ d, sides[j]? = some d := ⟨sides[j]'(by have := HNs.out; omega), List.getElem?_eq_getElem _⟩
     have hds := HIo.out.2 d (List.mem_of_getElem? hd)
     have hdb := HIo2.out d (List.mem_of_getElem? hd)
     obtain ⟨c0, c1⟩ := sideCells_get sides j d hd
     obtain ⟨gs, cap, hge, hgs0, hgs1, hgs2, hgs3, hgs4, hgs5⟩ := own_cells HSd.out (by have := HNs.out; omega)
     injection hge with hge1 hge2 hge3
     subst hge1 hge3
     have c0 := (hB.out.cell (p := ⟨gs, _, none⟩) hgs1).trans ((hgs4 (j * 2) (by have := HNs.out; omega)).trans c0)
     have c1 := (hB.out.cell (p := ⟨gs, _, none⟩) hgs1).trans ((hgs4 (j * 2 + 1) (by have := HNs.out; omega)).trans c1)
     have HB2 := Lib.hid ((hA.out.below hB.out).below ((Below.refl _ wr).alloc (Nat.le_refl _) (.cells #[.string (mkS d.1), .int .i64 d.2] 96)))
     have HB3 := Lib.hid (hB.out.trans (((Below.refl _ wr).alloc (Nat.le_refl _) (.cells #[.string (mkS d.1), .int .i64 d.2] 96)).mono hB.out.size))
     obtain ⟨dn, dv⟩ := d
     dsimp only at hds hdb c0 c1 HB2 HB3
     subst hds
     rw [show mkS [] = ⟨#[]⟩ from rfl] at c0 HB2 HB3
     have e3 := HB2.out.box3.cell 0 |>.trans (show _ = some (Value.slice none 0 0) from rfl)
     have jI : (j : Int) < ns := by omega
     have jI0 : (0 : Int) ≤ j := by omega
     have HJl := Lib.hid hjl
     clear hd hge2 hgs0 hgs1 hgs2 hgs3 hgs4 hgs5 hjl
     have HBb := Lib.hid hdb
     clear hdb
     go_wp2_with (first
      | (go_at_call 33; refine (begin1_any dv _).mono ?_; rintro _ _ ⟨rfl, rfl⟩; rw [HBb.out])
      | (go_at_call 35; refine (index_none _ _).mono ?_; rintro _ _ ⟨rfl, rfl⟩))
     go_roundw
     case rel => exact ⟨j + 1, HJl.out, rfl, by go_num, HB3⟩
     case measure => have := HJl.out; simp [intOf]; omega
    ·obtain rfl : j = ns := by omega
     clear hj hjl
     go_wp2_with fail
     go_roundw
     case rel => exact ⟨k + 1, HLt.out, rfl, by go_num, Lib.hid (hA.out.below hB.out)⟩
     case measure => have := HLt.out; simp [intOf]; omega
  ·obtain rfl : NI = k := by omega
   clear hlt hk
   have y0 := hA.out.box0.cell 0 |>.trans (show _ = some (Value.slice ai NI ci) from rfl)
   have e1 := hA.out.box1.cell 0 |>.trans (show _ = some (Value.slice none 0 0) from rfl)
   have e3 := hA.out.box3.cell 0 |>.trans (show _ = some (Value.slice none 0 0) from rfl)
   have HCf := Lib.hid (containsf_any _ _ begin1_any (by intro args w; kernel_rfl) (.slice none 0 0) [] wo (intsS_nil wo))
   have hmm := @run_makeMap Tryz.prog
   go_upto_region 19 with (go_at_call 36; refine HCf.out.mono ?_; rintro _ _ ⟨rfl, rfl⟩)
   have HA1 := Lib.hid ((hA.out.below ((Below.refl _ wo).alloc (Nat.le_refl _) (.map #[] 0))).below ((Below.refl _ _).alloc (Nat.le_refl _) (.cells #[.map (some wo.heap.size), .int .i64 0] 76)))
   go_upto_region 20 with fail
   obtain ⟨W1, hW1⟩ : ∃ W, W = (wo.alloc (.map #[] 0)).alloc (.cells #[.map (some wo.heap.size), .int .i64 0] 76) := ⟨_, rfl⟩
   have HM1 := Lib.hid ((MapV.made wo Tryz.prog 9).below ((Below.refl _ _).alloc (Nat.le_refl _) (.cells #[.map (some wo.heap.size), .int .i64 0] 76)))
   have HN1 : Hid (Blk ((wo.alloc (.map #[] 0)).alloc (.cells #[.map (some wo.heap.size), .int .i64 0] 76)) (wo.heap.size + 1) 76 #[.map (some wo.heap.size), .int .i64 0]) := Lib.hid (Blk.new _ _ _ (by simp))
   have hkm : kv < wo.heap.size := hA.out.box3.lt
   have hsz := hA.out.bel.size
   rw [← hW1] at HM1 HN1 HA1
   rw [← hW1]
   obtain ⟨km, hkm2⟩ : ∃ k, k = wo.heap.size := ⟨_, rfl⟩
   rw [← hkm2] at HM1 HN1 hkm hsz ⊢
   have z0 := HA1.out.box0.cell 0 |>.trans (show _ = some (Value.slice ai NI ci) from rfl)
   have z3 := HA1.out.box3.cell 0 |>.trans (show _ = some (Value.slice none 0 0) from rfl)
   clear hW1 hkm2 HCf e1 hmm hA HBg y0 e3
   have HKm := Lib.hid (And.intro hkm hsz)
   clear wo
   go_wp2_with fail
   go_loopw [15, 16, 87] (fun _ _ v87 wr => v87 = .int .i64 0 ∧ W1 = wr) (fun _ _ _ _ => 0)
   case atStart => exact ⟨rfl, rfl⟩
   case round =>
    obtain ⟨rfl, rfl⟩ := hrel
    have hmf : ∀ (fn : Fn) (first cap : Array Value) (w : World), (Instr.makeFunc fn first cap).run Tryz.prog w = .ok (.func fn first cap) w := fun _ _ _ _ => rfl
    go_wp2_with fail
    clear z0 z3
    go_loopw [6, 18, 19, 20, 21, 22, 108] (fun v6 _ _ _ _ _ vk wr => ∃ k : Nat, k ≤ NI ∧ v6 = .pointer none ∧ vk = .int .i64 k ∧ Hid (BegAt w wr (.slice ai NI ci) (.slice al NL cl) kv ∧ MapV Tryz.prog 9 wr km k (namesF p us k) ∧ Blk wr (km + 1) 76 #[.map (some km), .int .i64 0])) (fun _ _ _ _ _ _ vk _ => NI - (intOf vk).toNat)
    case atStart => exact ⟨0, Nat.zero_le _, rfl, rfl, Lib.hid ⟨HA1.out, HM1.out, HN1.out⟩⟩
    case round =>
     obtain ⟨k, hk, rfl, rfl, hA⟩ := hrel
     obtain ⟨wo, rfl⟩ : ∃ W : World, W = wr := ⟨_, rfl⟩
     by_cases hlt : k < NI
     ·obtain ⟨x, hx⟩ : ∃ x, p.inputs[k]? = some x := ⟨p.inputs[k]'(by have := HNI.out; omega), List.getElem?_eq_getElem _⟩
      obtain ⟨gi, cap, hvi, hg1, hg2, hg3, hg4, hg5⟩ := HP.out.input_at (by have := HNI.out; omega)
      rw [← HNI.out] at hvi hg1
      injection hvi with hvi1 hvi2 hvi3
      subst hvi1 hvi3
      obtain ⟨vs, hsd, d0', d1', d2'⟩ := hg5 k x hx
      have d0 := (hA.out.1.bel.cell (p := ⟨gi, k * 3, none⟩) hg4).trans d0'
      have d1 := (hA.out.1.bel.cell (p := ⟨gi, k * 3 + 1, none⟩) hg4).trans d1'
      have d2 := (hA.out.1.bel.cell (p := ⟨gi, k * 3 + 2, none⟩) hg4).trans d2'
      clear d0' d1' d2'
      have hio := HNo.out.2 x (List.mem_of_getElem? hx)
      have HIok2 := Lib.hid (HShort.out x (List.mem_of_getElem? hx))
      obtain ⟨y, u, hy, hu, hok, hsame, g, rfl, t1, t2, t3, t4⟩ := arrs_at HA.out (by have := HNI.out; have := HLen.out; omega) HFit.out hx
      obtain ⟨nm, ia, sides⟩ := x
      dsimp only at hsd d0 d1 d2 hio hsame HIok2
      obtain ⟨ns, hns⟩ : ∃ n, n = sides.length := ⟨_, rfl⟩
      have HNs := Lib.hid hns
      obtain ⟨asd, csd, hfs⟩ := own_form hsd
      rw [← hns] at hfs
      subst hfs
      obtain ⟨u1, u2⟩ := u
      dsimp only at t1 t2 t4
      have hIv := t4
      obtain ⟨_, _, huv, hiv, hjv⟩ := hIv
      simp only [Value.agg.injEq, Array.mk.injEq, List.cons.injEq, and_true] at huv
      obtain ⟨rfl, rfl⟩ := huv
      have hlen2 : (ofN y.sides).length = ns := by rw [hsame, List.length_map, hns]
      obtain ⟨a1, c1, hf1⟩ := hiv.form
      rw [hlen2] at hf1
      subst hf1
      have HSd := Lib.hid hsd
      have HIo := Lib.hid hio
      have HSame := Lib.hid hsame
      have HIv := Lib.hid hiv
      have HX := Lib.hid (And.intro hx hu)
      have hns4 : ns ≤ 4 := by rw [hns]; exact hio.1
      have kI : (k : Int) < NI := by omega
      have kI0 : (0 : Int) ≤ k := by omega
      have HLt := Lib.hid hlt
      have HRt := Lib.hid (fun W (hb : Below w.heap.size w W) => right_ok _ y W (t4.below hb) hok)
      have HA2 := Lib.hid (hA.out.1.below ((Below.refl _ wo).alloc (Nat.le_refl _) (.cells #[.string (mkS nm), .int .i64 ia, .slice asd ns csd] 86)))
      have HM2 := Lib.hid (hA.out.2.1.below ((Below.refl _ wo).alloc (Nat.le_refl _) (.cells #[.string (mkS nm), .int .i64 ia, .slice asd ns csd] 86)))
      have HN2 := Lib.hid (hA.out.2.2.below ((Below.refl _ wo).alloc (Nat.le_refl _) (.cells #[.string (mkS nm), .int .i64 ia, .slice asd ns csd] 86)))
      have HQ2 : Hid (Blk (wo.alloc (.cells #[.string (mkS nm), .int .i64 ia, .slice asd ns csd] 86)) wo.heap.size 86 #[.string (mkS nm), .int .i64 ia, .slice asd ns csd]) := Lib.hid (Blk.new _ _ _ rfl)
      clear hx hu hy hvi2 hg1 hg2 hg3 hg4 hg5 hsd hns hio hlt hok hsame hiv hjv t4 hlen2
      go_upto_region 29 with fail
      clear d0 d1 d2
      obtain ⟨W2, hW2⟩ : ∃ W, W = wo.alloc (.cells #[.string (mkS nm), .int .i64 ia, .slice asd ns csd] 86) := ⟨_, rfl⟩
      obtain ⟨kq, hkq⟩ : ∃ q, q = wo.heap.size := ⟨_, rfl⟩
      rw [← hW2] at HA2 HM2 HN2 HQ2
      rw [← hW2]
      rw [← hkq] at HQ2 ⊢
      have t1w := Lib.hid t1
      have t2w := Lib.hid t2
      have t1 := (HA2.out.bel.cell (p := ⟨g, k * 2, none⟩) t3).trans t1
      have t2 := (HA2.out.bel.cell (p := ⟨g, k * 2 + 1, none⟩) t3).trans t2
      have q2 := HQ2.out.cell 2 |>.trans (show _ = some (Value.slice asd ns csd) from rfl)
      have HI : Hid (ItAt w W2 (.slice (some ⟨gi, 0, none⟩) NI ci) (.slice al NL cl) kv km k kq (namesF p us k) #[.string (mkS nm), .int .i64 ia, .slice asd ns csd]) := Lib.hid ⟨HA2.out, HM2.out, HN2.out, HQ2.out⟩
      have hgW : g < W2.heap.size := Nat.lt_of_lt_of_le t3 HA2.out.bel.size
      have hkq3 : kq < W2.heap.size := HQ2.out.lt
      clear hW2 hkq HM2 HN2 HQ2 HA2 hA
      go_region_held3 (fun wy => wy.cell? ⟨g, k * 2, none⟩ = some (.slice a1 ns c1) ∧ wy.cell? ⟨g, k * 2 + 1, none⟩ = some u2 ∧ wy.cell? ⟨kq, 2, none⟩ = some (.slice asd ns csd))
       (first | go_keep)
       (first | (go_at_call 38; refine (HRt.out _ (by repeat (first | exact HI.out.beg.bel | refine Below.drew ?_ | refine below_drewN' ?_ _))).mono ?_; rintro _ w9 ⟨rfl, hb9⟩; have HI9 : Hid (ItAt w w9 (.slice (some ⟨gi, 0, none⟩) NI ci) (.slice al NL cl) kv km k kq (namesF p us k) #[.string (mkS nm), .int .i64 ia, .slice asd ns csd]) := Lib.hid (ItAt.below (by repeat (first | exact HI.out | refine ItAt.draws ?_ _ | refine ItAt.drew ?_)) hb9); have t1' : w9.cell? ⟨g, k * 2, none⟩ = some (.slice a1 ns c1) := (hb9.cell (p := ⟨g, k * 2, none⟩) hgW).trans t1; have t2' : w9.cell? ⟨g, k * 2 + 1, none⟩ = some u2 := (hb9.cell (p := ⟨g, k * 2 + 1, none⟩) hgW).trans t2; have q2' : w9.cell? ⟨kq, 2, none⟩ = some (.slice asd ns csd) := (hb9.cell (p := ⟨kq, 2, none⟩) hkq3).trans q2; clear hb9))
      go_upto_region 30 with fail
      clear t1 t2 q2 hgW hkq3 HI
      clear W2
      go_wp2_with fail
      clear t1' t2' q2'
      go_loopw [20, 21, 22, 133] (fun v20 _ _ vj wr => ∃ j : Nat, j ≤ ns ∧ v20 = .bool true ∧ vj = .int .i64 j ∧ Hid (ItAt w wr (.slice (some ⟨gi, 0, none⟩) NI ci) (.slice al NL cl) kv km k kq (namesF p us k) #[.string (mkS nm), .int .i64 ia, .slice asd ns csd])) (fun _ _ _ vj _ => ns - (intOf vj).toNat)
      case atStart => exact ⟨0, Nat.zero_le _, rfl, rfl, HI9⟩
      case round =>
       obtain ⟨j, hj, rfl, rfl, hB⟩ := hrel
       by_cases hjl : j < ns
       ·obtain ⟨d, hd⟩ : ∃ d, sides[j]? = some d := ⟨sides[j]'(by have := HNs.out; omega), List.getElem?_eq_getElem _⟩
        have hds := HIo.out.2 d (List.mem_of_getElem? hd)
        obtain ⟨c0, c1'⟩ := sideCells_get sides j d hd
        obtain ⟨gs, cap, hge, hgs0, hgs1, hgs2, hgs3, hgs4, hgs5⟩ := own_cells HSd.out (by have := HNs.out; omega)
        injection hge with hge1 hge2 hge3
        subst hge1 hge3
        have k0 := (hB.out.beg.bel.cell (p := ⟨gs, j * 2, none⟩) hgs1).trans ((hgs4 (j * 2) (by have := HNs.out; omega)).trans c0)
        have k1 := (hB.out.beg.bel.cell (p := ⟨gs, j * 2 + 1, none⟩) hgs1).trans ((hgs4 (j * 2 + 1) (by have := HNs.out; omega)).trans c1')
        clear c0 c1'
        obtain ⟨g1, o1, cap1, hv1, hv1a, hv1b, hg1, hat⟩ := HIv.out.at_ (by rw [HSame.out, List.length_map, ← HNs.out]; omega)
        injection hv1 with hv11 hv12 hv13
        subst hv11 hv13
        clear hv12 hv1a hv1b
        have x0 : w.cell? ⟨g1, o1 + j, none⟩ = some (.int .i64 d.2) := hat j d.2 (by rw [HSame.out, List.getElem?_map, hd]; rfl)
        obtain ⟨dn, dv⟩ := d
        dsimp only at hds k0 k1 x0
        subst hds
        have e0 : mkS [] = ⟨#[]⟩ := rfl
        rw [e0] at k0
        have HB3 := Lib.hid (hB.out.below ((Below.refl _ wr).alloc (Nat.le_refl _) (.cells #[.string ⟨#[]⟩, .int .i64 dv] 96)))
        have HQ3 : Hid (Blk (wr.alloc (.cells #[.string ⟨#[]⟩, .int .i64 dv] 96)) wr.heap.size 96 #[.string ⟨#[]⟩, .int .i64 dv]) := Lib.hid (Blk.new _ _ _ rfl)
        have jI : (j : Int) < ns := by omega
        have jI0 : (0 : Int) ≤ j := by omega
        have HJl := Lib.hid hjl
        clear e0 hd hge2 hgs0 hgs1 hgs2 hgs3 hgs4 hgs5 hjl hat
        go_upto_region 33 with fail
        clear k0 k1
        obtain ⟨W3, hW3⟩ : ∃ W, W = wr.alloc (.cells #[.string ⟨#[]⟩, .int .i64 dv] 96) := ⟨_, rfl⟩
        obtain ⟨ks, hks⟩ : ∃ q, q = wr.heap.size := ⟨_, rfl⟩
        rw [← hW3] at HB3 HQ3
        rw [← hW3]
        rw [← hks] at HQ3 ⊢
        clear hW3 hks hB
        clear wr
        have p1 := (HB3.out.beg.bel.cell (p := ⟨g, k * 2, none⟩) t3).trans t1w.out
        have x1 := (HB3.out.beg.bel.cell (p := ⟨g1, o1 + j, none⟩) hg1).trans x0
        have s0 := HQ3.out.cell 0 |>.trans (show _ = some (Value.string ⟨#[]⟩) from rfl)
        have s1 := HQ3.out.cell 1 |>.trans (show _ = some (Value.int .i64 dv) from rfl)
        have l1 : g < W3.heap.size := Nat.lt_of_lt_of_le t3 HB3.out.beg.bel.size
        have l2 : g1 < W3.heap.size := Nat.lt_of_lt_of_le hg1 HB3.out.beg.bel.size
        have l3 : ks < W3.heap.size := HQ3.out.lt
        clear x0
        go_region_held3 (fun wy => wy.cell? ⟨g, k * 2, none⟩ = some (.slice (some ⟨g1, o1, none⟩) ns c1) ∧ wy.cell? ⟨g1, o1 + j, none⟩ = some (.int .i64 dv) ∧ wy.cell? ⟨ks, 0, none⟩ = some (.string ⟨#[]⟩) ∧ wy.cell? ⟨ks, 1, none⟩ = some (.int .i64 dv))
         (first | go_keep)
         (first | (go_at_call 37; refine (begin2_any _ dv _ _).mono ?_; rintro _ w8 ⟨rfl, hb8⟩; have HB8 : Hid (ItAt w w8 (.slice (some ⟨gi, 0, none⟩) NI ci) (.slice al NL cl) kv km k kq (namesF p us k) #[.string (mkS nm), .int .i64 ia, .slice (some ⟨gs, 0, none⟩) ns csd]) := Lib.hid (ItAt.below (by repeat (first | exact HB3.out | refine ItAt.draws ?_ _ | refine ItAt.drew ?_)) hb8); have p1' : w8.cell? ⟨g, k * 2, none⟩ = some (.slice (some ⟨g1, o1, none⟩) ns c1) := (hb8.cell (p := ⟨g, k * 2, none⟩) l1).trans p1; have x1' : w8.cell? ⟨g1, o1 + j, none⟩ = some (.int .i64 dv) := (hb8.cell (p := ⟨g1, o1 + j, none⟩) l2).trans x1; have s0' : w8.cell? ⟨ks, 0, none⟩ = some (.string ⟨#[]⟩) := (hb8.cell (p := ⟨ks, 0, none⟩) l3).trans s0; have s1' : w8.cell? ⟨ks, 1, none⟩ = some (.int .i64 dv) := (hb8.cell (p := ⟨ks, 1, none⟩) l3).trans s1; clear hb8))
        clear p1 x1 s0 s1 p1' x1' s0' s1'
        go_wp2_with fail
        go_roundw
        case rel => exact ⟨j + 1, HJl.out, rfl, by go_num, HB8⟩
        case measure => have := HJl.out; simp [intOf]; omega
       ·obtain rfl : j = ns := by omega
        have p1 := (hB.out.beg.bel.cell (p := ⟨g, k * 2, none⟩) t3).trans t1w.out
        have p2 := (hB.out.beg.bel.cell (p := ⟨g, k * 2 + 1, none⟩) t3).trans t2w.out
        have s0 := hB.out.inp.cell 0 |>.trans (show _ = some (Value.string (mkS nm)) from rfl)
        have r0 := hB.out.run.cell 0 |>.trans (show _ = some (Value.map (some km)) from rfl)
        have HB4 := Lib.hid hB.out
        clear hB hj hjl
        obtain ⟨W6, hW6⟩ : ∃ W : World, W = wr := ⟨_, rfl⟩
        rw [← hW6] at HB4
        subst hW6
        have hF : Hid (namesF p us (k + 1) = putF (namesF p us k) (.string nm) (.agg #[.slice a1 j c1, u2])) := Lib.hid (by show putF _ _ _ = _; rw [HX.out.1, HX.out.2]; rfl)
        go_upto_region 37 with fail
        go_still_tail 10, (by kernel_rfl)
        change wpList _ _ _ _ _ W6.drew
        go_wp2_with (refine wpList_put_V rfl _ _ _ 74 rfl 9 24 strKey Tryz.underlying74 km k _ rfl HB4.out.drew.map (by unfold maxLen; omega) _ (.agg #[.slice a1 j c1, u2]) _ rfl rfl (Go.WideMaps.keyOf_string_mk (s := mkS nm) Tryz.underlying9 (by rw [mkS_size]; have := HIok2.out; unfold maxLen; omega)) ?_; intro w9 hM9 hg9; have HM9 := Lib.hid hM9; have HG9 := Lib.hid hg9; clear hM9 hg9)
        go_roundw
        case rel =>
         refine ⟨k + 1, HLt.out, rfl, by go_num, Lib.hid ⟨(HB4.out.drew.beg).grown HG9.out HKm.out.1, ?_, HB4.out.drew.run.gb HG9.out (by omega)⟩⟩
         have h9 := HM9.out
         rw [mkS_toList] at h9
         rw [hF.out]
         exact h9
        case measure => have := HLt.out; simp [intOf]; omega
     ·obtain rfl : NI = k := by omega
      clear hlt hk
      have f0 := hA.out.1.box2.cell 0 |>.trans (show _ = some (Value.int .i64 0) from rfl)
      have f1 := hA.out.1.box2.cell 1 |>.trans (show _ = some (Value.int .i64 0) from rfl)
      have r0 := hA.out.1.box2.froz 0
      have r1 := hA.out.1.box2.froz 1
      go_wp2_with fail
      obtain ⟨z0, z1, z2, z3, z4⟩ := hA.out.1.ended HKm.out.1 hA.out.2.1 hA.out.2.2
      refine bodyPost_ret (v := .tuple #[.pointer (some ⟨km + 1, 0, none⟩), .agg #[.int .i64 0, .int .i64 0]]) (by simp [results, Tryz.results21, go_sem, z0, z1]) rfl ⟨km + 1, km, rfl, ?_, ?_, by omega, z3, z4, z2⟩
      ·have := HKm.out.2; omega
      ·have := HKm.out.2; omega
end Go.Proofs.YtknnleiinhdklaaGreatDoor
