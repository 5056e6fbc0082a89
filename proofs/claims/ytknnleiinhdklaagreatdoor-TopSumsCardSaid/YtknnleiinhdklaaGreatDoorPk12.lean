/-
  Walks of package show: number, texts, verb. Condition: the library's variables are as they were laid.
-/
import Derived.WalkArith
import Derived.RegionTactic
import Derived.BigRegion
import Derived.Test.YtknnleiinhdklaaGreatDoorShelg
import Derived.Test.YtknnleiinhdklaaGreatDoorPk07
import Derived.Test.YtknnleiinhdklaaGreatDoorPk10
import Derived.Test.YtknnleiinhdklaaGreatDoorPk11
namespace Go.Proofs.YtknnleiinhdklaaGreatDoor
open Go.RowKit Go.Shelf Go.Sort Go.Maps
theorem snumber_any (k : Int) (w : World) (hk : in64 k) (hE : Env w) : Calls Tryz.prog 99 #[.int .i64 k] w fun e w' => e = .returned (.string (mkS (spelt k))) ∧ Below w.heap.size w w' := by
 have H := Lib.hid (Spell_any ⟨2, 0, [], k⟩ w hE ⟨hk.1, hk.2, by simp⟩)
 go_enter Tryz.func99, Tryz.ntmps99
 go_wp2_with (go_at_call 115; refine H.out.mono ?_; rintro _ w1 ⟨rfl, hb⟩; have HB := Lib.hid hb; clear hb)
 go_ret
 exact ⟨rfl, HB.out⟩
def TextsPost (two : Bool) (w : World) (e : Ending) (w' : World) : Prop := e = .returned (.map (some w.heap.size)) ∧ MapV Tryz.prog 69 w' w.heap.size 25 (textsM two fieldsW) ∧ Below w.heap.size w w'
theorem fnKey : Keyed Tryz.prog 69 := int_keyed Tryz.underlying69
theorem smk_append (a b : List UInt8) : mkS a ++ mkS b = mkS (a ++ b) := by
 apply ByteArray.ext
 simp [mkS, ByteArray.data_append]
theorem intKey : Keyed Tryz.prog 3 := int_keyed Tryz.underlying3
theorem verbF_le (s : List UInt8) (two : Bool) : verbF s two ≤ 40 := by
 unfold verbF
 split
 ·exact two_lt s
 ·exact one_lt s
theorem fields_len : fieldsW.length = 25 := by decide
theorem fields_short : ∀ s ∈ fieldsW, s.length ≤ 10 ∧ s ≠ [] := by decide
set_option maxHeartbeats 1000000 in
set_option maxRecDepth 100000 in
theorem texts_any (two : Bool) (w : World) (hE : Env w) : Calls Tryz.prog 81 #[.bool two] w (TextsPost two w) := by
 have hmm := @run_makeMap Tryz.prog
 have HF := Lib.hid (fun W (h : Env W) => Tryz.strings_Fields (mkS fieldsT) W (by rw [mkS_size]; decide) (by rw [mkS_toList]; intro j b hb; exact of_decide_eq_true (List.all_eq_true.1 (show (fieldsT.all fun b => decide (b.toNat < 128)) = true by decide) b (List.mem_of_getElem? hb))) h.spc)
 rw [show Lib.fields (mkS fieldsT).data.toList = fieldsW by rw [mkS_toList]; rfl, fields_len] at HF
 have HE := Lib.hid (hE.kept ((Below.refl _ w).alloc (Nat.le_refl _) (.map #[] 0)))
 obtain ⟨L, hL⟩ : ∃ L, L = fieldsW := ⟨_, rfl⟩
 have HLen : Hid (L.length = 25) := Lib.hid (by rw [hL]; exact fields_len)
 have HLS : Hid (∀ s ∈ L, s.length ≤ 10 ∧ s ≠ []) := Lib.hid (by rw [hL]; exact fields_short)
 have HV := Lib.hid (fun (s : List UInt8) W => Verb_any (mkS s) two W)
 unfold TextsPost
 rw [← hL] at HF ⊢
 clear hL hE
 go_enter Tryz.func81, Tryz.ntmps81
 go_wp2_with (go_at_call 98; refine (HF.out _ HE.out).mono ?_; rintro _ w1 ⟨rfl, hw⟩; have HW := Lib.hid hw; clear hw)
 have HM0 : Hid (MapV Tryz.prog 69 w1 w.heap.size 0 (textsM two (L.take 0))) := Lib.hid (by
  rw [HW.out]
  exact (MapV.made w _ _).below ((Below.refl _ _).alloc (Nat.le_refl _) _))
 have HB0 : Hid (Below w.heap.size w w1) := Lib.hid (by rw [HW.out]; exact ((Below.refl _ w).alloc (Nat.le_refl _) _).alloc (by simp) _)
 have HR0 : Hid (∀ (j : Nat) s, L[j]? = some s → w1.cell? ⟨w.heap.size + 1, j, none⟩ = some (.string (mkS s))) := Lib.hid (by
  intro j s hs
  have hb : w1.heap[w.heap.size + 1]? = some (.cells ((L.map fun l => Value.string ⟨l.toArray⟩).toArray) 9 (0, 0)) := by
   rw [HW.out]
   have := heap_alloc_new (w.alloc (.map #[] 0)) (.cells ((L.map fun l => Value.string ⟨l.toArray⟩).toArray) 9)
   rwa [World.size_alloc] at this
  rw [cell_of_row _ _ _ _ _ _ hb, List.getElem?_toArray, List.getElem?_map, hs]
  rfl)
 have HS0 : Hid (w.heap.size + 1 < w1.heap.size) := Lib.hid (by rw [HW.out]; simp)
 clear HW HF
 go_loopw [5, 6, 7, 11] (fun _ _ _ vi wr => ∃ k : Nat, k ≤ 25 ∧ vi = .int .i64 k ∧ Hid (MapV Tryz.prog 69 wr w.heap.size k (textsM two (L.take k))) ∧ Hid (Below w.heap.size w wr) ∧ Hid (∀ (j : Nat) s, L[j]? = some s → wr.cell? ⟨w.heap.size + 1, j, none⟩ = some (.string (mkS s))) ∧ Hid (w.heap.size + 1 < wr.heap.size)) (fun _ _ _ vi _ => 25 - (intOf vi).toNat)
 case atStart => exact ⟨0, Nat.zero_le _, rfl, HM0, HB0, HR0, HS0⟩
 case round =>
  obtain ⟨k, hk, rfl, hM, hB, hR, hS⟩ := hrel
  by_cases hlt : k < 25
  ·obtain ⟨s, hs⟩ : ∃ s, L[k]? = some s := ⟨L[k]'(by have := HLen.out; omega), List.getElem?_eq_getElem _⟩
   have d1 := hR.out k s hs
   have kI : (k : Int) < 25 := by omega
   have k0 : (0 : Int) ≤ k := by omega
   have HV1 := Lib.hid (HV.out s wr)
   rw [mkS_toList] at HV1
   have hT : L.take (k + 1) = L.take k ++ [s] := by rw [List.take_add_one, hs]; rfl
   have hsn := textsM_snoc two (L.take k) s
   rw [← hT] at hsn
   have hq := verbF_le s two
   obtain ⟨q, hqe⟩ : ∃ q, q = verbF s two := ⟨_, rfl⟩
   rw [← hqe] at HV1 hsn hq
   have HSn := Lib.hid hsn
   have HLt := Lib.hid hlt
   clear hs hT hsn hqe
   by_cases h0 : q = 0
   ·subst h0
    have HSn2 : Hid (textsM two (L.take (k + 1)) = textsM two (L.take k)) := Lib.hid (by rw [HSn.out]; rfl)
    clear HSn
    go_wp2_with (go_at_call 80; refine HV1.out.mono ?_; rintro _ _ ⟨rfl, rfl⟩)
    go_roundw
    case rel => exact ⟨k + 1, HLt.out, by go_num, Lib.hid (by rw [HSn2.out]; exact hM.out.up (Nat.le_succ _)), hB, hR, hS⟩
    case measure => have := HLt.out; simp [intOf]; omega
   ·have HSn2 : Hid (textsM two (L.take (k + 1)) = putF (textsM two (L.take k)) (.int .u8 q) (.string (mkS s))) := Lib.hid (by rw [HSn.out, if_pos h0])
    have hne : (q != 0) = true := by rw [bne_iff_ne]; exact h0
    rw [hne] at HV1
    clear HSn hne
    go_wp2_with (first | (go_at_call 80; refine HV1.out.mono ?_; rintro _ _ ⟨rfl, rfl⟩) | (at_mapUpdate; refine wpList_put_V rfl _ _ _ 143 rfl 69 9 fnKey Tryz.underlying143 w.heap.size k _ rfl hM.out (by unfold maxLen; omega) _ _ _ rfl rfl (keyOf_int_mk Tryz.underlying69 (WalkArith.wf_u8 (by omega))) ?_; intro w2 hm2 hg2; have HM2 := Lib.hid hm2; have HG2 := Lib.hid hg2; clear hm2 hg2))
    go_roundw
    case rel => exact ⟨k + 1, HLt.out, by go_num, Lib.hid (by rw [HSn2.out]; exact HM2.out), Lib.hid (hB.out.grown HG2.out hB.out.size (fun j hj => by cases hj; exact Nat.le_refl _)), Lib.hid (fun j s hs => HG2.out.cell (hR.out j s hs) (by simp)), Lib.hid (Nat.lt_of_lt_of_le hS.out HG2.out.size)⟩
    case measure => have := HLt.out; simp [intOf]; omega
  ·obtain rfl : k = 25 := by omega
   have HM2 := Lib.hid hM.out
   rw [List.take_of_length_le (by rw [HLen.out]; exact Nat.le_refl _)] at HM2
   go_wp2_with fail
   go_ret
   exact ⟨rfl, HM2.out, hB.out⟩
/-- The block ks is a writer: its two maps, its builder, which holds n bytes. -/
def ShowAt (w : World) (B ks k1 k2 n : Nat) : Prop :=
 ∃ p v, ∃ l : List UInt8, l.length = n ∧ Blk w ks 149 #[.map (some k1), .map (some k2), p, v] ∧ (p = .pointer none ∨ p = .pointer (some ⟨ks, 2, none⟩)) ∧ w.ownsRow B 5 1 v n (Lib.byteCells l) ∧
  MapV Tryz.prog 69 w k1 25 (textsM false fieldsW) ∧ MapV Tryz.prog 69 w k2 25 (textsM true fieldsW)
theorem ShowAt.below {w w' : World} {B ks k1 k2 n : Nat} (h : ShowAt w B ks k1 k2 n) (hb : Below w.heap.size w w') : ShowAt w' B ks k1 k2 n :=
 let ⟨p, v, l, h1, h2, h3, h4, h5, h6⟩ := h; ⟨p, v, l, h1, h2.below hb, h3, own_below h4 hb, h5.below hb, h6.below hb⟩
theorem zeroStr (w : World) : (zeroValue 9).run Tryz.prog w = .ok (.string ⟨#[]⟩) w := by kernel_rfl
def itemV (how a : Int) (f : Nat) (nm : List UInt8) (vn : Value) : Value := .agg #[.int .i64 how, .int .i64 a, .int .u8 f, .string (mkS nm), vn]
set_option maxHeartbeats 2000000 in
set_option maxRecDepth 100000 in
theorem sverb_any (B ks k1 k2 m : Nat) (how a : Int) (f : Nat) (nm t : List UInt8) (n : Nat) (vn : Value) (w : World) (hS : ShowAt w B ks k1 k2 m) (hv : Vt how f t n) (hf : f ≤ 255) :
  Calls Tryz.prog 118 #[.pointer (some ⟨ks, 0, none⟩), itemV how a f nm vn] w fun e w' => e = .returned (.tuple #[.string (mkS t), .int .i64 n]) ∧ Below w.heap.size w w' := by
 have hmm := @run_makeMap Tryz.prog
 obtain ⟨p, v, l, hl, hb, _, _, hm1, hm2⟩ := hS
 have HB := Lib.hid (hb.alloc (.cells #[.int .i64 how, .int .i64 a, .int .u8 f, .string (mkS nm), vn] 71))
 have HM1 := Lib.hid (hm1.below ((Below.refl _ w).alloc (Nat.le_refl _) (.cells #[.int .i64 how, .int .i64 a, .int .u8 f, .string (mkS nm), vn] 71)))
 have HM2 := Lib.hid (hm2.below ((Below.refl _ w).alloc (Nat.le_refl _) (.cells #[.int .i64 how, .int .i64 a, .int .u8 f, .string (mkS nm), vn] 71)))
 have HBl := Lib.hid ((Below.refl _ w).alloc (Nat.le_refl _) (.cells #[.int .i64 how, .int .i64 a, .int .u8 f, .string (mkS nm), vn] 71))
 clear hb hm1 hm2
 have c0 := (HB.out.cell 0).trans (show _ = some (.map (some k1)) from rfl)
 have c1 := (HB.out.cell 1).trans (show _ = some (.map (some k2)) from rfl)
 obtain ⟨ht, _, ⟨rfl, h1, rfl⟩ | ⟨rfl, h1, rfl⟩ | ⟨rfl, h17, rfl, x, hx, rfl, h1⟩⟩ := hv
 ·have hlk := (HM1.out.block (w' := (w.alloc (.cells #[.int .i64 3, .int .i64 a, .int .u8 f, .string (mkS nm), vn] 71)).drew) rfl).look_run fnKey Tryz.underlying143 (zeroStr _) (keyOf_int_mk Tryz.underlying69 (WalkArith.wf_u8 (by omega))) (show (textsM false fieldsW (.int .u8 f)).getD (.string ⟨#[]⟩) = .string (mkS t) by rw [h1]; rfl)
  clear HM1 HM2 HB h1
  unfold itemV
  go_enter Tryz.func118, Tryz.ntmps118
  go_wp2_with fail
  go_region
  go_wp2_with fail
  exact bodyPost_ret (v := .tuple #[.string (mkS t), .int .i64 1]) (by simp [results, Tryz.results118, go_sem]) rfl ⟨rfl, HBl.out.trans ⟨rfl, rfl, rfl, Nat.le_refl _, fun _ _ => rfl⟩⟩
 ·have hlk := (HM2.out.block (w' := (w.alloc (.cells #[.int .i64 4, .int .i64 a, .int .u8 f, .string (mkS nm), vn] 71)).drew) rfl).look_run fnKey Tryz.underlying143 (zeroStr _) (keyOf_int_mk Tryz.underlying69 (WalkArith.wf_u8 (by omega))) (show (textsM true fieldsW (.int .u8 f)).getD (.string ⟨#[]⟩) = .string (mkS t) by rw [h1]; rfl)
  have hne : ((mkS t).toList == []) = false := by rw [beq_eq_false_iff_ne, ByteArray.toList_eq, mkS_toList]; exact ht
  clear HM1 HM2 HB h1
  unfold itemV
  go_enter Tryz.func118, Tryz.ntmps118
  go_wp2_with fail
  go_region
  go_wp2_with fail
  exact bodyPost_ret (v := .tuple #[.string (mkS t), .int .i64 1]) (by simp [results, Tryz.results118, go_sem]) rfl ⟨rfl, HBl.out.trans ⟨rfl, rfl, rfl, Nat.le_refl _, fun _ _ => rfl⟩⟩
 ·have hlk := (HM2.out.block (w' := (w.alloc (.cells #[.int .i64 5, .int .i64 a, .int .u8 f, .string (mkS nm), vn] 71)).drew) rfl).look_run fnKey Tryz.underlying143 (zeroStr _) (keyOf_int_mk Tryz.underlying69 (WalkArith.wf_u8 (by omega))) (show (textsM true fieldsW (.int .u8 f)).getD (.string ⟨#[]⟩) = .string (mkS x) by rw [h1]; rfl)
  have hne : ((mkS x).toList == []) = false := by rw [beq_eq_false_iff_ne, ByteArray.toList_eq, mkS_toList]; exact hx
  have h17I : ¬ (17 : Int) < f := by omega
  have hxl : x.length ≤ 9 := by
   have h2 : (x ++ [47]).length ≤ 10 := by assumption
   rw [List.length_append, List.length_singleton] at h2
   omega
  have HM0 := Lib.hid ((MapV.made (w.alloc (.cells #[.int .i64 5, .int .i64 a, .int .u8 f, .string (mkS nm), vn] 71)) Tryz.prog 3).block (w' := ((w.alloc (.cells #[.int .i64 5, .int .i64 a, .int .u8 f, .string (mkS nm), vn] 71)).alloc (.map #[] 0)).drew) rfl)
  rw [World.size_alloc] at HM0
  have C0 : Hid ((((w.alloc (.cells #[.int .i64 5, .int .i64 a, .int .u8 f, .string (mkS nm), vn] 71)).alloc (.map #[] 0)).drew).cell? ⟨w.heap.size, 0, none⟩ = some (.int .i64 5)) := Lib.hid (((Blk.new w _ _ rfl).alloc (.map #[] 0)).cell 0)
  have HBm : Hid (Below w.heap.size w (((w.alloc (.cells #[.int .i64 5, .int .i64 a, .int .u8 f, .string (mkS nm), vn] 71)).alloc (.map #[] 0)).drew)) := Lib.hid ((HBl.out.alloc (by simp) _).trans ⟨rfl, rfl, rfl, Nat.le_refl _, fun _ _ => rfl⟩)
  clear HM1 HM2 HB h1
  unfold itemV
  go_enter Tryz.func118, Tryz.ntmps118
  go_wp2_with fail
  go_region
  go_wp2_with (first | (refine wpList_ins_V rfl _ _ _ 215 rfl 3 9 intKey Tryz.underlying215 (w.heap.size + 1) 2 _ rfl HMb.out (by unfold maxLen; omega) _ _ _ rfl rfl (keyOf_int_mk Tryz.underlying3 (WalkArith.wf_i64 (by omega))) ?_; intro wc hmc hgc; have HMc := Lib.hid hmc; have HGc := Lib.hid hgc; clear hmc hgc; have cc := HGc.out.cell (HGb.out.cell (HGa.out.cell C0.out (by simp)) (by simp)) (by simp)) | (refine wpList_ins_V rfl _ _ _ 215 rfl 3 9 intKey Tryz.underlying215 (w.heap.size + 1) 1 _ rfl HMa.out (by unfold maxLen; omega) _ _ _ rfl rfl (keyOf_int_mk Tryz.underlying3 (WalkArith.wf_i64 (by omega))) ?_; intro wb hmb hgb; have HMb := Lib.hid hmb; have HGb := Lib.hid hgb; clear hmb hgb) | (refine wpList_ins_V rfl _ _ _ 215 rfl 3 9 intKey Tryz.underlying215 (w.heap.size + 1) 0 _ rfl HM0.out (by unfold maxLen; omega) _ _ _ rfl rfl (keyOf_int_mk Tryz.underlying3 (WalkArith.wf_i64 (by omega))) ?_; intro wa hma hga; have HMa := Lib.hid hma; have HGa := Lib.hid hga; clear hma hga) | (at_lookup; refine wpList_look_V rfl _ _ 215 rfl 3 9 intKey Tryz.underlying215 _ (zeroStr _) (w.heap.size + 1) 3 _ rfl HMc.out _ _ rfl (keyOf_int_mk Tryz.underlying3 (WalkArith.wf_i64 (by omega))) (.string ⟨#[47]⟩) rfl ?_))
  have hlt := HBm.out.size
  exact bodyPost_ret (v := .tuple #[.string (mkS x ++ ⟨#[47]⟩), .int .i64 2]) (by simp [results, Tryz.results118, go_sem]) rfl ⟨by rw [← smk_append]; rfl, ((HBm.out.grown HGa.out hlt (fun j hj => by cases hj; omega)).grown HGb.out (Nat.le_trans hlt HGa.out.size) (fun j hj => by cases hj; omega)).grown HGc.out (Nat.le_trans (Nat.le_trans hlt HGa.out.size) HGb.out.size) (fun j hj => by cases hj; omega)⟩
end Go.Proofs.YtknnleiinhdklaaGreatDoor
