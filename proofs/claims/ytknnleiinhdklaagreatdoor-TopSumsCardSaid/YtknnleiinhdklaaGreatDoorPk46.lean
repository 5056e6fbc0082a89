/-
  The programs of the theorems of stage 8 may be shown, and no side of theirs has a name. Condition: the sides are an array's.   Of no program: a slice of one-cell elements that the call made (by append or by a conversion): what it reads; that one may append to it; bytes out of a string and back. No condition.   Walks of windrowtop: decimal, input, verb. Condition: the numbers are small, the sides an array's.   An array that came in: what its reading says of the memory. No condition.
-/
import Derived.Test.YtknnleiinhdklaaGreatDoorPk01
import Derived.Test.YtknnleiinhdklaaGreatDoorPk07
import Derived.Test.YtknnleiinhdklaaGreatDoorPk25
import Derived.Test.YtknnleiinhdklaaGreatDoorPk26
import Derived.Test.YtknnleiinhdklaaGreatDoorPk27
import Derived.ArgAppend
import Derived.Below
import Derived.Deep.Onto
import Derived.Laws.IdiomStrings
import Derived.Laws.BytesArg
import Derived.Lib.AppendStr
import Derived.Laws.Concat
import Derived.Lib.SmallJoins
import Derived.ChangeSlices
namespace Go.Proofs.YtknnleiinhdklaaGreatDoor
section
open Go.RowKit Go.Shelf Go.Sort Go.Maps
theorem InpOk.ofBare {x : Inp} (h : InpOk x.bare) : InpOk x := ⟨h.name, h.short, h.four, h.sides⟩
theorem ShowOk.ofBare {p : Prg} (h : ShowOk p.bare) : ShowOk p := by
 have hi : p.bare.inputs = p.inputs.map Inp.bare := rfl
 have hl : p.bare.lines = p.lines.map Lin.bare := rfl
 have li : p.bare.inputs.length = p.inputs.length := by rw [hi, List.length_map]
 have ll : p.bare.lines.length = p.lines.length := by rw [hl, List.length_map]
 refine ⟨by rw [← li, ← ll]; exact h.many, by rw [← ll]; exact h.pos, fun x hx => (h.ins _ (by rw [hi]; exact List.mem_map_of_mem hx)).ofBare, fun i x hx hlt => ?_, fun x hx => ?_, fun x hx it hit => ?_⟩
 ·obtain ⟨h1, h2, h3, h4⟩ := h.mid i x.bare (by rw [hl, List.getElem?_map, hx]; rfl) (by rw [ll]; exact hlt)
  exact ⟨h1, h2, h3, ExprOk_bare rfl h4⟩
 ·obtain ⟨h1, h2⟩ := h.last x.bare (by rw [ll, hl, List.getElem?_map, hx]; rfl)
  exact ⟨h1, ExprOk_bare rfl h2⟩
 ·exact h.fns x.bare (by rw [hl]; exact List.mem_map_of_mem hx) it.bare (List.mem_map_of_mem hit)
theorem NoNames.ofBare {p : Prg} (h : NoNames p.bare) : NoNames p := by
 have hi : p.bare.inputs = p.inputs.map Inp.bare := rfl
 refine ⟨?_, fun x hx => h.2 x.bare (by rw [hi]; exact List.mem_map_of_mem hx)⟩
 have := h.1
 rwa [hi, List.length_map] at this
theorem RunS.cons {it : Itm} {r : List Itm} {st s1 st' : List Pc} (h1 : StS it st s1) (h2 : RunS r s1 st') : RunS (it :: r) st st' := ⟨s1, h1, h2⟩
theorem RunS.nil {st : List Pc} : RunS [] st st := rfl
theorem st_nm {s : List UInt8} (h1 : nameB s = true) (h2 : s.length ≤ 100) {st : List Pc} : StS (nmI s) st (st ++ [⟨[s], 0, 1, true⟩]) := .inr (.inl ⟨rfl, rfl, rfl, h1, h2, rfl⟩)
theorem st_x {st : List Pc} : StS xI st (st ++ [⟨[[120]], 0, 1, true⟩]) := st_nm (by kernel_rfl) (by decide)
theorem st_y {st : List Pc} : StS (nmI [121]) st (st ++ [⟨[[121]], 0, 1, true⟩]) := st_nm (by kernel_rfl) (by decide)
theorem st_nu {k : Int} (h : in64 k) {st : List Pc} : StS (nuI k) st (st ++ [⟨[spelt k], 0, 1, true⟩]) := .inl ⟨rfl, rfl, rfl, k, h, rfl, rfl⟩
theorem st_mo {f : Nat} {w : List UInt8} (h : Vt 3 f w 1) {r : List Pc} {p : Pc} : StS (moI f) (r ++ [p]) (r ++ [monP w 1 p]) := .inr (.inr (.inl ⟨rfl, rfl, show (3 : Int) ≠ 4 by decide, w, 1, p, r, h, rfl, rfl⟩))
theorem st_fo {f : Nat} {w : List UInt8} (h : Vt 5 f w 2) {r : List Pc} {p : Pc} : StS (foI f) (r ++ [p]) (r ++ [monP w 2 p]) := .inr (.inr (.inl ⟨rfl, rfl, show (5 : Int) ≠ 4 by decide, w, 2, p, r, h, rfl, rfl⟩))
theorem st_dy {f : Nat} {w : List UInt8} (h : Vt 4 f w 1) {r : List Pc} {p l : Pc} : StS (dyI f) ((r ++ [l]) ++ [p]) (r ++ [dyP w 1 p (bracket l)]) := .inr (.inr (.inr ⟨rfl, rfl, rfl, w, 1, p, l, r, h, by rw [List.append_assoc]; rfl, rfl⟩))
theorem vt_mo {f : Nat} {w : List UInt8} (h : textsM false fieldsW (.int .u8 f) = some (.string (mkS w))) (h1 : w ≠ []) (h2 : w.length ≤ 10) : Vt 3 f w 1 := ⟨h1, h2, .inl ⟨rfl, h, rfl⟩⟩
theorem vt_dy {f : Nat} {w : List UInt8} (h : textsM true fieldsW (.int .u8 f) = some (.string (mkS w))) (h1 : w ≠ []) (h2 : w.length ≤ 10) : Vt 4 f w 1 := ⟨h1, h2, .inr (.inl ⟨rfl, h, rfl⟩)⟩
theorem vt_fo {f : Nat} {v : List UInt8} (h : textsM true fieldsW (.int .u8 f) = some (.string (mkS v))) (h1 : v ≠ []) (h2 : v.length ≤ 9) (hf : f ≤ 17) : Vt 5 f (v ++ [47]) 2 :=
 ⟨by simp, by rw [List.length_append]; show v.length + 1 ≤ 10; omega, .inr (.inr ⟨rfl, hf, rfl, v, h1, rfl, h⟩)⟩
theorem vt_shape : Vt 3 33 [115, 104, 97, 112, 101] 1 := vt_mo (by kernel_rfl) (by decide) (by decide)
theorem vt_ravel : Vt 3 34 [114, 97, 118, 101, 108] 1 := vt_mo (by kernel_rfl) (by decide) (by decide)
theorem vt_rev : Vt 3 35 [114, 101, 118] 1 := vt_mo (by kernel_rfl) (by decide) (by decide)
theorem vt_turn : Vt 3 36 [116, 117, 114, 110] 1 := vt_mo (by kernel_rfl) (by decide) (by decide)
theorem vt_rho : Vt 4 37 [114, 104, 111] 1 := vt_dy (by kernel_rfl) (by decide) (by decide)
theorem vt_take : Vt 4 38 [116, 97, 107, 101] 1 := vt_dy (by kernel_rfl) (by decide) (by decide)
theorem vt_drop : Vt 4 39 [100, 114, 111, 112] 1 := vt_dy (by kernel_rfl) (by decide) (by decide)
theorem vt_cat : Vt 4 40 [99, 97, 116] 1 := vt_dy (by kernel_rfl) (by decide) (by decide)
theorem vt_ord (k : Nat) : ∃ w, Vt 5 (ordF k) w 2 := by
 unfold ordF
 split
 ·exact ⟨_, vt_fo (v := [43]) (by kernel_rfl) (by decide) (by decide) (by decide)⟩
 split
 ·exact ⟨_, vt_fo (v := [42]) (by kernel_rfl) (by decide) (by decide) (by decide)⟩
 split
 ·exact ⟨_, vt_fo (v := [109, 105, 110]) (by kernel_rfl) (by decide) (by decide) (by decide)⟩
 ·exact ⟨_, vt_fo (v := [109, 97, 120]) (by kernel_rfl) (by decide) (by decide) (by decide)⟩
theorem run_folds {f : Nat} {w : List UInt8} (h : Vt 5 f w 2) : ∀ (n : Nat) (p : Pc), ∃ q, RunS (List.replicate n (foI f)) ([] ++ [p]) [q] ∧ q.tokens = p.tokens + 2 * n ∧ q.nest = p.nest
 | 0, p => ⟨p, RunS.nil, rfl, rfl⟩
 | n + 1, p => by
  obtain ⟨q, h1, h2, h3⟩ := run_folds h n (monP w 2 p)
  exact ⟨q, RunS.cons (st_fo (r := []) h) h1, by rw [h2]; show p.tokens + 2 + 2 * n = _; omega, h3⟩
theorem xInp_ok {s : List Nat} (hs : SidesOk s) : InpOk (xInp s) := by
 refine ⟨by kernel_rfl, by show ([120] : List UInt8).length ≤ 100; decide, by show (s.map _).length ≤ 4; rw [List.length_map]; exact hs.len, fun d hd => ?_⟩
 have hd : d ∈ s.map fun n : Nat => (([] : List UInt8), (n : Int)) := hd
 obtain ⟨n, hn, rfl⟩ := List.mem_map.1 hd
 have := hs.each n hn
 exact ⟨rfl, by unfold in64; dsimp only; omega⟩
theorem xInp_no {s : List Nat} (hs : SidesOk s) {ls : List Lin} : NoNames ⟨[xInp s], ls⟩ := by
 refine ⟨by show (1 : Nat) ≤ 64; decide, fun x hx => ?_⟩
 obtain rfl : x = xInp s := List.mem_singleton.1 hx
 exact ⟨(xInp_ok hs).four, fun d hd => ((xInp_ok hs).sides d hd).1⟩
/-- A line that is not the last one. -/
def MidOk (x : Lin) : Prop := nameB x.name = true ∧ x.name ≠ [] ∧ x.name.length ≤ 100 ∧ ExprOk x.items 254
/-- The last line. -/
def EndOk (x : Lin) : Prop := x.name = [] ∧ ExprOk x.items 255
theorem show_ok {s : List Nat} (hs : SidesOk s) {m : List Lin} {e : Lin} (hl : m.length < 60) (hm : ∀ x ∈ m, MidOk x) (he : EndOk e) (hf : ∀ x ∈ m ++ [e], ∀ it ∈ x.items, it.fn ≤ 255) : ShowOk ⟨[xInp s], m ++ [e]⟩ := by
 have hlen : (m ++ [e]).length = m.length + 1 := by rw [List.length_append]; rfl
 refine ⟨by show 1 + (m ++ [e]).length ≤ 64; omega, by show 0 < (m ++ [e]).length; omega, fun x hx => ?_, fun i x hx hlt => ?_, fun x hx => ?_, hf⟩
 ·obtain rfl : x = xInp s := List.mem_singleton.1 hx
  exact xInp_ok hs
 ·have hx : (m ++ [e])[i]? = some x := hx
  have hlt : i + 1 < (m ++ [e]).length := hlt
  rw [List.getElem?_append_left (by omega)] at hx
  exact hm x (List.mem_of_getElem? hx)
 ·have hx : (m ++ [e])[(m ++ [e]).length - 1]? = some x := hx
  rw [hlen, Nat.add_sub_cancel, List.getElem?_append_right (Nat.le_refl _), Nat.sub_self] at hx
  injection hx with hx
  subst hx
  exact he
theorem midOk_y {l : List Itm} (h : ExprOk l 254) : MidOk ⟨[121], 0, l⟩ := ⟨by kernel_rfl, by simp, by show ([121] : List UInt8).length ≤ 100; decide, h⟩
theorem midOk_z {l : List Itm} (h : ExprOk l 254) : MidOk ⟨[122], 0, l⟩ := ⟨by kernel_rfl, by simp, by show ([122] : List UInt8).length ≤ 100; decide, h⟩
theorem begun_ok : ShowOk begunP := by
 refine show_ok (s := [3]) (m := []) (e := ⟨[], 0, [xI, foI 1]⟩) ⟨by decide, by decide, by decide⟩ (by decide) (fun x hx => nomatch hx) ⟨rfl, by decide, ?_⟩ (by decide)
 obtain ⟨w, h⟩ := vt_ord 0
 exact ⟨_, RunS.cons st_x (RunS.cons (st_fo (r := []) h) RunS.nil), by show (1 + 2 : Nat) ≤ 255; decide, by show (0 : Nat) ≤ 32; decide⟩
theorem twice_ok {s : List Nat} (hs : SidesOk s) : ShowOk (twiceP s) := by
 refine show_ok hs (m := [⟨[121], 0, [xI, moI 35, moI 35]⟩, ⟨[122], 0, [xI, moI 36, moI 36]⟩]) (e := ⟨[], 0, [xI, moI 34]⟩) (by decide) (fun x hx => ?_) ⟨rfl, by decide, ?_⟩ (by decide)
 ·simp only [List.mem_cons, List.not_mem_nil, or_false] at hx
  rcases hx with rfl | rfl
  ·exact midOk_y ⟨by decide, _, RunS.cons st_x (RunS.cons (st_mo (r := []) vt_rev) (RunS.cons (st_mo (r := []) vt_rev) RunS.nil)), by show (1 + 1 + 1 : Nat) ≤ 254; decide, by show (0 : Nat) ≤ 32; decide⟩
  ·exact midOk_z ⟨by decide, _, RunS.cons st_x (RunS.cons (st_mo (r := []) vt_turn) (RunS.cons (st_mo (r := []) vt_turn) RunS.nil)), by show (1 + 1 + 1 : Nat) ≤ 254; decide, by show (0 : Nat) ≤ 32; decide⟩
 ·exact ⟨_, RunS.cons st_x (RunS.cons (st_mo (r := []) vt_ravel) RunS.nil), by show (1 + 1 : Nat) ≤ 255; decide, by show (0 : Nat) ≤ 32; decide⟩
theorem shapes_ok {s : List Nat} (hs : SidesOk s) : ShowOk (shapesP s) := by
 refine show_ok hs (m := [⟨[121], 0, [xI, moI 33]⟩]) (e := ⟨[], 0, [nmI [121], xI, moI 34, dyI 37]⟩) (by decide) (fun x hx => ?_) ⟨rfl, by decide, ?_⟩ (by decide)
 ·simp only [List.mem_cons, List.not_mem_nil, or_false] at hx
  subst hx
  exact midOk_y ⟨by decide, _, RunS.cons st_x (RunS.cons (st_mo (r := []) vt_shape) RunS.nil), by show (1 + 1 : Nat) ≤ 254; decide, by show (0 : Nat) ≤ 32; decide⟩
 ·exact ⟨_, RunS.cons st_y (RunS.cons st_x (RunS.cons (st_mo vt_ravel) (RunS.cons (st_dy (r := []) vt_rho) RunS.nil))), by show (1 + 1 + 1 + 1 : Nat) ≤ 255; decide, by show (max 0 0 : Nat) ≤ 32; decide⟩
theorem folds_ok (n most : Nat) (k : Nat) (hn : n ≤ 4) (hm : 250 ≤ most) : ExprOk (xI :: List.replicate n (foI (ordF k))) most := by
 obtain ⟨w, h⟩ := vt_ord k
 obtain ⟨q, h1, h2, h3⟩ := run_folds h n ⟨[[120]], 0, 1, true⟩
 refine ⟨by rw [List.length_cons, List.length_replicate]; omega, q, RunS.cons st_x h1, by rw [h2]; show 1 + 2 * n ≤ most; omega, by rw [h3]; exact Nat.zero_le _⟩
theorem tfolds_ok (n most : Nat) (k : Nat) (hn : n ≤ 4) (hm : 250 ≤ most) : ExprOk (xI :: moI 36 :: List.replicate n (foI (ordF k))) most := by
 obtain ⟨w, h⟩ := vt_ord k
 obtain ⟨q, h1, h2, h3⟩ := run_folds h n (monP [116, 117, 114, 110] 1 ⟨[[120]], 0, 1, true⟩)
 refine ⟨by rw [List.length_cons, List.length_cons, List.length_replicate]; omega, q, RunS.cons st_x (RunS.cons (st_mo (r := []) vt_turn) h1), by rw [h2]; show 1 + 1 + 2 * n ≤ most; omega, by rw [h3]; exact Nat.zero_le _⟩
theorem ordF_le (k : Nat) : ordF k ≤ 7 := by unfold ordF; split; decide; split; decide; split <;> decide
theorem sums_ok {s : List Nat} (hs : SidesOk s) (k : Nat) : ShowOk (sumsP s k) := by
 refine show_ok hs (m := [⟨[121], 0, xI :: List.replicate s.length (foI (ordF k))⟩, ⟨[122], 0, xI :: moI 36 :: List.replicate s.length (foI (ordF k))⟩]) (e := ⟨[], 0, [xI, moI 34, foI (ordF k)]⟩) (by show (2 : Nat) < 60; decide) (fun x hx => ?_) ⟨rfl, by show (3 : Nat) ≤ 255; decide, ?_⟩ ?_
 ·simp only [List.mem_cons, List.not_mem_nil, or_false] at hx
  rcases hx with rfl | rfl
  ·exact midOk_y (folds_ok _ _ k hs.len (by decide))
  ·exact midOk_z (tfolds_ok _ _ k hs.len (by decide))
 ·obtain ⟨w, h⟩ := vt_ord k
  exact ⟨_, RunS.cons st_x (RunS.cons (st_mo (r := []) vt_ravel) (RunS.cons (st_fo (r := []) h) RunS.nil)), by show (1 + 1 + 2 : Nat) ≤ 255; decide, by show (0 : Nat) ≤ 32; decide⟩
 ·intro x hx it hit
  have hk := ordF_le k
  have hr : ∀ it ∈ List.replicate s.length (foI (ordF k)), it.fn ≤ 255 := fun it hit => by
   rw [List.eq_of_mem_replicate hit]
   show ordF k ≤ 255
   omega
  have hm : (36 : Nat) ≤ 255 := by decide
  simp only [List.cons_append, List.nil_append, List.mem_cons, List.not_mem_nil, or_false] at hx
  rcases hx with rfl | rfl | rfl
  ·rcases List.mem_cons.1 hit with rfl | h
   ·exact Nat.zero_le _
   ·exact hr _ h
  ·rcases List.mem_cons.1 hit with rfl | h
   ·exact Nat.zero_le _
   ·rcases List.mem_cons.1 h with rfl | h
    ·exact hm
    ·exact hr _ h
  ·simp only [List.mem_cons, List.not_mem_nil, or_false] at hit
   rcases hit with rfl | rfl | rfl
   ·exact Nat.zero_le _
   ·show (34 : Nat) ≤ 255; decide
   ·show ordF k ≤ 255; omega
theorem parts_ok {s : List Nat} (hs : SidesOk s) {k : Nat} (hk : k ≤ 65536) : ShowOk (partsP s k) := by
 have h1 : in64 (k : Int) := by unfold in64; omega
 have h2 : in64 (-(k : Int)) := by unfold in64; omega
 refine show_ok hs (m := [⟨[121], 0, [nuI k, xI, dyI 38, nuI k, xI, dyI 39, dyI 40]⟩]) (e := ⟨[], 0, [nuI (-(k : Int)), xI, dyI 39, nuI (-(k : Int)), xI, dyI 38, dyI 40]⟩) (by show 1 < 60; decide) (fun x hx => ?_) ⟨rfl, by show (7 : Nat) ≤ 255; decide, ?_⟩ ?_
 ·simp only [List.mem_cons, List.not_mem_nil, or_false] at hx
  subst hx
  exact midOk_y ⟨by show (7 : Nat) ≤ 254; decide, _, RunS.cons (st_nu h1) (RunS.cons st_x (RunS.cons (st_dy (r := []) vt_take) (RunS.cons (st_nu h1) (RunS.cons st_x (RunS.cons (st_dy vt_drop) (RunS.cons (st_dy (r := []) vt_cat) RunS.nil)))))), by show (9 : Nat) ≤ 254; decide, by show (1 : Nat) ≤ 32; decide⟩
 ·exact ⟨_, RunS.cons (st_nu h2) (RunS.cons st_x (RunS.cons (st_dy (r := []) vt_drop) (RunS.cons (st_nu h2) (RunS.cons st_x (RunS.cons (st_dy vt_take) (RunS.cons (st_dy (r := []) vt_cat) RunS.nil)))))), by show (9 : Nat) ≤ 255; decide, by show (1 : Nat) ≤ 32; decide⟩
 ·intro x hx it hit
  simp only [List.cons_append, List.nil_append, List.mem_cons, List.not_mem_nil, or_false] at hx
  have h : it.fn ≤ 40 := by
   rcases hx with rfl | rfl <;> simp only [List.mem_cons, List.not_mem_nil, or_false] at hit <;> rcases hit with rfl | rfl | rfl | rfl | rfl | rfl | rfl <;> first | exact Nat.zero_le _ | decide
  omega
end
section
open Go Go.RowKit
/-- The value is nil and there is nothing; or it lies in a block from 'base' on, reads xs, and all its cells may be written. -/
def RowS (w : World) (base : Nat) (v : Value) (xs : List Value) : Prop :=
 (v = .slice none 0 0 ∧ xs = []) ∨
 ∃ g cap, v = .slice (some ⟨g, 0, none⟩) xs.length cap ∧ base ≤ g ∧ g < w.heap.size ∧ xs.length ≤ cap ∧ cap ≤ maxLen ∧
  (∀ j u, xs[j]? = some u → w.cell? ⟨g, j, none⟩ = some u) ∧ (∀ j, j < cap → (w.cell? ⟨g, j, none⟩).isSome = true ∧ w.frozen? ⟨g, j, none⟩ = false)
theorem RowS.nil (w : World) (base : Nat) : RowS w base (.slice none 0 0) [] := .inl ⟨rfl, rfl⟩
theorem RowS.form {w : World} {base : Nat} {v : Value} {xs : List Value} (h : RowS w base v xs) : ∃ a cap, v = .slice a xs.length cap := by
 rcases h with ⟨rfl, rfl⟩ | ⟨g, cap, rfl, _⟩
 ·exact ⟨_, _, rfl⟩
 ·exact ⟨_, _, rfl⟩
theorem RowS.of_own {w : World} {base n : Nat} {e : TypeId} {v : Value} {xs : List Value} (h : w.ownsRow base e 1 v n xs) : RowS w base v xs := by
 have h0 := h
 have hl := h.1
 rw [Nat.mul_one] at hl
 rcases h.2 with ⟨rfl, hn⟩ | ⟨g, cap, cur, rfl, hb, hg, hc, hm, hs, ht⟩
 ·exact .inl ⟨rfl, List.eq_nil_of_length_eq_zero (by omega)⟩
 ·refine .inr ⟨g, cap, by rw [hl], hb, (Array.getElem?_eq_some_iff.1 hg).1, by omega, hm, ?_, ?_⟩
  ·intro j u hu
   have := h0.cells (g := g) rfl j u hu
   rwa [Addr.add_lit, Nat.zero_add] at this
  ·intro j hj
   have hcell := cell_of_row w g j cur e (0, 0) hg
   refine ⟨?_, ?_⟩
   ·rw [hcell, Array.getElem?_eq_getElem (by omega)]; rfl
   ·simp [World.frozen?, hg]
theorem RowS.kept {w w' : World} {base : Nat} {v : Value} {xs : List Value} (h : RowS w base v xs) (hs : w.heap.size ≤ w'.heap.size) (hb : ∀ k, base ≤ k → k < w.heap.size → w'.heap[k]? = w.heap[k]?) : RowS w' base v xs := by
 rcases h with ⟨rfl, rfl⟩ | ⟨g, cap, rfl, h1, h2, h3, h4, h5, h6⟩
 ·exact .nil _ _
 ·have hg := hb g h1 h2
  refine .inr ⟨g, cap, rfl, h1, Nat.lt_of_lt_of_le h2 hs, h3, h4, fun j u hu => (World.cell?_of_block (a := ⟨g, j, none⟩) hg).trans (h5 j u hu), fun j hj => ?_⟩
  rw [World.cell?_of_block (a := ⟨g, j, none⟩) hg, World.frozen?_of_block (a := ⟨g, j, none⟩) hg]
  exact h6 j hj
theorem RowS.below {w w' : World} {base : Nat} {v : Value} {xs : List Value} (h : RowS w base v xs) (hb : Below w.heap.size w w') : RowS w' base v xs :=
 h.kept hb.size fun k _ hk => hb.block k hk
theorem RowS.alloc {w : World} {base : Nat} {v : Value} {xs : List Value} (h : RowS w base v xs) (o : Obj) : RowS (w.alloc o) base v xs :=
 h.below ((Below.refl _ _).alloc (Nat.le_refl _) o)
section
variable {P : Program}
def byteV (b : UInt8) : Value := .int .u8 b.toNat
theorem run_string_rowS (w : World) (src dst e : TypeId) {base : Nat} {v : Value} {l : List UInt8} (h : RowS w base v (l.map byteV)) (hs : P.underlying src = some (.slice e)) (he : P.underlying e = some (.int .u8)) (hd : P.underlying dst = some .string) :
  (convert src dst v).run P w = .ok (.string (mkS l)) w := by
 rcases h with ⟨rfl, hl⟩ | ⟨g, cap, rfl, _, _, _, _, g5, _⟩
 ·have : l = [] := by simpa using hl
  subst this
  exact run_convert_bytes_nil w src e hs he 0 0 dst hd
 ·rw [List.length_map]
  refine run_convert_bytes_back w src dst e ⟨g, 0, none⟩ cap l hs he hd fun j hj => ?_
  rw [Addr.add_lit, Nat.zero_add]
  exact g5 j _ (by rw [List.getElem?_map, List.getElem?_eq_getElem hj]; rfl)
theorem wpList_string_rowS (w : World) {ops : Array Oper} {rest : List Oper} {o : Oper} {a : Act} {Q : Exit → Act → World → Prop} (hgd : o.guard = none) (src dst : TypeId) (x : Operand)
  (ho : o.op = .convert src dst x) (e : TypeId) {base : Nat} {v : Value} {l : List UInt8} (h : RowS w base v (l.map byteV)) (hs : P.underlying src = some (.slice e)) (he : P.underlying e = some (.int .u8)) (hd : P.underlying dst = some .string) (hx : a.eval x = v)
  (hK : wpList P ops Q rest (a.put o.dst (.string (mkS l))) w) : wpList P ops Q (o :: rest) a w := by
 refine wpList_plain hgd fun K hK' => ?_
 unfold Oper.wp
 simp [execOp, ho, hx, run_string_rowS (P := P) w src dst e h hs he hd, Result.andThen]
 exact hK' _ _ hK
end
end
section
open Go.RowKit
theorem RowS.one' (w : World) (x : Value) (t : TypeId) : RowS (w.alloc (.cells #[x] t)) 0 (.slice (some ⟨w.heap.size, 0, none⟩) 1 1) [x] := by
 refine .inr ⟨w.heap.size, 1, rfl, Nat.zero_le _, by simp, Nat.le_refl _, by unfold maxLen; omega, ?_, ?_⟩
 ·intro j u hu
  match j, hu with
  | 0, hu => simp at hu; subst hu; simp
  | j + 1, hu => simp at hu
 ·intro j hj
  obtain rfl : j = 0 := by omega
  simp
theorem digit_byte' (d : Nat) (h : d < 10) : byteV (UInt8.ofNat (48 + d)) = .int .u8 (48 + (d : Int)) := by
 unfold byteV
 congr 1
 rw [UInt8.toNat_ofNat']
 omega
theorem mk_app2 (a b : List UInt8) : mkS a ++ mkS b = mkS (a ++ b) := by
 apply eq_mkS
 simp [mkS, ByteArray.data_append]
theorem ret_str' {a b : List UInt8} (h : a = b) : Ending.returned (.string (mkS a)) = .returned (.string (mkS b)) := by rw [h]
set_option maxHeartbeats 4000000 in
set_option maxRecDepth 100000 in
/-- decimal at a number that isn't below 0. -/
theorem dec_nat (u : Nat) (hu : u ≤ 1000000) (w : World) : Calls Tryz.prog 14 #[.int .i64 u] w fun e w' => e = .returned (.string (mkS (Lib.decDigits u))) ∧ Below w.heap.size w w' := by
 have h0 : ((u : Int) == -9223372036854775808) = false := by rw [beq_eq_false_iff_ne]; omega
 have hm : ¬ (u : Int) < 0 := by omega
 have hmb : decide ((u : Int) < 0) = false := decide_eq_false hm
 have hlen : Hid ((Lib.decDigits u).length ≤ 20) := Lib.hid (by rw [Lib.decDigits_length]; exact Lib.nDigits_le20 _ (by omega))
 go_enter Tryz.func14, Tryz.ntmps14
 go_wp2_with fail
 go_loopw [0, 3] (fun v0 v3 wr => ∃ (c : Nat) (s : List UInt8), v0 = .int .i64 c ∧ v3 = .string (mkS s) ∧ c ≤ 1000000 ∧ Hid (Lib.decDigits u = Lib.decDigits c ++ s ∧ Below w.heap.size w wr)) (fun v0 _ _ => (intOf v0).toNat)
 case atStart => exact ⟨u, [], rfl, rfl, hu, Lib.hid ⟨(List.append_nil _).symm, Below.refl _ _⟩⟩
 case round =>
  obtain ⟨c, s, rfl, rfl, hc, hA⟩ := hrel
  have hs : s.length ≤ 20 := by
   have h1 := hlen.out
   rw [hA.out.1, List.length_append] at h1
   omega
  by_cases h : c < 10
  ·have h9 : ¬ (9 : Int) < c := by omega
   have h9b : decide ((9 : Int) < (c : Int)) = false := decide_eq_false h9
   have HD : Hid (Lib.decDigits u = [UInt8.ofNat (48 + c)] ++ s) := Lib.hid (by rw [hA.out.1]; congr 1; rw [Lib.decDigits, dif_pos h])
   have HB := Lib.hid (digit_byte' c h)
   have hw1 : IntKind.i64.wrap (48 + (c : Int)) = 48 + c := by rw [IntKind.wrap_i64]; omega
   have hw2 : IntKind.u8.wrap (48 + (c : Int)) = 48 + c := by rw [IntKind.wrap_u8]; omega
   have hw3 : wrap64 (48 + (c : Int)) = 48 + c := by unfold wrap64; omega
   generalize UInt8.ofNat (48 + c) = b at *
   have hadd : ∀ W, (Op.stringOp .add (mkS [b]) (mkS s)).run Tryz.prog W = .ok (.string (mkS ([b] ++ s))) W := fun W => by
    have := run_string_add_sum (P := Tryz.prog) W (mkS [b]) (mkS s) (by simp only [mkS_size, List.length_cons, List.length_nil]; omega)
    rwa [mk_app2] at this
   go_wp2_with (refine wpList_string_rowS _ rfl 50 9 (.tmp 27) rfl 5 (base := 0) (l := [b]) ?hr Tryz.underlying50 Tryz.underlying5 Tryz.underlying9 rfl ?_)
   case hr =>
    show RowS _ _ _ [byteV b]
    rw [HB.out]
    exact RowS.one' wr _ 5
   go_ret
   exact ⟨ret_str' HD.out.symm, hA.out.2.alloc hA.out.2.size _⟩
  ·have h9 : (9 : Int) < c := by omega
   have h9b : decide ((9 : Int) < (c : Int)) = true := decide_eq_true h9
   have HD : Hid (Lib.decDigits u = Lib.decDigits (c / 10) ++ ([UInt8.ofNat (48 + c % 10)] ++ s)) := Lib.hid (by rw [hA.out.1, Lib.decDigits, dif_neg h, List.append_assoc])
   have HB := Lib.hid (digit_byte' (c % 10) (by omega))
   have q1 : (c : Int).tdiv 10 = ((c / 10 : Nat) : Int) := by rw [Int.tdiv_eq_ediv_of_nonneg (by omega)]; omega
   have q2 : (c : Int).tmod 10 = ((c % 10 : Nat) : Int) := by rw [Int.tmod_eq_emod_of_nonneg (by omega)]; omega
   have q3 : (c : Int) / 10 = ((c / 10 : Nat) : Int) := by omega
   have q4 : (c : Int) % 10 = ((c % 10 : Nat) : Int) := by omega
   have hm10 : c % 10 < 10 := by omega
   have HC : Hid (c / 10 < c ∧ c / 10 ≤ 1000000) := Lib.hid (by omega)
   generalize UInt8.ofNat (48 + c % 10) = b at *
   generalize c / 10 = cq at *
   generalize c % 10 = cr at *
   have hcq : cq ≤ 1000000 := HC.out.2
   have hwq : IntKind.i64.wrap (cq : Int) = cq := by rw [IntKind.wrap_i64]; omega
   have hwr : IntKind.i64.wrap (cr : Int) = cr := by rw [IntKind.wrap_i64]; omega
   have hw1 : IntKind.i64.wrap (48 + (cr : Int)) = 48 + cr := by rw [IntKind.wrap_i64]; omega
   have hw2 : IntKind.u8.wrap (48 + (cr : Int)) = 48 + cr := by rw [IntKind.wrap_u8]; omega
   have hw3 : wrap64 (48 + (cr : Int)) = 48 + cr := by unfold wrap64; omega
   have hadd : ∀ W, (Op.stringOp .add (mkS [b]) (mkS s)).run Tryz.prog W = .ok (.string (mkS ([b] ++ s))) W := fun W => by
    have := run_string_add_sum (P := Tryz.prog) W (mkS [b]) (mkS s) (by simp only [mkS_size, List.length_cons, List.length_nil]; omega)
    rwa [mk_app2] at this
   clear hm10 h
   go_wp2_with (refine wpList_string_rowS _ rfl 50 9 (.tmp 20) rfl 5 (base := 0) (l := [b]) ?hr Tryz.underlying50 Tryz.underlying5 Tryz.underlying9 rfl ?_)
   case hr =>
    show RowS _ _ _ [byteV b]
    rw [HB.out]
    exact RowS.one' wr _ 5
   go_wp2_with fail
   go_roundw
   case rel => exact ⟨cq, [b] ++ s, rfl, rfl, HC.out.2, Lib.hid ⟨HD.out, hA.out.2.alloc hA.out.2.size _⟩⟩
   case measure => have := HC.out.1; simp [intOf]; omega
set_option maxHeartbeats 1000000 in
set_option maxRecDepth 100000 in
/-- decimal at a small number. -/
theorem decimal_any (n : Int) (h0 : -1000000 ≤ n) (h1 : n ≤ 1000000) (w : World) : Calls Tryz.prog 14 #[.int .i64 n] w fun e w' => e = .returned (.string (mkS (numT n))) ∧ Below w.heap.size w w' := by
 by_cases hn : n < 0
 ·obtain ⟨u, hu⟩ : ∃ u : Nat, n = -(u : Int) := ⟨n.natAbs, by omega⟩
  have HD : Hid (numT n = 95 :: Lib.decDigits u) := Lib.hid (by unfold numT; rw [if_pos hn]; congr 2; omega)
  have HI := Lib.hid (dec_nat u (by omega))
  have hl : (Lib.decDigits u).length ≤ 20 := by rw [Lib.decDigits_length]; exact Lib.nDigits_le20 _ (by omega)
  have h2 : (n == -9223372036854775808) = false := by rw [beq_eq_false_iff_ne]; omega
  have h3 : decide (n < 0) = true := decide_eq_true hn
  have h4 : IntKind.i64.wrap (-n) = (u : Int) := by rw [IntKind.wrap_i64]; omega
  have h5 : wrap64 (-n) = (u : Int) := by unfold wrap64; omega
  have h6 : ¬ n = -9223372036854775808 := by omega
  generalize Lib.decDigits u = D at *
  have hadd : ∀ W, (Op.stringOp .add ⟨#[95]⟩ (mkS D)).run Tryz.prog W = .ok (.string (mkS (95 :: D))) W := fun W => by
   have := run_string_add_sum (P := Tryz.prog) W (mkS [95]) (mkS D) (by simp only [mkS_size, List.length_cons, List.length_nil]; omega)
   rwa [mk_app2] at this
  clear hu h0 h1
  go_enter Tryz.func14, Tryz.ntmps14
  go_wp2_with (go_at_call 14; refine (HI.out _).mono ?_; rintro _ w1 ⟨rfl, hb⟩; have HB := Lib.hid hb; clear hb)
  go_ret
  exact ⟨ret_str' HD.out.symm, HB.out⟩
 ·obtain ⟨u, rfl⟩ : ∃ u : Nat, n = (u : Int) := ⟨n.toNat, by omega⟩
  have e : numT (u : Int) = Lib.decDigits u := by unfold numT; rw [if_neg hn, Int.toNat_natCast]
  rw [e]
  exact dec_nat u (by omega) w
set_option maxHeartbeats 4000000 in
set_option maxRecDepth 100000 in
/-- The line that declares x. -/
theorem input_line (v : Value) (s : List Nat) (w : World) (hv : IntsS w v (ofN s)) (hs : SidesOk s) : Calls Tryz.prog 10 #[.string ⟨#[120]⟩, v] w fun e w' => e = .returned (.string (mkS (inL s ++ [10]))) ∧ Below w.heap.size w w' := by
 obtain ⟨m, hm⟩ : ∃ m, m = s.length := ⟨_, rfl⟩
 have HM := Lib.hid hm
 have HS := Lib.hid hs
 have hm4 : m ≤ 4 := by have := hs.len; omega
 obtain ⟨a, cap, rfl, hc1, hc2, hc3⟩ := hv
 have HC := Lib.hid hc3
 unfold maxLen at hc2
 rw [ofN_len, ← hm] at hc1 ⊢
 clear hm hc3 hs
 have a0 : ∀ W, (Op.stringOp .add ⟨#[105, 110, 32]⟩ ⟨#[120]⟩).run Tryz.prog W = .ok (.string (mkS [105, 110, 32, 120])) W := fun W => by
  have := run_string_add_sum (P := Tryz.prog) W (mkS [105, 110, 32]) (mkS [120]) (by decide)
  rwa [mk_app2] at this
 go_enter Tryz.func10, Tryz.ntmps10
 go_wp2_with fail
 clear a0
 go_loopw [5, 7, 12] (fun v5 _ vk wr => ∃ (k : Nat) (t : List UInt8), k ≤ m ∧ vk = .int .i64 k ∧ v5 = .string (mkS t) ∧ Hid (t = inL (s.take k)) ∧ t.length ≤ 4 + 21 * k ∧ Hid (Below w.heap.size w wr)) (fun _ _ vk _ => m - (intOf vk).toNat)
 case atStart => exact ⟨0, [105, 110, 32, 120], Nat.zero_le _, rfl, rfl, Lib.hid rfl, by decide, Lib.hid (Below.refl _ _)⟩
 case round =>
  obtain ⟨k, t, hk, rfl, rfl, hT, hl, hB⟩ := hrel
  by_cases hlt : k < m
  ·obtain ⟨x, hx⟩ : ∃ x, s[k]? = some x := ⟨s[k]'(by have := HM.out; omega), List.getElem?_eq_getElem _⟩
   obtain ⟨g, o, rfl, hg, hcell⟩ := HC.out (by rw [ofN_len]; have := HM.out; omega)
   have d1 := (hB.out.cell (p := ⟨g, o + k, none⟩) hg).trans (hcell k x (by rw [ofN_get, hx]; rfl))
   have hx6 := HS.out.each x (List.mem_of_getElem? hx)
   have HN := Lib.hid (decimal_any (x : Int) (by omega) (by omega) wr)
   have hl2 := numT_short x hx6
   have HT : Hid (inL (s.take (k + 1)) = t ++ (32 :: numT (x : Int))) := Lib.hid (by
    rw [hT.out, List.take_add_one, hx]
    unfold inL numsL
    rw [List.flatMap_append, List.append_assoc]
    simp)
   generalize numT (x : Int) = D at *
   have a1 : ∀ W, (Op.stringOp .add ⟨#[32]⟩ (mkS D)).run Tryz.prog W = .ok (.string (mkS (32 :: D))) W := fun W => by
    have := run_string_add_sum (P := Tryz.prog) W (mkS [32]) (mkS D) (by simp only [mkS_size, List.length_cons, List.length_nil]; omega)
    rwa [mk_app2] at this
   have a2 : ∀ W, (Op.stringOp .add (mkS t) (mkS (32 :: D))).run Tryz.prog W = .ok (.string (mkS (t ++ (32 :: D)))) W := fun W => by
    have := run_string_add_sum (P := Tryz.prog) W (mkS t) (mkS (32 :: D)) (by simp only [mkS_size, List.length_cons]; omega)
    rwa [mk_app2] at this
   have HL : Hid ((t ++ (32 :: D)).length ≤ 4 + 21 * (k + 1)) := Lib.hid (by rw [List.length_append, List.length_cons]; omega)
   have kI : (k : Int) < m := by omega
   have k0 : (0 : Int) ≤ k := by omega
   have HLt := Lib.hid hlt
   clear hcell hx hl2 hlt hl
   go_wp2_with (go_at_call 14; refine HN.out.mono ?_; rintro _ w1 ⟨rfl, hb⟩; have HB1 := Lib.hid (hB.out.trans (hb.mono hB.out.size)); clear hb)
   go_roundw
   case rel => exact ⟨k + 1, _, HLt.out, by go_num, rfl, Lib.hid HT.out.symm, HL.out, HB1⟩
   case measure => have := HLt.out; simp [intOf]; omega
  ·obtain rfl : k = m := by omega
   have kI : ¬ (k : Int) < k := by omega
   have HT : Hid (t = inL s) := Lib.hid (by rw [hT.out, List.take_of_length_le (by rw [← HM.out]; exact Nat.le_refl _)])
   have a1 : ∀ W, (Op.stringOp .add (mkS t) ⟨#[10]⟩).run Tryz.prog W = .ok (.string (mkS (t ++ [10]))) W := fun W => by
    have := run_string_add_sum (P := Tryz.prog) W (mkS t) (mkS [10]) (by simp only [mkS_size, List.length_cons, List.length_nil]; omega)
    rwa [mk_app2] at this
   clear hlt hl
   go_wp2_with fail
   go_ret
   exact ⟨ret_str' (by rw [HT.out]), hB.out⟩
/-- Which of the four verbs. -/
theorem mod4 (f : Nat) : f % 4 = 0 ∨ f % 4 = 1 ∨ f % 4 = 2 ∨ f % 4 = 3 := by omega
set_option maxHeartbeats 2000000 in
set_option maxRecDepth 100000 in
theorem tverb_any (f : Nat) (w : World) : Calls Tryz.prog 13 #[.int .u8 f] w fun e w' => e = .returned (.string (mkS (ordT (f % 4)))) ∧ Below w.heap.size w w' := by
 have q1 : (f : Int).tmod 4 = ((f % 4 : Nat) : Int) := by rw [Int.tmod_eq_emod_of_nonneg (by omega)]; omega
 have q2 : (f : Int) % 4 = ((f % 4 : Nat) : Int) := by omega
 have HB := Lib.hid ((Below.refl _ w).alloc (Nat.le_refl _) (.cells #[.string ⟨#[43]⟩, .string ⟨#[42]⟩, .string ⟨#[109, 105, 110]⟩, .string ⟨#[109, 97, 120]⟩] 9))
 rcases mod4 f with h | h | h | h
 all_goals
  rw [h] at q1 q2 ⊢
  clear h
  go_enter Tryz.func13, Tryz.ntmps13
  go_wp2_with fail
  go_ret
  exact ⟨rfl, HB.out⟩
end
section
open Go Go.ChangeShapes Go.WideShapes Go.RowKit Go.Deep Go.Joins
theorem addr_plus (b o j : Nat) : (⟨b, o, none⟩ : Addr).add j = ⟨b, o + j, none⟩ := by unfold Addr.add; split <;> simp_all
section
variable {H : Type} {enc : TypeId × Value → H} {w : World} {base : Nat} {spare : Nat → Bool} {held : Bool}
set_option maxRecDepth 100000 in
theorem ints_open {n : Nat} {v : Value} {y : DataW H × List MemPlace} (h : DataW.trod enc Tryz.prog w base spare held n 22 [v] = some y) : ∃ l : List Int, IntsS w v l := by
 have hC : Tryz.prog.cellsOf 2 = 1 := by kernel_rfl
 rcases ChangeShapes.open_ints Tryz.underlying22 Tryz.underlying2 hC h with ⟨hcs, _⟩ | ⟨a, len, cap, zs, hcs, hb, hl, hm, hz, _, hcell, _⟩
 ·simp only [List.cons.injEq, and_true] at hcs
  subst hcs
  exact ⟨[], none, 0, rfl, Nat.le_refl _, Nat.zero_le _, fun h => absurd h (Nat.lt_irrefl _)⟩
 ·simp only [List.cons.injEq, and_true] at hcs
  subst hcs
  have hlm : len ≤ zs.length := by rw [hz]; split <;> omega
  have htl : (zs.take len).length = len := by rw [List.length_take]; omega
  refine ⟨zs.take len, some a, cap, by rw [htl], by rw [htl]; exact hl, hm, fun hpos => ?_⟩
  rw [htl] at hpos
  obtain ⟨b, o, spot⟩ := a
  have h0 := hcell 0 (by omega)
  have hspot : spot = none := by simpa [Addr.add] using World.cell?_spot h0
  subst hspot
  refine ⟨b, o, rfl, ?_, fun i x hi => ?_⟩
  ·have := World.block_lt_of_cell? _ _ h0
   rwa [addr_plus] at this
  ·have hil : i < len := by
    have := (List.getElem?_eq_some_iff.1 hi).1
    rwa [htl] at this
   have := hcell i (by omega)
   rw [addr_plus] at this
   rw [this, List.getD_eq_getElem?_getD]
   rw [List.getElem?_take_of_lt hil] at hi
   rw [hi]
   rfl
set_option maxRecDepth 100000 in
theorem open_arr {r : Go.Reach} {b0 : Nat} {v : Value} {d : DataW H} {p : List MemPlace} (hv : Value.okWide Tryz.prog w r b0 24 v) (h : DataW.Trod enc Tryz.prog w base spare held 24 v d p) :
  ∃ vs vd ls ld, v = .agg #[vs, vd] ∧ IntsS w vs ls ∧ IntsS w vd ld := by
 obtain ⟨v0, v1, y0, y1, n, rfl, -, -, g0, g1⟩ := open_agg2 Tryz.underlying24 (by kernel_rfl) (by kernel_rfl) hv h
 obtain ⟨l0, h0⟩ := ints_open g0
 obtain ⟨l1, h1⟩ := ints_open g1
 exact ⟨v0, v1, l0, l1, rfl, h0, h1⟩
end
end
end Go.Proofs.YtknnleiinhdklaaGreatDoor
