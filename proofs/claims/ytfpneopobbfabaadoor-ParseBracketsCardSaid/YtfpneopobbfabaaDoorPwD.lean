/-
  Walk of windrowlaw04.ParseBrackets: it answers true. Condition: the text is no longer than a string may be; strconv.ErrRange holds an error.
-/
import Derived.Test.YtfpneopobbfabaaDoorPwB
import Derived.Test.YtfpneopobbfabaaDoorPwC
namespace Go.Proofs.YtfpneopobbfabaaDoor
open Go.RowKit Go.Shelf Go.Sort

theorem pBr_bytes (s : ByteArray) : ((⟨#[111, 117, 116, 32, 40]⟩ : ByteArray) ++ s ++ (⟨#[41]⟩ : ByteArray)).data.toList = pBr s.data.toList := by
  rw [ByteArray.data_append, ByteArray.data_append, Array.toList_append, Array.toList_append]
  rfl
set_option maxHeartbeats 8000000 in
set_option maxRecDepth 100000 in
theorem PBrackets_any (s : ByteArray) (w : World) (hs : s.size ≤ maxLen) (hE : ErrIs w) : Calls Tryd.prog 6 #[.string s] w fun e w' => e = .returned (.bool true) ∧ Below w.heap.size w w' := by
  have HSh := Lib.hid (fun w h => shown_any w h)
  have HPl := Lib.hid (fun w => plain_any s 10000 w hs (by omega))
  have hs0 := hs
  unfold maxLen at hs
  cases hpl : plainB s.data.toList 10000 with
  | false =>
    rw [hpl] at HPl
    go_enter Tryd.func6, Tryd.ntmps6
    go_wp2_with fail
    refine (HSh.out w hE).mono ?_
    rintro _ w1 ⟨rfl, hb1⟩
    have HB1 := Lib.hid hb1
    clear hb1
    go_wp2_with fail
    refine (HPl.out w1).mono ?_
    rintro _ _ ⟨rfl, rfl⟩
    go_wp2_with fail
    go_ret
    exact ⟨rfl, HB1.out⟩
  | true =>
    rw [hpl] at HPl
    have hsm : s.size ≤ 10000 := (plainB_iff.1 hpl).1
    have HO := Lib.hid (fun w h => out_any s w (by omega) h)
    have hsz : ((⟨#[111, 117, 116, 32, 40]⟩ : ByteArray) ++ s ++ (⟨#[41]⟩ : ByteArray)).size ≤ maxLen := by
      rw [ByteArray.size_append, ByteArray.size_append]
      have : (⟨#[111, 117, 116, 32, 40]⟩ : ByteArray).size = 5 := rfl
      have : (⟨#[41]⟩ : ByteArray).size = 1 := rfl
      unfold maxLen
      omega
    have HPa := Lib.hid (fun w h => Parse_any ((⟨#[111, 117, 116, 32, 40]⟩ : ByteArray) ++ s ++ (⟨#[41]⟩ : ByteArray)) w hsz h)
    rw [pBr_bytes] at HPa
    have HLaw := Lib.hid (fun l h => @brackets_law s.data.toList l hpl h)
    generalize outP s.data.toList = ox at HO HLaw
    generalize parseL (pBr s.data.toList) = px at HPa HLaw
    clear hpl hsz
    go_enter Tryd.func6, Tryd.ntmps6
    go_wp2_with fail
    refine (HSh.out w hE).mono ?_
    rintro _ w1 ⟨rfl, hb1⟩
    have HB1 := Lib.hid hb1
    have HE1 := Lib.hid (hE.kept hb1)
    clear hb1
    go_wp2_with fail
    refine (HPl.out w1).mono ?_
    rintro _ _ ⟨rfl, rfl⟩
    go_wp2_with fail
    refine (HO.out w1 HE1.out).mono ?_
    rintro en w2 ⟨hb2, hout⟩
    have HB2 := Lib.hid (HB1.out.trans (hb2.mono HB1.out.size))
    have HE2 := Lib.hid (HE1.out.kept hb2)
    clear hb2
    cases ox with
    | none =>
      obtain rfl := hout
      go_wp2_with fail
      refine (HPa.out w2 HE2.out).mono ?_
      rintro en w3 ⟨hb3, hm⟩
      have HB3 := Lib.hid (HB2.out.trans (hb3.mono HB2.out.size))
      obtain ⟨ai, ni, ci, al, nl, cl, fa, fc, rfl⟩ : ∃ ai ni ci al nl cl fa fc, en = .returned (.tuple #[.agg #[.slice ai ni ci, .slice al nl cl], .agg #[.int .i64 fa, .int .i64 fc]]) := by
        cases px with
        | error y => exact ⟨none, 0, 0, none, 0, 0, y.1, y.2, hm⟩
        | ok q =>
          obtain ⟨vi, vl, he, _, _, o1, _, o3, _⟩ := hm
          obtain ⟨ai, ci, rfl⟩ := own_form o1
          obtain ⟨al, cl, rfl⟩ := own_form o3
          exact ⟨ai, _, ci, al, _, cl, 0, 0, he⟩
      clear hm hb3
      go_wp2_with fail
      go_ret
      exact ⟨rfl, (HB3.out.alloc HB3.out.size _).alloc (Nat.le_trans HB3.out.size (by simp)) _⟩
    | some its =>
      obtain ⟨v, cs, rfl, ho, hi⟩ := hout
      have HIt : Hid (ItsV w2 v its) := Lib.hid ⟨cs, ho, hi⟩
      obtain ⟨ad, cap, rfl⟩ := own_form ho
      clear ho hi
      go_wp2_with fail
      refine (HPa.out w2 HE2.out).mono ?_
      rintro en w3 ⟨hb3, hm⟩
      have HB3 := Lib.hid (HB2.out.trans (hb3.mono HB2.out.size))
      rcases HLaw.out its rfl with ⟨x, hx⟩ | ⟨x, hx⟩ | ⟨a, l', hx, hl'⟩
      · rw [hx] at hm
        obtain rfl := hm
        clear hx hb3
        dsimp only
        go_wp2_with fail
        go_ret
        exact ⟨rfl, (HB3.out.alloc HB3.out.size _).alloc (Nat.le_trans HB3.out.size (by simp)) _⟩
      · rw [hx] at hm
        obtain rfl := hm
        clear hx hb3
        dsimp only
        go_wp2_with fail
        go_ret
        exact ⟨rfl, (HB3.out.alloc HB3.out.size _).alloc (Nat.le_trans HB3.out.size (by simp)) _⟩
      · rw [hx] at hm
        obtain ⟨vi, vl, rfl, ci, cl, o1, o2, o3, o4⟩ := hm
        obtain ⟨ai, capi, rfl⟩ := own_form o1
        obtain ⟨gl, capl, rfl, _, hgl, _, _, hgc, _⟩ := own_cells o3 (by simp)
        obtain ⟨c, hcl, ⟨vx, cs2, rfl, hox, hix⟩, hcj⟩ := o4.2 0 _ rfl
        have x2 : w3.cell? ⟨gl, 2, none⟩ = some vx := by
          rw [hgc 2 (by simp)]
          exact hcj 2 _ rfl
        have hIx : ItsV w3 vx l' := ⟨cs2, hox, hix⟩
        obtain ⟨ax, cx, rfl⟩ := own_form hox
        have HIx := Lib.hid hIx
        have HIo : Hid (ItsV w3 (.slice ad its.length cap) its) := Lib.hid (let ⟨cs, h1, h2⟩ := HIt.out; ⟨cs, own_tag h1 (KeepTag.below hb3), h2.keep (KeepTag.below hb3)⟩)
        have HEq := Lib.hid hl'
        clear hx hb3 hl' hIx hox hix hgc hcj hcl o1 o2 o3 o4
        go_wp2_with fail
        have kk : ∀ (v : Value) (l : List Itm) (o1 o2 : Obj), ItsV w3 v l → ItsV ((w3.alloc o1).alloc o2) v l := fun v l o1 o2 h =>
          let ⟨cs, h1, h2⟩ := h
          let hk : ∀ t, KeepTag t w3 ((w3.alloc o1).alloc o2) := fun t => KeepTag.below (((Below.refl _ _).alloc (Nat.le_refl _) _).alloc (by simp) _)
          ⟨cs, own_tag h1 (hk _), h2.keep (hk _)⟩
        refine (Items_true _ _ l' its _ (kk _ _ _ _ HIx.out) (kk _ _ _ _ HIo.out) HEq.out).mono ?_
        rintro _ w5 ⟨rfl, hb5⟩
        have HB5 := Lib.hid (((HB3.out.alloc HB3.out.size _).alloc (Nat.le_trans HB3.out.size (by simp)) _).trans (hb5.mono (by have := HB3.out.size; simp; omega)))
        clear hb5
        go_wp2_with fail
        go_ret
        exact ⟨rfl, HB5.out⟩
end Go.Proofs.YtfpneopobbfabaaDoor
