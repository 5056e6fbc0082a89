/-
  Walk of windrowlaw04.ParseRight: it answers true. Condition: the texts are no longer than a string may be; strconv.ErrRange holds an error.
-/
import Derived.Test.YtfpneopobbfabaaDoorPwB
import Derived.Test.YtfpneopobbfabaaDoorPwI
import Derived.Test.YtfpneopobbfabaaDoorLwG
namespace Go.Proofs.YtfpneopobbfabaaDoor
open Go.RowKit Go.Shelf Go.Sort

theorem pRt_bytes (a b : ByteArray) : (((⟨#[111, 117, 116, 32, 40]⟩ : ByteArray) ++ a) ++ (⟨#[41, 109, 97, 120, 32]⟩ : ByteArray) ++ b).data.toList = pRt a.data.toList b.data.toList := by
  rw [ByteArray.data_append, ByteArray.data_append, ByteArray.data_append, Array.toList_append, Array.toList_append, Array.toList_append]
  rfl
theorem ItsV.far {w w' : World} {v : Value} {l : List Itm} {row : Option Nat} {B : Nat} (h : ItsV w v l) (hv : ∀ k, v.ownBlock = some k → k < B) (hg : w.grownBy w' row) (hr : ∀ k, row = some k → B ≤ k) (hk : KeepTag 2 w w') : ItsV w' v l :=
  h.other hg (by
    cases hv2 : v.ownBlock with
    | none => exact .inl rfl
    | some k =>
      refine .inr (fun e => ?_)
      have h1 := hv k hv2
      have h2 := hr k e.symm
      omega) hk
theorem keep_two' (w : World) (o1 o2 : Obj) : ∀ t, KeepTag t w ((w.alloc o1).alloc o2) := fun t => KeepTag.below (((Below.refl _ _).alloc (Nat.le_refl _) _).alloc (by simp) _)
set_option maxHeartbeats 8000000 in
set_option maxRecDepth 100000 in
theorem PRight_any (a b : ByteArray) (w : World) (hsa : a.size ≤ maxLen) (hsb : b.size ≤ maxLen) (hE : ErrIs w) : Calls Tryd.prog 7 #[.string a, .string b] w fun e w' => e = .returned (.bool true) ∧ Below w.heap.size w w' := by
  have HSh := Lib.hid (fun w h => shown_any w h)
  have HPa := Lib.hid (fun w => plain_any a 10000 w hsa (by omega))
  have HPb := Lib.hid (fun w => plain_any b 10000 w hsb (by omega))
  unfold maxLen at hsa hsb
  cases hpa : plainB a.data.toList 10000 with
  | false =>
    rw [hpa] at HPa
    go_enter Tryd.func7, Tryd.ntmps7
    go_wp2_with fail
    refine (HSh.out w hE).mono ?_
    rintro _ w1 ⟨rfl, hb1⟩
    have HB1 := Lib.hid hb1
    clear hb1
    go_wp2_with fail
    refine (HPa.out w1).mono ?_
    rintro _ _ ⟨rfl, rfl⟩
    go_wp2_with fail
    go_ret
    exact ⟨rfl, HB1.out⟩
  | true =>
    rw [hpa] at HPa
    cases hpb : plainB b.data.toList 10000 with
    | false =>
      rw [hpb] at HPb
      go_enter Tryd.func7, Tryd.ntmps7
      go_wp2_with fail
      refine (HSh.out w hE).mono ?_
      rintro _ w1 ⟨rfl, hb1⟩
      have HB1 := Lib.hid hb1
      clear hb1
      go_wp2_with fail
      refine (HPa.out w1).mono ?_
      rintro _ _ ⟨rfl, rfl⟩
      go_wp2_with fail
      refine (HPb.out w1).mono ?_
      rintro _ _ ⟨rfl, rfl⟩
      go_wp2_with fail
      go_ret
      exact ⟨rfl, HB1.out⟩
    | true =>
      rw [hpb] at HPb
      have hsma : a.size ≤ 10000 := (plainB_iff.1 hpa).1
      have hsmb : b.size ≤ 10000 := (plainB_iff.1 hpb).1
      have HOa := Lib.hid (fun w h => out_any a w (by omega) h)
      have HOb := Lib.hid (fun w h => out_any b w (by omega) h)
      have hsz : (((⟨#[111, 117, 116, 32, 40]⟩ : ByteArray) ++ a) ++ (⟨#[41, 109, 97, 120, 32]⟩ : ByteArray) ++ b).size ≤ maxLen := by
        rw [ByteArray.size_append, ByteArray.size_append, ByteArray.size_append]
        have : (⟨#[111, 117, 116, 32, 40]⟩ : ByteArray).size = 5 := rfl
        have : (⟨#[41, 109, 97, 120, 32]⟩ : ByteArray).size = 5 := rfl
        unfold maxLen
        omega
      have HP := Lib.hid (fun w h => Parse_any (((⟨#[111, 117, 116, 32, 40]⟩ : ByteArray) ++ a) ++ (⟨#[41, 109, 97, 120, 32]⟩ : ByteArray) ++ b) w hsz h)
      rw [pRt_bytes] at HP
      have HLaw := Lib.hid (fun la lb h g => @right_law a.data.toList b.data.toList la lb hpa hpb h g)
      have HCa := Lib.hid (fun l h => @outP_count a.data.toList 10000 l hpa (by omega) h)
      have HCb := Lib.hid (fun l h => @outP_count b.data.toList 10000 l hpb (by omega) h)
      generalize outP a.data.toList = oa at HOa HLaw HCa
      generalize outP b.data.toList = ob at HOb HLaw HCb
      generalize parseL (pRt a.data.toList b.data.toList) = px at HP HLaw
      clear hpa hpb hsz
      go_enter Tryd.func7, Tryd.ntmps7
      go_wp2_with fail
      refine (HSh.out w hE).mono ?_
      rintro _ w1 ⟨rfl, hb1⟩
      have HB1 := Lib.hid hb1
      have HE1 := Lib.hid (hE.kept hb1)
      clear hb1
      go_wp2_with fail
      refine (HPa.out w1).mono ?_
      rintro _ _ ⟨rfl, rfl⟩
      go_wp2_with fail
      refine (HPb.out w1).mono ?_
      rintro _ _ ⟨rfl, rfl⟩
      go_wp2_with fail
      refine (HOa.out w1 HE1.out).mono ?_
      rintro en w2 ⟨hb2, houta⟩
      have HB2 := Lib.hid (HB1.out.trans (hb2.mono HB1.out.size))
      have HE2 := Lib.hid (HE1.out.kept hb2)
      clear hb2
      cases oa with
      | none =>
        obtain rfl := houta
        go_wp2_with fail
        refine (HOb.out w2 HE2.out).mono ?_
        rintro en w3 ⟨hb3, houtb⟩
        have HB3 := Lib.hid (HB2.out.trans (hb3.mono HB2.out.size))
        clear hb3
        obtain ⟨ab, nb, cb, bb, rfl⟩ : ∃ ab nb cb bb, en = .returned (.tuple #[.slice ab nb cb, .bool bb]) := by
          cases ob with
          | none => exact ⟨_, _, _, _, houtb⟩
          | some its =>
            obtain ⟨v, cs, rfl, ho, _⟩ := houtb
            obtain ⟨ad, cap, rfl⟩ := own_form ho
            exact ⟨_, _, _, _, rfl⟩
        clear houtb
        go_wp2_with fail
        go_ret
        exact ⟨rfl, HB3.out⟩
      | some la =>
        obtain ⟨va, csa, rfl, hoa, hia⟩ := houta
        have HIa : Hid (ItsV w2 va la) := Lib.hid ⟨csa, hoa, hia⟩
        obtain ⟨ada, capa, rfl⟩ := own_form hoa
        clear hoa hia
        obtain ⟨na, hna⟩ : ∃ na, na = la.length := ⟨_, rfl⟩
        rw [← hna] at HIa ⊢
        have HNa := Lib.hid hna
        have HCa2 := Lib.hid (HCa.out la rfl)
        clear hna
        go_wp2_with fail
        refine (HOb.out w2 HE2.out).mono ?_
        rintro en w3 ⟨hb3, houtb⟩
        have HB3 := Lib.hid (HB2.out.trans (hb3.mono HB2.out.size))
        have HE3 := Lib.hid (HE2.out.kept hb3)
        have HIa3 := Lib.hid (HIa.out.keep (fun t => KeepTag.below hb3))
        clear hb3
        cases ob with
        | none =>
          obtain rfl := houtb
          go_wp2_with fail
          go_ret
          exact ⟨rfl, HB3.out⟩
        | some lb =>
          obtain ⟨vb, csb, rfl, hob, hib⟩ := houtb
          have HIb : Hid (ItsV w3 vb lb) := Lib.hid ⟨csb, hob, hib⟩
          obtain ⟨adb, capb, rfl⟩ := own_form hob
          clear hob hib
          obtain ⟨nb, hnb⟩ : ∃ nb, nb = lb.length := ⟨_, rfl⟩
          rw [← hnb] at HIb ⊢
          have HNb := Lib.hid hnb
          have HCb2 := Lib.hid (HCb.out lb rfl)
          clear hnb
          go_wp2_with fail
          refine (HP.out w3 HE3.out).mono ?_
          rintro en w4 ⟨hb4, hm⟩
          have HB4 := Lib.hid (HB3.out.trans (hb4.mono HB3.out.size))
          have HIa4 := Lib.hid (HIa3.out.keep (fun t => KeepTag.below hb4))
          have HIb4 := Lib.hid (HIb.out.keep (fun t => KeepTag.below hb4))
          clear hb4
          rcases HLaw.out la lb rfl rfl with ⟨x, hx⟩ | ⟨x, hx⟩ | ⟨k, l', hx, hl'⟩
          · rw [hx] at hm
            obtain rfl := hm
            clear hx
            dsimp only
            go_wp2_with fail
            go_ret
            exact ⟨rfl, (HB4.out.alloc HB4.out.size _).alloc (Nat.le_trans HB4.out.size (by simp)) _⟩
          · rw [hx] at hm
            obtain rfl := hm
            clear hx
            dsimp only
            go_wp2_with fail
            go_ret
            exact ⟨rfl, (HB4.out.alloc HB4.out.size _).alloc (Nat.le_trans HB4.out.size (by simp)) _⟩
          · rw [hx] at hm
            obtain ⟨vi, vl, rfl, ci, cl, o1, o2, o3, o4⟩ := hm
            obtain ⟨ai, capi, rfl⟩ := own_form o1
            obtain ⟨gl, capl, rfl, _, hgl, _, _, hgc, _⟩ := own_cells o3 (by simp)
            obtain ⟨c, hcl, ⟨vx, cs2, rfl, hox, hix⟩, hcj⟩ := o4.2 0 _ rfl
            have x2 : w4.cell? ⟨gl, 2, none⟩ = some vx := by
              rw [hgc 2 (by simp)]
              exact hcj 2 _ rfl
            have HIx : Hid (ItsV w4 vx l') := Lib.hid ⟨cs2, hox, hix⟩
            obtain ⟨ax, cx, rfl⟩ := own_form hox
            have HEq := Lib.hid hl'
            clear hx hl' hox hix hgc hcj hcl o1 o2 o3 o4
            go_upto_region 11 with fail
            have HB5 : Hid (∀ o1 o2, Below w.heap.size w ((w4.alloc o1).alloc o2)) := Lib.hid (fun o1 o2 => (HB4.out.alloc HB4.out.size _).alloc (Nat.le_trans HB4.out.size (by simp)) _)
            obtain ⟨W, hW⟩ : ∃ W : World, W = (w4.alloc (.cells #[.slice ai 0 capi, .slice (some ⟨gl, 0, none⟩) 1 capl] 26)).alloc (.cells #[.int .i64 0, .int .i64 0] 29) := ⟨_, rfl⟩
            have HIa5 : Hid (ItsV W (.slice ada na capa) la) := Lib.hid (by rw [hW]; exact HIa4.out.keep (keep_two' _ _ _))
            have HIb5 : Hid (ItsV W (.slice adb nb capb) lb) := Lib.hid (by rw [hW]; exact HIb4.out.keep (keep_two' _ _ _))
            have HIx5 : Hid (ItsV W (.slice ax l'.length cx) l') := Lib.hid (by rw [hW]; exact HIx.out.keep (keep_two' _ _ _))
            have hb5 : Below w.heap.size w W := by rw [hW]; exact HB5.out _ _
            have p1 : W.cell? ⟨w4.heap.size, 1, none⟩ = some (.slice (some ⟨gl, 0, none⟩) 1 capl) := by rw [hW]; simp
            have p2 : W.cell? ⟨gl, 2, none⟩ = some (.slice ax l'.length cx) := by
              rw [hW, (((Below.refl w4.heap.size w4).alloc (Nat.le_refl _) _).alloc (by simp) _).cell (p := ⟨gl, 2, none⟩) hgl]
              exact x2
            have hsz5 : w4.heap.size < W.heap.size := by rw [hW]; simp; omega
            have hgl5 : gl < W.heap.size := by omega
            rw [← hW]
            clear hW x2 HB5
            go_wp2_with (at_builtin; refine wpList_append_items rfl (.tmp 63) (.tmp 64) rfl W.heap.size 0 na _ _ [] la rfl ?h1 rfl ?h2 ?h3 rfl HNa.out (by simp) ?h4 ?h5 ?_)
            case h1 => exact ⟨[], World.ownsRow_made _ #[] 0 (Nat.le_refl _) (by unfold maxLen; omega) rfl, ItsC.nil _⟩
            case h2 => exact HIa5.out.keep (fun t => KeepTag.alloc _)
            case h3 => exact HCa2.out.1
            case h4 => have := HCa2.out.2; omega
            case h5 => simp
            intro g1 cap1 w6 ho1 hg1 hk1 hat1
            have hr1 : W.heap.size ≤ g1 := by
              rcases hat1 with h | h
              · have : W.heap.size = g1 := by simpa [Value.ownBlock] using h
                omega
              · rw [h]; simp
            have hrow1 : ∀ k, (Value.slice (some ⟨W.heap.size, 0, none⟩) 0 0).ownBlock = some k → W.heap.size ≤ k := fun k hk => by
              have : W.heap.size = k := by simpa [Value.ownBlock] using hk
              omega
            have hb6 : Below W.heap.size W w6 := ((Below.refl _ _).alloc (Nat.le_refl _) _).grown hg1 (by simp) hrow1
            have hib6 : ItsV w6 (.slice adb nb capb) lb := (HIb5.out.keep (fun t => KeepTag.alloc _)).far (B := W.heap.size) (fun k hk => HIb5.out.lt hk) hg1 hrow1 (hk1 _ (by decide))
            have hix6 : ItsV w6 (.slice ax l'.length cx) l' := (HIx5.out.keep (fun t => KeepTag.alloc _)).far (B := W.heap.size) (fun k hk => HIx5.out.lt hk) hg1 hrow1 (hk1 _ (by decide))
            clear hg1 hk1 hat1
            go_wp2_with (at_builtin; refine wpList_append_items rfl (.tmp 65) (.tmp 66) rfl W.heap.size na nb _ _ la lb rfl ho1 rfl hib6 ?k3 HNa.out HNb.out ?k5 ?k6 ?k7 ?_)
            case k3 => exact HCb2.out.1
            case k5 => have := HCa2.out.2; omega
            case k6 => have := HCb2.out.2; omega
            case k7 => exact hb6.size
            intro g2 cap2 w7 ho2 hg2 hk2 hat2
            have hrow2 : ∀ k, (Value.slice (some ⟨g1, 0, none⟩) na cap1).ownBlock = some k → W.heap.size ≤ k := fun k hk => by
              have : g1 = k := by simpa [Value.ownBlock] using hk
              omega
            have hr2 : W.heap.size ≤ g2 := by
              rcases hat2 with h | h
              · exact hrow2 _ h
              · rw [h]; exact hb6.size
            have hb7 : Below W.heap.size W w7 := hb6.grown hg2 hb6.size hrow2
            have hix7 : ItsV w7 (.slice ax l'.length cx) l' := hix6.far (B := W.heap.size) (fun k hk => HIx5.out.lt hk) hg2 hrow2 (hk2 _ (by decide))
            clear hg2 hk2 hat2 ho1 hib6 hix6 hb6
            obtain ⟨cs2, own2, its2⟩ := ho2
            rw [List.length_append, ← HNa.out, ← HNb.out] at own2
            obtain ⟨i0, hi, hz0, hz1, hz2⟩ := info_parts Tryd.infoItem
            have hca := HCa2.out.2
            have hcb := HCb2.out.2
            rw [← HNa.out] at hca
            rw [← HNb.out] at hcb
            go_wp2_with (at_builtin; refine wpList_append_lies _ rfl (.tmp 68) (.tmp 70) 40 rfl W.heap.size 48 i0 (.agg #[.int .i64 0, .int .i64 0, .int .u8 0, .string ⟨#[]⟩, .slice none 0 0]) 5 64 Tryd.underlying40 hi hz0 hz1 hz2 rfl (by decide) _ _ _ rfl (own2.alloc _) ⟨w7.heap.size, 0, none⟩ 1 1 [.int .i64 4, .int .i64 0, .int .u8 7, .string ⟨#[]⟩, .slice none 0 0] rfl rfl ?c1 ?c2 (by decide) ?c3 ?c4 ?c5 _ rfl ?_)
            case c1 => exact cells5 _ _ _ _ _ _ _ rfl
            case c2 => intro u hu; simp at hu; rcases hu with rfl | rfl | rfl | rfl | rfl <;> rfl
            case c3 => unfold maxLen; omega
            case c4 => omega
            case c5 => have := hb7.size; simp; omega
            intro g3 cap3 w8 own3 hg3 hat3 _
            have hrow3 : ∀ k, (Value.slice (some ⟨g2, 0, none⟩) (na + nb) cap2).ownBlock = some k → W.heap.size ≤ k := fun k hk => by
              have : g2 = k := by simpa [Value.ownBlock] using hk
              omega
            have hb8 : Below W.heap.size W w8 := (hb7.alloc hb7.size _).grown hg3 (by have := hb7.size; simp; omega) hrow3
            have hk3 : KeepTag 2 w7 w8 := (KeepTag.alloc _).trans (KeepTag.own hg3 (own2.alloc _) (by decide))
            have hix8 : ItsV w8 (.slice ax l'.length cx) l' := (hix7.keep (fun t => KeepTag.alloc _)).far (B := W.heap.size) (fun k hk => HIx5.out.lt hk) hg3 hrow3 (KeepTag.own hg3 (own2.alloc _) (by decide))
            have hall : ItsV w8 (.slice (some ⟨g3, 0, none⟩) (na + nb + 1) cap3) (la ++ lb ++ [maxI]) := by
              refine ⟨cs2 ++ maxI.cells (.slice none 0 0), own_base (base := W.heap.size) ?_ (Nat.zero_le _), (its2.keep hk3).snoc (NumS.nil _)⟩
              rw [List.length_append, List.length_append, ← HNa.out, ← HNb.out]
              exact own3
            have HIx8 := Lib.hid hix8
            have HAll := Lib.hid hall
            have q1 : w8.cell? ⟨w4.heap.size, 1, none⟩ = some (.slice (some ⟨gl, 0, none⟩) 1 capl) := (hb8.cell (p := ⟨w4.heap.size, 1, none⟩) hsz5).trans p1
            have q2 : w8.cell? ⟨gl, 2, none⟩ = some (.slice ax l'.length cx) := (hb8.cell (p := ⟨gl, 2, none⟩) hgl5).trans p2
            have HB8 := Lib.hid (hb5.trans (hb8.mono hb5.size))
            have HEq2 : Hid (l'.map Itm.bare = (la ++ lb ++ [maxI]).map Itm.bare) := Lib.hid (by rw [HEq.out, List.map_append, List.map_append]; rfl)
            clear hg3 hat3 own3 hrow3 hb8 hk3 hix8 hall own2 its2 hix7 hb7 hb5 p1 p2 hr1 hr2 hrow2
            go_wp2_with fail
            refine (Items_true _ _ l' (la ++ lb ++ [maxI]) _ HIx8.out HAll.out HEq2.out).mono ?_
            rintro _ w9 ⟨rfl, hb9⟩
            have HB9 := Lib.hid (HB8.out.trans (hb9.mono HB8.out.size))
            clear hb9
            go_wp2_with fail
            go_ret
            exact ⟨rfl, HB9.out⟩
end Go.Proofs.YtfpneopobbfabaaDoor
