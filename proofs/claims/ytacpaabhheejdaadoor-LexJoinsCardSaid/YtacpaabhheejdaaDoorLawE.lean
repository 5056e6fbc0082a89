/-
  Walk of the law LexJoins. Condition: Go's own variables hold what their initialisers lay.
-/
import Derived.Test.YtacpaabhheejdaaDoorLawD
namespace Go.Proofs.YtacpaabhheejdaaDoor
open Go.RowKit Go.Shelf Go.Sort

theorem join_bytes (a b : ByteArray) : (a ++ (⟨#[10]⟩ : ByteArray) ++ b).data.toList = a.data.toList ++ 10 :: b.data.toList := by
  rw [ByteArray.data_append, Array.toList_append, ByteArray.data_append, Array.toList_append]
  simp
theorem TokS.drop {w : World} {B : Nat} {g o n cap : Nat} {l : List Tok} (h : TokS w B (.slice (some ⟨g, o, none⟩) n cap) l) (k : Nat) (hk : k ≤ n) : TokS w B (.slice (some ⟨g, o + k * 4, none⟩) (n - k) (cap - k)) (l.drop k) := by
  obtain ⟨a, cap', he, h2, h3, h4⟩ := h
  injection he with e1 e2 e3
  subst e1 e2 e3
  have hl : (l.drop k).length = l.length - k := by rw [List.length_drop]
  refine ⟨_, _, by rw [hl], by omega, by omega, fun hn => ?_⟩
  obtain ⟨g', o', k1, k2, k3⟩ := h4 (by omega)
  injection k1 with k1
  injection k1 with k1 k1' _
  subst k1 k1'
  refine ⟨_, _, rfl, k2, fun i t hi => ?_⟩
  rw [List.getElem?_drop] at hi
  obtain ⟨c0, c1, c2, c3⟩ := k3 (k + i) t hi
  rw [show o + k * 4 + i * 4 = o + (k + i) * 4 by omega]
  exact ⟨c0, c1, c2, c3⟩
set_option maxRecDepth 100000 in
set_option maxHeartbeats 4000000 in
theorem Joins_any (a b : ByteArray) (w : World) (ha : a.size ≤ maxLen) (hb : b.size ≤ maxLen) (hE : Env w) : Calls Tryd.prog 9 #[.string a, .string b] w fun e w' => e = .returned (.bool true) ∧ Below w.heap.size w w' := by
  have S := Lib.hid (fun w h => shown_any w h)
  have R := Lib.hid (fun s w h1 h2 => read_any s w h1 h2)
  have hsa : a.data.toList.length = a.size := rfl
  have hsb : b.data.toList.length = b.size := rfl
  have HA := Lib.hid ha
  have HB := Lib.hid hb
  clear ha hb
  go_enter Tryd.func9, Tryd.ntmps9
  go_wp2_with fail
  refine (S.out _ hE).mono ?_
  rintro e w1 ⟨rfl, e1⟩
  have E1 := (hE.kept e1).err
  go_wp2_with fail
  refine (R.out _ _ HA.out E1).mono ?_
  intro e w2 hp
  rcases hp with ⟨v, x, hx, rfl, hown, hb⟩ | ⟨x, _, rfl, hb⟩
  · have TX := TokS.of_own hown
    have e2 : Below w.heap.size w w2 := e1.trans (hb.mono e1.size)
    obtain ⟨a1, cap1, rfl⟩ := own_form hown
    clear hb hown
    have hla := ((lexL_ok_iff _ _).1 hx).1
    rw [hsa] at hla
    obtain ⟨nx, hnx⟩ : ∃ n, n = x.length := ⟨_, rfl⟩
    rw [← hnx] at TX ⊢
    have HX := Lib.hid hx
    have HTX := Lib.hid TX
    have HNX := Lib.hid hnx
    clear hx TX hnx
    go_wp2_with fail
    refine (R.out _ _ HB.out (hE.kept e2).err).mono ?_
    intro e w3 hp
    rcases hp with ⟨v, y, hy, rfl, hown, hb⟩ | ⟨x, _, rfl, hb⟩
    · have TY := TokS.of_own hown
      have e3 : Below w.heap.size w w3 := e2.trans (hb.mono e2.size)
      have TX3 := (HTX.out.below hb).mono hb.size
      obtain ⟨a2, cap2, rfl⟩ := own_form hown
      clear hb hown
      have hlb := ((lexL_ok_iff _ _).1 hy).1
      rw [hsb] at hlb
      obtain ⟨ny, hny⟩ : ∃ n, n = y.length := ⟨_, rfl⟩
      rw [← hny] at TY ⊢
      have HY := Lib.hid hy
      have HTY := Lib.hid TY
      have HTX3 := Lib.hid TX3
      have HNY := Lib.hid hny
      clear hy TY hny TX3
      by_cases hfit : a.size + 1 + b.size ≤ 65536
      · have HJ := Lib.hid (join_law _ _ _ _ HX.out HY.out (by rw [hsa, hsb]; exact hfit))
        have f0 : ¬ (65535 : Int) - b.size < a.size := by omega
        have HF := Lib.hid hfit
        clear hfit
        have CR : Calls Tryd.prog 17 #[.string (a ++ (⟨#[10]⟩ : ByteArray) ++ b)] w3 fun e w' => ∃ g o cap', e = .returned (.tuple #[.slice (some ⟨g, o, none⟩) (nx + 1 + ny) cap', .bool true]) ∧
            TokS w' w'.heap.size (.slice (some ⟨g, o, none⟩) (nx + 1 + ny) cap') (x ++ ⟨4, a.size, [], 0⟩ :: y.map (Tok.move 0 (a.size + 1))) ∧ Below w3.heap.size w3 w' := by
          refine (R.out _ _ (by rw [ByteArray.size_append, ByteArray.size_append, show (⟨#[10]⟩ : ByteArray).size = 1 from rfl]; unfold maxLen; have := HF.out; omega) (hE.kept e3).err).mono ?_
          intro e w' hp
          rw [join_bytes] at hp
          rcases hp with ⟨v, toks', hlex, rfl, hown, hb⟩ | ⟨x, hlex, _⟩
          · obtain rfl : toks' = x ++ ⟨4, a.size, [], 0⟩ :: y.map (Tok.move 0 (a.size + 1)) := by
              have := hlex.symm.trans HJ.out
              injection this
            have TA := TokS.of_own hown
            obtain ⟨a', cap', rfl⟩ := own_form hown
            rw [List.length_append, List.length_cons, List.length_map, ← HNX.out, ← HNY.out, show nx + (ny + 1) = nx + 1 + ny by omega] at TA ⊢
            obtain ⟨a0, c0, he, t1, t2, t3⟩ := id TA
            obtain ⟨g, o, rfl, _⟩ := t3 (by rw [List.length_append, List.length_cons]; omega)
            injection he with he _ _
            subst he
            exact ⟨g, o, cap', rfl, TA, hb⟩
          · have := hlex.symm.trans HJ.out
            cases this
        have HCR := Lib.hid CR
        clear CR
        go_wp2_with fail
        refine HCR.out.mono ?_
        rintro e w4 ⟨g, o, cap', rfl, TA, hb⟩
        have e4 : Below w.heap.size w w4 := e3.trans (hb.mono e3.size)
        have TX4 := Lib.hid ((HTX3.out.below hb).mono hb.size)
        have TY4 := Lib.hid ((HTY.out.below hb).mono hb.size)
        have HTA := Lib.hid TA
        obtain ⟨a0, c0, he, t1, t2, t3⟩ := TA
        obtain ⟨g', o', k1, hg, k3⟩ := t3 (by rw [List.length_append, List.length_cons]; omega)
        injection he with he1 he2 he3
        subst he1 he3
        injection k1 with k1
        injection k1 with k1 k1' _
        subst k1 k1'
        rw [← he2] at t1
        clear t3 he2 hb
        obtain ⟨q0, q1, q2, q3⟩ := k3 nx ⟨4, a.size, [], 0⟩ (by rw [List.getElem?_append_right (by rw [HNX.out]; omega), HNX.out, Nat.sub_self]; rfl)
        have hm0 : mkS [] = (⟨#[]⟩ : ByteArray) := rfl
        simp only [hm0] at q0 q1 q2 q3
        clear hm0 k3
        unfold maxLen at t2
        have TD : TokS w4 w4.heap.size (.slice (some ⟨g, o + (nx + 1) * 4, none⟩) ny (cap' - (nx + 1))) (y.map (Tok.move 0 (a.size + 1))) := by
          have := HTA.out.drop (nx + 1) (by omega)
          rw [show nx + 1 + ny - (nx + 1) = ny by omega] at this
          have e : (x ++ ⟨4, a.size, [], 0⟩ :: y.map (Tok.move 0 (a.size + 1))).drop (nx + 1) = y.map (Tok.move 0 (a.size + 1)) := by
            rw [HNX.out, List.drop_append]
            simp
          rw [e] at this
          exact this
        have TT : TokS w4 w4.heap.size (.slice (some ⟨g, o, none⟩) nx cap') x := by
          have := HTA.out.take nx (by rw [List.length_append, HNX.out]; omega)
          have e : (x ++ ⟨4, a.size, [], 0⟩ :: y.map (Tok.move 0 (a.size + 1))).take nx = x := by
            rw [HNX.out, List.take_left']
            rfl
          rw [e] at this
          exact this
        have px := (places_law _ _ HX.out).1
        have py := (places_law _ _ HY.out).1
        rw [hsa] at px
        rw [hsb] at py
        have SM1 := Lib.hid (Same_true x _ _ 0 0 w4 TX4.out (by rw [move_zero]; exact TT) (fun t ht => by have := px t ht; omega) (by omega) (by omega))
        have SM2 := Lib.hid (fun wx (h : Below w4.heap.size w4 wx) => Same_true y _ _ 0 (a.size + 1) wx ((TY4.out.below h).mono h.size) ((TD.below h).mono h.size) (fun t ht => by have := py t ht; omega) (by omega) (by omega))
        clear TD TT px py
        go_wp2_with fail
        refine SM1.out.mono ?_
        rintro e w5 ⟨rfl, hb5⟩
        have e5 : Below w.heap.size w w5 := e4.trans (hb5.mono e4.size)
        have SM3 := Lib.hid (SM2.out _ hb5)
        by_cases hcz : cap' = nx + 1
        · have hny0 : ny = 0 := by omega
          subst hny0
          have hy0 : y = [] := by
            have := HNY.out
            cases y with
            | nil => rfl
            | cons _ _ => simp at this
          subst hcz
          have T0 : ∀ v, TokS w5 w5.heap.size (.slice v 0 0) ([] : List Tok) := fun v => ⟨v, 0, rfl, Nat.le_refl _, by unfold maxLen; omega, fun h => absurd h (by simp)⟩
          have TYe := TY4.out
          rw [hy0] at TYe
          have TYw := (TYe.below hb5).mono hb5.size
          have SM4 := Lib.hid (Same_true [] _ _ 0 (a.size + 1) w5 TYw (T0 (some ⟨g, o, none⟩)) (fun t ht => by simp at ht) (by omega) (by omega))
          clear TYe TYw hb5
          go_wp2_with fail
          refine SM4.out.mono ?_
          rintro e w6 ⟨rfl, hb6⟩
          go_wp2
          go_ret
          exact ⟨rfl, e5.trans (hb6.mono e5.size)⟩
        · have hcz2 : ¬ cap' - (nx + 1) = 0 := by omega
          have hcz3 : ¬ cap' ≤ nx + 1 := by omega
          clear hb5
          go_wp2_with fail
          refine SM3.out.mono ?_
          rintro e w6 ⟨rfl, hb6⟩
          go_wp2
          go_ret
          exact ⟨rfl, e5.trans (hb6.mono e5.size)⟩
      · have f0 : (65535 : Int) - b.size < a.size := by omega
        go_wp2
        go_ret
        exact ⟨rfl, e3⟩
    · have e3 : Below w.heap.size w w3 := e2.trans (hb.mono e2.size)
      go_wp2
      go_ret
      exact ⟨rfl, e3⟩
  · have e2 : Below w.heap.size w w2 := e1.trans (hb.mono e1.size)
    go_wp2_with fail
    refine (R.out _ _ HB.out (hE.kept e2).err).mono ?_
    intro e w3 hp
    rcases hp with ⟨v, y, _, rfl, hown, hb⟩ | ⟨x, _, rfl, hb⟩
    · have e3 : Below w.heap.size w w3 := e2.trans (hb.mono e2.size)
      obtain ⟨a2, cap2, rfl⟩ := own_form hown
      clear hown
      go_wp2
      go_ret
      exact ⟨rfl, e3⟩
    · have e3 : Below w.heap.size w w3 := e2.trans (hb.mono e2.size)
      go_wp2
      go_ret
      exact ⟨rfl, e3⟩
end Go.Proofs.YtacpaabhheejdaaDoor
