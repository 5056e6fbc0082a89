/-
  Walk of the law LexCuts. Condition: Go's own variables hold what their initialisers lay.
-/
import Derived.Test.YtacpaabhheejdaaDoorLawB
namespace Go.Proofs.YtacpaabhheejdaaDoor
open Go.RowKit Go.Shelf Go.Sort

/-- A number's remainder lies in a list. -/
theorem pick_at (a : Int) (n : Nat) (h0 : n ≠ 0) (h1 : n ≤ 9223372036854775807) : ∃ j : Nat, j < n ∧ wrap64 ((IntKind.u64.wrap a).tmod n) = j := by
  have hw : 0 ≤ IntKind.u64.wrap a := by rw [IntKind.wrap_u64]; omega
  have h2 : 0 ≤ (IntKind.u64.wrap a).tmod n := Int.tmod_nonneg _ hw
  have h3 : (IntKind.u64.wrap a).tmod n < n := Int.tmod_lt_of_pos _ (by omega)
  refine ⟨((IntKind.u64.wrap a).tmod n).toNat, by omega, ?_⟩
  unfold wrap64
  omega
theorem TokS.take {w : World} {B : Nat} {g o n cap : Nat} {l : List Tok} (h : TokS w B (.slice (some ⟨g, o, none⟩) n cap) l) (k : Nat) (hk : k ≤ l.length) : TokS w B (.slice (some ⟨g, o, none⟩) k cap) (l.take k) := by
  obtain ⟨a, cap', he, h2, h3, h4⟩ := h
  injection he with e1 e2 e3
  subst e1 e2 e3
  have hl : (l.take k).length = k := by rw [List.length_take]; omega
  refine ⟨_, _, by rw [hl], by omega, h3, fun hn => ?_⟩
  obtain ⟨g', o', k1, k2, k3⟩ := h4 (by omega)
  injection k1 with k1
  injection k1 with k1 k1' _
  subst k1 k1'
  refine ⟨_, _, rfl, k2, fun i t hi => k3 i t ?_⟩
  rw [List.getElem?_take] at hi
  split at hi
  · exact hi
  · cases hi
theorem move_zero (l : List Tok) : l.map (Tok.move 0 0) = l := by
  induction l with
  | nil => rfl
  | cons a l ih =>
    rw [List.map_cons, ih]
    have : Tok.move 0 0 a = a := by unfold Tok.move; split <;> simp
    rw [this]
set_option maxRecDepth 100000 in
set_option maxHeartbeats 4000000 in
theorem Cuts_any (s : ByteArray) (at_ : Int) (w : World) (hs : s.size ≤ maxLen) (_ : (Lit.int .i64 at_).wf = true) (hE : Env w) : Calls Tryd.prog 6 #[.string s, .int .i64 at_] w fun e w' => e = .returned (.bool true) ∧ Below w.heap.size w w' := by
  have S := Lib.hid (fun w h => shown_any w h)
  have R := Lib.hid (fun s w h1 h2 => read_any s w h1 h2)
  have hsz : s.data.toList.length = s.size := rfl
  go_enter Tryd.func6, Tryd.ntmps6
  go_wp2_with fail
  refine (S.out _ hE).mono ?_
  rintro e w1 ⟨rfl, e1⟩
  have E1 := (hE.kept e1).err
  go_wp2_with fail
  refine (R.out _ _ hs E1).mono ?_
  intro e w2 hp
  rcases hp with ⟨v, toks, hlex, rfl, hown, hb⟩ | ⟨x, hlex, rfl, hb⟩
  · have T := TokS.of_own hown
    have e2 : Below w.heap.size w w2 := e1.trans (hb.mono e1.size)
    clear hb hown
    have hle := ((lexL_ok_iff _ _).1 hlex).1
    rw [hsz] at hle
    obtain ⟨hp1, hp2⟩ := places_law _ _ hlex
    rw [hsz] at hp1
    have C := Lib.hid (fun i t => cut_law _ _ i t hlex)
    clear hlex
    have TT := Lib.hid T
    obtain ⟨a, cap, rfl, hc, hm, hcells⟩ := T
    have HC := Lib.hid hcells
    have HP1 := Lib.hid hp1
    have HP2 := Lib.hid hp2
    clear hp1 hp2 hcells
    obtain ⟨n, hn⟩ : ∃ n, n = toks.length := ⟨_, rfl⟩
    rw [← hn] at hc HC ⊢
    have HN := Lib.hid hn
    clear hn
    unfold maxLen at hm
    by_cases h0 : n = 0
    · have hn0 : ((n : Int) == 0) = true := by rw [h0]; rfl
      subst h0
      go_wp2
      go_ret
      exact ⟨rfl, e2⟩
    · have hn0 : ((n : Int) == 0) = false := by rw [beq_eq_false_iff_ne]; omega
      obtain ⟨g, o, rfl, hg, hcell⟩ := HC.out (by omega)
      go_wp2
      go_loopw [36] (fun i wr => ∃ k : Nat, k ≤ n ∧ i = .int .i64 k ∧ Below w2.heap.size w2 wr) (fun i _ => n - (intOf i).toNat)
      case atStart => exact ⟨0, Nat.zero_le _, rfl, Below.refl _ _⟩
      case round =>
        obtain ⟨k, hk, rfl, hbel⟩ := hrel
        by_cases hlt : k < n
        · obtain ⟨t, ht⟩ : ∃ t, toks[k]? = some t := ⟨toks[k]'(by rw [← HN.out]; exact hlt), List.getElem?_eq_getElem _⟩
          obtain ⟨hp0, hp1⟩ := HP1.out t (List.mem_of_getElem? ht)
          have c1 := (hbel.cell (p := ⟨g, _, none⟩) hg).trans (hcell k t ht).2.1
          have hlt' : (k : Int) < (n : Int) := by omega
          have hgw : g < wr.heap.size := by have := hbel.size; omega
          have d1 : decide (t.at_ < 0) = false := by rw [decide_eq_false_iff_not]; omega
          have d2 : decide ((s.size : Int) ≤ t.at_) = false := by rw [decide_eq_false_iff_not]; omega
          rcases Nat.eq_zero_or_pos k with hk0 | hk0
          · subst hk0
            have c2 : wr.cell? ⟨g, o + 1, none⟩ = some (.int .i64 t.at_) := by simpa using c1
            clear c1
            go_wp2
            go_quiet (fail)
            go_wp2
            go_roundw
            case rel => exact ⟨1, by omega, by go_num, below_draws hbel _⟩
            case measure => simp [intOf]; omega
          · obtain ⟨t', ht'⟩ : ∃ t, toks[k - 1]? = some t := ⟨toks[k - 1]'(by rw [← HN.out]; omega), List.getElem?_eq_getElem _⟩
            have hrise : t'.at_ < t.at_ := by
              have h1 := List.getElem?_eq_some_iff.1 ht
              have h2 := List.getElem?_eq_some_iff.1 ht'
              obtain ⟨i1, e1⟩ := h1
              obtain ⟨i2, e2⟩ := h2
              have := List.pairwise_iff_getElem.1 HP2.out (k - 1) k i2 i1 (by omega)
              rw [e1, e2] at this
              exact this
            have c2 := (hbel.cell (p := ⟨g, _, none⟩) hg).trans (hcell (k - 1) t' ht').2.1
            obtain ⟨k', hk'⟩ : ∃ k', k = k' + 1 := ⟨k - 1, by omega⟩
            rw [show k - 1 = k' by omega] at c2
            have HK := Lib.hid hk'
            have d3 : decide ((0 : Int) < k) = true := by rw [decide_eq_true_iff]; omega
            have d4 : decide (t.at_ ≤ t'.at_) = false := by rw [decide_eq_false_iff_not]; omega
            have hsub : wrap64 ((k : Int) - 1) = (k' : Int) := by unfold wrap64; omega
            have hsub2 : IntKind.i64.wrap ((k : Int) - 1) = (k' : Int) := by rw [IntKind.wrap_i64]; omega
            have hkb : (k' : Int) < (n : Int) := by omega
            clear hk'
            have hkp : (0 : Int) < (k : Int) := by omega
            have hkn : ¬ k = 0 := by omega
            go_wp2
            go_quiet (fail)
            go_wp2
            go_roundw
            case rel => exact ⟨k + 1, by omega, by go_num, below_draws hbel _⟩
            case measure => simp [intOf]; omega
        · obtain rfl : k = n := by omega
          obtain ⟨j, hj, hjw⟩ := pick_at at_ k h0 (by omega)
          obtain ⟨t, ht⟩ : ∃ t, toks[j]? = some t := ⟨toks[j]'(by rw [← HN.out]; exact hj), List.getElem?_eq_getElem _⟩
          obtain ⟨m, hm0, hm1, hcut⟩ := C.out j t ht
          rw [hsz] at hm1
          have c1 := (hbel.cell (p := ⟨g, _, none⟩) hg).trans (hcell j t ht).2.1
          rw [hm0] at c1
          have hji : (j : Int) < k := by omega
          have hmi : (m : Int) < s.size := by omega
          have hcut' := Lib.hid hcut
          have hmle : m ≤ s.size := by omega
          have hmle2 : (m : Int) ≤ s.size := by omega
          clear hcut
          go_wp2_with fail
          have e3 : Below w.heap.size w wr := e2.trans (hbel.mono e2.size)
          refine (R.out (s.extract 0 m) _ (extract_len _ _ _ hs) (hE.kept e3).err).mono ?_
          intro e w3 hp
          rcases hp with ⟨v, toks', hlex, rfl, hown, hb⟩ | ⟨x, hlex, rfl, hb⟩
          · have TA := (TokS.of_own hown)
            have e4 : Below w.heap.size w w3 := e3.trans (hb.mono e3.size)
            rw [extract_take, hcut'.out] at hlex
            injection hlex with hlex
            subst hlex
            have TB : TokS w3 w3.heap.size (.slice (some ⟨g, o, none⟩) j cap) (toks.take j) :=
              (((TT.out.take j (by rw [← HN.out]; omega)).below hbel).mono (hbel.size)).below hb |>.mono hb.size
            obtain ⟨a', cap', rfl⟩ := own_form hown
            have hlen : (toks.take j).length = j := by rw [List.length_take, ← HN.out]; omega
            rw [hlen] at TA ⊢
            have SM := Lib.hid (Same_true (toks.take j) _ _ 0 0 w3 TA (by rw [move_zero]; exact TB) (fun t ht => by have := HP1.out t (List.mem_of_mem_take ht); omega) (by omega) (by omega))
            clear hown hb TA TB
            go_wp2_with fail
            refine SM.out.mono ?_
            rintro e w4 ⟨rfl, hb4⟩
            go_wp2
            go_ret
            exact ⟨rfl, e4.trans (hb4.mono e4.size)⟩
          · rw [extract_take, hcut'.out] at hlex; cases hlex
  · go_wp2
    go_ret
    exact ⟨rfl, e1.trans (hb.mono e1.size)⟩
end Go.Proofs.YtacpaabhheejdaaDoor
