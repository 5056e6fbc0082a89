/-
  Walk of the document's number (windrowref16). Condition: a text of at most 64 bytes.
-/
import Derived.Test.YtdmoiahaekooaaaDoorIsX
import Derived.Test.YtdmoiahaekooaaaDoorIsV
namespace Go.Proofs.YtdmoiahaekooaaaDoor
open Go.RowKit Go.Shelf Go.Sort

def restN (l : List UInt8) (k : Nat) : List UInt8 := if k = 0 ∧ negL l = true then (l.take 11).tail else (l.take 11).drop k
def digN (l : List UInt8) : Option Nat := digL 0 (restN l 0)
def sgN (l : List UInt8) (k : Nat) : Int := if 0 < k ∧ negL l = true then -1 else 1
theorem numAt_eq (l : List UInt8) : numAt l = (digN l).map fun n => if negL l = true then -(n : Int) else (n : Int) := by
  unfold numAt digN restN
  by_cases h : negL l = true
  · rw [if_pos h, if_pos ⟨rfl, h⟩]
    cases digL 0 (l.take 11).tail with
    | none => rfl
    | some n => simp [h]
  · rw [if_neg h, if_neg (fun hh => h hh.2), List.drop_zero]
    cases digL 0 (l.take 11) with
    | none => rfl
    | some n => simp [h]
theorem digL_bad {n : Nat} {c : UInt8} {r : List UInt8} (h : c.toNat < 48 ∨ 57 < c.toNat) : digL n (c :: r) = none := by simp only [digL, if_pos h]
theorem digL_good {n : Nat} {c : UInt8} {r : List UInt8} (h : ¬ (c.toNat < 48 ∨ 57 < c.toNat)) : digL n (c :: r) = digL (10 * n + (c.toNat - 48)) r := by simp only [digL, if_neg h]
theorem rest_step {l : List UInt8} {k : Nat} {c : UInt8} (hc : l[k]? = some c) (hk : k < 11) (h : ¬ (k = 0 ∧ negL l = true)) : restN l k = c :: restN l (k + 1) := by
  unfold restN
  rw [if_neg h, if_neg (fun hh => absurd hh.1 (Nat.succ_ne_zero k))]
  have h1 : (l.take 11)[k]? = some c := by rw [List.getElem?_take_of_lt hk]; exact hc
  obtain ⟨h2, h3⟩ := List.getElem?_eq_some_iff.1 h1
  rw [List.drop_eq_getElem_cons h2, h3]
theorem rest_neg {l : List UInt8} (h : negL l = true) : restN l 0 = restN l 1 := by
  unfold restN
  rw [if_pos ⟨rfl, h⟩, if_neg (fun hh => absurd hh.1 (by decide)), List.drop_one]
theorem rest_end {l : List UInt8} {k : Nat} (h : l.length ≤ k ∨ 11 ≤ k) (h0 : ¬ (k = 0 ∧ negL l = true)) : restN l k = [] := by
  unfold restN
  rw [if_neg h0]
  apply List.drop_of_length_le
  rw [List.length_take]
  omega
theorem neg_head {l : List UInt8} {c : UInt8} (hc : l[0]? = some c) : negL l = (c == 45) := by
  unfold negL
  rw [List.head?_eq_getElem?, hc]
  rfl
set_option maxHeartbeats 4000000 in
set_option maxRecDepth 100000 in
theorem number_any (S : ByteArray) (hs : S.size ≤ 64) (w : World) : Calls Tryd.prog 48 #[.string S] w fun e w' => e = .returned (.tuple #[.int .i64 (numR S.data.toList).1, .bool (numR S.data.toList).2]) ∧ Below w.heap.size w w' := by
  have HS : Hid (∀ k (h : k < S.size), S.data.toList[k]? = some S[k]) := Lib.hid (fun k h => by rw [get_list S k h]; exact List.getElem?_eq_getElem _)
  have HL : Hid (S.data.toList.length = S.size) := Lib.hid rfl
  have HM : Hid (mkS S.data.toList = S) := Lib.hid (mkS_of S)
  have HX : Hid (∀ (l : List UInt8), l = S.data.toList ↔ (mkS l).toList = S.toList) := Lib.hid (fun l => by rw [ByteArray.toList_eq, ByteArray.toList_eq, mkS_toList])
  have HR : Hid (numR S.data.toList = match numAt S.data.toList with | some v => (v, decide (0 < S.data.toList.length) && decide (S.data.toList.length < 12) && (Lib.itoa v == S.data.toList)) | none => (0, false)) := Lib.hid rfl
  have HA := Lib.hid (numAt_eq S.data.toList)
  generalize numR S.data.toList = R at HR ⊢
  generalize S.data.toList = l at *
  generalize numAt l = A at HA HR
  go_enter Tryd.func48, Tryd.ntmps48
  go_wp2
  go_loop [4, 5, 6] (fun vn vs vi => ∃ k n : Nat, k ≤ S.size ∧ k ≤ 11 ∧ n < 10 ^ k ∧ vn = .int .i64 n ∧ vs = .int .i64 (sgN l k) ∧ vi = .int .i64 k ∧ Hid (digN l = digL n (restN l k))) (fun _ _ vi => S.size - (intOf vi).toNat)
  case atStart => exact ⟨0, 0, Nat.zero_le _, Nat.zero_le _, by decide, rfl, by unfold sgN; rw [if_neg (fun h => absurd h.1 (by decide))], rfl, Lib.hid rfl⟩
  case round =>
    obtain ⟨k, n, hk, hk11, hn, rfl, rfl, rfl, hd⟩ := hrel
    have hpw : 10 ^ k ≤ 10 ^ 11 := Nat.pow_le_pow_right (by decide) hk11
    have hn2 : n ≤ 100000000000 := by
      have : (10 : Nat) ^ 11 = 100000000000 := by decide
      omega
    by_cases hlt : k < S.size ∧ k < 11
    · obtain ⟨h1, h2⟩ := hlt
      have hc := HS.out k h1
      have i1 : (k : Int) < S.size := by omega
      have i2 : (k : Int) < 11 := by omega
      have hpw2 : (10 : Nat) ^ (k + 1) = 10 * 10 ^ k := by rw [Nat.pow_succ, Nat.mul_comm]
      by_cases hneg : k = 0 ∧ negL l = true
      · obtain ⟨rfl, hng⟩ := hneg
        have h45 : S[0] = 45 := by have := neg_head hc; rw [hng] at this; exact (by simpa using this.symm)
        have e1 : ((S[0].toNat : Int) == 45) = true := by rw [h45]; rfl
        have HD2 : Hid (digN l = digL 0 (restN l 1)) := Lib.hid (by
          have h0 : n = 0 := by simp at hn; exact hn
          have h3 := hd.out
          rw [h0] at h3
          rw [h3, rest_neg hng])
        have HSg : Hid (sgN l 1 = -1) := Lib.hid (by unfold sgN; rw [if_pos ⟨by decide, hng⟩])
        obtain rfl : n = 0 := by simp at hn; exact hn
        have HH1 := Lib.hid h1
        clear hd hc h45 hng hpw hpw2 hn
        go_wp2
        go_round
        case rel => exact ⟨1, 0, HH1.out, by decide, by decide, rfl, by rw [HSg.out], rfl, HD2⟩
        case measure => have := HH1.out; simp [intOf]; omega
      · have hst := rest_step hc h2 hneg
        have HSg : Hid (sgN l (k + 1) = sgN l k) := Lib.hid (by
          unfold sgN
          by_cases hng : negL l = true
          · have : 0 < k := by
              rcases Nat.eq_zero_or_pos k with h | h
              · exact absurd ⟨h, hng⟩ hneg
              · exact h
            rw [if_pos ⟨by omega, hng⟩, if_pos ⟨this, hng⟩]
          · rw [if_neg (fun h => hng h.2), if_neg (fun h => hng h.2)])
        have hdd := hd.out
        rw [hst] at hdd
        have hz : k = 0 → ¬ (S[k].toNat : Int) = 45 := fun h0 e => hneg ⟨h0, by
          subst h0
          rw [neg_head hc]
          have : S[0] = 45 := UInt8.toNat_inj.1 (by have e2 : (45 : UInt8).toNat = 45 := rfl; omega)
          rw [this]; rfl⟩
        have HZ := Lib.hid hz
        have hc256 := S[k].toNat_lt
        have HH1 := Lib.hid h1
        have HH2 := Lib.hid h2
        have HN := Lib.hid hn
        have HP2 := Lib.hid hpw2
        generalize sgN l k = sg at *
        clear hst hd hneg hz hc hpw hpw2 hn
        by_cases hbad : S[k].toNat < 48 ∨ 57 < S[k].toNat
        · replace hdd := hdd.trans (digL_bad hbad)
          have HRn : Hid (R = (0, false)) := Lib.hid (by have h := HR.out; have ha := HA.out; rw [hdd] at ha; rw [ha] at h; exact h)
          clear hdd HR HA
          by_cases hk0 : k = 0
          · subst hk0
            have z1 := HZ.out rfl
            have z2 : ((S[0].toNat : Int) == 45) = false := by rw [beq_eq_false_iff_ne]; exact z1
            by_cases hb1 : S[0].toNat < 48
            · have b1 : (S[0].toNat : Int) < 48 := by omega
              clear hbad HZ
              go_wp2
              go_ret2
              exact ⟨by rw [HRn.out]; rfl, Below.refl _ _⟩
            · have b1 : ¬ (S[0].toNat : Int) < 48 := by omega
              have b2 : (57 : Int) < S[0].toNat := by omega
              clear hbad HZ
              go_wp2
              go_ret2
              exact ⟨by rw [HRn.out]; rfl, Below.refl _ _⟩
          · have z1 : ¬ (k : Int) = 0 := by omega
            have z2 : ((k : Int) == 0) = false := by rw [beq_eq_false_iff_ne]; exact z1
            by_cases hb1 : S[k].toNat < 48
            · have b1 : (S[k].toNat : Int) < 48 := by omega
              clear hbad HZ
              go_wp2
              go_ret2
              exact ⟨by rw [HRn.out]; rfl, Below.refl _ _⟩
            · have b1 : ¬ (S[k].toNat : Int) < 48 := by omega
              have b2 : (57 : Int) < S[k].toNat := by omega
              clear hbad HZ
              go_wp2
              go_ret2
              exact ⟨by rw [HRn.out]; rfl, Below.refl _ _⟩
        · replace hdd := hdd.trans (digL_good hbad)
          have HD2 := Lib.hid hdd
          clear hdd
          have g1 : 48 ≤ S[k].toNat := by omega
          have g2 : S[k].toNat ≤ 57 := by omega
          have b1 : ¬ (S[k].toNat : Int) < 48 := by omega
          have b2 : ¬ (57 : Int) < S[k].toNat := by omega
          clear hbad
          by_cases hk0 : k = 0
          · subst hk0
            have z1 := HZ.out rfl
            have z2 : ((S[0].toNat : Int) == 45) = false := by rw [beq_eq_false_iff_ne]; exact z1
            clear HZ
            go_wp2
            go_round
            case rel =>
              refine ⟨0 + 1, 10 * n + (S[0].toNat - 48), HH1.out, HH2.out, ?_, by first | rfl | (congr 1; omega), by rw [HSg.out], by go_num, HD2⟩
              have h1 := HN.out
              have h2 := HP2.out
              omega
            case measure => have := HH1.out; simp [intOf]; omega
          · have z1 : ¬ (k : Int) = 0 := by omega
            have z2 : ((k : Int) == 0) = false := by rw [beq_eq_false_iff_ne]; exact z1
            clear HZ
            go_wp2
            go_round
            case rel =>
              refine ⟨k + 1, 10 * n + (S[k].toNat - 48), HH1.out, HH2.out, ?_, by first | rfl | (congr 1; omega), by rw [HSg.out], by go_num, HD2⟩
              have h1 := HN.out
              have h2 := HP2.out
              omega
            case measure => have := HH1.out; simp [intOf]; omega
    · have h0n : ¬ (k = 0 ∧ negL l = true) := by
        rintro ⟨rfl, h⟩
        have h1 : l.length = 0 := by
          have := HL.out
          omega
        have h2 : l = [] := List.eq_nil_of_length_eq_zero h1
        rw [h2] at h
        cases h
      have hre : restN l k = [] := rest_end (by have := HL.out; omega) h0n
      have hdd := hd.out
      rw [hre] at hdd
      have ha := HA.out
      rw [hdd] at ha
      have hr := HR.out
      rw [ha] at hr
      clear hd hre hdd ha HA HR hpw hn
      have hx : (decide ((k : Int) < S.size) && decide ((k : Int) < 11)) = false := by
        rw [Bool.and_eq_false_iff, decide_eq_false_iff_not, decide_eq_false_iff_not]
        omega
      obtain ⟨v, hv⟩ : ∃ v : Int, v = sgN l k * n := ⟨_, rfl⟩
      have hv2 : (if negL l = true then -(n : Int) else (n : Int)) = v := by
        rw [hv]
        unfold sgN
        by_cases hng : negL l = true
        · rw [if_pos hng, if_pos ⟨by
            rcases Nat.eq_zero_or_pos k with h | h
            · exact absurd ⟨h, hng⟩ h0n
            · exact h, hng⟩]
          omega
        · rw [if_neg hng, if_neg (fun h => hng h.2)]
          omega
      have hr2 : R = (v, decide (0 < l.length) && decide (l.length < 12) && (Lib.itoa v == l)) := by rw [← hv2]; exact hr
      have hb : -100000000000 ≤ v ∧ v ≤ 100000000000 := by
        rw [hv]
        unfold sgN
        split <;> omega
      have hw : IntKind.i64.wrap (sgN l k * n) = v := by rw [← hv, IntKind.wrap_i64]; omega
      have hw2 : wrap64 (sgN l k * n) = v := by rw [← hv]; unfold wrap64; omega
      have hw3 : sgN l k * n = v := hv.symm
      generalize sgN l k = sg at *
      have hll := HL.out
      rw [hll] at hr2
      have HR2 := Lib.hid hr2
      clear hr hr2 hv hv2 h0n hll HL
      by_cases hz0 : S.size = 0
      · have y1 : ¬ (0 : Int) < S.size := by omega
        have y2 : decide ((0 : Int) < S.size) = false := decide_eq_false y1
        have HR3 : Hid (R = (v, false)) := Lib.hid (by rw [HR2.out, decide_eq_false (by omega : ¬ 0 < S.size)]; rfl)
        have y3 : ¬ (k : Int) < S.size := by omega
        clear HR2 hx hlt
        go_wp2
        go_ret2
        exact ⟨by rw [HR3.out]; rfl, Below.refl _ _⟩
      · have y1 : (0 : Int) < S.size := by omega
        have y3 : ¬ ((k : Int) < S.size ∧ (k : Int) < 11) := by omega
        have HI := Lib.hid (fun w => dint_any v (by omega) (by omega) w)
        have p0 : decide (0 < S.size) = true := decide_eq_true (by omega)
        by_cases h12 : S.size < 12
        · have y4 : (S.size : Int) < 12 := by omega
          by_cases he : Lib.itoa v = l
          · have e1 := (HX.out (Lib.itoa v)).1 he
            have e2 : ((mkS (Lib.itoa v)).toList == S.toList) = true := by rw [e1]; exact beq_self_eq_true _
            have HR3 : Hid (R = (v, true)) := Lib.hid (by rw [HR2.out, p0, decide_eq_true h12, he]; simp)
            generalize Lib.itoa v = I at *
            clear HR2 hlt he p0 h12
            go_wp2_with fail
            refine (HI.out _).mono ?_
            rintro _ w1 ⟨rfl, hb1⟩
            go_wp2_with fail
            go_ret2
            exact ⟨by rw [HR3.out]; rfl, hb1⟩
          · have e1 : ¬ (mkS (Lib.itoa v)).toList = S.toList := fun e => he ((HX.out (Lib.itoa v)).2 e)
            have e2 : ((mkS (Lib.itoa v)).toList == S.toList) = false := by rw [beq_eq_false_iff_ne]; exact e1
            have HR3 : Hid (R = (v, false)) := Lib.hid (by rw [HR2.out, (by rw [beq_eq_false_iff_ne]; exact he : (Lib.itoa v == l) = false), Bool.and_false])
            generalize Lib.itoa v = I at *
            clear HR2 hlt he p0 h12
            go_wp2_with fail
            refine (HI.out _).mono ?_
            rintro _ w1 ⟨rfl, hb1⟩
            go_wp2_with fail
            go_ret2
            exact ⟨by rw [HR3.out]; rfl, hb1⟩
        · have y4 : ¬ (S.size : Int) < 12 := by omega
          have y5 : decide ((S.size : Int) < 12) = false := decide_eq_false y4
          have HR3 : Hid (R = (v, false)) := Lib.hid (by rw [HR2.out, decide_eq_false h12, Bool.and_false, Bool.false_and])
          clear HR2 hlt p0 h12
          go_wp2_with fail
          go_ret2
          exact ⟨by rw [HR3.out]; rfl, Below.refl _ _⟩
end Go.Proofs.YtdmoiahaekooaaaDoor
