/-
  Walks of strconv.ParseInt at base 10 and 32 bits, and of isa.op. Condition: Go's own variables hold what their initialisers lay.
-/
import Derived.Test.YtdmoiahaekooaaaDoorIsE
namespace Go.Proofs.YtdmoiahaekooaaaDoor
open Go.RowKit Go.Shelf Go.Sort

/-- What strconv.ParseInt answers. -/
def IPost (l : List UInt8) (e : Ending) : Prop := ∃ v ev, e = .returned (.tuple #[.int .i64 v, ev]) ∧ (∀ n, Lib.parseIntB 32 l = .ok n → v = n ∧ ev = .nilIface ∧ -2147483648 ≤ n ∧ n ≤ 2147483647) ∧ ((∀ n, Lib.parseIntB 32 l ≠ .ok n) → ∃ t p, ev = .iface t p)
theorem parseI_range {l : List UInt8} {n : Int} (h : Lib.parseIntB 32 l = .ok n) : -2147483648 ≤ n ∧ n ≤ 2147483647 := by
  unfold Lib.parseIntB at h
  have e31 : (2 : Nat) ^ (32 - 1) = 2147483648 := by decide
  rw [e31] at h
  dsimp only at h
  repeat' split at h
  all_goals first
    | (cases h; done)
    | (injection h with h; subst h; constructor <;> omega)
set_option maxHeartbeats 4000000 in
set_option maxRecDepth 100000 in
theorem pint_any (s : ByteArray) (w : World) (hE : IsEnv w) (hs : s.size ≤ 281474976710656) :
    Calls Tryd.prog 31 #[.string s, .int .i64 10, .int .i64 32] w fun e w' => IPost s.data.toList e ∧ Below w.heap.size w w' := by
  have hI : Calls Tryd.prog 45 #[.string s, .int .i64 10, .int .i64 32] w fun e w' => e = .returned (Lib.intTuple 85 (Lib.intSat 32 s.data.toList) (Lib.parseIntB 32 s.data.toList)) ∧ Below w.heap.size w w' :=
    (Tryd.internal_strconv_ParseInt_10_all32 s (by omega) w).mono fun e w' ⟨he, hw⟩ => ⟨he, by rcases hw with rfl | ⟨t, rfl⟩; exact Below.refl _ _; exact Lib.bytesWorld_below _ _ _⟩
  obtain ⟨t1, p1, hsyn⟩ := hE.syn
  obtain ⟨t2, p2, hrng⟩ := hE.rng
  have HS := Lib.hid hsyn
  have HG := Lib.hid hrng
  clear hsyn hrng hE
  unfold IPost
  generalize Lib.intSat 32 s.data.toList = sat at hI
  cases hr : Lib.parseIntB 32 s.data.toList with
  | ok u =>
    have HB := Lib.hid (parseI_range hr)
    rw [hr] at hI
    clear hr
    have HI := Lib.hid hI
    clear hI
    go_enter Tryd.func31, Tryd.ntmps31
    go_wp2_with fail
    refine HI.out.mono ?_
    rintro e W1 ⟨rfl, hb⟩
    unfold Lib.intTuple
    go_wp2
    go_ret2
    exact ⟨⟨_, _, rfl, fun n h => by injection h with h; subst h; exact ⟨rfl, rfl, HB.out⟩, fun h => absurd rfl (h _)⟩, hb⟩
  | range =>
    rw [hr] at hI
    clear hr
    have HI := Lib.hid hI
    clear hI
    go_enter Tryd.func31, Tryd.ntmps31
    go_wp2_with fail
    refine HI.out.mono ?_
    rintro e W1 ⟨rfl, hb⟩
    unfold Lib.intTuple
    have hv := Lib.hid (cell_kept hb HG.out)
    go_wp2_with fail
    refine (Tryd.strconv_toError_range _ s 10 32 _ W1 hs hv.out (.inr ⟨_, _, rfl⟩)).mono ?_
    rintro e W2 ⟨N, rfl, -, -, h3⟩
    go_wp2
    go_ret2
    exact ⟨⟨_, _, rfl, (fun n h => by cases h), fun _ => ⟨_, _, rfl⟩⟩, hb.trans (h3.mono hb.size)⟩
  | _ =>
    rw [hr] at hI
    clear hr
    have HI := Lib.hid hI
    clear hI
    go_enter Tryd.func31, Tryd.ntmps31
    go_wp2_with fail
    refine HI.out.mono ?_
    rintro e W1 ⟨rfl, hb⟩
    unfold Lib.intTuple
    have hv := Lib.hid (cell_kept hb HS.out)
    go_wp2_with fail
    refine (Tryd.strconv_toError_syntax _ s 10 32 _ W1 hs hv.out (.inr ⟨_, _, rfl⟩)).mono ?_
    rintro e W2 ⟨N, rfl, -, -, h3⟩
    go_wp2
    go_ret2
    exact ⟨⟨_, _, rfl, (fun n h => by cases h), fun _ => ⟨_, _, rfl⟩⟩, hb.trans (h3.mono hb.size)⟩

/-- A slice value, in memory below B, that reads as these strings. -/
def PartsIs (w : World) (B : Nat) (v : Value) (l : List (List UInt8)) : Prop :=
  ∃ a cap, v = .slice a l.length cap ∧ l.length ≤ cap ∧ cap ≤ maxLen ∧ (0 < l.length → ∃ g o, a = some ⟨g, o, none⟩ ∧ g < B ∧ ∀ (i : Nat) (s : List UInt8), l[i]? = some s → w.cell? ⟨g, o + i, none⟩ = some (.string (mkS s)))
theorem PartsIs.below {w w' : World} {B : Nat} {v : Value} {l : List (List UInt8)} (h : PartsIs w B v l) (hb : Below B w w') : PartsIs w' B v l := by
  obtain ⟨a, cap, h1, h2, h3, h4⟩ := h
  refine ⟨a, cap, h1, h2, h3, fun hn => ?_⟩
  obtain ⟨g, o, k1, k2, k3⟩ := h4 hn
  exact ⟨g, o, k1, k2, fun i t hi => (hb.cell (p := ⟨g, _, none⟩) k2).trans (k3 i t hi)⟩
theorem PartsIs.mono {w : World} {B B' : Nat} {v : Value} {l : List (List UInt8)} (h : PartsIs w B v l) (hB : B ≤ B') : PartsIs w B' v l := by
  obtain ⟨a, cap, h1, h2, h3, h4⟩ := h
  refine ⟨a, cap, h1, h2, h3, fun hn => ?_⟩
  obtain ⟨g, o, k1, k2, k3⟩ := h4 hn
  exact ⟨g, o, k1, Nat.lt_of_lt_of_le k2 hB, k3⟩
theorem PartsIs.nil (w : World) (B : Nat) : PartsIs w B (.slice none 0 0) [] := ⟨none, 0, rfl, Nat.le_refl _, Nat.zero_le _, fun h => absurd h (by simp)⟩
theorem find_at {name : List UInt8} {op : Nat} (h : op < 64) (hn : (hasI op).1 ≠ []) (he : (hasI op).1 = name) : findOp name = some op := by
  subst he
  exact find_low h hn
theorem find_none {name : List UInt8} (h : ∀ j, j < 64 → ¬ ((hasI j).1 ≠ [] ∧ (hasI j).1 = name)) : findOp name = none := by
  unfold findOp
  rw [List.find?_eq_none]
  intro j hj
  have := h j (List.mem_range.1 hj)
  simp only [Bool.and_eq_true, Bool.not_eq_true', beq_iff_eq]
  rintro ⟨h1, h2⟩
  refine this ⟨fun e => ?_, h2⟩
  rw [e] at h1
  cases h1
theorem find_one : findOp oneN = none := find_none fun j hj h => (has_lowS ⟨j, hj⟩).1 h.2
theorem find_two : findOp twoN = none := find_none fun j hj h => (has_lowS ⟨j, hj⟩).2.1 h.2
theorem uN_le (B : Nat) (p : List UInt8) : uN B p ≤ 2 ^ B - 1 := by
  unfold uN
  cases h : Lib.parseUintB B p with
  | ok n => exact Lib.parseUintB_le h
  | range => exact Nat.le_refl _
  | _ => exact Nat.zero_le _
/-- What isa.op answers. -/
def OpPost (name : List UInt8) (ps : List (List UInt8)) (B : Nat) (e : Ending) (w' : World) : Prop := ∃ v', e = .returned (.tuple #[.int .u8 (opI name ps).1, v', .bool (opI name ps).2.2]) ∧ PartsIs w' B v' (opI name ps).2.1

set_option maxHeartbeats 4000000 in
set_option maxRecDepth 100000 in
theorem op_any (N : List UInt8) (v : Value) (ps : List (List UInt8)) (hps : ∀ p ∈ ps, p.length ≤ 64) (w : World) (hE : IsEnv w) (hP : PartsIs w w.heap.size v ps) :
    Calls Tryd.prog 29 #[.string (mkS N), v] w fun e w' => OpPost N ps w.heap.size e w' ∧ Below w.heap.size w w' := by
  have HP := Lib.hid hP
  have HE := Lib.hid hE
  have HS := Lib.hid hps
  clear hP hE hps
  unfold OpPost
  by_cases hn : N = oneN
  · have t1 : (mkS N).toList = [111, 110, 101] := by rw [ByteArray.toList_eq, mkS_toList]; exact hn
    have hne1 : oneN = oneN ∨ oneN ≠ oneN := Classical.em _
    cases ps with
    | nil =>
      have HF : Hid (opI N [] = match findOp N with | some k => (k, [], true) | none => (0, [], false)) := Lib.hid (by unfold opI; rw [if_neg (fun h => h.2 rfl), if_neg (fun h => h.2 rfl)]; rfl)
      obtain ⟨a, cap, hv, -, -, -⟩ := HP.out
      rw [List.length_nil] at hv
      subst hv
      clear hn hne1 HS
      go_enter Tryd.func29, Tryd.ntmps29
      go_wp2_with fail
      clear t1
      go_loop [41] (fun x => ∃ k : Nat, k ≤ 64 ∧ x = .int .u8 k ∧ Hid (∀ j, j < k → ¬ ((hasI j).1 ≠ [] ∧ (hasI j).1 = N))) (fun x => 64 - (intOf x).toNat)
      case atStart => exact ⟨0, Nat.zero_le _, rfl, Lib.hid fun j hj => absurd hj (Nat.not_lt_zero _)⟩
      case round =>
        obtain ⟨k, hk, rfl, hno⟩ := hrel
        by_cases hlt : k < 64
        · have hlt2 : (k : Int) < 64 := by omega
          have HH := Lib.hid (has_any k (by omega))
          unfold HasPost at HH
          by_cases hm : (hasI k).1 ≠ [] ∧ (hasI k).1 = N
          · have hF := HF.out
            rw [find_at hlt hm.1 hm.2] at hF
            have HF2 := Lib.hid hF
            obtain ⟨h0, h1⟩ := hm
            rw [h1] at HH h0
            have e1 : ¬ (mkS N).toList = [] := by rw [ByteArray.toList_eq, mkS_toList]; exact h0
            have e2 : (mkS N).toList.isEmpty = false := by simpa using e1
            have e3 : ((mkS N).toList == (mkS N).toList) = true := beq_self_eq_true _
            clear hno h0 h1 HF hF
            generalize (hasI k).2 = LL at HH
            go_wp2_with (go_at_call 21; refine (HH.out _).mono ?_; rintro _ _ ⟨rfl, rfl⟩)
            refine bodyPost_ret (v := .tuple #[.int .u8 k, .slice a 0 cap, .bool true]) (by simp [results, Tryd.results29, go_sem]) rfl ⟨?_, Below.refl _ _⟩
            exact ⟨.slice a 0 cap, by rw [HF2.out], by rw [HF2.out]; exact HP.out⟩
          · have HN2 : Hid (∀ j, j < k + 1 → ¬ ((hasI j).1 ≠ [] ∧ (hasI j).1 = N)) := Lib.hid fun j hj => by
              by_cases hj2 : j < k
              · exact hno.out j hj2
              · obtain rfl : j = k := by omega
                exact hm
            clear hno
            generalize (hasI k).1 = M at HH hm
            generalize (hasI k).2 = LL at HH
            by_cases hM : M = []
            · subst hM
              have e0 : (mkS []).toList = [] := by rw [ByteArray.toList_eq, mkS_toList]
              have e1 : (mkS []).toList.isEmpty = true := by rw [e0]; rfl
              clear hm
              go_wp2_with (go_at_call 21; refine (HH.out _).mono ?_; rintro _ _ ⟨rfl, rfl⟩)
              go_round
              case rel => exact ⟨k + 1, by omega, by go_num, HN2⟩
              case measure => simp [intOf]; omega
            · have hne : M ≠ N := fun e => hm ⟨hM, e⟩
              have e1 : ¬ (mkS M).toList = [] := by rw [ByteArray.toList_eq, mkS_toList]; exact hM
              have e2 : (mkS M).toList.isEmpty = false := by simpa using e1
              have e4 : ¬ (mkS M).toList = (mkS N).toList := by rw [ByteArray.toList_eq, ByteArray.toList_eq, mkS_toList, mkS_toList]; exact hne
              have e5 : ((mkS M).toList == (mkS N).toList) = false := by rw [beq_eq_false_iff_ne]; exact e4
              clear hm hM hne
              go_wp2_with (go_at_call 21; refine (HH.out _).mono ?_; rintro _ _ ⟨rfl, rfl⟩)
              go_round
              case rel => exact ⟨k + 1, by omega, by go_num, HN2⟩
              case measure => simp [intOf]; omega
        · obtain rfl : k = 64 := by omega
          have hF := HF.out
          rw [find_none hno.out] at hF
          have HF2 := Lib.hid hF
          clear hno hF HF hk
          go_wp2_with fail
          refine bodyPost_ret (v := .tuple #[.int .u8 0, .slice none 0 0, .bool false]) (by simp [results, Tryd.results29, go_sem]) rfl ⟨?_, Below.refl _ _⟩
          exact ⟨_, by rw [HF2.out]; rfl, by rw [HF2.out]; exact .nil _ _⟩
    | cons p r =>
      have HF : Hid (opI N (p :: r) = (64 + uN 6 p, r, uOk 6 p)) := Lib.hid (by subst hn; unfold opI; first | (rw [if_pos ⟨rfl, List.cons_ne_nil _ _⟩]; rfl) | (rw [if_neg (fun h => absurd h.1 (by decide)), if_pos ⟨rfl, List.cons_ne_nil _ _⟩]; rfl))
      have hp := HS.out p (List.mem_cons_self ..)
      have hu := uN_le 6 p
      obtain ⟨a, cap, hv, hc1, hc2, hc3⟩ := HP.out
      obtain ⟨g, o, ha, hg, hcell⟩ := hc3 (by simp)
      subst ha hv
      have h0 := hcell 0 p rfl
      rw [Nat.add_zero] at h0
      have HU := Lib.hid (pu6_any (mkS p) w HE.out (by rw [mkS_size]; omega))
      rw [mkS_toList] at HU
      have HCell : Hid (∀ (i : Nat) (s : List UInt8), r[i]? = some s → w.cell? ⟨g, o + 1 + i, none⟩ = some (.string (mkS s))) := Lib.hid (fun i s h => by have := hcell (i + 1) s h; rwa [show o + (i + 1) = o + 1 + i by omega] at this)
      rw [List.length_cons] at hc1 ⊢
      clear hcell hc3 hn hne1 HS HP HE hp
      unfold UPost at HU
      generalize uN 6 p = n at *
      generalize uOk 6 p = ok at *
      unfold maxLen at hc2
      obtain ⟨m, hm⟩ : ∃ m, m = r.length := ⟨_, rfl⟩
      have HM := Lib.hid hm
      rw [← hm] at hc1 ⊢
      clear hm
      have hm0 : decide ((0 : Int) < (m : Int) + 1) = true := by rw [decide_eq_true_iff]; omega
      go_enter Tryd.func29, Tryd.ntmps29
      go_wp2_with fail
      refine HU.out.mono ?_
      rintro _ w1 ⟨⟨ev, rfl, hv1, hv2⟩, hb⟩
      have HB := Lib.hid hb
      clear hb t1 HU
      have hw1 : IntKind.u8.wrap (n : Int) = n := by rw [IntKind.wrap_u8]; omega
      have hw2 : IntKind.u8.wrap (64 + (n : Int)) = 64 + n := by rw [IntKind.wrap_u8]; omega
      have hw3 : IntKind.u8.wrap 64 = 64 := by rw [IntKind.wrap_u8]; omega
      cases ok
      · obtain ⟨te, pe, rfl⟩ := hv2 rfl
        clear hv1 hv2
        by_cases hcap : cap = 1
        · subst hcap
          obtain rfl : m = 0 := by omega
          go_wp2_with fail
          go_quiet (fail)
          go_wp2_with fail
          refine bodyPost_ret (v := .tuple #[.int .u8 (64 + (n : Int)), .slice (some ⟨g, o, none⟩) 0 0, .bool false]) (by simp [results, Tryd.results29, go_sem]) rfl ⟨?_, below_drewN' HB.out _⟩
          have hr : r = [] := List.eq_nil_of_length_eq_zero HM.out.symm
          refine ⟨.slice (some ⟨g, o, none⟩) 0 0, by rw [HF.out]; rfl, ?_⟩
          rw [HF.out, hr]
          exact ⟨_, 0, rfl, Nat.le_refl _, Nat.zero_le _, fun h => absurd h (by simp)⟩
        · have hcap1 : 1 < cap := by omega
          have hcap2 : ¬ cap = 1 := hcap
          go_wp2_with fail
          go_quiet (fail)
          go_wp2_with fail
          refine bodyPost_ret (v := .tuple #[.int .u8 (64 + (n : Int)), .slice (some ⟨g, o + 1, none⟩) m (cap - 1), .bool false]) (by simp [results, Tryd.results29, go_sem]) rfl ⟨?_, below_drewN' HB.out _⟩
          refine ⟨.slice (some ⟨g, o + 1, none⟩) m (cap - 1), by rw [HF.out]; rfl, ?_⟩
          rw [HF.out, HM.out]
          refine ⟨_, cap - 1, rfl, ?_, by unfold maxLen; omega, fun h => ⟨g, o + 1, rfl, hg, fun i s hi => ?_⟩⟩
          · rw [← HM.out]; omega
          · exact ((below_drewN' HB.out _).cell (p := ⟨g, _, none⟩) hg).trans (HCell.out i s hi)
      · obtain rfl := hv1 rfl
        clear hv1 hv2
        by_cases hcap : cap = 1
        · subst hcap
          obtain rfl : m = 0 := by omega
          go_wp2_with fail
          go_quiet (fail)
          go_wp2_with fail
          refine bodyPost_ret (v := .tuple #[.int .u8 (64 + (n : Int)), .slice (some ⟨g, o, none⟩) 0 0, .bool true]) (by simp [results, Tryd.results29, go_sem]) rfl ⟨?_, below_drewN' HB.out _⟩
          have hr : r = [] := List.eq_nil_of_length_eq_zero HM.out.symm
          refine ⟨.slice (some ⟨g, o, none⟩) 0 0, by rw [HF.out]; rfl, ?_⟩
          rw [HF.out, hr]
          exact ⟨_, 0, rfl, Nat.le_refl _, Nat.zero_le _, fun h => absurd h (by simp)⟩
        · have hcap1 : 1 < cap := by omega
          have hcap2 : ¬ cap = 1 := hcap
          go_wp2_with fail
          go_quiet (fail)
          go_wp2_with fail
          refine bodyPost_ret (v := .tuple #[.int .u8 (64 + (n : Int)), .slice (some ⟨g, o + 1, none⟩) m (cap - 1), .bool true]) (by simp [results, Tryd.results29, go_sem]) rfl ⟨?_, below_drewN' HB.out _⟩
          refine ⟨.slice (some ⟨g, o + 1, none⟩) m (cap - 1), by rw [HF.out]; rfl, ?_⟩
          rw [HF.out, HM.out]
          refine ⟨_, cap - 1, rfl, ?_, by unfold maxLen; omega, fun h => ⟨g, o + 1, rfl, hg, fun i s hi => ?_⟩⟩
          · rw [← HM.out]; omega
          · exact ((below_drewN' HB.out _).cell (p := ⟨g, _, none⟩) hg).trans (HCell.out i s hi)
  · have hn1 := hn
    clear hn
    by_cases hn : N = twoN
    · have t1 : (mkS N).toList = [116, 119, 111] := by rw [ByteArray.toList_eq, mkS_toList]; exact hn
      have t0 : ¬ (mkS N).toList = [111, 110, 101] := by rw [t1]; decide
      have hne1 : twoN = oneN ∨ twoN ≠ oneN := Classical.em _
      cases ps with
      | nil =>
        have HF : Hid (opI N [] = match findOp N with | some k => (k, [], true) | none => (0, [], false)) := Lib.hid (by unfold opI; rw [if_neg (fun h => h.2 rfl), if_neg (fun h => h.2 rfl)]; rfl)
        obtain ⟨a, cap, hv, -, -, -⟩ := HP.out
        rw [List.length_nil] at hv
        subst hv
        clear hn hne1 HS
        go_enter Tryd.func29, Tryd.ntmps29
        go_wp2_with fail
        clear t1
        go_loop [41] (fun x => ∃ k : Nat, k ≤ 64 ∧ x = .int .u8 k ∧ Hid (∀ j, j < k → ¬ ((hasI j).1 ≠ [] ∧ (hasI j).1 = N))) (fun x => 64 - (intOf x).toNat)
        case atStart => exact ⟨0, Nat.zero_le _, rfl, Lib.hid fun j hj => absurd hj (Nat.not_lt_zero _)⟩
        case round =>
          obtain ⟨k, hk, rfl, hno⟩ := hrel
          by_cases hlt : k < 64
          · have hlt2 : (k : Int) < 64 := by omega
            have HH := Lib.hid (has_any k (by omega))
            unfold HasPost at HH
            by_cases hm : (hasI k).1 ≠ [] ∧ (hasI k).1 = N
            · have hF := HF.out
              rw [find_at hlt hm.1 hm.2] at hF
              have HF2 := Lib.hid hF
              obtain ⟨h0, h1⟩ := hm
              rw [h1] at HH h0
              have e1 : ¬ (mkS N).toList = [] := by rw [ByteArray.toList_eq, mkS_toList]; exact h0
              have e2 : (mkS N).toList.isEmpty = false := by simpa using e1
              have e3 : ((mkS N).toList == (mkS N).toList) = true := beq_self_eq_true _
              clear hno h0 h1 HF hF
              generalize (hasI k).2 = LL at HH
              go_wp2_with (go_at_call 21; refine (HH.out _).mono ?_; rintro _ _ ⟨rfl, rfl⟩)
              refine bodyPost_ret (v := .tuple #[.int .u8 k, .slice a 0 cap, .bool true]) (by simp [results, Tryd.results29, go_sem]) rfl ⟨?_, Below.refl _ _⟩
              exact ⟨.slice a 0 cap, by rw [HF2.out], by rw [HF2.out]; exact HP.out⟩
            · have HN2 : Hid (∀ j, j < k + 1 → ¬ ((hasI j).1 ≠ [] ∧ (hasI j).1 = N)) := Lib.hid fun j hj => by
                by_cases hj2 : j < k
                · exact hno.out j hj2
                · obtain rfl : j = k := by omega
                  exact hm
              clear hno
              generalize (hasI k).1 = M at HH hm
              generalize (hasI k).2 = LL at HH
              by_cases hM : M = []
              · subst hM
                have e0 : (mkS []).toList = [] := by rw [ByteArray.toList_eq, mkS_toList]
                have e1 : (mkS []).toList.isEmpty = true := by rw [e0]; rfl
                clear hm
                go_wp2_with (go_at_call 21; refine (HH.out _).mono ?_; rintro _ _ ⟨rfl, rfl⟩)
                go_round
                case rel => exact ⟨k + 1, by omega, by go_num, HN2⟩
                case measure => simp [intOf]; omega
              · have hne : M ≠ N := fun e => hm ⟨hM, e⟩
                have e1 : ¬ (mkS M).toList = [] := by rw [ByteArray.toList_eq, mkS_toList]; exact hM
                have e2 : (mkS M).toList.isEmpty = false := by simpa using e1
                have e4 : ¬ (mkS M).toList = (mkS N).toList := by rw [ByteArray.toList_eq, ByteArray.toList_eq, mkS_toList, mkS_toList]; exact hne
                have e5 : ((mkS M).toList == (mkS N).toList) = false := by rw [beq_eq_false_iff_ne]; exact e4
                clear hm hM hne
                go_wp2_with (go_at_call 21; refine (HH.out _).mono ?_; rintro _ _ ⟨rfl, rfl⟩)
                go_round
                case rel => exact ⟨k + 1, by omega, by go_num, HN2⟩
                case measure => simp [intOf]; omega
          · obtain rfl : k = 64 := by omega
            have hF := HF.out
            rw [find_none hno.out] at hF
            have HF2 := Lib.hid hF
            clear hno hF HF hk
            go_wp2_with fail
            refine bodyPost_ret (v := .tuple #[.int .u8 0, .slice none 0 0, .bool false]) (by simp [results, Tryd.results29, go_sem]) rfl ⟨?_, Below.refl _ _⟩
            exact ⟨_, by rw [HF2.out]; rfl, by rw [HF2.out]; exact .nil _ _⟩
      | cons p r =>
        have HF : Hid (opI N (p :: r) = (128 + uN 6 p, r, uOk 6 p)) := Lib.hid (by subst hn; unfold opI; first | (rw [if_pos ⟨rfl, List.cons_ne_nil _ _⟩]; rfl) | (rw [if_neg (fun h => absurd h.1 (by decide)), if_pos ⟨rfl, List.cons_ne_nil _ _⟩]; rfl))
        have hp := HS.out p (List.mem_cons_self ..)
        have hu := uN_le 6 p
        obtain ⟨a, cap, hv, hc1, hc2, hc3⟩ := HP.out
        obtain ⟨g, o, ha, hg, hcell⟩ := hc3 (by simp)
        subst ha hv
        have h0 := hcell 0 p rfl
        rw [Nat.add_zero] at h0
        have HU := Lib.hid (pu6_any (mkS p) w HE.out (by rw [mkS_size]; omega))
        rw [mkS_toList] at HU
        have HCell : Hid (∀ (i : Nat) (s : List UInt8), r[i]? = some s → w.cell? ⟨g, o + 1 + i, none⟩ = some (.string (mkS s))) := Lib.hid (fun i s h => by have := hcell (i + 1) s h; rwa [show o + (i + 1) = o + 1 + i by omega] at this)
        rw [List.length_cons] at hc1 ⊢
        clear hcell hc3 hn hne1 HS HP HE hp
        unfold UPost at HU
        generalize uN 6 p = n at *
        generalize uOk 6 p = ok at *
        unfold maxLen at hc2
        obtain ⟨m, hm⟩ : ∃ m, m = r.length := ⟨_, rfl⟩
        have HM := Lib.hid hm
        rw [← hm] at hc1 ⊢
        clear hm
        have hm0 : decide ((0 : Int) < (m : Int) + 1) = true := by rw [decide_eq_true_iff]; omega
        go_enter Tryd.func29, Tryd.ntmps29
        go_wp2_with fail
        refine HU.out.mono ?_
        rintro _ w1 ⟨⟨ev, rfl, hv1, hv2⟩, hb⟩
        have HB := Lib.hid hb
        clear hb t1 HU
        have hw1 : IntKind.u8.wrap (n : Int) = n := by rw [IntKind.wrap_u8]; omega
        have hw2 : IntKind.u8.wrap (128 + (n : Int)) = 128 + n := by rw [IntKind.wrap_u8]; omega
        have hw3 : IntKind.u8.wrap 128 = 128 := by rw [IntKind.wrap_u8]; omega
        cases ok
        · obtain ⟨te, pe, rfl⟩ := hv2 rfl
          clear hv1 hv2
          by_cases hcap : cap = 1
          · subst hcap
            obtain rfl : m = 0 := by omega
            go_wp2_with fail
            go_quiet (fail)
            go_wp2_with fail
            refine bodyPost_ret (v := .tuple #[.int .u8 (128 + (n : Int)), .slice (some ⟨g, o, none⟩) 0 0, .bool false]) (by simp [results, Tryd.results29, go_sem]) rfl ⟨?_, below_drewN' HB.out _⟩
            have hr : r = [] := List.eq_nil_of_length_eq_zero HM.out.symm
            refine ⟨.slice (some ⟨g, o, none⟩) 0 0, by rw [HF.out]; rfl, ?_⟩
            rw [HF.out, hr]
            exact ⟨_, 0, rfl, Nat.le_refl _, Nat.zero_le _, fun h => absurd h (by simp)⟩
          · have hcap1 : 1 < cap := by omega
            have hcap2 : ¬ cap = 1 := hcap
            go_wp2_with fail
            go_quiet (fail)
            go_wp2_with fail
            refine bodyPost_ret (v := .tuple #[.int .u8 (128 + (n : Int)), .slice (some ⟨g, o + 1, none⟩) m (cap - 1), .bool false]) (by simp [results, Tryd.results29, go_sem]) rfl ⟨?_, below_drewN' HB.out _⟩
            refine ⟨.slice (some ⟨g, o + 1, none⟩) m (cap - 1), by rw [HF.out]; rfl, ?_⟩
            rw [HF.out, HM.out]
            refine ⟨_, cap - 1, rfl, ?_, by unfold maxLen; omega, fun h => ⟨g, o + 1, rfl, hg, fun i s hi => ?_⟩⟩
            · rw [← HM.out]; omega
            · exact ((below_drewN' HB.out _).cell (p := ⟨g, _, none⟩) hg).trans (HCell.out i s hi)
        · obtain rfl := hv1 rfl
          clear hv1 hv2
          by_cases hcap : cap = 1
          · subst hcap
            obtain rfl : m = 0 := by omega
            go_wp2_with fail
            go_quiet (fail)
            go_wp2_with fail
            refine bodyPost_ret (v := .tuple #[.int .u8 (128 + (n : Int)), .slice (some ⟨g, o, none⟩) 0 0, .bool true]) (by simp [results, Tryd.results29, go_sem]) rfl ⟨?_, below_drewN' HB.out _⟩
            have hr : r = [] := List.eq_nil_of_length_eq_zero HM.out.symm
            refine ⟨.slice (some ⟨g, o, none⟩) 0 0, by rw [HF.out]; rfl, ?_⟩
            rw [HF.out, hr]
            exact ⟨_, 0, rfl, Nat.le_refl _, Nat.zero_le _, fun h => absurd h (by simp)⟩
          · have hcap1 : 1 < cap := by omega
            have hcap2 : ¬ cap = 1 := hcap
            go_wp2_with fail
            go_quiet (fail)
            go_wp2_with fail
            refine bodyPost_ret (v := .tuple #[.int .u8 (128 + (n : Int)), .slice (some ⟨g, o + 1, none⟩) m (cap - 1), .bool true]) (by simp [results, Tryd.results29, go_sem]) rfl ⟨?_, below_drewN' HB.out _⟩
            refine ⟨.slice (some ⟨g, o + 1, none⟩) m (cap - 1), by rw [HF.out]; rfl, ?_⟩
            rw [HF.out, HM.out]
            refine ⟨_, cap - 1, rfl, ?_, by unfold maxLen; omega, fun h => ⟨g, o + 1, rfl, hg, fun i s hi => ?_⟩⟩
            · rw [← HM.out]; omega
            · exact ((below_drewN' HB.out _).cell (p := ⟨g, _, none⟩) hg).trans (HCell.out i s hi)
    · have hn2 := hn
      clear hn
      have HF : Hid (opI N ps = match findOp N with | some k => (k, ps, true) | none => (0, [], false)) := Lib.hid (by unfold opI; rw [if_neg (fun h => hn1 h.1), if_neg (fun h => hn2 h.1)]; rfl)
      have t1 : ¬ (mkS N).toList = [111, 110, 101] := by rw [ByteArray.toList_eq, mkS_toList]; exact hn1
      have t2 : ((mkS N).toList == [111, 110, 101]) = false := by rw [beq_eq_false_iff_ne]; exact t1
      have t3 : ¬ (mkS N).toList = [116, 119, 111] := by rw [ByteArray.toList_eq, mkS_toList]; exact hn2
      have t4 : ((mkS N).toList == [116, 119, 111]) = false := by rw [beq_eq_false_iff_ne]; exact t3
      clear hn1 hn2
      go_enter Tryd.func29, Tryd.ntmps29
      go_wp2_with fail
      clear t1 t2 t3 t4
      go_loop [41] (fun x => ∃ k : Nat, k ≤ 64 ∧ x = .int .u8 k ∧ Hid (∀ j, j < k → ¬ ((hasI j).1 ≠ [] ∧ (hasI j).1 = N))) (fun x => 64 - (intOf x).toNat)
      case atStart => exact ⟨0, Nat.zero_le _, rfl, Lib.hid fun j hj => absurd hj (Nat.not_lt_zero _)⟩
      case round =>
        obtain ⟨k, hk, rfl, hno⟩ := hrel
        by_cases hlt : k < 64
        · have hlt2 : (k : Int) < 64 := by omega
          have HH := Lib.hid (has_any k (by omega))
          unfold HasPost at HH
          by_cases hm : (hasI k).1 ≠ [] ∧ (hasI k).1 = N
          · have hF := HF.out
            rw [find_at hlt hm.1 hm.2] at hF
            have HF2 := Lib.hid hF
            obtain ⟨h0, h1⟩ := hm
            rw [h1] at HH h0
            have e1 : ¬ (mkS N).toList = [] := by rw [ByteArray.toList_eq, mkS_toList]; exact h0
            have e2 : (mkS N).toList.isEmpty = false := by simpa using e1
            have e3 : ((mkS N).toList == (mkS N).toList) = true := beq_self_eq_true _
            clear hno h0 h1 HF hF
            generalize (hasI k).2 = LL at HH
            go_wp2_with (go_at_call 21; refine (HH.out _).mono ?_; rintro _ _ ⟨rfl, rfl⟩)
            refine bodyPost_ret (v := .tuple #[.int .u8 k, v, .bool true]) (by simp [results, Tryd.results29, go_sem]) rfl ⟨?_, Below.refl _ _⟩
            exact ⟨v, by rw [HF2.out], by rw [HF2.out]; exact HP.out⟩
          · have HN2 : Hid (∀ j, j < k + 1 → ¬ ((hasI j).1 ≠ [] ∧ (hasI j).1 = N)) := Lib.hid fun j hj => by
              by_cases hj2 : j < k
              · exact hno.out j hj2
              · obtain rfl : j = k := by omega
                exact hm
            clear hno
            generalize (hasI k).1 = M at HH hm
            generalize (hasI k).2 = LL at HH
            by_cases hM : M = []
            · subst hM
              have e0 : (mkS []).toList = [] := by rw [ByteArray.toList_eq, mkS_toList]
              have e1 : (mkS []).toList.isEmpty = true := by rw [e0]; rfl
              clear hm
              go_wp2_with (go_at_call 21; refine (HH.out _).mono ?_; rintro _ _ ⟨rfl, rfl⟩)
              go_round
              case rel => exact ⟨k + 1, by omega, by go_num, HN2⟩
              case measure => simp [intOf]; omega
            · have hne : M ≠ N := fun e => hm ⟨hM, e⟩
              have e1 : ¬ (mkS M).toList = [] := by rw [ByteArray.toList_eq, mkS_toList]; exact hM
              have e2 : (mkS M).toList.isEmpty = false := by simpa using e1
              have e4 : ¬ (mkS M).toList = (mkS N).toList := by rw [ByteArray.toList_eq, ByteArray.toList_eq, mkS_toList, mkS_toList]; exact hne
              have e5 : ((mkS M).toList == (mkS N).toList) = false := by rw [beq_eq_false_iff_ne]; exact e4
              clear hm hM hne
              go_wp2_with (go_at_call 21; refine (HH.out _).mono ?_; rintro _ _ ⟨rfl, rfl⟩)
              go_round
              case rel => exact ⟨k + 1, by omega, by go_num, HN2⟩
              case measure => simp [intOf]; omega
        · obtain rfl : k = 64 := by omega
          have hF := HF.out
          rw [find_none hno.out] at hF
          have HF2 := Lib.hid hF
          clear hno hF HF hk
          go_wp2_with fail
          refine bodyPost_ret (v := .tuple #[.int .u8 0, .slice none 0 0, .bool false]) (by simp [results, Tryd.results29, go_sem]) rfl ⟨?_, Below.refl _ _⟩
          exact ⟨_, by rw [HF2.out]; rfl, by rw [HF2.out]; exact .nil _ _⟩
end Go.Proofs.YtdmoiahaekooaaaDoor
