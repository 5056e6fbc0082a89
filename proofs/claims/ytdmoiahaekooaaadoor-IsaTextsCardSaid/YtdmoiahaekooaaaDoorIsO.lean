/-
  Walks of the document's isa (windrowref16): Takes, has, in, Right, Encode, Decode. No condition but that an instruction's fields, or a word, are such.
-/
import Derived.Test.YtdmoiahaekooaaaDoorIsG
namespace Go.Proofs.YtdmoiahaekooaaaDoor
open Go.RowKit Go.Shelf Go.Sort

set_option maxHeartbeats 1000000 in
set_option maxRecDepth 100000 in
theorem rtakes_any (f : Nat) (two : Bool) (w : World) : Calls Tryd.prog 40 #[.int .u8 f, .bool two] w fun e w' => e = .returned (.bool (fnB f two)) ∧ w = w' := by
  cases two
  · by_cases h1 : 1 ≤ f
    · have i1 : (f : Int) ≥ 1 := by omega
      by_cases h2 : f ≤ 7
      · have i2 : (f : Int) ≤ 7 := by omega
        have hB : Hid (fnB f false = true) := Lib.hid (by unfold fnB; rw [if_neg (by omega), if_neg (by omega)]; simp [h2])
        generalize fnB f false = B at *
        have hb := hB.out
        subst hb
        go_enter Tryd.func40, Tryd.ntmps40
        go_wp2
        go_ret
        exact ⟨rfl, rfl⟩
      · have i2 : ¬ (f : Int) ≤ 7 := by omega
        have i2b : decide ((f : Int) ≤ 7) = false := decide_eq_false i2
        by_cases h3 : f = 16
        · subst h3
          go_enter Tryd.func40, Tryd.ntmps40
          go_wp2
          go_ret
          exact ⟨rfl, rfl⟩
        · have i3 : ¬ (f : Int) = 16 := by omega
          have i3b : ((f : Int) == 16) = false := by rw [beq_eq_false_iff_ne]; exact i3
          have hB : Hid (fnB f false = false) := Lib.hid (by
            unfold fnB
            by_cases h : f < 1 ∨ 17 < f
            · rw [if_pos h]
            · rw [if_neg h, if_neg h3]; simp [h2])
          generalize fnB f false = B at *
          have hb := hB.out
          subst hb
          clear h1 h2 h3
          go_enter Tryd.func40, Tryd.ntmps40
          go_wp2
          go_ret
          exact ⟨rfl, rfl⟩
    · obtain rfl : f = 0 := by omega
      go_enter Tryd.func40, Tryd.ntmps40
      go_wp2
      go_ret
      exact ⟨rfl, rfl⟩
  · by_cases h1 : 1 ≤ f
    · have i1 : (f : Int) ≥ 1 := by omega
      by_cases h2 : f ≤ 17
      · have i2 : (f : Int) ≤ 17 := by omega
        by_cases h3 : f = 16
        · subst h3
          go_enter Tryd.func40, Tryd.ntmps40
          go_wp2
          go_ret
          exact ⟨rfl, rfl⟩
        · have i3 : ¬ (f : Int) = 16 := by omega
          have i3b : ((f : Int) != 16) = true := by rw [bne_iff_ne]; exact i3
          have hB : Hid (fnB f true = true) := Lib.hid (by unfold fnB; rw [if_neg (by omega), if_neg h3]; rfl)
          generalize fnB f true = B at *
          have hb := hB.out
          subst hb
          clear h1 h2 h3
          go_enter Tryd.func40, Tryd.ntmps40
          go_wp2
          go_ret
          exact ⟨rfl, rfl⟩
      · have i2 : ¬ (f : Int) ≤ 17 := by omega
        have i2b : decide ((f : Int) ≤ 17) = false := decide_eq_false i2
        have hB : Hid (fnB f true = false) := Lib.hid (by unfold fnB; rw [if_pos (by omega)])
        generalize fnB f true = B at *
        have hb := hB.out
        subst hb
        clear h2
        go_enter Tryd.func40, Tryd.ntmps40
        go_wp2
        go_ret
        exact ⟨rfl, rfl⟩
    · obtain rfl : f = 0 := by omega
      go_enter Tryd.func40, Tryd.ntmps40
      go_wp2
      go_ret
      exact ⟨rfl, rfl⟩

/-- What the document's has answers at an Op. -/
def HasPostR (op : Nat) (e : Ending) : Prop := e = .returned (.tuple #[.string (mkS (hasI op).1), .string (mkS ((hasI op).2.map upL))])
set_option maxHeartbeats 2000000 in
set_option maxRecDepth 100000 in
theorem rhas_any (op : Nat) (hop : op < 256) (w : World) : Calls Tryd.prog 25 #[.int .u8 op] w fun e w' => HasPostR op e ∧ w = w' := by
  by_cases hlo : op ≤ 10
  · have hall : op = 0 ∨ op = 1 ∨ op = 2 ∨ op = 3 ∨ op = 4 ∨ op = 5 ∨ op = 6 ∨ op = 7 ∨ op = 8 ∨ op = 9 ∨ op = 10 := by omega
    clear hop hlo
    rcases hall with rfl | rfl | rfl | rfl | rfl | rfl | rfl | rfl | rfl | rfl | rfl
    all_goals
      go_enter Tryd.func25, Tryd.ntmps25
      go_wp2
      go_ret2
      exact ⟨rfl, rfl⟩
  · have n0 : ¬ (op : Int) = 0 := by omega
    have n1 : ¬ (op : Int) = 1 := by omega
    have n2 : ¬ (op : Int) = 2 := by omega
    have n3 : ¬ (op : Int) = 3 := by omega
    have n4 : ¬ (op : Int) = 4 := by omega
    have n5 : ¬ (op : Int) = 5 := by omega
    have n6 : ¬ (op : Int) = 6 := by omega
    have n7 : ¬ (op : Int) = 7 := by omega
    have n8 : ¬ (op : Int) = 8 := by omega
    have n9 : ¬ (op : Int) = 9 := by omega
    have n10 : ¬ (op : Int) = 10 := by omega
    have HF : Hid (hasI op = if 128 ≤ op ∧ fnB (op - 128) true = true then ([116, 119, 111], [110, 97, 98, 99]) else if 64 ≤ op ∧ op < 128 ∧ fnB (op - 64) false = true then ([111, 110, 101], [110, 97, 98]) else ([], [])) := by
      refine Lib.hid ?_
      unfold hasI
      rw [if_neg (by omega), if_neg (by omega), if_neg (by omega), if_neg (by omega), if_neg (by omega), if_neg (by omega), if_neg (by omega), if_neg (by omega), if_neg (by omega), if_neg (by omega), if_neg (by omega)]
    unfold HasPostR
    generalize hasI op = H at HF ⊢
    by_cases h2 : 128 ≤ op
    · have H2 : Hid (∀ w, Calls Tryd.prog 40 #[.int .u8 ((op : Int) - 128), .bool true] w fun e w' => e = .returned (.bool (fnB (op - 128) true)) ∧ w = w') := by
        refine Lib.hid fun w => ?_
        have := rtakes_any (op - 128) true w
        rwa [show ((op - 128 : Nat) : Int) = (op : Int) - 128 by omega] at this
      have hi : (op : Int) ≥ 128 := by omega
      have hu : (op : Int) < 256 := by omega
      have hnl : ¬ (op : Int) < 128 := by omega
      have HF1 : Hid (H = if fnB (op - 128) true = true then ([116, 119, 111], [110, 97, 98, 99]) else ([], [])) := by
        refine Lib.hid (HF.out.trans ?_)
        by_cases hf : fnB (op - 128) true = true
        · rw [if_pos ⟨h2, hf⟩, if_pos hf]
        · rw [if_neg (fun h => hf h.2), if_neg (fun h => by omega), if_neg hf]
      generalize fnB (op - 128) true = f at *
      clear HF hop hlo h2
      go_enter Tryd.func25, Tryd.ntmps25
      go_wp2_with fail
      refine (H2.out _).mono ?_
      rintro _ _ ⟨rfl, rfl⟩
      cases f
      all_goals
        have hH := HF1.out
        simp only [if_true, Bool.false_eq_true, if_false] at hH
        subst hH
        clear HF1 H2
        go_wp2
        go_ret2
        exact ⟨rfl, rfl⟩
    · by_cases h1 : 64 ≤ op
      · have H1 : Hid (∀ w, Calls Tryd.prog 40 #[.int .u8 ((op : Int) - 64), .bool false] w fun e w' => e = .returned (.bool (fnB (op - 64) false)) ∧ w = w') := by
          refine Lib.hid fun w => ?_
          have := rtakes_any (op - 64) false w
          rwa [show ((op - 64 : Nat) : Int) = (op : Int) - 64 by omega] at this
        have hi : ¬ (op : Int) ≥ 128 := by omega
        have hi' : (op : Int) < 128 := by omega
        have hu : (op : Int) ≥ 64 := by omega
        have HF1 : Hid (H = if fnB (op - 64) false = true then ([111, 110, 101], [110, 97, 98]) else ([], [])) := by
          refine Lib.hid (HF.out.trans ?_)
          rw [if_neg (fun h => h2 h.1)]
          by_cases hf : fnB (op - 64) false = true
          · rw [if_pos ⟨h1, by omega, hf⟩, if_pos hf]
          · rw [if_neg (fun h => hf h.2.2), if_neg hf]
        generalize fnB (op - 64) false = f at *
        clear HF hop hlo h2 h1
        go_enter Tryd.func25, Tryd.ntmps25
        go_wp2_with fail
        refine (H1.out _).mono ?_
        rintro _ _ ⟨rfl, rfl⟩
        cases f
        all_goals
          have hH := HF1.out
          simp only [if_true, Bool.false_eq_true, if_false] at hH
          subst hH
          clear HF1 H1
          go_wp2
          go_ret2
          exact ⟨rfl, rfl⟩
      · have hi : ¬ (op : Int) ≥ 128 := by omega
        have hi' : (op : Int) < 128 := by omega
        have hu : ¬ (op : Int) ≥ 64 := by omega
        have hu' : (op : Int) < 64 := by omega
        have hH := HF.out
        rw [if_neg (fun h => h2 h.1), if_neg (fun h => h1 h.1)] at hH
        subst hH
        clear HF hop hlo h2 h1
        go_enter Tryd.func25, Tryd.ntmps25
        go_wp2
        go_ret2
        exact ⟨rfl, rfl⟩
theorem byte_ne (b c : UInt8) (h : b ≠ c) : ¬ (b.toNat : Int) = c.toNat := fun e => h (UInt8.toNat_inj.1 (by omega))
theorem take_snocB (s : ByteArray) (k : Nat) (h : k < s.size) : s.data.toList.take (k + 1) = s.data.toList.take k ++ [s[k]] := by
  rw [List.take_succ_eq_append_getElem (by simpa using h)]
  rfl
set_option maxHeartbeats 1000000 in
set_option maxRecDepth 100000 in
theorem in_any (s : ByteArray) (c : UInt8) (hs : s.size ≤ 100) (w : World) : Calls Tryd.prog 35 #[.string s, .int .u8 c.toNat] w fun e w' => e = .returned (.bool (s.data.toList.contains c)) ∧ w = w' := by
  have HC : Hid (∀ k, (h : k < s.size) → s[k] = c → s.data.toList.contains c = true) := Lib.hid (fun k h e => by
    rw [List.contains_iff_mem, ← e]
    exact List.getElem_mem _)
  have HN : Hid ((∀ k, (h : k < s.size) → s[k] ≠ c) → s.data.toList.contains c = false) := Lib.hid (fun h => by
    rw [← Bool.not_eq_true, List.contains_iff_mem]
    intro hm
    obtain ⟨k, hk, e⟩ := List.mem_iff_getElem.1 hm
    exact h k hk e)
  generalize s.data.toList.contains c = B at *
  go_enter Tryd.func35, Tryd.ntmps35
  go_wp2
  go_loop [5] (fun i => ∃ k : Nat, k ≤ s.size ∧ i = .int .i64 k ∧ Hid (∀ j, (h : j < s.size) → j < k → s[j] ≠ c)) (fun i => s.size - (intOf i).toNat)
  case atStart => exact ⟨0, Nat.zero_le _, rfl, Lib.hid fun j _ h => absurd h (Nat.not_lt_zero _)⟩
  case round =>
    obtain ⟨k, hk, rfl, hno⟩ := hrel
    by_cases hlt : k < s.size
    · by_cases he : s[k] = c
      · have hb := HC.out k hlt he
        subst hb
        rw [← he] at *
        have e1 : ((s[k].toNat : Int) == s[k].toNat) = true := beq_self_eq_true _
        clear he hno HN HC
        go_wp2
        go_ret
        exact ⟨rfl, rfl⟩
      · have e0 := byte_ne _ _ he
        have e1 : ((s[k].toNat : Int) == c.toNat) = false := by rw [beq_eq_false_iff_ne]; exact e0
        have HN2 : Hid (∀ j, (h : j < s.size) → j < k + 1 → s[j] ≠ c) := Lib.hid fun j h hj => by
          by_cases hj2 : j < k
          · exact hno.out j h hj2
          · obtain rfl : j = k := by omega
            exact he
        clear he hno HC HN
        go_wp2
        go_round
        case rel => exact ⟨k + 1, by omega, by go_num, HN2⟩
        case measure => simp [intOf]; omega
    · have hb := HN.out (fun j h => hno.out j h (by omega))
      subst hb
      clear HN HC hno
      go_wp2
      go_ret
      exact ⟨rfl, rfl⟩
theorem contains_up : ∀ op : Fin 256, ((hasI op.val).2.map upL).contains 65 = (hasI op.val).2.contains 97 ∧ ((hasI op.val).2.map upL).contains 66 = (hasI op.val).2.contains 98 ∧ ((hasI op.val).2.map upL).contains 67 = (hasI op.val).2.contains 99 ∧ ((hasI op.val).2.map upL).contains 73 = (hasI op.val).2.contains 105 := by decide +kernel
set_option maxHeartbeats 4000000 in
set_option maxRecDepth 100000 in
theorem rRight_any (i : Ins) (hk : i.ok) (w : World) : Calls Tryd.prog 20 #[insV i] w fun e w' => e = .returned (.bool (rightI i)) ∧ Below w.heap.size w w' := by
  have HR : Hid (rightI i = (!(hasI i.op).1.isEmpty && decide (i.a < 16) && decide (i.b < 16) && decide (i.c < 16) && ((hasI i.op).2.contains 97 || i.a == 0) && ((hasI i.op).2.contains 98 || i.b == 0) && ((hasI i.op).2.contains 99 || i.c == 0) && ((hasI i.op).2.contains 105 || i.imm == 0))) := Lib.hid rfl
  have HH := Lib.hid (rhas_any i.op hk.1)
  have hlen : ((hasI i.op).2.map upL).length ≤ 100 := by
    have hl := has_letters ⟨i.op, hk.1⟩
    dsimp only at hl
    simp only [List.mem_cons, List.not_mem_nil, or_false] at hl
    rcases hl with h | h | h | h | h | h | h <;> rw [h] <;> simp
  have hup := contains_up ⟨i.op, hk.1⟩
  dsimp only at hup
  unfold HasPostR at HH
  generalize hasI i.op = H at *
  obtain ⟨N, L⟩ := H
  dsimp only at HR HH hlen hup
  obtain ⟨u1, u2, u3, u4⟩ := hup
  generalize L.map upL = M at *
  have I1 : Hid (∀ w, Calls Tryd.prog 35 #[.string (mkS M), .int .u8 65] w fun e w' => e = .returned (.bool (L.contains 97)) ∧ w = w') := Lib.hid fun w => by
    have := in_any (mkS M) 65 (by rw [mkS_size]; omega) w
    rw [mkS_toList, u1] at this
    exact this
  have I2 : Hid (∀ w, Calls Tryd.prog 35 #[.string (mkS M), .int .u8 66] w fun e w' => e = .returned (.bool (L.contains 98)) ∧ w = w') := Lib.hid fun w => by
    have := in_any (mkS M) 66 (by rw [mkS_size]; omega) w
    rw [mkS_toList, u2] at this
    exact this
  have I3 : Hid (∀ w, Calls Tryd.prog 35 #[.string (mkS M), .int .u8 67] w fun e w' => e = .returned (.bool (L.contains 99)) ∧ w = w') := Lib.hid fun w => by
    have := in_any (mkS M) 67 (by rw [mkS_size]; omega) w
    rw [mkS_toList, u3] at this
    exact this
  have I4 : Hid (∀ w, Calls Tryd.prog 35 #[.string (mkS M), .int .u8 73] w fun e w' => e = .returned (.bool (L.contains 105)) ∧ w = w') := Lib.hid fun w => by
    have := in_any (mkS M) 73 (by rw [mkS_size]; omega) w
    rw [mkS_toList, u4] at this
    exact this
  generalize L.contains 97 = pa at *
  generalize L.contains 98 = pb at *
  generalize L.contains 99 = pc at *
  generalize L.contains 105 = pi at *
  generalize rightI i = R at HR ⊢
  clear u1 u2 u3 u4 hlen
  obtain ⟨op, a, b, c, imm⟩ := i
  obtain ⟨k1, k2, k3, k4, k5, k6⟩ := hk
  dsimp only at k1 k2 k3 k4 k5 k6 HR HH
  unfold insV insA
  dsimp only
  go_enter Tryd.func20, Tryd.ntmps20
  go_wp2_with fail
  refine (HH.out _).mono ?_
  rintro _ _ ⟨rfl, rfl⟩
  clear HH
  by_cases hN : N = []
  · subst hN
    have hR := HR.out
    simp only [List.isEmpty_nil, Bool.not_true, Bool.false_and] at hR
    subst hR
    have e0 : (mkS []).toList = [] := by rw [ByteArray.toList_eq, mkS_toList]
    have e1 : (mkS []).toList.isEmpty = true := by rw [e0]; rfl
    go_wp2_with fail
    go_ret
    exact ⟨rfl, (Below.refl _ _).alloc (Nat.le_refl _) _⟩
  · have e1 : (mkS N).toList ≠ [] := by rw [ByteArray.toList_eq, mkS_toList]; exact hN
    have e2 : (mkS N).toList.isEmpty = false := by simpa using e1
    have e3 : (!N.isEmpty) = true := by simpa using hN
    rw [e3, Bool.true_and] at HR
    clear e3 hN
    by_cases ha : a < 16
    · by_cases hb : b < 16
      · by_cases hc : c < 16
        · rw [decide_eq_true ha, decide_eq_true hb, decide_eq_true hc, Bool.and_true, Bool.and_true, Bool.true_and] at HR
          have ha' : ¬ (a : Int) ≥ 16 := by omega
          have hb' : ¬ (b : Int) ≥ 16 := by omega
          have hc' : ¬ (c : Int) ≥ 16 := by omega
          go_wp2_with (first | (go_at_call 35; (with_reducible refine (I1.out _).mono ?_); rintro _ _ ⟨rfl, rfl⟩) | (go_at_call 35; (with_reducible refine (I2.out _).mono ?_); rintro _ _ ⟨rfl, rfl⟩) | (go_at_call 35; (with_reducible refine (I3.out _).mono ?_); rintro _ _ ⟨rfl, rfl⟩) | (go_at_call 35; (with_reducible refine (I4.out _).mono ?_); rintro _ _ ⟨rfl, rfl⟩))
          all_goals
            go_ret
            refine ⟨ret_bool ?_, (Below.refl _ _).alloc (Nat.le_refl _) _⟩
            rw [HR.out]
            clear HR I1 I2 I3 I4
            first | (simp [*]; done) | (simp [*]; omega)
        · rw [decide_eq_false hc, Bool.and_false, Bool.false_and, Bool.false_and, Bool.false_and, Bool.false_and] at HR
          have hR := HR.out
          subst hR
          have ha' : ¬ (a : Int) ≥ 16 := by omega
          have hb' : ¬ (b : Int) ≥ 16 := by omega
          have hc' : (c : Int) ≥ 16 := by omega
          go_wp2_with fail
          go_ret
          exact ⟨rfl, (Below.refl _ _).alloc (Nat.le_refl _) _⟩
      · rw [decide_eq_false hb, Bool.and_false, Bool.false_and, Bool.false_and, Bool.false_and, Bool.false_and, Bool.false_and] at HR
        have hR := HR.out
        subst hR
        have ha' : ¬ (a : Int) ≥ 16 := by omega
        have hb' : (b : Int) ≥ 16 := by omega
        go_wp2_with fail
        go_ret
        exact ⟨rfl, (Below.refl _ _).alloc (Nat.le_refl _) _⟩
    · rw [decide_eq_false ha, Bool.false_and, Bool.false_and, Bool.false_and, Bool.false_and, Bool.false_and, Bool.false_and] at HR
      have hR := HR.out
      subst hR
      have ha' : (a : Int) ≥ 16 := by omega
      go_wp2_with fail
      go_ret
      exact ⟨rfl, (Below.refl _ _).alloc (Nat.le_refl _) _⟩
end Go.Proofs.YtdmoiahaekooaaaDoor
