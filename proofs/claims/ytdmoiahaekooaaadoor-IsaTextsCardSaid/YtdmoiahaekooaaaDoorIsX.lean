/-
  Walks of the document's isa (windrowref16): digits of any number, part. No condition but that an instruction's fields are such.
-/
import Derived.Test.YtdmoiahaekooaaaDoorIsS
namespace Go.Proofs.YtdmoiahaekooaaaDoor
open Go.RowKit Go.Shelf Go.Sort

theorem digs_len (u : Nat) (h : u ≤ 9223372036854775807) : (Lib.decDigits u).length ≤ 20 := by rw [Lib.decDigits_length]; exact Lib.nDigits_le20 _ (by omega)
set_option maxHeartbeats 2000000 in
set_option maxRecDepth 100000 in
theorem dint_any (n : Int) (h0 : -9223372036854775807 ≤ n) (h1 : n ≤ 9223372036854775807) (w : World) : Calls Tryd.prog 41 #[.int .i64 n] w fun e w' => e = .returned (.string (mkS (Lib.itoa n))) ∧ Below w.heap.size w w' := by
  by_cases hn : n < 0
  · obtain ⟨u, rfl, hu⟩ : ∃ u : Nat, n = -(u : Int) ∧ u ≤ 9223372036854775807 := ⟨n.natAbs, by omega, by omega⟩
    have HI : Hid (Lib.itoa (-(u : Int)) = 45 :: Lib.decDigits u) := Lib.hid (by unfold Lib.itoa; rw [if_pos hn, show (-(u : Int)).natAbs = u by omega])
    have HD := Lib.hid (dnat_any u hu)
    have hl := digs_len u hu
    generalize Lib.itoa (-(u : Int)) = I at *
    generalize Lib.decDigits u = D at *
    have hadd : ∀ W, (Op.stringOp .add (⟨#[45]⟩ : ByteArray) (mkS D)).run Tryd.prog W = .ok (.string (mkS (45 :: D))) W := fun W => by
      have := run_string_add_sum (P := Tryd.prog) W (mkS [45]) (mkS D) (by simp only [mkS_size, List.length_cons, List.length_nil]; omega)
      rwa [mk_cons] at this
    have hneg : IntKind.i64.wrap (- -(u : Int)) = u := by rw [IntKind.wrap_i64]; omega
    have hneg2 : wrap64 (- -(u : Int)) = u := by unfold wrap64; omega
    go_enter Tryd.func41, Tryd.ntmps41
    go_wp2_with fail
    refine (HD.out _).mono ?_
    rintro _ w1 ⟨rfl, hb⟩
    go_wp2_with fail
    go_ret
    exact ⟨ret_str (by rw [HI.out]), hb⟩
  · obtain ⟨u, rfl⟩ : ∃ u : Nat, n = (u : Int) := ⟨n.toNat, by omega⟩
    rw [itoa_nat]
    exact dnat_any u (by omega) w
/-- A letter that an instruction has: n is its function. -/
def Letter (i : Ins) (x : UInt8) : Prop := x = 97 ∨ x = 98 ∨ x = 99 ∨ x = 105 ∨ (x = 110 ∧ 64 ≤ i.op ∧ i.op < 192)
set_option maxHeartbeats 2000000 in
set_option maxRecDepth 100000 in
theorem part_any (i : Ins) (x : UInt8) (hk : i.ok) (hx : Letter i x) (w : World) : Calls Tryd.prog 26 #[insV i, .int .u8 (upL x).toNat] w fun e w' => e = .returned (.string (mkS (partI i x))) ∧ Below w.heap.size w w' := by
  obtain ⟨op, a, b, c, imm⟩ := i
  obtain ⟨k1, k2, k3, k4, k5, k6⟩ := hk
  unfold Letter at hx
  dsimp only at k1 k2 k3 k4 k5 k6 hx
  unfold insV insA
  dsimp only
  have reg : ∀ u, u < 256 → (Lib.decDigits u).length ≤ 20 := fun u h => digs_len u (by omega)
  rcases hx with rfl | rfl | rfl | rfl | ⟨rfl, o1, o2⟩
  · have hP : partI ⟨op, a, b, c, imm⟩ 97 = 114 :: Lib.decDigits a := rfl
    rw [hP]
    have HD := Lib.hid (dnat_any a (by omega))
    have hl := reg a k2
    generalize Lib.decDigits a = D at *
    have hadd : ∀ W, (Op.stringOp .add (⟨#[114]⟩ : ByteArray) (mkS D)).run Tryd.prog W = .ok (.string (mkS (114 :: D))) W := fun W => by
      have := run_string_add_sum (P := Tryd.prog) W (mkS [114]) (mkS D) (by simp only [mkS_size, List.length_cons, List.length_nil]; omega)
      rwa [mk_cons] at this
    have hu : upL 97 = 65 := rfl
    rw [hu]
    clear hP hu reg
    go_enter Tryd.func26, Tryd.ntmps26
    go_wp2_with fail
    refine (HD.out _).mono ?_
    rintro _ w1 ⟨rfl, hb⟩
    go_wp2_with fail
    go_ret
    exact ⟨rfl, ((Below.refl _ w).alloc (Nat.le_refl _) _).trans (hb.mono (by simp))⟩
  · have hP : partI ⟨op, a, b, c, imm⟩ 98 = 114 :: Lib.decDigits b := rfl
    rw [hP]
    have HD := Lib.hid (dnat_any b (by omega))
    have hl := reg b k3
    generalize Lib.decDigits b = D at *
    have hadd : ∀ W, (Op.stringOp .add (⟨#[114]⟩ : ByteArray) (mkS D)).run Tryd.prog W = .ok (.string (mkS (114 :: D))) W := fun W => by
      have := run_string_add_sum (P := Tryd.prog) W (mkS [114]) (mkS D) (by simp only [mkS_size, List.length_cons, List.length_nil]; omega)
      rwa [mk_cons] at this
    have hu : upL 98 = 66 := rfl
    rw [hu]
    clear hP hu reg
    go_enter Tryd.func26, Tryd.ntmps26
    go_wp2_with fail
    refine (HD.out _).mono ?_
    rintro _ w1 ⟨rfl, hb⟩
    go_wp2_with fail
    go_ret
    exact ⟨rfl, ((Below.refl _ w).alloc (Nat.le_refl _) _).trans (hb.mono (by simp))⟩
  · have hP : partI ⟨op, a, b, c, imm⟩ 99 = 114 :: Lib.decDigits c := rfl
    rw [hP]
    have HD := Lib.hid (dnat_any c (by omega))
    have hl := reg c k4
    generalize Lib.decDigits c = D at *
    have hadd : ∀ W, (Op.stringOp .add (⟨#[114]⟩ : ByteArray) (mkS D)).run Tryd.prog W = .ok (.string (mkS (114 :: D))) W := fun W => by
      have := run_string_add_sum (P := Tryd.prog) W (mkS [114]) (mkS D) (by simp only [mkS_size, List.length_cons, List.length_nil]; omega)
      rwa [mk_cons] at this
    have hu : upL 99 = 67 := rfl
    rw [hu]
    clear hP hu reg
    go_enter Tryd.func26, Tryd.ntmps26
    go_wp2_with fail
    refine (HD.out _).mono ?_
    rintro _ w1 ⟨rfl, hb⟩
    go_wp2_with fail
    go_ret
    exact ⟨rfl, ((Below.refl _ w).alloc (Nat.le_refl _) _).trans (hb.mono (by simp))⟩
  · have hP : partI ⟨op, a, b, c, imm⟩ 105 = Lib.itoa imm := rfl
    rw [hP]
    have hu : upL 105 = 73 := rfl
    rw [hu]
    have HD := Lib.hid (dint_any imm (by omega) (by omega))
    generalize Lib.itoa imm = D at *
    clear hP hu reg
    go_enter Tryd.func26, Tryd.ntmps26
    go_wp2_with fail
    refine (HD.out _).mono ?_
    rintro _ w1 ⟨rfl, hb⟩
    go_wp2_with fail
    go_ret
    exact ⟨rfl, ((Below.refl _ w).alloc (Nat.le_refl _) _).trans (hb.mono (by simp))⟩
  · by_cases h2 : 128 ≤ op
    · have hP : partI ⟨op, a, b, c, imm⟩ 110 = Lib.decDigits (op % 64) := rfl
      rw [hP]
      have hu : upL 110 = 70 := rfl
      rw [hu]
      have e : (op : Int) - 128 = ((op % 64 : Nat) : Int) := by omega
      have o3 : (op : Int) ≥ 128 := by omega
      have HD := Lib.hid (dnat_any (op % 64) (by omega))
      generalize Lib.decDigits (op % 64) = D at *
      rw [← e] at HD
      clear hP hu reg e
      go_enter Tryd.func26, Tryd.ntmps26
      go_wp2_with fail
      refine (HD.out _).mono ?_
      rintro _ w1 ⟨rfl, hb⟩
      go_wp2_with fail
      go_ret
      exact ⟨rfl, ((Below.refl _ w).alloc (Nat.le_refl _) _).trans (hb.mono (by simp))⟩
    · have hP : partI ⟨op, a, b, c, imm⟩ 110 = Lib.decDigits (op % 64) := rfl
      rw [hP]
      have hu : upL 110 = 70 := rfl
      rw [hu]
      have e : (op : Int) - 64 = ((op % 64 : Nat) : Int) := by omega
      have o3 : ¬ (op : Int) ≥ 128 := by omega
      have o4 : (op : Int) < 128 := by omega
      have o5 : (op : Int) ≥ 64 := by omega
      have HD := Lib.hid (dnat_any (op % 64) (by omega))
      generalize Lib.decDigits (op % 64) = D at *
      rw [← e] at HD
      clear hP hu reg e
      go_enter Tryd.func26, Tryd.ntmps26
      go_wp2_with fail
      refine (HD.out _).mono ?_
      rintro _ w1 ⟨rfl, hb⟩
      go_wp2_with fail
      go_ret
      exact ⟨rfl, ((Below.refl _ w).alloc (Nat.le_refl _) _).trans (hb.mono (by simp))⟩
end Go.Proofs.YtdmoiahaekooaaaDoor
