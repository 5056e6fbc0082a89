/-
  Walks of the document's isa (windrowref16): digits, part. No condition but that numbers are such.
-/
import Derived.Test.YtdmoiahaekooaaaDoorIsO
import Derived.Test.YtdmoiahaekooaaaDoorBytes
import Derived.Deep.CutRange
import Derived.Deep.RegionWith
import Derived.Deep.RegionHeld3
import Derived.Deep.AppendLies
namespace Go.Proofs.YtdmoiahaekooaaaDoor
open Go.RowKit Go.Shelf Go.Sort

theorem RowS.one (w : World) (x : Value) (t : TypeId) (base : Nat) (hb : base ≤ w.heap.size) (c : Nat) (hc : c = 1) : RowS (w.alloc (.cells #[x] t)) base (.slice (some ⟨w.heap.size, 0, none⟩) 1 c) [x] := by
  subst hc
  refine .inr ⟨w.heap.size, 1, rfl, hb, by simp, Nat.le_refl _, by unfold maxLen; omega, ?_, ?_⟩
  · intro j u hu
    match j, hu with
    | 0, hu => simp at hu; subst hu; simp
    | j + 1, hu => simp at hu
  · intro j hj
    obtain rfl : j = 0 := by omega
    simp
theorem digit_byte (d : Nat) (h : d < 10) : byteV (UInt8.ofNat (48 + d)) = .int .u8 (48 + (d : Int)) := by
  unfold byteV
  congr 1
  rw [UInt8.toNat_ofNat']
  omega
set_option maxHeartbeats 2000000 in
set_option maxRecDepth 100000 in
theorem dnat_any (u : Nat) : u ≤ 9223372036854775807 → ∀ w, Calls Tryd.prog 41 #[.int .i64 u] w fun e w' => e = .returned (.string (mkS (Lib.decDigits u))) ∧ Below w.heap.size w w' := by
  induction u using Nat.strongRecOn with
  | _ u ih =>
    intro hu w
    have hm : ¬ (u : Int) < 0 := by omega
    have hmb : decide ((u : Int) < 0) = false := decide_eq_false hm
    by_cases h : u < 10
    · have h10 : (u : Int) < 10 := by omega
      have HD : Hid (Lib.decDigits u = [UInt8.ofNat (48 + u)]) := Lib.hid (by rw [Lib.decDigits, dif_pos h])
      have HB := Lib.hid (digit_byte u h)
      generalize UInt8.ofNat (48 + u) = b at *
      generalize Lib.decDigits u = D at *
      clear ih hu h
      go_enter Tryd.func41, Tryd.ntmps41
      go_wp2_with (refine wpList_string_rowS _ rfl 68 9 (.tmp 14) rfl 5 (base := w.heap.size) (l := [b]) ?hr Tryd.underlying68 Tryd.underlying5 Tryd.underlying9 rfl ?_)
      case hr =>
        show RowS _ _ _ [byteV b]
        rw [HB.out]
        exact RowS.one w _ 5 w.heap.size (Nat.le_refl _) 1 rfl
      go_ret
      exact ⟨ret_str (by rw [HD.out]), (Below.refl _ _).alloc (Nat.le_refl _) _⟩
    · have h10 : ¬ (u : Int) < 10 := by omega
      have h10b : decide ((u : Int) < 10) = false := decide_eq_false h10
      have HD : Hid (Lib.decDigits u = Lib.decDigits (u / 10) ++ [UInt8.ofNat (48 + u % 10)]) := Lib.hid (by rw [Lib.decDigits, dif_neg h])
      have HB := Lib.hid (digit_byte (u % 10) (by omega))
      have HI := Lib.hid (ih (u / 10) (by omega) (by omega))
      have hl : (Lib.decDigits (u / 10)).length ≤ 20 := by rw [Lib.decDigits_length]; exact Lib.nDigits_le20 _ (by omega)
      have q1 : (u : Int).tdiv 10 = ((u / 10 : Nat) : Int) := by rw [Int.tdiv_eq_ediv_of_nonneg (by omega)]; omega
      have q2 : (u : Int).tmod 10 = ((u % 10 : Nat) : Int) := by rw [Int.tmod_eq_emod_of_nonneg (by omega)]; omega
      have q3 : (u : Int) / 10 = ((u / 10 : Nat) : Int) := by omega
      have q4 : (u : Int) % 10 = ((u % 10 : Nat) : Int) := by omega
      have hm10 : u % 10 < 10 := by omega
      generalize UInt8.ofNat (48 + u % 10) = b at *
      generalize Lib.decDigits (u / 10) = D at *
      generalize Lib.decDigits u = E at *
      have hqb : u / 10 ≤ 9223372036854775807 := by omega
      generalize u / 10 = uq at *
      generalize u % 10 = ur at *
      have hwq : IntKind.i64.wrap (uq : Int) = uq := by rw [IntKind.wrap_i64]; omega
      have hwr : IntKind.i64.wrap (ur : Int) = ur := by rw [IntKind.wrap_i64]; omega
      have hw1 : IntKind.i64.wrap (48 + (ur : Int)) = 48 + ur := by rw [IntKind.wrap_i64]; omega
      have hw2 : IntKind.u8.wrap (48 + (ur : Int)) = 48 + ur := by rw [IntKind.wrap_u8]; omega
      have hadd : ∀ W, (Op.stringOp .add (mkS D) (mkS [b])).run Tryd.prog W = .ok (.string (mkS (D ++ [b]))) W := fun W => by
        have := run_string_add_sum (P := Tryd.prog) W (mkS D) (mkS [b]) (by simp only [mkS_size, List.length_cons, List.length_nil]; omega)
        rwa [mk_append] at this
      have hcv : ∀ (W : World) (N : Nat), W.heap.size = N → (convert 68 9 (.slice (some ⟨N, 0, none⟩) 1 1)).run Tryd.prog ((W.alloc (.cells #[.int .u8 (48 + (ur : Int))] 5))) = .ok (.string (mkS [b])) ((W.alloc (.cells #[.int .u8 (48 + (ur : Int))] 5))) := fun W N hN => by
        subst hN
        exact run_string_rowS (l := [b]) (base := 0) _ _ _ 5 (by show RowS _ _ _ [byteV b]; rw [HB.out]; exact RowS.one W _ 5 0 (Nat.zero_le _) 1 rfl) Tryd.underlying68 Tryd.underlying5 Tryd.underlying9
      have hcv2 : ∀ (W : World) (N : Nat), W.heap.size = N → (convert 68 9 (.slice (some ⟨N, 0, none⟩) 1 1)).run Tryd.prog ((W.alloc (.cells #[.int .u8 (48 + (ur : Int))] 5)).drew) = .ok (.string (mkS [b])) ((W.alloc (.cells #[.int .u8 (48 + (ur : Int))] 5)).drew) := fun W N hN => by
        subst hN
        exact run_string_rowS (l := [b]) (base := 0) _ _ _ 5 (by show RowS _ _ _ [byteV b]; rw [HB.out]; exact RowS.one W _ 5 0 (Nat.zero_le _) 1 rfl) Tryd.underlying68 Tryd.underlying5 Tryd.underlying9
      clear ih hu h hl hm10 hqb
      go_enter Tryd.func41, Tryd.ntmps41
      go_wp2_with fail
      go_region_law (first | (go_simp; go_at_call 41; (with_reducible refine (HI.out _).mono ?_); rintro _ w1 ⟨rfl, hb⟩; try have hcw : (convert 68 9 (.slice (some ⟨w.heap.size, 0, none⟩) 1 1)).run Tryd.prog w1 = .ok (.string (mkS [b])) w1 := run_string_rowS (l := [b]) (base := 0) _ _ _ 5 (by show RowS _ _ _ [byteV b]; rw [HB.out]; exact (show RowS ((w.alloc (.cells #[.int .u8 (48 + (ur : Int))] 5)).drew) 0 _ _ from RowS.one w _ 5 0 (Nat.zero_le _) 1 rfl).below hb) Tryd.underlying68 Tryd.underlying5 Tryd.underlying9))
      all_goals
        go_wp2_with fail
        go_ret
        refine ⟨ret_str (by rw [HD.out]), ?_⟩
        first
          | exact (((Below.refl _ w).alloc (Nat.le_refl _) _).drew.trans (hb.mono (by show w.heap.size ≤ (w.heap.push _).size; simp)))
          | exact ((Below.refl _ w).drew.trans hb).alloc hb.size _
end Go.Proofs.YtdmoiahaekooaaaDoor
