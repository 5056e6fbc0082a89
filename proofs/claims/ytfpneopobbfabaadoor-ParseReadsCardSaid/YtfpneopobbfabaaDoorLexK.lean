/-
  Walks of the document's lexer (windrowref03): digits, Spell. Condition: numbers are such; a text is no longer than a string may be.
-/
import Derived.Test.YtfpneopobbfabaaDoorLexI
import Derived.Test.YtfpneopobbfabaaDoorLawQ
import Derived.Test.YtfpneopobbfabaaDoorBytes
namespace Go.Proofs.YtfpneopobbfabaaDoor
open Go.RowKit Go.Shelf

/-- The decimal digits of u, with s behind them. -/
theorem dec_step (u : Nat) (h : 9 < u) (s : List UInt8) : Lib.decDigits u ++ s = Lib.decDigits (u / 10) ++ (UInt8.ofNat (48 + u % 10) :: s) := by
  rw [Lib.decDigits, dif_neg (by omega), List.append_assoc]
  rfl
theorem dec_last (u : Nat) (h : ¬ 9 < u) (s : List UInt8) : Lib.decDigits u ++ s = UInt8.ofNat (48 + u) :: s := by
  rw [Lib.decDigits, dif_pos (by omega)]
  rfl
theorem mk_cons (b : UInt8) (l : List UInt8) : mkS [b] ++ mkS l = mkS (b :: l) := by
  apply eq_mkS
  simp [mkS, ByteArray.data_append]
theorem dec_len (u : Nat) (h : u ≤ 18446744073709551615) : (Lib.decDigits u).length ≤ 20 := by
  rw [Lib.decDigits_length]
  exact Lib.nDigits_le20 u (by omega)
theorem RowS.one (w : World) (x : Value) (t : TypeId) (base : Nat) (hb : base ≤ w.heap.size) (c : Nat) (hc : c = 1) : RowS (w.alloc (.cells #[x] t)) base (.slice (some ⟨w.heap.size, 0, none⟩) 1 c) [x] := by
  subst hc
  refine .inr ⟨w.heap.size, 1, rfl, hb, by simp, Nat.le_refl _, by unfold maxLen; omega, ?_, ?_⟩
  · intro j u hu
    match j, hu with
    | 0, hu => simp at hu; subst hu; simp
    | j + 1, hu => simp at hu
  · intro j hj
    obtain rfl : j = 0 := by omega
    simp
theorem digit_byte (d : Nat) (h : d < 10) : byteV (UInt8.ofNat (48 + d)) = .int .u8 (48 + (d : Int)) := by
  unfold byteV
  congr 1
  rw [UInt8.toNat_ofNat']
  omega
set_option maxHeartbeats 1000000 in
set_option maxRecDepth 100000 in
theorem digits_any (n : Int) (w : World) (h0 : -9223372036854775808 ≤ n) (h1 : n ≤ 9223372036854775807) :
    Calls Tryd.prog 48 #[.int .i64 n] w fun e w' => e = .returned (.string (mkS (numT n))) ∧ Below w.heap.size w w' := by
  by_cases hn : n < 0
  · have hw : IntKind.u64.wrap (-IntKind.u64.wrap n) = (n.natAbs : Int) := by rw [IntKind.wrap_u64, IntKind.wrap_u64]; omega
    go_enter Tryd.func48, Tryd.ntmps48
    go_wp2
    go_loopw [3, 4] (fun x v wr => ∃ (u : Nat) (s : List UInt8), u ≤ n.natAbs ∧ x = .int .u64 u ∧ v = .string (mkS s) ∧ Lib.decDigits n.natAbs = Lib.decDigits u ++ s ∧ Below w.heap.size w wr) (fun x _ _ => (intOf x).toNat)
    case atStart => exact ⟨n.natAbs, [], Nat.le_refl _, rfl, rfl, by rw [List.append_nil], Below.refl _ _⟩
    case round =>
      obtain ⟨u, s, hu, rfl, rfl, hs, hbel⟩ := hrel
      have HS := Lib.hid hs
      clear hs
      have hu2 : u ≤ 9223372036854775808 := by omega
      have hsl : s.length ≤ 20 := by
        have h1 := congrArg List.length HS.out
        have h2 := dec_len n.natAbs (by omega)
        rw [List.length_append] at h1
        omega
      by_cases h9 : 9 < u
      · have h9' : (9 : Int) < u := by omega
        have hst := Lib.hid (dec_step u h9 s)
        have hby := Lib.hid (digit_byte (u % 10) (by omega))
        generalize UInt8.ofNat (48 + u % 10) = b at *
        have hadd : ∀ W, (Op.stringOp .add (mkS [b]) (mkS s)).run Tryd.prog W = .ok (.string (mkS (b :: s))) W := fun W => by
          have := run_string_add_sum (P := Tryd.prog) W (mkS [b]) (mkS s) (by rw [mkS_size, mkS_size, List.length_singleton]; omega)
          rwa [mk_cons] at this
        go_wp2_with (refine wpList_string_rowS _ rfl 38 9 (.tmp 17) rfl 5 (base := w.heap.size) (l := [b]) ?hr Tryd.underlying38 Tryd.underlying5 Tryd.underlying9 rfl ?_)
        case hr =>
          show RowS _ _ _ [byteV b]
          rw [hby.out, Int.natCast_emod]
          exact RowS.one wr _ 5 w.heap.size hbel.size 1 rfl
        go_roundw
        case rel => exact ⟨u / 10, b :: s, by omega, by go_num, rfl, by rw [HS.out, hst.out], hbel.alloc hbel.size _⟩
        case measure => simp [intOf]; omega
      · have h9' : ¬ (9 : Int) < u := by omega
        have hst := Lib.hid (dec_last u h9 s)
        have hby := Lib.hid (digit_byte u (by omega))
        generalize UInt8.ofNat (48 + u) = b at *
        have hadd : ∀ W, (Op.stringOp .add (mkS [b]) (mkS s)).run Tryd.prog W = .ok (.string (mkS (b :: s))) W := fun W => by
          have := run_string_add_sum (P := Tryd.prog) W (mkS [b]) (mkS s) (by rw [mkS_size, mkS_size, List.length_singleton]; omega)
          rwa [mk_cons] at this
        have hadd2 : ∀ W, (Op.stringOp .add (⟨#[95]⟩ : ByteArray) (mkS (b :: s))).run Tryd.prog W = .ok (.string (mkS (95 :: b :: s))) W := fun W => by
          have := run_string_add_sum (P := Tryd.prog) W (mkS [95]) (mkS (b :: s)) (by simp only [mkS_size, List.length_cons, List.length_nil]; omega)
          rwa [mk_cons] at this
        go_wp2_with (refine wpList_string_rowS _ rfl 38 9 (.tmp 26) rfl 5 (base := w.heap.size) (l := [b]) ?hr Tryd.underlying38 Tryd.underlying5 Tryd.underlying9 rfl ?_)
        case hr =>
          show RowS _ _ _ [byteV b]
          rw [hby.out]
          exact RowS.one wr _ 5 w.heap.size hbel.size 1 rfl
        go_ret
        exact ⟨ret_str (by rw [numT, if_pos hn, HS.out, hst.out]), hbel.alloc hbel.size _⟩
  · obtain ⟨m, rfl⟩ : ∃ m : Nat, n = m := ⟨n.toNat, by omega⟩
    have hm : m ≤ 9223372036854775807 := by omega
    clear hn h0 h1
    go_enter Tryd.func48, Tryd.ntmps48
    go_wp2
    go_loopw [3, 4] (fun x v wr => ∃ (u : Nat) (s : List UInt8), u ≤ m ∧ x = .int .u64 u ∧ v = .string (mkS s) ∧ Lib.decDigits m = Lib.decDigits u ++ s ∧ Below w.heap.size w wr) (fun x _ _ => (intOf x).toNat)
    case atStart => exact ⟨m, [], Nat.le_refl _, rfl, rfl, by rw [List.append_nil], Below.refl _ _⟩
    case round =>
      obtain ⟨u, s, hu, rfl, rfl, hs, hbel⟩ := hrel
      have HS := Lib.hid hs
      clear hs
      have hu2 : u ≤ 9223372036854775808 := by omega
      have hsl : s.length ≤ 20 := by
        have h1 := congrArg List.length HS.out
        have h2 := dec_len m (by omega)
        rw [List.length_append] at h1
        omega
      by_cases h9 : 9 < u
      · have h9' : (9 : Int) < u := by omega
        have hst := Lib.hid (dec_step u h9 s)
        have hby := Lib.hid (digit_byte (u % 10) (by omega))
        generalize UInt8.ofNat (48 + u % 10) = b at *
        have hadd : ∀ W, (Op.stringOp .add (mkS [b]) (mkS s)).run Tryd.prog W = .ok (.string (mkS (b :: s))) W := fun W => by
          have := run_string_add_sum (P := Tryd.prog) W (mkS [b]) (mkS s) (by rw [mkS_size, mkS_size, List.length_singleton]; omega)
          rwa [mk_cons] at this
        go_wp2_with (refine wpList_string_rowS _ rfl 38 9 (.tmp 17) rfl 5 (base := w.heap.size) (l := [b]) ?hr Tryd.underlying38 Tryd.underlying5 Tryd.underlying9 rfl ?_)
        case hr =>
          show RowS _ _ _ [byteV b]
          rw [hby.out, Int.natCast_emod]
          exact RowS.one wr _ 5 w.heap.size hbel.size 1 rfl
        go_roundw
        case rel => exact ⟨u / 10, b :: s, by omega, by go_num, rfl, by rw [HS.out, hst.out], hbel.alloc hbel.size _⟩
        case measure => simp [intOf]; omega
      · have h9' : ¬ (9 : Int) < u := by omega
        have hst := Lib.hid (dec_last u h9 s)
        have hby := Lib.hid (digit_byte u (by omega))
        generalize UInt8.ofNat (48 + u) = b at *
        have hadd : ∀ W, (Op.stringOp .add (mkS [b]) (mkS s)).run Tryd.prog W = .ok (.string (mkS (b :: s))) W := fun W => by
          have := run_string_add_sum (P := Tryd.prog) W (mkS [b]) (mkS s) (by rw [mkS_size, mkS_size, List.length_singleton]; omega)
          rwa [mk_cons] at this
        go_wp2_with (refine wpList_string_rowS _ rfl 38 9 (.tmp 26) rfl 5 (base := w.heap.size) (l := [b]) ?hr Tryd.underlying38 Tryd.underlying5 Tryd.underlying9 rfl ?_)
        case hr =>
          show RowS _ _ _ [byteV b]
          rw [hby.out]
          exact RowS.one wr _ 5 w.heap.size hbel.size 1 rfl
        go_ret
        exact ⟨ret_str (by rw [numT, if_neg (by omega), Int.toNat_natCast, HS.out, hst.out]), hbel.alloc hbel.size _⟩
end Go.Proofs.YtfpneopobbfabaaDoor
