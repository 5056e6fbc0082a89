/-
  Walks of strconv.ParseUint at base 10, of 4 and of 6 bits, and of the library's calls that isa makes. Condition: Go's own variables hold what their initialisers lay.
-/
import Derived.Test.YtdmoiahaekooaaaDoorIsC
import Derived.Test.YtdmoiahaekooaaaDoorShelf
import Derived.Lib.ParseIntBMem
import Derived.Laws.Strings3
import Derived.Laws.Closers25
import Derived.Laws.Closers25b
import Derived.BigCall
import Derived.BigGuard
import Derived.Lib.AtoiErrMem
import Derived.Lib.ItoaLen
import Derived.Lib.AppendIntMem
import Derived.Shelf.Unicode.PredsPay
namespace Go.Proofs.YtdmoiahaekooaaaDoor
open Go.RowKit Go.Shelf Go.Sort

/-- What isa's calls of strconv and strings ask of the world. -/
structure IsEnv (w : World) : Prop where
  pow : Lib.TabIs Tryd.prog w "internal/strconv.uint64pow10" .u64 Lib.pow10Tab
  syn : ∃ t p, w.cell? ⟨1, 0, none⟩ = some (.iface t p)
  rng : ∃ t p, w.cell? ⟨2, 0, none⟩ = some (.iface t p)
  top : ∃ m, w.cell? ⟨0, 0, none⟩ = some (.int .i64 m)
theorem cell_kept {w w' : World} {g : Nat} {v : Value} (hb : Below w.heap.size w w') (h : w.cell? ⟨g, 0, none⟩ = some v) : w'.cell? ⟨g, 0, none⟩ = some v :=
  (hb.cell (p := ⟨g, 0, none⟩) (World.block_lt_of_cell? _ _ h)).trans h
theorem IsEnv.kept {w w' : World} (h : IsEnv w) (hb : Below w.heap.size w w') : IsEnv w' where
  pow := TabIs_below (g := 3) (by kernel_rfl) h.pow hb
  syn := by obtain ⟨t, p, e⟩ := h.syn; exact ⟨t, p, cell_kept hb e⟩
  rng := by obtain ⟨t, p, e⟩ := h.rng; exact ⟨t, p, cell_kept hb e⟩
  top := by obtain ⟨m, e⟩ := h.top; exact ⟨m, cell_kept hb e⟩
/-- What strconv.ParseUint answers: the number, and an error that is nil where the text is a number of so many bits. -/
def UPost (B : Nat) (l : List UInt8) (e : Ending) : Prop := ∃ ev, e = .returned (.tuple #[.int .u64 (uN B l : Nat), ev]) ∧ (uOk B l = true → ev = .nilIface) ∧ (uOk B l = false → ∃ t p, ev = .iface t p)

set_option maxHeartbeats 8000000 in
set_option maxRecDepth 100000 in
theorem pu4_in (t : ByteArray) (hne : t.size ≠ 0) (hmax : t.size ≤ 281474976710656) (w : World) :
    Calls Tryd.prog 47 #[.string t, .int .i64 10, .int .i64 4] w fun e w' => e = .returned (Lib.uintTupleM 85 15 (Lib.parseUintM 15 0 t.data.toList)) ∧ w' = Lib.bytesWorld w 5 t := by
  have hemp : t.toList.isEmpty = false := by
    rw [← decide_eq_emptyBytes]
    exact decide_eq_false (fun h => hne (by rw [h]; rfl))
  have hcv := Lib.run_convert_string_bytes (P := Tryd.prog) w 9 68 5 t (u := .string) Tryd.underlying9 Tryd.underlying68 Tryd.underlying5
  have hB : ∀ j, j < t.size → (Lib.bytesWorld w 5 t).cell? ⟨w.heap.size, j, none⟩ = some (.int .u8 (t.data.toList.getD j 0).toNat) := fun j hj => Lib.bytesWorld_cell w 5 t j hj
  obtain ⟨W1, hW1⟩ : ∃ W1, W1 = Lib.bytesWorld w 5 t := ⟨_, rfl⟩
  rw [← hW1] at hcv hB ⊢
  clear hW1
  obtain ⟨bs, hL⟩ : ∃ bs, bs = t.data.toList := ⟨_, rfl⟩
  have hLn : bs.length = t.size := by rw [hL]; rfl
  rw [← hL] at hB ⊢
  clear hL
  have hmv : IntKind.u64.wrap (IntKind.u64.wrap 16 - 1) = 15 := by
    rw [IntKind.wrap_u64, IntKind.wrap_u64]
    decide
  go_enter Tryd.func47, Tryd.ntmps47
  go_wp2
  go_loop [12, 13, 101] (fun vu vn vi => ∃ (k acc : Nat) (a : Int), vu = .bool false ∧ vn = .int .u64 a ∧ vi = .int .i64 k ∧ k ≤ t.size ∧ Hid (a = (acc : Int) ∧ acc ≤ 15 ∧ Lib.parseUintM 15 0 bs = Lib.parseUintM 15 acc (bs.drop k)))
    (fun _ _ vi => t.size - (intOf vi).toNat)
  case atStart => exact ⟨0, 0, 0, rfl, rfl, rfl, by omega, Lib.hid ⟨rfl, by omega, rfl⟩⟩
  case round =>
    obtain ⟨k, acc, a, rfl, rfl, rfl, hk, hh⟩ := hrel
    obtain ⟨ha, hacc, hdec⟩ := hh.out
    clear hh
    have a0 : 0 ≤ a := by omega
    have a1 : a ≤ 15 := by omega
    by_cases hkn : k < t.size
    · have hc := hB k hkn
      have hdrop : bs.drop k = bs[k]'(by omega) :: bs.drop (k + 1) := List.drop_eq_getElem_cons (by omega)
      have hget : bs.getD k 0 = bs[k]'(by omega) := by simp [List.getD, List.getElem?_eq_getElem (show k < bs.length by omega)]
      rw [hdrop] at hdec
      rw [hget] at hc
      generalize bs[k]'(by omega) = c at hc hdec
      have hc256 : c.toNat < 256 := c.toNat_lt
      clear hB hdrop hget
      by_cases hdig : 48 ≤ c.toNat ∧ c.toNat ≤ 57
      · obtain ⟨hd0, hd1⟩ := hdig
        have hcut : ¬ 1844674407370955162 ≤ acc := by omega
        by_cases hov : 15 < acc * 10 + (c.toNat - 48)
        · have hF : Lib.parseUintM 15 acc (c :: bs.drop (k + 1)) = .range := by simp [Lib.parseUintM, hd0, hd1, hcut, hov]
          rw [hF] at hdec
          have iov : 15 < a * 10 + ((c.toNat : Int) - 48) := by omega
          clear hcut hacc hF hov ha
          go_wp2
          go_ret2
          exact ⟨rfl, rfl⟩
        · have hF : Lib.parseUintM 15 acc (c :: bs.drop (k + 1)) = Lib.parseUintM 15 (acc * 10 + (c.toNat - 48)) (bs.drop (k + 1)) := by simp [Lib.parseUintM, hd0, hd1, hcut, hov]
          have HN : Hid (a * 10 + ((c.toNat : Int) - 48) = ((acc * 10 + (c.toNat - 48) : Nat) : Int) ∧ acc * 10 + (c.toNat - 48) ≤ 15 ∧ Lib.parseUintM 15 0 bs = Lib.parseUintM 15 (acc * 10 + (c.toNat - 48)) (bs.drop (k + 1))) := Lib.hid ⟨by omega, by omega, hdec.trans hF⟩
          have iov : a * 10 + ((c.toNat : Int) - 48) ≤ 15 := by omega
          clear hcut hacc hF hov hdec ha
          go_wp2
          refine ⟨⟨k + 1, acc * 10 + (c.toNat - 48), a * 10 + ((c.toNat : Int) - 48), rfl, (by first | rfl | (congr 1; omega)), (by first | rfl | (congr 1; omega)), by omega, HN⟩, by simp [intOf]; omega⟩
      · have hF : Lib.uintTupleM 85 15 (Lib.parseUintM 15 acc (c :: bs.drop (k + 1))) = .tuple #[.int .u64 0, .iface 85 (.int .i64 2)] := by simp [Lib.parseUintM, hdig, Lib.uintTupleM]
        rw [← hdec] at hF
        have HF := Lib.hid hF
        clear hacc hF hdec ha
        have hv0 := bits_lo_u8 .or (c.toNat : Int) 32
        have hv1 := bits_hi_u8 .or (c.toNat : Int) 32
        have hu0 := bits_lo_u8 .or 95 32
        have hu1 := bits_hi_u8 .or 95 32
        go_wp2_with (go_at_call 61; refine (Tryd.internal_strconv_lower _ _).mono ?_; rintro e w' ⟨rfl, rfl⟩)
        all_goals go_ret2
        all_goals exact ⟨by rw [HF.out]; rfl, rfl⟩
    · have hkk : k = t.size := by omega
      subst hkk
      have hF : Lib.parseUintM 15 acc (bs.drop t.size) = .ok acc := by rw [List.drop_eq_nil_of_le (by omega)]; rfl
      rw [hF] at hdec
      subst ha
      clear hacc hF a0 a1
      go_wp2
      go_ret2
      exact ⟨rfl, rfl⟩
theorem pu4_inner (t : ByteArray) (hmax : t.size ≤ 281474976710656) (w : World) :
    Calls Tryd.prog 47 #[.string t, .int .i64 10, .int .i64 4] w fun e w' => e = .returned (Lib.uintTupleM 85 15 (Lib.parseUintB 4 t.data.toList)) ∧ Below w.heap.size w w' := by
  by_cases h0 : t.size = 0
  · have ht : t = ⟨#[]⟩ := by
      apply ByteArray.ext
      exact Array.eq_empty_of_size_eq_zero h0
    subst ht
    exact (Tryd.internal_strconv_ParseUint_empty 10 4 w).mono fun e w' ⟨he, hw⟩ => ⟨he, by rw [hw]; exact Below.refl _ _⟩
  · have hne : t.data.toList ≠ [] := fun h => h0 (by show t.data.toList.length = 0; rw [h]; rfl)
    refine (pu4_in t h0 hmax w).mono fun e w' ⟨he, hw⟩ => ⟨?_, by rw [hw]; exact Lib.bytesWorld_below _ _ _⟩
    rw [he, Lib.parseUintB, if_neg hne]
set_option maxHeartbeats 4000000 in
set_option maxRecDepth 100000 in
theorem pu4_any (s : ByteArray) (w : World) (hE : IsEnv w) (hs : s.size ≤ 281474976710656) :
    Calls Tryd.prog 32 #[.string s, .int .i64 10, .int .i64 4] w fun e w' => UPost 4 s.data.toList e ∧ Below w.heap.size w w' := by
  have hI := pu4_inner s hs w
  obtain ⟨t1, p1, hsyn⟩ := hE.syn
  obtain ⟨t2, p2, hrng⟩ := hE.rng
  have HS := Lib.hid hsyn
  have HG := Lib.hid hrng
  clear hsyn hrng hE
  unfold UPost uN uOk
  cases hr : Lib.parseUintB 4 s.data.toList with
  | ok u =>
    rw [hr] at hI
    clear hr
    have HI := Lib.hid hI
    clear hI
    go_enter Tryd.func32, Tryd.ntmps32
    go_wp2_with fail
    refine HI.out.mono ?_
    rintro e W1 ⟨rfl, hb⟩
    unfold Lib.uintTupleM
    go_wp2
    go_ret2
    exact ⟨⟨_, rfl, fun _ => rfl, fun h => by cases h⟩, hb⟩
  | range =>
    rw [hr] at hI
    clear hr
    have HI := Lib.hid hI
    clear hI
    go_enter Tryd.func32, Tryd.ntmps32
    go_wp2_with fail
    refine HI.out.mono ?_
    rintro e W1 ⟨rfl, hb⟩
    unfold Lib.uintTupleM
    have hv := Lib.hid (cell_kept hb HG.out)
    go_wp2_with fail
    refine (Tryd.strconv_toError_range _ s 10 4 _ W1 hs hv.out (.inr ⟨_, _, rfl⟩)).mono ?_
    rintro e W2 ⟨N, rfl, -, -, h3⟩
    go_wp2
    go_ret2
    exact ⟨⟨_, rfl, (fun h => by cases h), fun _ => ⟨_, _, rfl⟩⟩, hb.trans (h3.mono hb.size)⟩
  | _ =>
    rw [hr] at hI
    clear hr
    have HI := Lib.hid hI
    clear hI
    go_enter Tryd.func32, Tryd.ntmps32
    go_wp2_with fail
    refine HI.out.mono ?_
    rintro e W1 ⟨rfl, hb⟩
    unfold Lib.uintTupleM
    have hv := Lib.hid (cell_kept hb HS.out)
    go_wp2_with fail
    refine (Tryd.strconv_toError_syntax _ s 10 4 _ W1 hs hv.out (.inr ⟨_, _, rfl⟩)).mono ?_
    rintro e W2 ⟨N, rfl, -, -, h3⟩
    go_wp2
    go_ret2
    exact ⟨⟨_, rfl, (fun h => by cases h), fun _ => ⟨_, _, rfl⟩⟩, hb.trans (h3.mono hb.size)⟩

set_option maxHeartbeats 8000000 in
set_option maxRecDepth 100000 in
theorem pu6_in (t : ByteArray) (hne : t.size ≠ 0) (hmax : t.size ≤ 281474976710656) (w : World) :
    Calls Tryd.prog 47 #[.string t, .int .i64 10, .int .i64 6] w fun e w' => e = .returned (Lib.uintTupleM 85 63 (Lib.parseUintM 63 0 t.data.toList)) ∧ w' = Lib.bytesWorld w 5 t := by
  have hemp : t.toList.isEmpty = false := by
    rw [← decide_eq_emptyBytes]
    exact decide_eq_false (fun h => hne (by rw [h]; rfl))
  have hcv := Lib.run_convert_string_bytes (P := Tryd.prog) w 9 68 5 t (u := .string) Tryd.underlying9 Tryd.underlying68 Tryd.underlying5
  have hB : ∀ j, j < t.size → (Lib.bytesWorld w 5 t).cell? ⟨w.heap.size, j, none⟩ = some (.int .u8 (t.data.toList.getD j 0).toNat) := fun j hj => Lib.bytesWorld_cell w 5 t j hj
  obtain ⟨W1, hW1⟩ : ∃ W1, W1 = Lib.bytesWorld w 5 t := ⟨_, rfl⟩
  rw [← hW1] at hcv hB ⊢
  clear hW1
  obtain ⟨bs, hL⟩ : ∃ bs, bs = t.data.toList := ⟨_, rfl⟩
  have hLn : bs.length = t.size := by rw [hL]; rfl
  rw [← hL] at hB ⊢
  clear hL
  have hmv : IntKind.u64.wrap (IntKind.u64.wrap 64 - 1) = 63 := by
    rw [IntKind.wrap_u64, IntKind.wrap_u64]
    decide
  go_enter Tryd.func47, Tryd.ntmps47
  go_wp2
  go_loop [12, 13, 101] (fun vu vn vi => ∃ (k acc : Nat) (a : Int), vu = .bool false ∧ vn = .int .u64 a ∧ vi = .int .i64 k ∧ k ≤ t.size ∧ Hid (a = (acc : Int) ∧ acc ≤ 63 ∧ Lib.parseUintM 63 0 bs = Lib.parseUintM 63 acc (bs.drop k)))
    (fun _ _ vi => t.size - (intOf vi).toNat)
  case atStart => exact ⟨0, 0, 0, rfl, rfl, rfl, by omega, Lib.hid ⟨rfl, by omega, rfl⟩⟩
  case round =>
    obtain ⟨k, acc, a, rfl, rfl, rfl, hk, hh⟩ := hrel
    obtain ⟨ha, hacc, hdec⟩ := hh.out
    clear hh
    have a0 : 0 ≤ a := by omega
    have a1 : a ≤ 63 := by omega
    by_cases hkn : k < t.size
    · have hc := hB k hkn
      have hdrop : bs.drop k = bs[k]'(by omega) :: bs.drop (k + 1) := List.drop_eq_getElem_cons (by omega)
      have hget : bs.getD k 0 = bs[k]'(by omega) := by simp [List.getD, List.getElem?_eq_getElem (show k < bs.length by omega)]
      rw [hdrop] at hdec
      rw [hget] at hc
      generalize bs[k]'(by omega) = c at hc hdec
      have hc256 : c.toNat < 256 := c.toNat_lt
      clear hB hdrop hget
      by_cases hdig : 48 ≤ c.toNat ∧ c.toNat ≤ 57
      · obtain ⟨hd0, hd1⟩ := hdig
        have hcut : ¬ 1844674407370955162 ≤ acc := by omega
        by_cases hov : 63 < acc * 10 + (c.toNat - 48)
        · have hF : Lib.parseUintM 63 acc (c :: bs.drop (k + 1)) = .range := by simp [Lib.parseUintM, hd0, hd1, hcut, hov]
          rw [hF] at hdec
          have iov : 63 < a * 10 + ((c.toNat : Int) - 48) := by omega
          clear hcut hacc hF hov ha
          go_wp2
          go_ret2
          exact ⟨rfl, rfl⟩
        · have hF : Lib.parseUintM 63 acc (c :: bs.drop (k + 1)) = Lib.parseUintM 63 (acc * 10 + (c.toNat - 48)) (bs.drop (k + 1)) := by simp [Lib.parseUintM, hd0, hd1, hcut, hov]
          have HN : Hid (a * 10 + ((c.toNat : Int) - 48) = ((acc * 10 + (c.toNat - 48) : Nat) : Int) ∧ acc * 10 + (c.toNat - 48) ≤ 63 ∧ Lib.parseUintM 63 0 bs = Lib.parseUintM 63 (acc * 10 + (c.toNat - 48)) (bs.drop (k + 1))) := Lib.hid ⟨by omega, by omega, hdec.trans hF⟩
          have iov : a * 10 + ((c.toNat : Int) - 48) ≤ 63 := by omega
          clear hcut hacc hF hov hdec ha
          go_wp2
          refine ⟨⟨k + 1, acc * 10 + (c.toNat - 48), a * 10 + ((c.toNat : Int) - 48), rfl, (by first | rfl | (congr 1; omega)), (by first | rfl | (congr 1; omega)), by omega, HN⟩, by simp [intOf]; omega⟩
      · have hF : Lib.uintTupleM 85 63 (Lib.parseUintM 63 acc (c :: bs.drop (k + 1))) = .tuple #[.int .u64 0, .iface 85 (.int .i64 2)] := by simp [Lib.parseUintM, hdig, Lib.uintTupleM]
        rw [← hdec] at hF
        have HF := Lib.hid hF
        clear hacc hF hdec ha
        have hv0 := bits_lo_u8 .or (c.toNat : Int) 32
        have hv1 := bits_hi_u8 .or (c.toNat : Int) 32
        have hu0 := bits_lo_u8 .or 95 32
        have hu1 := bits_hi_u8 .or 95 32
        go_wp2_with (go_at_call 61; refine (Tryd.internal_strconv_lower _ _).mono ?_; rintro e w' ⟨rfl, rfl⟩)
        all_goals go_ret2
        all_goals exact ⟨by rw [HF.out]; rfl, rfl⟩
    · have hkk : k = t.size := by omega
      subst hkk
      have hF : Lib.parseUintM 63 acc (bs.drop t.size) = .ok acc := by rw [List.drop_eq_nil_of_le (by omega)]; rfl
      rw [hF] at hdec
      subst ha
      clear hacc hF a0 a1
      go_wp2
      go_ret2
      exact ⟨rfl, rfl⟩
theorem pu6_inner (t : ByteArray) (hmax : t.size ≤ 281474976710656) (w : World) :
    Calls Tryd.prog 47 #[.string t, .int .i64 10, .int .i64 6] w fun e w' => e = .returned (Lib.uintTupleM 85 63 (Lib.parseUintB 6 t.data.toList)) ∧ Below w.heap.size w w' := by
  by_cases h0 : t.size = 0
  · have ht : t = ⟨#[]⟩ := by
      apply ByteArray.ext
      exact Array.eq_empty_of_size_eq_zero h0
    subst ht
    exact (Tryd.internal_strconv_ParseUint_empty 10 6 w).mono fun e w' ⟨he, hw⟩ => ⟨he, by rw [hw]; exact Below.refl _ _⟩
  · have hne : t.data.toList ≠ [] := fun h => h0 (by show t.data.toList.length = 0; rw [h]; rfl)
    refine (pu6_in t h0 hmax w).mono fun e w' ⟨he, hw⟩ => ⟨?_, by rw [hw]; exact Lib.bytesWorld_below _ _ _⟩
    rw [he, Lib.parseUintB, if_neg hne]
set_option maxHeartbeats 4000000 in
set_option maxRecDepth 100000 in
theorem pu6_any (s : ByteArray) (w : World) (hE : IsEnv w) (hs : s.size ≤ 281474976710656) :
    Calls Tryd.prog 32 #[.string s, .int .i64 10, .int .i64 6] w fun e w' => UPost 6 s.data.toList e ∧ Below w.heap.size w w' := by
  have hI := pu6_inner s hs w
  obtain ⟨t1, p1, hsyn⟩ := hE.syn
  obtain ⟨t2, p2, hrng⟩ := hE.rng
  have HS := Lib.hid hsyn
  have HG := Lib.hid hrng
  clear hsyn hrng hE
  unfold UPost uN uOk
  cases hr : Lib.parseUintB 6 s.data.toList with
  | ok u =>
    rw [hr] at hI
    clear hr
    have HI := Lib.hid hI
    clear hI
    go_enter Tryd.func32, Tryd.ntmps32
    go_wp2_with fail
    refine HI.out.mono ?_
    rintro e W1 ⟨rfl, hb⟩
    unfold Lib.uintTupleM
    go_wp2
    go_ret2
    exact ⟨⟨_, rfl, fun _ => rfl, fun h => by cases h⟩, hb⟩
  | range =>
    rw [hr] at hI
    clear hr
    have HI := Lib.hid hI
    clear hI
    go_enter Tryd.func32, Tryd.ntmps32
    go_wp2_with fail
    refine HI.out.mono ?_
    rintro e W1 ⟨rfl, hb⟩
    unfold Lib.uintTupleM
    have hv := Lib.hid (cell_kept hb HG.out)
    go_wp2_with fail
    refine (Tryd.strconv_toError_range _ s 10 6 _ W1 hs hv.out (.inr ⟨_, _, rfl⟩)).mono ?_
    rintro e W2 ⟨N, rfl, -, -, h3⟩
    go_wp2
    go_ret2
    exact ⟨⟨_, rfl, (fun h => by cases h), fun _ => ⟨_, _, rfl⟩⟩, hb.trans (h3.mono hb.size)⟩
  | _ =>
    rw [hr] at hI
    clear hr
    have HI := Lib.hid hI
    clear hI
    go_enter Tryd.func32, Tryd.ntmps32
    go_wp2_with fail
    refine HI.out.mono ?_
    rintro e W1 ⟨rfl, hb⟩
    unfold Lib.uintTupleM
    have hv := Lib.hid (cell_kept hb HS.out)
    go_wp2_with fail
    refine (Tryd.strconv_toError_syntax _ s 10 6 _ W1 hs hv.out (.inr ⟨_, _, rfl⟩)).mono ?_
    rintro e W2 ⟨N, rfl, -, -, h3⟩
    go_wp2
    go_ret2
    exact ⟨⟨_, rfl, (fun h => by cases h), fun _ => ⟨_, _, rfl⟩⟩, hb.trans (h3.mono hb.size)⟩
end Go.Proofs.YtdmoiahaekooaaaDoor
