/-
  Walk of the document's Text (windrowref16). No condition but that an instruction's fields are such.
-/
import Derived.Test.YtdmoiahaekooaaaDoorIsX
namespace Go.Proofs.YtdmoiahaekooaaaDoor
open Go.RowKit Go.Shelf Go.Sort

def accT (N : List UInt8) (ps : List (List UInt8)) : List UInt8 := if ps = [] then N else N ++ [32] ++ Lib.join ps [44, 32]
theorem joinTail_snoc (sep : List UInt8) (r : List (List UInt8)) (p : List UInt8) : Lib.joinTail sep (r ++ [p]) = Lib.joinTail sep r ++ (sep ++ p) := by
  unfold Lib.joinTail
  simp
theorem accT_next (N : List UInt8) (ps : List (List UInt8)) (p : List UInt8) : accT N (ps ++ [p]) = accT N ps ++ ((if ps = [] then [32] else [44, 32]) ++ p) := by
  unfold accT
  rw [if_neg (by simp)]
  cases ps with
  | nil => simp [Lib.join_one]
  | cons x r =>
    rw [if_neg (List.cons_ne_nil _ _), if_neg (List.cons_ne_nil _ _), List.cons_append, Lib.join_cons, Lib.join_cons, joinTail_snoc]
    simp
theorem accT_len (N : List UInt8) (P : UInt8 → List UInt8) (hP : ∀ c, (P c).length ≤ 21) (L : List UInt8) : ∀ k, k ≤ L.length → (accT N ((L.take k).map P)).length ≤ N.length + 23 * k
  | 0, _ => by simp [accT]
  | k + 1, h => by
    have ih := accT_len N P hP L k (by omega)
    have hc : L[k]? = some L[k] := List.getElem?_eq_getElem (by omega)
    rw [take_next hc, List.map_append, List.map_cons, List.map_nil, accT_next]
    have := hP L[k]
    simp only [List.length_append]
    split
    · simp only [List.length_cons, List.length_nil]; omega
    · simp only [List.length_cons, List.length_nil]; omega
theorem has_letter : ∀ op : Fin 256, ∀ c ∈ (hasI op.val).2, c = 97 ∨ c = 98 ∨ c = 99 ∨ c = 105 ∨ (c = 110 ∧ 64 ≤ op.val ∧ op.val < 192) := by decide +kernel
set_option maxHeartbeats 4000000 in
set_option maxRecDepth 100000 in
theorem rText_any (i : Ins) (hk : i.ok) (w : World) : Calls Tryd.prog 11 #[insV i] w fun e w' => TextPost i e ∧ Below w.heap.size w w' := by
  have HR := Lib.hid (fun w => rRight_any i hk w)
  have HH := Lib.hid (rhas_any i.op hk.1)
  unfold HasPostR at HH
  unfold TextPost
  cases hr : rightI i with
  | false =>
    rw [hr] at HR
    clear hr HH
    obtain ⟨op, a, b, c, imm⟩ := i
    unfold insV insA at *
    dsimp only at HR ⊢
    go_enter Tryd.func11, Tryd.ntmps11
    go_wp2_with fail
    refine (HR.out _).mono ?_
    rintro _ w1 ⟨rfl, hb⟩
    have Z := Lib.hid (((Below.refl _ w).alloc (Nat.le_refl _) _).trans (hb.mono (by simp)))
    clear hb
    go_wp2_with fail
    go_ret2
    exact ⟨rfl, Z.out⟩
  | true =>
    have hln := has_len ⟨i.op, hk.1⟩
    dsimp only at hln
    have HPl : Hid (∀ c, (partI i c).length ≤ 21) := Lib.hid (fun c => part_len hk hr c)
    have HA := Lib.hid (fun k h => accT_len (hasI i.op).1 (partI i) (fun c => part_len hk hr c) (hasI i.op).2 k h)
    have HT : Hid (textI i = accT (hasI i.op).1 ((hasI i.op).2.map (partI i))) := Lib.hid (by unfold textI accT; simp only [List.map_eq_nil_iff])
    have HC : Hid (∀ c ∈ (hasI i.op).2, ∀ w, Calls Tryd.prog 26 #[insV i, .int .u8 (upL c).toNat] w fun e w' => e = .returned (.string (mkS (partI i c))) ∧ Below w.heap.size w w') := Lib.hid (fun c hc w => part_any i c hk (has_letter ⟨i.op, hk.1⟩ c hc) w)
    have hlL : (hasI i.op).2.length ≤ 5 := by
      have hl := has_letters ⟨i.op, hk.1⟩
      dsimp only at hl
      simp only [List.mem_cons, List.not_mem_nil, or_false] at hl
      rcases hl with h | h | h | h | h | h | h <;> rw [h] <;> simp
    rw [hr] at HR
    clear hr
    generalize textI i = T at HT ⊢
    generalize partI i = P at HT HA HC HPl
    generalize hasI i.op = H at HT HA HC HH hln hlL
    obtain ⟨N, L⟩ := H
    dsimp only at HT HA HC HH hln hlL
    obtain ⟨S, hS⟩ : ∃ S, S = mkS (L.map upL) := ⟨_, rfl⟩
    rw [← hS] at HH
    have hSz : S.size = L.length := by rw [hS, mkS_size, List.length_map]
    have HSk : Hid (∀ k (h : k < S.size) c, L[k]? = some c → S[k] = upL c) := Lib.hid (fun k h c hc => by
      subst hS
      exact get_mkS (by rw [List.getElem?_map, hc]; rfl))
    have HSz := Lib.hid hSz
    clear hS
    have hSs : S.size ≤ 5 := by omega
    clear hSz
    obtain ⟨op, a, b, c, imm⟩ := i
    obtain ⟨k1, k2, k3, k4, k5, k6⟩ := hk
    unfold insV insA at HR HC ⊢
    dsimp only at HR HC HH ⊢
    go_enter Tryd.func11, Tryd.ntmps11
    go_wp2_with fail
    refine (HR.out _).mono ?_
    rintro _ w1 ⟨rfl, hb⟩
    have hB : Blk w1 w.heap.size 23 (insA ⟨op, a, b, c, imm⟩) := (Blk.new w _ _ rfl).below hb
    have Z := Lib.hid (((Below.refl _ w).alloc (Nat.le_refl _) _).trans (hb.mono (by simp)))
    have c0 : w1.cell? ⟨w.heap.size, 0, none⟩ = some (.int .u8 op) := hB.cell 0
    have HB := Lib.hid hB
    clear hb hB HR
    go_wp2_with fail
    refine (HH.out _).mono ?_
    rintro _ _ ⟨rfl, rfl⟩
    clear HH
    go_wp2_with fail
    clear c0
    go_loopw [4, 6] (fun s i wr => ∃ k : Nat, k ≤ S.size ∧ s = .string (mkS (accT N ((L.take k).map P))) ∧ i = .int .i64 k ∧ Blk wr w.heap.size 23 (insA ⟨op, a, b, c, imm⟩) ∧ Below w.heap.size w wr) (fun _ i _ => S.size - (intOf i).toNat)
    case atStart => exact ⟨0, Nat.zero_le _, rfl, rfl, HB.out, Z.out⟩
    case round =>
      obtain ⟨k, hkk, rfl, rfl, hB1, hbel⟩ := hrel
      have HZ := Lib.hid hbel
      have HBr := Lib.hid hB1
      by_cases hp : k < S.size
      · obtain ⟨x, hx⟩ : ∃ x, L[k]? = some x := ⟨L[k]'(by have := HSz.out; omega), List.getElem?_eq_getElem _⟩
        have hCp := HC.out x (List.mem_of_getElem? hx)
        rw [← HSk.out k hp x hx] at hCp
        have HCp := Lib.hid hCp
        have hal := HA.out k (by have := HSz.out; omega)
        have HN : Hid (accT N ((L.take (k + 1)).map P) = accT N ((L.take k).map P) ++ ((if k = 0 then [32] else [44, 32]) ++ P x)) := Lib.hid (by
          rw [take_next hx, List.map_append, List.map_cons, List.map_nil, accT_next]
          have e : ((L.take k).map P = []) = (k = 0) := by
            rw [List.map_eq_nil_iff, List.take_eq_nil_iff]
            have := HSz.out
            apply propext
            constructor
            · rintro (h | h)
              · exact h
              · rw [h] at this; rw [this] at hp; exact absurd hp (Nat.not_lt_zero _)
            · exact fun h => .inl h
          simp only [e])
        have hpl := HPl.out x
        obtain ⟨A2, ha2⟩ : ∃ A2, A2 = accT N ((L.take (k + 1)).map P) := ⟨_, rfl⟩
        rw [← ha2] at HN
        have hA2 : Hid (accT N ((L.take (k + 1)).map P) = A2) := Lib.hid ha2.symm
        clear ha2
        generalize accT N ((L.take k).map P) = A at *
        generalize P x = X at *
        have c0 : wr.cell? ⟨w.heap.size, 0, none⟩ = some (.int .u8 op) := hB1.cell 0
        have c1 : wr.cell? ⟨w.heap.size, 1, none⟩ = some (.int .u8 a) := hB1.cell 1
        have c2 : wr.cell? ⟨w.heap.size, 2, none⟩ = some (.int .u8 b) := hB1.cell 2
        have c3 : wr.cell? ⟨w.heap.size, 3, none⟩ = some (.int .u8 c) := hB1.cell 3
        have c4 : wr.cell? ⟨w.heap.size, 4, none⟩ = some (.int .i32 imm) := hB1.cell 4
        have hlB := hB1.lt
        have hp1 : (k : Int) < S.size := by omega
        have hp2 : decide ((k : Int) < S.size) = true := decide_eq_true hp1
        have hp3 : (0 : Int) ≤ k := by omega
        have HP1 := Lib.hid hp
        clear hbel hB1 hx hCp
        by_cases hk0 : k = 0
        · subst hk0
          have hadd1 : ∀ W, (Op.stringOp .add (mkS A) (⟨#[32]⟩ : ByteArray)).run Tryd.prog W = .ok (.string (mkS (A ++ [32]))) W := fun W => by
            have := run_string_add_sum (P := Tryd.prog) W (mkS A) (mkS [32]) (by simp only [mkS_size, List.length_cons, List.length_nil]; omega)
            rwa [mk_append] at this
          have hadd2 : ∀ W, (Op.stringOp .add (mkS (A ++ [32])) (mkS X)).run Tryd.prog W = .ok (.string (mkS (A ++ ([32] ++ X)))) W := fun W => by
            have := run_string_add_sum (P := Tryd.prog) W (mkS (A ++ [32])) (mkS X) (by simp only [mkS_size, List.length_append, List.length_cons, List.length_nil]; omega)
            rwa [mk_append, List.append_assoc] at this
          go_upto_region 8 with fail
          go_region_held3 (fun wy => wy.cell? ⟨w.heap.size, 0, none⟩ = some (.int .u8 op) ∧ wy.cell? ⟨w.heap.size, 1, none⟩ = some (.int .u8 a) ∧ wy.cell? ⟨w.heap.size, 2, none⟩ = some (.int .u8 b) ∧ wy.cell? ⟨w.heap.size, 3, none⟩ = some (.int .u8 c) ∧ wy.cell? ⟨w.heap.size, 4, none⟩ = some (.int .i32 imm))
            (first | go_keep)
            (first | (go_at_call 26; refine (HCp.out _).mono ?_; rintro _ w9 ⟨rfl, hb9⟩; have e0 := (hb9.cell (p := ⟨w.heap.size, 0, none⟩) hlB).trans c0; have e1 := (hb9.cell (p := ⟨w.heap.size, 1, none⟩) hlB).trans c1; have e2 := (hb9.cell (p := ⟨w.heap.size, 2, none⟩) hlB).trans c2; have e3 := (hb9.cell (p := ⟨w.heap.size, 3, none⟩) hlB).trans c3; have e4 := (hb9.cell (p := ⟨w.heap.size, 4, none⟩) hlB).trans c4))
          all_goals
            go_wp2_with fail
            go_roundw
            case rel =>
              refine ⟨0 + 1, HP1.out, ?_, by go_num, by first | exact HBr.out.below hb9 | exact (show Blk wr.drew _ _ _ from HBr.out).below hb9, by first | exact HZ.out.trans (hb9.mono HZ.out.size) | exact HZ.out.drew.trans (hb9.mono HZ.out.drew.size)⟩
              have hN := HN.out
              simp only [if_true] at hN
              rw [hA2.out, hN]
              rfl
            case measure => simp [intOf]; omega
        · have hk1 : ¬ (k : Int) = 0 := by omega
          have hk2 : ((k : Int) == 0) = false := by rw [beq_eq_false_iff_ne]; exact hk1
          have hadd1 : ∀ W, (Op.stringOp .add (mkS A) (⟨#[44, 32]⟩ : ByteArray)).run Tryd.prog W = .ok (.string (mkS (A ++ [44, 32]))) W := fun W => by
            have := run_string_add_sum (P := Tryd.prog) W (mkS A) (mkS [44, 32]) (by simp only [mkS_size, List.length_cons, List.length_nil]; omega)
            rwa [mk_append] at this
          have hadd2 : ∀ W, (Op.stringOp .add (mkS (A ++ [44, 32])) (mkS X)).run Tryd.prog W = .ok (.string (mkS (A ++ ([44, 32] ++ X)))) W := fun W => by
            have := run_string_add_sum (P := Tryd.prog) W (mkS (A ++ [44, 32])) (mkS X) (by simp only [mkS_size, List.length_append, List.length_cons, List.length_nil]; omega)
            rwa [mk_append, List.append_assoc] at this
          go_upto_region 9 with fail
          go_region_held3 (fun wy => wy.cell? ⟨w.heap.size, 0, none⟩ = some (.int .u8 op) ∧ wy.cell? ⟨w.heap.size, 1, none⟩ = some (.int .u8 a) ∧ wy.cell? ⟨w.heap.size, 2, none⟩ = some (.int .u8 b) ∧ wy.cell? ⟨w.heap.size, 3, none⟩ = some (.int .u8 c) ∧ wy.cell? ⟨w.heap.size, 4, none⟩ = some (.int .i32 imm))
            (first | go_keep)
            (first | (go_at_call 26; refine (HCp.out _).mono ?_; rintro _ w9 ⟨rfl, hb9⟩; have e0 := (hb9.cell (p := ⟨w.heap.size, 0, none⟩) hlB).trans c0; have e1 := (hb9.cell (p := ⟨w.heap.size, 1, none⟩) hlB).trans c1; have e2 := (hb9.cell (p := ⟨w.heap.size, 2, none⟩) hlB).trans c2; have e3 := (hb9.cell (p := ⟨w.heap.size, 3, none⟩) hlB).trans c3; have e4 := (hb9.cell (p := ⟨w.heap.size, 4, none⟩) hlB).trans c4))
          all_goals
            go_wp2_with fail
            go_roundw
            case rel =>
              refine ⟨k + 1, HP1.out, ?_, by go_num, by first | exact HBr.out.below hb9 | exact (show Blk wr.drew _ _ _ from HBr.out).below hb9, by first | exact HZ.out.trans (hb9.mono HZ.out.size) | exact HZ.out.drew.trans (hb9.mono HZ.out.drew.size)⟩
              have hN := HN.out
              rw [if_neg hk0] at hN
              rw [hA2.out, hN]
              rfl
            case measure => simp [intOf]; omega
      · obtain rfl : k = S.size := by omega
        have HE : Hid (mkS (accT N ((L.take S.size).map P)) = mkS T) := Lib.hid (by rw [HT.out, HSz.out, List.take_length])
        generalize accT N ((L.take S.size).map P) = A at *
        clear hbel hB1
        go_wp2_with fail
        go_ret2
        exact ⟨by rw [← HE.out]; rfl, HZ.out⟩
end Go.Proofs.YtdmoiahaekooaaaDoor
