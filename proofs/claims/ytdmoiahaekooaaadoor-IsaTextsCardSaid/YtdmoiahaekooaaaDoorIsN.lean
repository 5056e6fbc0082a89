/-
  Walk of the law IsaReads. Condition: Go's own variables hold what their initialisers lay.
-/
import Derived.Test.YtdmoiahaekooaaaDoorIsH
namespace Go.Proofs.YtdmoiahaekooaaaDoor
open Go.RowKit Go.Shelf Go.Sort

theorem fillOne_ok2 {i j : Ins} {c : UInt8} {p : List UInt8} (hk : i.ok) (h : fillOne i c p = some j) : j.ok := by
  obtain ⟨k1, k2, k3, k4, k5, k6⟩ := hk
  by_cases hc : c = 105
  · subst hc
    by_cases hv : ∃ v, Lib.parseIntB 32 p = .ok v
    · obtain ⟨v, hv⟩ := hv
      rw [(fillOne_i i p).1 v hv] at h
      injection h with h
      subst h
      have := parseI_range hv
      exact ⟨k1, k2, k3, k4, this.1, this.2⟩
    · rw [(fillOne_i i p).2 (fun v h => hv ⟨v, h⟩)] at h
      cases h
  · rw [fillOne_u i c p hc] at h
    have hu := uN_le 4 (trimR p)
    split at h
    · injection h with h
      subst h
      split
      · exact ⟨k1, by dsimp only; omega, k3, k4, k5, k6⟩
      split
      · exact ⟨k1, k2, by dsimp only; omega, k4, k5, k6⟩
      split
      · exact ⟨k1, k2, k3, by dsimp only; omega, k5, k6⟩
      · exact ⟨k1, k2, k3, k4, k5, k6⟩
    · cases h
theorem fillI_ok : ∀ (cs : List UInt8) (ps : List (List UInt8)) (i j : Ins), i.ok → fillI i cs ps = some j → j.ok
  | c :: cs, p :: ps, i, j, hk, h => by
    simp only [fillI] at h
    split at h
    · rename_i k hk1
      exact fillI_ok cs ps k j (fillOne_ok2 hk hk1) h
    · cases h
  | [], ps, i, j, hk, h => by
    cases ps <;> (simp only [fillI, Option.some.injEq] at h; rwa [← h])
  | _ :: _, [], i, j, hk, h => by
    simp only [fillI, Option.some.injEq] at h
    rwa [← h]
theorem read_ok {s : List UInt8} {j : Ins} (h : readI s = some j) : j.ok := by
  unfold readI at h
  split at h
  · rename_i i hc
    split at h
    · injection h with h
      subst h
      unfold candI at hc
      split at hc
      · cases hc
      · split at hc
        · cases hc
        · exact fillI_ok _ _ _ _ (zero_ok (opI_lt _ _)) hc
    · cases h
  · cases h
set_option maxRecDepth 100000 in
set_option maxHeartbeats 4000000 in
theorem Reads_any (i : Ins) (s : ByteArray) (w : World) (hi : i.ok) (hs : s.size ≤ maxLen) (hE : IsEnv w) : Calls Tryd.prog 4 #[insV i, .string s] w fun e w' => e = .returned (.bool true) ∧ Below w.heap.size w w' := by
  obtain ⟨l, rfl⟩ : ∃ l, s = mkS l := ⟨s.data.toList, (mkS_of s).symm⟩
  rw [mkS_size] at hs
  have HE := Lib.hid hE
  clear hE
  have HTi := Lib.hid (fun w hE => Text_any i hi w hE)
  have HRs := Lib.hid (fun w hE => Read_any l hs w hE)
  have HRi : Hid (rightI i = true → ∀ w, IsEnv w → Calls Tryd.prog 12 #[.string (mkS (textI i))] w fun e w' => e = .returned (.tuple #[insV i, .int .i64 0]) ∧ Below w.heap.size w w') := Lib.hid (fun hr w hE => (Read_any (textI i) (by have := text_len hi hr; unfold maxLen; omega) w hE).mono (fun e w' h => ⟨by have h1 := h.1; unfold ReadPost at h1; rw [h1, read_text hi hr]; rfl, h.2⟩))
  have HTe : Hid (rightI i = false ∨ textI i ≠ []) := Lib.hid (by
    by_cases hr : rightI i = true
    · right
      have h0 := right_op hr
      unfold textI
      split
      · exact h0
      · simp
    · left; simpa using hr)
  have hR : (readI l = none) ∨ ∃ j, readI l = some j ∧ j.ok ∧ rightI j = true ∧ textI j = l := by
    cases h : readI l with
    | none => exact .inl rfl
    | some j => exact .inr ⟨j, rfl, read_ok h, read_some h⟩
  unfold ReadPost at HRs
  unfold TextPost at HTi
  generalize textI i = ti at *
  obtain ⟨op1, a1, b1, c1, m1⟩ := i
  cases hri : rightI ⟨op1, a1, b1, c1, m1⟩ with
  | false =>
    rw [hri] at HTi HRi HTe
    simp only [Bool.false_eq_true, if_false] at HTi
    unfold insV insA at HTi ⊢
    dsimp only at HTi ⊢
    have n0 : (mkS []).toList = [] := by rw [ByteArray.toList_eq, mkS_toList]
    have n2 : (mkS []).toList.isEmpty = true := by rw [n0]; rfl
    clear hri HRi HTe hi n0
    rcases hR with hR | ⟨j, hR, hjk, hjr, hjt⟩
    · rw [hR] at HRs
      clear hR
      have HRs : Hid (∀ w, IsEnv w → Calls Tryd.prog 12 #[.string (mkS l)] w fun e w' => e = .returned (.tuple #[.agg #[.int .u8 0, .int .u8 0, .int .u8 0, .int .u8 0, .int .i32 0], .int .i64 151]) ∧ Below w.heap.size w w') := Lib.hid HRs.out
      have HI := Lib.hid (Blk.new w 23 (insA ⟨op1, a1, b1, c1, m1⟩) rfl)
      have Z0 := Lib.hid ((Below.refl _ w).alloc (Nat.le_refl _) (.cells (insA ⟨op1, a1, b1, c1, m1⟩) 23))
      go_enter Tryd.func4, Tryd.ntmps4
      go_wp2_with fail
      refine (shown_any _ (HE.out.kept Z0.out)).mono ?_
      rintro _ x1 ⟨rfl, y1⟩
      have HI := Lib.hid (HI.out.below y1)
      have Z0 := Lib.hid (Z0.out.trans (y1.mono Z0.out.size))
      clear y1
      have kI0 : x1.cell? ⟨w.heap.size, 0, none⟩ = some (.int .u8 op1) := HI.out.cell 0
      have kI1 : x1.cell? ⟨w.heap.size, 1, none⟩ = some (.int .u8 a1) := HI.out.cell 1
      have kI2 : x1.cell? ⟨w.heap.size, 2, none⟩ = some (.int .u8 b1) := HI.out.cell 2
      have kI3 : x1.cell? ⟨w.heap.size, 3, none⟩ = some (.int .u8 c1) := HI.out.cell 3
      have kI4 : x1.cell? ⟨w.heap.size, 4, none⟩ = some (.int .i32 m1) := HI.out.cell 4
      have lI : w.heap.size < x1.heap.size := HI.out.lt
      go_wp2_with fail
      refine (HTi.out _ (HE.out.kept Z0.out)).mono ?_
      rintro _ x2 ⟨rfl, y2⟩
      clear kI0 kI1 kI2 kI3 kI4 lI
      have HI := Lib.hid (HI.out.below y2)
      have Z0 := Lib.hid (Z0.out.trans (y2.mono Z0.out.size))
      clear y2
      have kI0 : x2.cell? ⟨w.heap.size, 0, none⟩ = some (.int .u8 op1) := HI.out.cell 0
      have kI1 : x2.cell? ⟨w.heap.size, 1, none⟩ = some (.int .u8 a1) := HI.out.cell 1
      have kI2 : x2.cell? ⟨w.heap.size, 2, none⟩ = some (.int .u8 b1) := HI.out.cell 2
      have kI3 : x2.cell? ⟨w.heap.size, 3, none⟩ = some (.int .u8 c1) := HI.out.cell 3
      have kI4 : x2.cell? ⟨w.heap.size, 4, none⟩ = some (.int .i32 m1) := HI.out.cell 4
      have lI : w.heap.size < x2.heap.size := HI.out.lt
      go_wp2_with fail
      refine (HRs.out _ (HE.out.kept Z0.out)).mono ?_
      rintro _ x3 ⟨rfl, y3⟩
      clear kI0 kI1 kI2 kI3 kI4 lI
      have HI := Lib.hid (HI.out.below y3)
      have Z0 := Lib.hid (Z0.out.trans (y3.mono Z0.out.size))
      clear y3
      have kI0 : x3.cell? ⟨w.heap.size, 0, none⟩ = some (.int .u8 op1) := HI.out.cell 0
      have kI1 : x3.cell? ⟨w.heap.size, 1, none⟩ = some (.int .u8 a1) := HI.out.cell 1
      have kI2 : x3.cell? ⟨w.heap.size, 2, none⟩ = some (.int .u8 b1) := HI.out.cell 2
      have kI3 : x3.cell? ⟨w.heap.size, 3, none⟩ = some (.int .u8 c1) := HI.out.cell 3
      have kI4 : x3.cell? ⟨w.heap.size, 4, none⟩ = some (.int .i32 m1) := HI.out.cell 4
      have lI : w.heap.size < x3.heap.size := HI.out.lt
      have HI := Lib.hid (HI.out.alloc (.cells (insA ⟨0, 0, 0, 0, 0⟩) 23))
      have HK := Lib.hid (Blk.new x3 23 (insA ⟨0, 0, 0, 0, 0⟩) rfl)
      have Z0 := Lib.hid (Z0.out.alloc Z0.out.size (.cells (insA ⟨0, 0, 0, 0, 0⟩) 23))
      go_wp2_with fail
      go_ret
      exact ⟨rfl, Z0.out⟩
    · have HTj := Lib.hid (fun w hE => Text_any j hjk w hE)
      unfold TextPost at HTj
      rw [hjr, hjt] at HTj
      rw [hR] at HRs
      clear hR hjk hjr hjt
      obtain ⟨op2, a2, b2, c2, m2⟩ := j
      have HRs : Hid (∀ w, IsEnv w → Calls Tryd.prog 12 #[.string (mkS l)] w fun e w' => e = .returned (.tuple #[.agg #[.int .u8 op2, .int .u8 a2, .int .u8 b2, .int .u8 c2, .int .i32 m2], .int .i64 0]) ∧ Below w.heap.size w w') := Lib.hid HRs.out
      simp only [if_true] at HTj
      unfold insV insA at HTj
      dsimp only at HTj
      have HI := Lib.hid (Blk.new w 23 (insA ⟨op1, a1, b1, c1, m1⟩) rfl)
      have Z0 := Lib.hid ((Below.refl _ w).alloc (Nat.le_refl _) (.cells (insA ⟨op1, a1, b1, c1, m1⟩) 23))
      go_enter Tryd.func4, Tryd.ntmps4
      go_wp2_with fail
      refine (shown_any _ (HE.out.kept Z0.out)).mono ?_
      rintro _ x1 ⟨rfl, y1⟩
      have HI := Lib.hid (HI.out.below y1)
      have Z0 := Lib.hid (Z0.out.trans (y1.mono Z0.out.size))
      clear y1
      have kI0 : x1.cell? ⟨w.heap.size, 0, none⟩ = some (.int .u8 op1) := HI.out.cell 0
      have kI1 : x1.cell? ⟨w.heap.size, 1, none⟩ = some (.int .u8 a1) := HI.out.cell 1
      have kI2 : x1.cell? ⟨w.heap.size, 2, none⟩ = some (.int .u8 b1) := HI.out.cell 2
      have kI3 : x1.cell? ⟨w.heap.size, 3, none⟩ = some (.int .u8 c1) := HI.out.cell 3
      have kI4 : x1.cell? ⟨w.heap.size, 4, none⟩ = some (.int .i32 m1) := HI.out.cell 4
      have lI : w.heap.size < x1.heap.size := HI.out.lt
      go_wp2_with fail
      refine (HTi.out _ (HE.out.kept Z0.out)).mono ?_
      rintro _ x2 ⟨rfl, y2⟩
      clear kI0 kI1 kI2 kI3 kI4 lI
      have HI := Lib.hid (HI.out.below y2)
      have Z0 := Lib.hid (Z0.out.trans (y2.mono Z0.out.size))
      clear y2
      have kI0 : x2.cell? ⟨w.heap.size, 0, none⟩ = some (.int .u8 op1) := HI.out.cell 0
      have kI1 : x2.cell? ⟨w.heap.size, 1, none⟩ = some (.int .u8 a1) := HI.out.cell 1
      have kI2 : x2.cell? ⟨w.heap.size, 2, none⟩ = some (.int .u8 b1) := HI.out.cell 2
      have kI3 : x2.cell? ⟨w.heap.size, 3, none⟩ = some (.int .u8 c1) := HI.out.cell 3
      have kI4 : x2.cell? ⟨w.heap.size, 4, none⟩ = some (.int .i32 m1) := HI.out.cell 4
      have lI : w.heap.size < x2.heap.size := HI.out.lt
      go_wp2_with fail
      refine (HRs.out _ (HE.out.kept Z0.out)).mono ?_
      rintro _ x3 ⟨rfl, y3⟩
      clear kI0 kI1 kI2 kI3 kI4 lI
      have HI := Lib.hid (HI.out.below y3)
      have Z0 := Lib.hid (Z0.out.trans (y3.mono Z0.out.size))
      clear y3
      have kI0 : x3.cell? ⟨w.heap.size, 0, none⟩ = some (.int .u8 op1) := HI.out.cell 0
      have kI1 : x3.cell? ⟨w.heap.size, 1, none⟩ = some (.int .u8 a1) := HI.out.cell 1
      have kI2 : x3.cell? ⟨w.heap.size, 2, none⟩ = some (.int .u8 b1) := HI.out.cell 2
      have kI3 : x3.cell? ⟨w.heap.size, 3, none⟩ = some (.int .u8 c1) := HI.out.cell 3
      have kI4 : x3.cell? ⟨w.heap.size, 4, none⟩ = some (.int .i32 m1) := HI.out.cell 4
      have lI : w.heap.size < x3.heap.size := HI.out.lt
      have HI := Lib.hid (HI.out.alloc (.cells (insA ⟨op2, a2, b2, c2, m2⟩) 23))
      have HK := Lib.hid (Blk.new x3 23 (insA ⟨op2, a2, b2, c2, m2⟩) rfl)
      have Z0 := Lib.hid (Z0.out.alloc Z0.out.size (.cells (insA ⟨op2, a2, b2, c2, m2⟩) 23))
      go_wp2_with fail
      refine (HTj.out _ (HE.out.kept Z0.out)).mono ?_
      rintro _ x4 ⟨rfl, y4⟩
      clear kI0 kI1 kI2 kI3 kI4 lI
      have HI := Lib.hid (HI.out.below y4)
      have HK := Lib.hid (HK.out.below y4)
      have Z0 := Lib.hid (Z0.out.trans (y4.mono Z0.out.size))
      clear y4
      have kI0 : x4.cell? ⟨w.heap.size, 0, none⟩ = some (.int .u8 op1) := HI.out.cell 0
      have kI1 : x4.cell? ⟨w.heap.size, 1, none⟩ = some (.int .u8 a1) := HI.out.cell 1
      have kI2 : x4.cell? ⟨w.heap.size, 2, none⟩ = some (.int .u8 b1) := HI.out.cell 2
      have kI3 : x4.cell? ⟨w.heap.size, 3, none⟩ = some (.int .u8 c1) := HI.out.cell 3
      have kI4 : x4.cell? ⟨w.heap.size, 4, none⟩ = some (.int .i32 m1) := HI.out.cell 4
      have lI : w.heap.size < x4.heap.size := HI.out.lt
      have kK0 : x4.cell? ⟨x3.heap.size, 0, none⟩ = some (.int .u8 op2) := HK.out.cell 0
      have kK1 : x4.cell? ⟨x3.heap.size, 1, none⟩ = some (.int .u8 a2) := HK.out.cell 1
      have kK2 : x4.cell? ⟨x3.heap.size, 2, none⟩ = some (.int .u8 b2) := HK.out.cell 2
      have kK3 : x4.cell? ⟨x3.heap.size, 3, none⟩ = some (.int .u8 c2) := HK.out.cell 3
      have kK4 : x4.cell? ⟨x3.heap.size, 4, none⟩ = some (.int .i32 m2) := HK.out.cell 4
      have lK : x3.heap.size < x4.heap.size := HK.out.lt
      go_wp2_with fail
      go_ret
      exact ⟨rfl, Z0.out⟩
  | true =>
    rw [hri] at HTi HRi HTe
    have HRq := Lib.hid (HRi.out rfl)
    clear HRi
    simp only [if_true] at HTi
    unfold insV insA at HTi HRq ⊢
    dsimp only at HTi HRq ⊢
    have hne : ti ≠ [] := HTe.out.resolve_left (by simp)
    have n1 : ¬ (mkS ti).toList = [] := by rw [ByteArray.toList_eq, mkS_toList]; exact hne
    have n2 : (mkS ti).toList.isEmpty = false := by simpa using n1
    clear hri HTe hi hne
    rcases hR with hR | ⟨j, hR, hjk, hjr, hjt⟩
    · rw [hR] at HRs
      clear hR
      have HRs : Hid (∀ w, IsEnv w → Calls Tryd.prog 12 #[.string (mkS l)] w fun e w' => e = .returned (.tuple #[.agg #[.int .u8 0, .int .u8 0, .int .u8 0, .int .u8 0, .int .i32 0], .int .i64 151]) ∧ Below w.heap.size w w') := Lib.hid HRs.out
      have HI := Lib.hid (Blk.new w 23 (insA ⟨op1, a1, b1, c1, m1⟩) rfl)
      have Z0 := Lib.hid ((Below.refl _ w).alloc (Nat.le_refl _) (.cells (insA ⟨op1, a1, b1, c1, m1⟩) 23))
      go_enter Tryd.func4, Tryd.ntmps4
      go_wp2_with fail
      refine (shown_any _ (HE.out.kept Z0.out)).mono ?_
      rintro _ x1 ⟨rfl, y1⟩
      have HI := Lib.hid (HI.out.below y1)
      have Z0 := Lib.hid (Z0.out.trans (y1.mono Z0.out.size))
      clear y1
      have kI0 : x1.cell? ⟨w.heap.size, 0, none⟩ = some (.int .u8 op1) := HI.out.cell 0
      have kI1 : x1.cell? ⟨w.heap.size, 1, none⟩ = some (.int .u8 a1) := HI.out.cell 1
      have kI2 : x1.cell? ⟨w.heap.size, 2, none⟩ = some (.int .u8 b1) := HI.out.cell 2
      have kI3 : x1.cell? ⟨w.heap.size, 3, none⟩ = some (.int .u8 c1) := HI.out.cell 3
      have kI4 : x1.cell? ⟨w.heap.size, 4, none⟩ = some (.int .i32 m1) := HI.out.cell 4
      have lI : w.heap.size < x1.heap.size := HI.out.lt
      go_wp2_with fail
      refine (HTi.out _ (HE.out.kept Z0.out)).mono ?_
      rintro _ x2 ⟨rfl, y2⟩
      clear kI0 kI1 kI2 kI3 kI4 lI
      have HI := Lib.hid (HI.out.below y2)
      have Z0 := Lib.hid (Z0.out.trans (y2.mono Z0.out.size))
      clear y2
      have kI0 : x2.cell? ⟨w.heap.size, 0, none⟩ = some (.int .u8 op1) := HI.out.cell 0
      have kI1 : x2.cell? ⟨w.heap.size, 1, none⟩ = some (.int .u8 a1) := HI.out.cell 1
      have kI2 : x2.cell? ⟨w.heap.size, 2, none⟩ = some (.int .u8 b1) := HI.out.cell 2
      have kI3 : x2.cell? ⟨w.heap.size, 3, none⟩ = some (.int .u8 c1) := HI.out.cell 3
      have kI4 : x2.cell? ⟨w.heap.size, 4, none⟩ = some (.int .i32 m1) := HI.out.cell 4
      have lI : w.heap.size < x2.heap.size := HI.out.lt
      go_wp2_with fail
      refine (HRq.out _ (HE.out.kept Z0.out)).mono ?_
      rintro _ x3 ⟨rfl, y3⟩
      clear kI0 kI1 kI2 kI3 kI4 lI
      have HI := Lib.hid (HI.out.below y3)
      have Z0 := Lib.hid (Z0.out.trans (y3.mono Z0.out.size))
      clear y3
      have kI0 : x3.cell? ⟨w.heap.size, 0, none⟩ = some (.int .u8 op1) := HI.out.cell 0
      have kI1 : x3.cell? ⟨w.heap.size, 1, none⟩ = some (.int .u8 a1) := HI.out.cell 1
      have kI2 : x3.cell? ⟨w.heap.size, 2, none⟩ = some (.int .u8 b1) := HI.out.cell 2
      have kI3 : x3.cell? ⟨w.heap.size, 3, none⟩ = some (.int .u8 c1) := HI.out.cell 3
      have kI4 : x3.cell? ⟨w.heap.size, 4, none⟩ = some (.int .i32 m1) := HI.out.cell 4
      have lI : w.heap.size < x3.heap.size := HI.out.lt
      have HI := Lib.hid (HI.out.alloc (.cells (insA ⟨op1, a1, b1, c1, m1⟩) 23))
      have HJ := Lib.hid (Blk.new x3 23 (insA ⟨op1, a1, b1, c1, m1⟩) rfl)
      have Z0 := Lib.hid (Z0.out.alloc Z0.out.size (.cells (insA ⟨op1, a1, b1, c1, m1⟩) 23))
      go_wp2_with fail
      refine (HRs.out _ (HE.out.kept Z0.out)).mono ?_
      rintro _ x4 ⟨rfl, y4⟩
      clear kI0 kI1 kI2 kI3 kI4 lI
      have HI := Lib.hid (HI.out.below y4)
      have HJ := Lib.hid (HJ.out.below y4)
      have Z0 := Lib.hid (Z0.out.trans (y4.mono Z0.out.size))
      clear y4
      have kI0 : x4.cell? ⟨w.heap.size, 0, none⟩ = some (.int .u8 op1) := HI.out.cell 0
      have kI1 : x4.cell? ⟨w.heap.size, 1, none⟩ = some (.int .u8 a1) := HI.out.cell 1
      have kI2 : x4.cell? ⟨w.heap.size, 2, none⟩ = some (.int .u8 b1) := HI.out.cell 2
      have kI3 : x4.cell? ⟨w.heap.size, 3, none⟩ = some (.int .u8 c1) := HI.out.cell 3
      have kI4 : x4.cell? ⟨w.heap.size, 4, none⟩ = some (.int .i32 m1) := HI.out.cell 4
      have lI : w.heap.size < x4.heap.size := HI.out.lt
      have kJ0 : x4.cell? ⟨x3.heap.size, 0, none⟩ = some (.int .u8 op1) := HJ.out.cell 0
      have kJ1 : x4.cell? ⟨x3.heap.size, 1, none⟩ = some (.int .u8 a1) := HJ.out.cell 1
      have kJ2 : x4.cell? ⟨x3.heap.size, 2, none⟩ = some (.int .u8 b1) := HJ.out.cell 2
      have kJ3 : x4.cell? ⟨x3.heap.size, 3, none⟩ = some (.int .u8 c1) := HJ.out.cell 3
      have kJ4 : x4.cell? ⟨x3.heap.size, 4, none⟩ = some (.int .i32 m1) := HJ.out.cell 4
      have lJ : x3.heap.size < x4.heap.size := HJ.out.lt
      have HI := Lib.hid (HI.out.alloc (.cells (insA ⟨0, 0, 0, 0, 0⟩) 23))
      have HJ := Lib.hid (HJ.out.alloc (.cells (insA ⟨0, 0, 0, 0, 0⟩) 23))
      have HK := Lib.hid (Blk.new x4 23 (insA ⟨0, 0, 0, 0, 0⟩) rfl)
      have Z0 := Lib.hid (Z0.out.alloc Z0.out.size (.cells (insA ⟨0, 0, 0, 0, 0⟩) 23))
      go_wp2_with fail
      go_ret
      exact ⟨rfl, Z0.out⟩
    · have HTj := Lib.hid (fun w hE => Text_any j hjk w hE)
      unfold TextPost at HTj
      rw [hjr, hjt] at HTj
      rw [hR] at HRs
      clear hR hjk hjr hjt
      obtain ⟨op2, a2, b2, c2, m2⟩ := j
      have HRs : Hid (∀ w, IsEnv w → Calls Tryd.prog 12 #[.string (mkS l)] w fun e w' => e = .returned (.tuple #[.agg #[.int .u8 op2, .int .u8 a2, .int .u8 b2, .int .u8 c2, .int .i32 m2], .int .i64 0]) ∧ Below w.heap.size w w') := Lib.hid HRs.out
      simp only [if_true] at HTj
      unfold insV insA at HTj
      dsimp only at HTj
      have HI := Lib.hid (Blk.new w 23 (insA ⟨op1, a1, b1, c1, m1⟩) rfl)
      have Z0 := Lib.hid ((Below.refl _ w).alloc (Nat.le_refl _) (.cells (insA ⟨op1, a1, b1, c1, m1⟩) 23))
      go_enter Tryd.func4, Tryd.ntmps4
      go_wp2_with fail
      refine (shown_any _ (HE.out.kept Z0.out)).mono ?_
      rintro _ x1 ⟨rfl, y1⟩
      have HI := Lib.hid (HI.out.below y1)
      have Z0 := Lib.hid (Z0.out.trans (y1.mono Z0.out.size))
      clear y1
      have kI0 : x1.cell? ⟨w.heap.size, 0, none⟩ = some (.int .u8 op1) := HI.out.cell 0
      have kI1 : x1.cell? ⟨w.heap.size, 1, none⟩ = some (.int .u8 a1) := HI.out.cell 1
      have kI2 : x1.cell? ⟨w.heap.size, 2, none⟩ = some (.int .u8 b1) := HI.out.cell 2
      have kI3 : x1.cell? ⟨w.heap.size, 3, none⟩ = some (.int .u8 c1) := HI.out.cell 3
      have kI4 : x1.cell? ⟨w.heap.size, 4, none⟩ = some (.int .i32 m1) := HI.out.cell 4
      have lI : w.heap.size < x1.heap.size := HI.out.lt
      go_wp2_with fail
      refine (HTi.out _ (HE.out.kept Z0.out)).mono ?_
      rintro _ x2 ⟨rfl, y2⟩
      clear kI0 kI1 kI2 kI3 kI4 lI
      have HI := Lib.hid (HI.out.below y2)
      have Z0 := Lib.hid (Z0.out.trans (y2.mono Z0.out.size))
      clear y2
      have kI0 : x2.cell? ⟨w.heap.size, 0, none⟩ = some (.int .u8 op1) := HI.out.cell 0
      have kI1 : x2.cell? ⟨w.heap.size, 1, none⟩ = some (.int .u8 a1) := HI.out.cell 1
      have kI2 : x2.cell? ⟨w.heap.size, 2, none⟩ = some (.int .u8 b1) := HI.out.cell 2
      have kI3 : x2.cell? ⟨w.heap.size, 3, none⟩ = some (.int .u8 c1) := HI.out.cell 3
      have kI4 : x2.cell? ⟨w.heap.size, 4, none⟩ = some (.int .i32 m1) := HI.out.cell 4
      have lI : w.heap.size < x2.heap.size := HI.out.lt
      go_wp2_with fail
      refine (HRq.out _ (HE.out.kept Z0.out)).mono ?_
      rintro _ x3 ⟨rfl, y3⟩
      clear kI0 kI1 kI2 kI3 kI4 lI
      have HI := Lib.hid (HI.out.below y3)
      have Z0 := Lib.hid (Z0.out.trans (y3.mono Z0.out.size))
      clear y3
      have kI0 : x3.cell? ⟨w.heap.size, 0, none⟩ = some (.int .u8 op1) := HI.out.cell 0
      have kI1 : x3.cell? ⟨w.heap.size, 1, none⟩ = some (.int .u8 a1) := HI.out.cell 1
      have kI2 : x3.cell? ⟨w.heap.size, 2, none⟩ = some (.int .u8 b1) := HI.out.cell 2
      have kI3 : x3.cell? ⟨w.heap.size, 3, none⟩ = some (.int .u8 c1) := HI.out.cell 3
      have kI4 : x3.cell? ⟨w.heap.size, 4, none⟩ = some (.int .i32 m1) := HI.out.cell 4
      have lI : w.heap.size < x3.heap.size := HI.out.lt
      have HI := Lib.hid (HI.out.alloc (.cells (insA ⟨op1, a1, b1, c1, m1⟩) 23))
      have HJ := Lib.hid (Blk.new x3 23 (insA ⟨op1, a1, b1, c1, m1⟩) rfl)
      have Z0 := Lib.hid (Z0.out.alloc Z0.out.size (.cells (insA ⟨op1, a1, b1, c1, m1⟩) 23))
      go_wp2_with fail
      refine (HRs.out _ (HE.out.kept Z0.out)).mono ?_
      rintro _ x4 ⟨rfl, y4⟩
      clear kI0 kI1 kI2 kI3 kI4 lI
      have HI := Lib.hid (HI.out.below y4)
      have HJ := Lib.hid (HJ.out.below y4)
      have Z0 := Lib.hid (Z0.out.trans (y4.mono Z0.out.size))
      clear y4
      have kI0 : x4.cell? ⟨w.heap.size, 0, none⟩ = some (.int .u8 op1) := HI.out.cell 0
      have kI1 : x4.cell? ⟨w.heap.size, 1, none⟩ = some (.int .u8 a1) := HI.out.cell 1
      have kI2 : x4.cell? ⟨w.heap.size, 2, none⟩ = some (.int .u8 b1) := HI.out.cell 2
      have kI3 : x4.cell? ⟨w.heap.size, 3, none⟩ = some (.int .u8 c1) := HI.out.cell 3
      have kI4 : x4.cell? ⟨w.heap.size, 4, none⟩ = some (.int .i32 m1) := HI.out.cell 4
      have lI : w.heap.size < x4.heap.size := HI.out.lt
      have kJ0 : x4.cell? ⟨x3.heap.size, 0, none⟩ = some (.int .u8 op1) := HJ.out.cell 0
      have kJ1 : x4.cell? ⟨x3.heap.size, 1, none⟩ = some (.int .u8 a1) := HJ.out.cell 1
      have kJ2 : x4.cell? ⟨x3.heap.size, 2, none⟩ = some (.int .u8 b1) := HJ.out.cell 2
      have kJ3 : x4.cell? ⟨x3.heap.size, 3, none⟩ = some (.int .u8 c1) := HJ.out.cell 3
      have kJ4 : x4.cell? ⟨x3.heap.size, 4, none⟩ = some (.int .i32 m1) := HJ.out.cell 4
      have lJ : x3.heap.size < x4.heap.size := HJ.out.lt
      have HI := Lib.hid (HI.out.alloc (.cells (insA ⟨op2, a2, b2, c2, m2⟩) 23))
      have HJ := Lib.hid (HJ.out.alloc (.cells (insA ⟨op2, a2, b2, c2, m2⟩) 23))
      have HK := Lib.hid (Blk.new x4 23 (insA ⟨op2, a2, b2, c2, m2⟩) rfl)
      have Z0 := Lib.hid (Z0.out.alloc Z0.out.size (.cells (insA ⟨op2, a2, b2, c2, m2⟩) 23))
      go_wp2_with fail
      refine (HTj.out _ (HE.out.kept Z0.out)).mono ?_
      rintro _ x5 ⟨rfl, y5⟩
      clear kI0 kI1 kI2 kI3 kI4 lI kJ0 kJ1 kJ2 kJ3 kJ4 lJ
      have HI := Lib.hid (HI.out.below y5)
      have HJ := Lib.hid (HJ.out.below y5)
      have HK := Lib.hid (HK.out.below y5)
      have Z0 := Lib.hid (Z0.out.trans (y5.mono Z0.out.size))
      clear y5
      have kI0 : x5.cell? ⟨w.heap.size, 0, none⟩ = some (.int .u8 op1) := HI.out.cell 0
      have kI1 : x5.cell? ⟨w.heap.size, 1, none⟩ = some (.int .u8 a1) := HI.out.cell 1
      have kI2 : x5.cell? ⟨w.heap.size, 2, none⟩ = some (.int .u8 b1) := HI.out.cell 2
      have kI3 : x5.cell? ⟨w.heap.size, 3, none⟩ = some (.int .u8 c1) := HI.out.cell 3
      have kI4 : x5.cell? ⟨w.heap.size, 4, none⟩ = some (.int .i32 m1) := HI.out.cell 4
      have lI : w.heap.size < x5.heap.size := HI.out.lt
      have kJ0 : x5.cell? ⟨x3.heap.size, 0, none⟩ = some (.int .u8 op1) := HJ.out.cell 0
      have kJ1 : x5.cell? ⟨x3.heap.size, 1, none⟩ = some (.int .u8 a1) := HJ.out.cell 1
      have kJ2 : x5.cell? ⟨x3.heap.size, 2, none⟩ = some (.int .u8 b1) := HJ.out.cell 2
      have kJ3 : x5.cell? ⟨x3.heap.size, 3, none⟩ = some (.int .u8 c1) := HJ.out.cell 3
      have kJ4 : x5.cell? ⟨x3.heap.size, 4, none⟩ = some (.int .i32 m1) := HJ.out.cell 4
      have lJ : x3.heap.size < x5.heap.size := HJ.out.lt
      have kK0 : x5.cell? ⟨x4.heap.size, 0, none⟩ = some (.int .u8 op2) := HK.out.cell 0
      have kK1 : x5.cell? ⟨x4.heap.size, 1, none⟩ = some (.int .u8 a2) := HK.out.cell 1
      have kK2 : x5.cell? ⟨x4.heap.size, 2, none⟩ = some (.int .u8 b2) := HK.out.cell 2
      have kK3 : x5.cell? ⟨x4.heap.size, 3, none⟩ = some (.int .u8 c2) := HK.out.cell 3
      have kK4 : x5.cell? ⟨x4.heap.size, 4, none⟩ = some (.int .i32 m2) := HK.out.cell 4
      have lK : x4.heap.size < x5.heap.size := HK.out.lt
      go_wp2_with fail
      go_ret
      exact ⟨rfl, Z0.out⟩
end Go.Proofs.YtdmoiahaekooaaaDoor
