/-
  Walk of the document's Read (windrowref16). Condition: a text is no longer than a string may be.
-/
import Derived.Test.YtdmoiahaekooaaaDoorIs2
import Derived.Test.YtdmoiahaekooaaaDoorIs3
import Derived.Test.YtdmoiahaekooaaaDoorIsY
import Derived.Test.YtdmoiahaekooaaaDoorIsN
namespace Go.Proofs.YtdmoiahaekooaaaDoor
open Go.RowKit Go.Shelf Go.Sort

theorem pieces_len2 : ∀ (n : Nat) (l : List UInt8), ∀ p ∈ piecesR n l, p.length ≤ l.length
  | 0, _, p, h => by cases h
  | _ + 1, [], p, h => by cases h
  | n + 1, x :: t, p, h => by
    simp only [piecesR] at h
    rcases List.mem_cons.1 h with rfl | h
    · have := List.takeWhile_sublist (l := t) (fun c : UInt8 => c != 44)
      have := this.length_le
      unfold pieceR
      simp only [List.length_cons]
      omega
    · have := pieces_len2 n _ p h
      simp only [List.length_drop, List.length_cons] at this ⊢
      omega
theorem cut_len2 (l : List UInt8) : ∀ p ∈ cutR l, p.length ≤ l.length := fun p h => by
  have := pieces_len2 5 _ p h
  rw [List.length_drop] at this
  omega
theorem up_known (c : UInt8) : upL c = 65 ∨ upL c = 66 ∨ upL c = 67 ∨ upL c = 73 ∨ upL c = 70 := by
  unfold upL
  split
  · exact .inl rfl
  split
  · exact .inr (.inl rfl)
  split
  · exact .inr (.inr (.inl rfl))
  split
  · exact .inr (.inr (.inr (.inl rfl)))
  · exact .inr (.inr (.inr (.inr rfl)))
theorem has_len5 : ∀ op : Fin 256, (lettersR op.val).length ≤ 5 := by decide +kernel
theorem read_match {l : List UInt8} (h : ∀ j, j < 256 → matchR l j = none) : readI l = none := by
  cases hr : readI l with
  | none => rfl
  | some i =>
    obtain ⟨h1, h2⟩ := read_some hr
    have hk := read_ok hr
    have h3 := match_text hk h1
    rw [h2, h i.op hk.1] at h3
    cases h3
set_option maxHeartbeats 8000000 in
set_option maxRecDepth 100000 in
theorem rRead_any (l : List UInt8) (hs : l.length ≤ maxLen) (w : World) : Calls Tryd.prog 13 #[.string (mkS l)] w fun e w' => ReadPost l e ∧ Below w.heap.size w w' := by
  unfold maxLen at hs
  by_cases h64 : 64 < l.length
  · have HNo : Hid (readI l = none) := Lib.hid (by unfold readI candI; rw [if_pos h64])
    have hl : (64 : Int) < l.length := by omega
    go_enter Tryd.func13, Tryd.ntmps13
    go_wp2_with fail
    refine bodyPost_ret (v := .tuple #[.agg #[.int .u8 0, .int .u8 0, .int .u8 0, .int .u8 0, .int .i32 0], .int .i64 151]) (by simp [results, Tryd.results13, go_sem]) rfl ⟨by unfold ReadPost; rw [HNo.out]; rfl, ?_⟩
    repeat (first | exact (Below.refl _ _).alloc (Nat.le_refl _) _ | refine below_set ?_ (Nat.le_refl _) _)
  · have hl : (l.length : Int) ≤ 64 := by omega
    have hl3 : ¬ (64 : Int) < l.length := by omega
    have hc := fun w => rcut_any (mkS l) (by rw [mkS_size]; omega) w
    rw [mkS_toList] at hc
    have HC := Lib.hid hc
    have HCl : Hid (∀ p ∈ cutR l, p.length ≤ 64) := Lib.hid (fun p h => by have := cut_len2 l p h; omega)
    have HMt : Hid (∀ k, matchR l k = if (hasI k).1 ≠ nameR l ∨ (hasI k).1 = [] then none else match fillR ⟨k, 0, 0, 0, 0⟩ (lettersR k) (cutR l) with | some i => if rightI i = true ∧ textI i = l then some i else none | none => none) := Lib.hid (fun k => rfl)
    unfold CutPost at HC
    clear hc
    generalize nameR l = NM at HC HMt
    generalize cutR l = ps at HC HMt HCl
    go_enter Tryd.func13, Tryd.ntmps13
    go_wp2_with fail
    refine (HC.out _).mono ?_
    rintro _ w1 ⟨⟨v, rfl, hP⟩, hb⟩
    have hR1 : Blk w1 w.heap.size 23 (insA Ins.none) := (Blk.new w _ _ rfl).below hb
    have ZR1 := Lib.hid (((Below.refl _ w).alloc (Nat.le_refl _) _).trans (hb.mono (by simp)))
    have hs1 : w.heap.size < w1.heap.size := hR1.lt
    have HR1 := Lib.hid hR1
    have HP := Lib.hid hP
    obtain ⟨a0, c0, rfl, -⟩ := hP
    obtain ⟨m, hm⟩ : ∃ m, m = ps.length := ⟨_, rfl⟩
    rw [← hm] at HP ⊢
    clear hb hR1 HC hm
    go_wp2_with fail
    go_loopw [6] (fun vi wr => ∃ k : Nat, k ≤ 256 ∧ vi = .int .i64 k ∧ Blk wr w.heap.size 23 (insA Ins.none) ∧ Below w1.heap.size w1 wr ∧ Below w.heap.size w wr ∧ Hid (∀ j, j < k → matchR l j = none)) (fun vi _ => 256 - (intOf vi).toNat)
    case atStart => exact ⟨0, Nat.zero_le _, rfl, HR1.out, Below.refl _ _, ZR1.out, Lib.hid fun j h => absurd h (Nat.not_lt_zero _)⟩
    case round =>
      obtain ⟨k, hk, rfl, hR, hb1, hbel, hno⟩ := hrel
      clear HR1 ZR1
      have HR := Lib.hid hR
      have HB1 := Lib.hid hb1
      have HZ := Lib.hid hbel
      by_cases hlt : k < 256
      · have kI : (k : Int) < 256 := by omega
        have kw : IntKind.u8.wrap (k : Int) = k := by rw [IntKind.wrap_u8]; omega
        have hsr : w1.heap.size ≤ wr.heap.size := hb1.size
        have hH := fun w => rhas_any k hlt w
        unfold HasPostR at hH
        have HH := Lib.hid hH
        have hmk := HMt.out k
        have hN2 : matchR l k = none → Hid (∀ j, j < k + 1 → matchR l j = none) := fun h => Lib.hid fun j hj => by
          by_cases hj2 : j < k
          · exact hno.out j hj2
          · obtain rfl : j = k := by omega
            exact h
        have HNn := Lib.hid hN2
        clear hH hR hb1 hbel hno hN2
        have hll : (lettersR k).length ≤ 5 := has_len5 ⟨k, hlt⟩
        have hlk : ∀ c ∈ lettersR k, c = 65 ∨ c = 66 ∨ c = 67 ∨ c = 73 ∨ c = 70 := fun c hc => by
          obtain ⟨x, _, rfl⟩ := List.mem_map.1 hc
          exact up_known x
        have hle : (hasI k).2.map upL = lettersR k := rfl
        rw [hle] at HH
        generalize lettersR k = LR at HH hmk hll hlk
        generalize (hasI k).1 = ON at HH hmk
        clear hle
        by_cases hon : ON = NM
        · subst hon
          by_cases he : ON = []
          · rw [if_pos (.inr he)] at hmk
            have HN2 := HNn.out hmk
            subst he
            have e0 : (mkS []).toList = [] := by rw [ByteArray.toList_eq, mkS_toList]
            have e1 : (mkS []).toList.isEmpty = true := by rw [e0]; rfl
            have e2 : ((mkS []).toList != (mkS []).toList) = false := by rw [bne_eq_false_iff_eq]
            clear hmk HNn hlk
            go_wp2_with fail
            refine (HH.out _).mono ?_
            rintro _ _ ⟨rfl, rfl⟩
            clear HH
            go_wp2_with fail
            go_roundw
            case rel => exact ⟨k + 1, hlt, by go_num, HR.out, HB1.out, HZ.out, HN2⟩
            case measure => simp [intOf]; omega
          · rw [if_neg (fun h => h.elim (fun h => h rfl) he)] at hmk
            have e1 : ¬ (mkS ON).toList = [] := by rw [ByteArray.toList_eq, mkS_toList]; exact he
            have e2 : (mkS ON).toList.isEmpty = false := by simpa using e1
            have e3 : ((mkS ON).toList != (mkS ON).toList) = false := by rw [bne_eq_false_iff_eq]
            have HF := Lib.hid (fun W (h : Below w1.heap.size w1 W) => fill_any ⟨k, 0, 0, 0, 0⟩ (mkS LR) _ ps (by rw [mkS_size]; exact hll) (by rw [mkS_toList]; exact hlk) HCl.out W (zero_ok hlt) ((HP.out.below h).mono h.size))
            have HFo := Lib.hid (fun j (h : fillR ⟨k, 0, 0, 0, 0⟩ LR ps = some j) => fillR_ok _ _ _ _ (zero_ok hlt) h)
            rw [mkS_toList] at HF
            have HMk := Lib.hid hmk
            unfold FillPost insV insA at HF
            dsimp only at HF
            clear he hmk hlk
            generalize fillR ⟨k, 0, 0, 0, 0⟩ LR ps = FR at HF HFo HMk
            go_wp2_with fail
            refine (HH.out _).mono ?_
            rintro _ _ ⟨rfl, rfl⟩
            clear HH
            go_wp2_with fail
            refine (HF.out _ HB1.out).mono ?_
            rintro _ w3 ⟨⟨j, b, rfl, hb1, hb2⟩, b3⟩
            have hR3 := HR.out.below b3
            have HB3 := Lib.hid (HB1.out.trans (b3.mono hsr))
            have HZ3 := Lib.hid (HZ.out.trans (b3.mono HZ.out.size))
            have HR3 := Lib.hid hR3
            have hs3 : w.heap.size < w3.heap.size := hR3.lt
            have hs4 : w1.heap.size ≤ w3.heap.size := HB3.out.size
            clear b3 HF hR3
            cases b
            · have hf := hb2 rfl
              have hmk := HMk.out
              rw [hf] at hmk
              have HN2 := HNn.out hmk
              clear hf hmk hb1 hb2 HMk HNn HFo
              go_wp2_with fail
              go_roundw
              case rel => exact ⟨k + 1, hlt, by go_num, HR3.out.alloc _, HB3.out.alloc hs4 _, HZ3.out.alloc (by omega) _, HN2⟩
              case measure => simp [intOf]; omega
            · have hf := hb1 rfl
              have hmk := HMk.out
              rw [hf] at hmk
              have hjk := HFo.out j hf
              have HT := Lib.hid (fun W => rText_any j hjk W)
              unfold TextPost at HT
              have HM2 := Lib.hid hmk
              clear hf hmk hb1 hb2 HMk HFo
              have HJk := Lib.hid hjk
              clear hjk
              dsimp only at HM2
              generalize textI j = TX at HT HM2
              generalize rightI j = rt at HT HM2
              obtain ⟨o2, a2, b2, c2, i2⟩ := j
              unfold insV insA at HT
              dsimp only at HT
              have hbx : Blk (w3.alloc (.cells (insA ⟨o2, a2, b2, c2, i2⟩) 23)) w3.heap.size 23 (insA ⟨o2, a2, b2, c2, i2⟩) := Blk.new w3 _ _ rfl
              go_wp2_with fail
              refine (HT.out _).mono ?_
              rintro _ w4 ⟨rfl, b4⟩
              have hR4 := (HR3.out.alloc (.cells (insA ⟨o2, a2, b2, c2, i2⟩) 23)).below b4
              have hJ4 := hbx.below b4
              have HB4 := Lib.hid ((HB3.out.alloc hs4 (.cells (insA ⟨o2, a2, b2, c2, i2⟩) 23)).trans (b4.mono (by simp; omega)))
              have HZ4 := Lib.hid ((HZ3.out.alloc (by omega) (.cells (insA ⟨o2, a2, b2, c2, i2⟩) 23)).trans (b4.mono (by simp; omega)))
              have HR4 := Lib.hid hR4
              have HJ4 := Lib.hid hJ4
              clear b4 HT hbx hR4 hJ4
              cases rt
              · have HN2 := HNn.out (by rw [HM2.out, if_neg (fun h => by cases h.1)])
                simp only [Bool.false_eq_true, if_false]
                clear HM2 HNn HJ4
                go_wp2_with fail
                go_roundw
                case rel => exact ⟨k + 1, hlt, by go_num, HR4.out, HB4.out, HZ4.out, HN2⟩
                case measure => simp [intOf]; omega
              · simp only [if_true]
                by_cases hTs : TX = l
                · subst hTs
                  have hms : matchR TX k = some ⟨o2, a2, b2, c2, i2⟩ := by rw [HM2.out, if_pos ⟨rfl, rfl⟩]
                  have HYes := Lib.hid (match_some hlt hms).1
                  obtain ⟨p0, p1, p2, p3, p4⟩ := HJ4.out.cells5
                  have hR := HR4.out
                  have ZR := HZ4
                  clear HM2 HNn HJ4 hms
                  have f0 := hR.froz 0
                  have f1 := hR.froz 1
                  have f2 := hR.froz 2
                  have f3 := hR.froz 3
                  have f4 := hR.froz 4
                  have d0 : _ = some (Value.int .u8 0) := hR.cell 0
                  have d1 : _ = some (Value.int .u8 0) := hR.cell 1
                  have d2 : _ = some (Value.int .u8 0) := hR.cell 2
                  have d3 : _ = some (Value.int .u8 0) := hR.cell 3
                  have d4 : _ = some (Value.int .i32 0) := hR.cell 4
                  clear hR
                  go_wp2_with fail
                  refine bodyPost_ret (v := .tuple #[.agg #[.int .u8 o2, .int .u8 a2, .int .u8 b2, .int .u8 c2, .int .i32 i2], .int .i64 0]) (by simp [results, Tryd.results13, go_sem, d0, d1, d2, d3, d4]) rfl ⟨?_, ?_⟩
                  · unfold ReadPost; rw [HYes.out]; rfl
                  · repeat (first | with_reducible exact ZR.out | with_reducible refine below_set ?_ (Nat.le_refl _) _)
                · have HN2 := HNn.out (by rw [HM2.out, if_neg (fun h => hTs h.2)])
                  have e4 : ¬ (mkS TX).toList = (mkS l).toList := by rw [ByteArray.toList_eq, ByteArray.toList_eq, mkS_toList, mkS_toList]; exact hTs
                  have e5 : ((mkS TX).toList == (mkS l).toList) = false := by rw [beq_eq_false_iff_ne]; exact e4
                  clear HM2 HNn HJ4 hTs
                  go_wp2_with fail
                  go_roundw
                  case rel => exact ⟨k + 1, hlt, by go_num, HR4.out, HB4.out, HZ4.out, HN2⟩
                  case measure => simp [intOf]; omega
        · rw [if_pos (.inl hon)] at hmk
          have HN2 := HNn.out hmk
          have e4 : ¬ (mkS ON).toList = (mkS NM).toList := by rw [ByteArray.toList_eq, ByteArray.toList_eq, mkS_toList, mkS_toList]; exact hon
          have e5 : ((mkS ON).toList != (mkS NM).toList) = true := by rw [bne_iff_ne]; exact e4
          clear hmk HNn hlk hon
          go_wp2_with fail
          refine (HH.out _).mono ?_
          rintro _ _ ⟨rfl, rfl⟩
          clear HH
          go_wp2_with fail
          go_roundw
          case rel => exact ⟨k + 1, hlt, by go_num, HR.out, HB1.out, HZ.out, HN2⟩
          case measure => simp [intOf]; omega
      · obtain rfl : k = 256 := by omega
        have HNo := Lib.hid (read_match hno.out)
        have ZR := HZ
        have kI : ¬ ((256 : Nat) : Int) < 256 := by omega
        clear hno hb1 hbel
        have f0 := hR.froz 0
        have f1 := hR.froz 1
        have f2 := hR.froz 2
        have f3 := hR.froz 3
        have f4 := hR.froz 4
        have d0 : _ = some (Value.int .u8 0) := hR.cell 0
        have d1 : _ = some (Value.int .u8 0) := hR.cell 1
        have d2 : _ = some (Value.int .u8 0) := hR.cell 2
        have d3 : _ = some (Value.int .u8 0) := hR.cell 3
        have d4 : _ = some (Value.int .i32 0) := hR.cell 4
        clear hR
        go_wp2_with fail
        refine bodyPost_ret (v := .tuple #[.agg #[.int .u8 0, .int .u8 0, .int .u8 0, .int .u8 0, .int .i32 0], .int .i64 151]) (by simp [results, Tryd.results13, go_sem, d0, d1, d2, d3, d4]) rfl ⟨?_, ?_⟩
        · unfold ReadPost; rw [HNo.out]; rfl
        · repeat (first | with_reducible exact ZR.out | with_reducible refine below_set ?_ (Nat.le_refl _) _)
end Go.Proofs.YtdmoiahaekooaaaDoor
