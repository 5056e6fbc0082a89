/-
  Walk of isa.Read. Condition: Go's own variables hold what their initialisers lay.
-/
import Derived.Test.YtdmoiahaekooaaaDoorIsF
import Derived.Test.YtdmoiahaekooaaaDoorIsV
import Derived.Deep.CutRange
import Derived.Lib.SplitLaws
namespace Go.Proofs.YtdmoiahaekooaaaDoor
open Go.RowKit Go.Shelf Go.Sort

theorem cut_any (s : List UInt8) (hs : s.length ≤ 64) (w : World) (hE : IsEnv w) :
    Calls Tryd.prog 27 #[.string (mkS s), .string ⟨#[32]⟩] w fun e w' => e = .returned (.tuple #[.string (mkS (Lib.cut s [32]).1), .string (mkS (Lib.cut s [32]).2.1), .bool (Lib.cut s [32]).2.2]) ∧ ∃ n, w' = w.drewN n := by
  obtain ⟨m, hm⟩ := hE.top
  have := Tryd.strings_Cut (mkS s) ⟨#[32]⟩ m w (by rw [mkS_size]; omega) hm
  rw [mkS_toList] at this
  exact this
theorem cut_len (s : List UInt8) (hs : s.length ≤ 64) : (Lib.cut s [32]).2.1.length ≤ 64 := by
  unfold Lib.cut
  split
  · dsimp only
    rw [List.length_drop]
    omega
  · exact Nat.zero_le _
theorem splitK_len (sep : List UInt8) : ∀ (k : Nat) (s : List UInt8), ∀ p ∈ Lib.splitK sep 0 k s, p.length ≤ s.length
  | 0, s, p, h => by
    unfold Lib.splitK at h
    rw [List.mem_singleton] at h
    rw [h]
    exact Nat.le_refl _
  | k + 1, s, p, h => by
    unfold Lib.splitK at h
    split at h
    · rw [List.mem_singleton] at h
      rw [h]
      exact Nat.le_refl _
    · rcases List.mem_cons.1 h with rfl | h
      · exact List.length_take_le' _ _
      · have := splitK_len sep k _ p h
        rw [List.length_drop] at this
        omega
theorem split_any (s : List UInt8) (hs : s.length ≤ 64) (w : World) (hE : IsEnv w) :
    Calls Tryd.prog 28 #[.string (mkS s), .string ⟨#[44, 32]⟩] w fun e w' => ∃ v, e = .returned v ∧ PartsIs w' (w.heap.size + 1) v (Lib.split s [44, 32]) ∧ Below w.heap.size w w' ∧ w'.heap.size = w.heap.size + 1 := by
  obtain ⟨m, hm⟩ := hE.top
  refine (Tryd.strings_Split (mkS s) ⟨#[44, 32]⟩ m w (by rw [mkS_size]; omega) hm (by decide)).mono fun e w' ⟨he, hw⟩ => ⟨_, he, ?_, by rw [hw]; exact (Below.refl _ _).alloc (Nat.le_refl _) _, by rw [hw]; simp⟩
  have hd := Lib.splitB_data ⟨#[44, 32]⟩ 0 (Lib.countB (mkS s) ⟨#[44, 32]⟩) (mkS s)
  have hl := Lib.splitB_all ⟨#[44, 32]⟩ (by decide) 0 _ (mkS s) rfl
  have hcl := Lib.countB_le ⟨#[44, 32]⟩ (by decide) _ (mkS s) (Nat.le_refl _)
  rw [mkS_size] at hcl
  rw [mkS_toList] at hd
  have hc : Lib.countB (mkS s) ⟨#[44, 32]⟩ = Lib.count s [44, 32] := by unfold Lib.countB; rw [mkS_toList]
  have hsp : Lib.split s [44, 32] = (Lib.splitB ⟨#[44, 32]⟩ 0 (Lib.countB (mkS s) ⟨#[44, 32]⟩) (mkS s)).map (fun b => b.data.toList) := by
    rw [hd, hc]
    rfl
  rw [hsp, hw]
  generalize Lib.splitB ⟨#[44, 32]⟩ 0 (Lib.countB (mkS s) ⟨#[44, 32]⟩) (mkS s) = bs at hl ⊢
  refine ⟨some ⟨w.heap.size, 0, none⟩, _, by rw [List.length_map, hl], by rw [List.length_map]; omega, by unfold maxLen; omega, fun _ => ⟨w.heap.size, 0, rfl, by omega, fun i t hi => ?_⟩⟩
  rw [List.getElem?_map] at hi
  have hb : (w.alloc (.cells ((bs.map Value.string).toArray) 9)).heap[w.heap.size]? = some (.cells ((bs.map Value.string).toArray) 9 (0, 0)) := heap_alloc_new w _
  rw [cell_of_row _ _ _ _ _ _ hb, Nat.zero_add]
  cases hq : bs[i]? with
  | none => rw [hq] at hi; cases hi
  | some b =>
    rw [hq] at hi
    simp only [Option.map_some, Option.some.injEq] at hi
    simp [hq, ← hi]
theorem trim_one (l : List UInt8) (c : UInt8) : Lib.trimPrefix l [c] = if l.head? = some c then l.tail else l := by
  unfold Lib.trimPrefix Lib.hasPrefix
  cases l with
  | nil => rfl
  | cons x r =>
    by_cases h : x = c
    · subst h; simp
    · have h2 : ¬ c = x := fun e => h e.symm
      simp [h, h2]
theorem trim_any (l : List UInt8) (c : UInt8) (w : World) :
    Calls Tryd.prog 30 #[.string (mkS l), .string (mkS [c])] w fun e w' => e = .returned (.string (mkS (if l.head? = some c then l.tail else l))) ∧ w = w' := by
  refine (Tryd.strings_TrimPrefix (mkS l) (mkS [c]) w).mono fun e w' ⟨he, hw⟩ => ⟨?_, hw.symm⟩
  rw [he, mkS_toList, mkS_toList, ← trim_one]
  rfl
/-- What isa.Read answers. -/
def ReadPost (s : List UInt8) (e : Ending) : Prop := e = .returned (.tuple #[insV ((readI s).getD Ins.none), .int .i64 (if (readI s).isSome = true then 0 else 151)])
theorem opI_lt (N : List UInt8) (ps : List (List UInt8)) : (opI N ps).1 < 256 := by
  unfold opI
  have := fun p => uN_le 6 p
  split
  · have := this (ps.headD []); dsimp only; omega
  split
  · have := this (ps.headD []); dsimp only; omega
  split
  · rename_i k hk
    unfold findOp at hk
    have := List.mem_of_find?_eq_some hk
    rw [List.mem_range] at this
    dsimp only
    omega
  · dsimp only; omega
theorem opI_parts (N : List UInt8) (ps : List (List UInt8)) (h : ∀ p ∈ ps, p.length ≤ 64) : ∀ p ∈ (opI N ps).2.1, p.length ≤ 64 := by
  unfold opI
  split
  · intro p hp; exact h p (List.mem_of_mem_tail hp)
  split
  · intro p hp; exact h p (List.mem_of_mem_tail hp)
  split
  · exact h
  · intro p hp; cases hp
theorem letters_known : ∀ op : Fin 256, ∀ c ∈ lettersI op.val, c = 97 ∨ c = 98 ∨ c = 99 ∨ c = 105 := by decide +kernel
theorem letters_len : ∀ op : Fin 256, (lettersI op.val).length ≤ 5 := by decide +kernel

theorem Blk.lower {w w' : World} {B b : Nat} {t : TypeId} {cs : Array Value} (h : Blk w b t cs) (hb : Below B w w') (hlt : b < B) : Blk w' b t cs := (hb.block b hlt).trans h
theorem fillOne_i (j : Ins) (p : List UInt8) : (∀ v, Lib.parseIntB 32 p = .ok v → fillOne j 105 p = some { j with imm := v }) ∧ ((∀ v, Lib.parseIntB 32 p ≠ .ok v) → fillOne j 105 p = none) := by
  unfold fillOne
  rw [if_pos rfl]
  refine ⟨fun v h => by rw [h], fun h => ?_⟩
  cases hp : Lib.parseIntB 32 p with
  | ok v => exact absurd hp (h v)
  | _ => rfl
theorem trimR_le (p : List UInt8) : (trimR p).length ≤ p.length := by
  unfold trimR
  split
  · rw [List.length_tail]; omega
  · exact Nat.le_refl _
theorem PartsIs.form {w : World} {B : Nat} {v : Value} {l : List (List UInt8)} (h : PartsIs w B v l) : ∃ a cap, v = .slice a l.length cap ∧ l.length ≤ cap := by
  obtain ⟨a, cap, h1, h2, _⟩ := h
  exact ⟨a, cap, h1, h2⟩
theorem fillOne_u (j : Ins) (c : UInt8) (p : List UInt8) (hc : c ≠ 105) : fillOne j c p = if uOk 4 (trimR p) = true then some (if c = 97 then { j with a := uN 4 (trimR p) } else if c = 98 then { j with b := uN 4 (trimR p) } else if c = 99 then { j with c := uN 4 (trimR p) } else j) else none := by
  unfold fillOne uOk uN
  rw [if_neg hc]
  cases Lib.parseUintB 4 (trimR p) <;> rfl
theorem fillI_step {j : Ins} {c : UInt8} {p : List UInt8} {L : List UInt8} {ps : List (List UInt8)} {n : Nat} (hc : L[n]? = some c) (hp : ps[n]? = some p) : fillI j (L.drop n) (ps.drop n) = match fillOne j c p with | some j' => fillI j' (L.drop (n + 1)) (ps.drop (n + 1)) | none => none := by
  obtain ⟨h1, h2⟩ := List.getElem?_eq_some_iff.1 hc
  obtain ⟨h3, h4⟩ := List.getElem?_eq_some_iff.1 hp
  rw [List.drop_eq_getElem_cons h1, List.drop_eq_getElem_cons h3, h2, h4]
  rfl
theorem fillI_end {j : Ins} {L : List UInt8} {ps : List (List UInt8)} : fillI j (L.drop L.length) ps = some j := by
  rw [List.drop_length]
  cases ps <;> rfl
theorem Blk.putA {w : World} {b : Nat} {t : TypeId} {i : Ins} (h : Blk w b t (insA i)) (n : Nat) : Blk (w.setCell ⟨b, 1, none⟩ (.int .u8 n)) b t (insA { i with a := n }) := by
  unfold Blk at h ⊢
  simp [World.setCell, Array.getElem?_modify, h, insA]
theorem Blk.putB {w : World} {b : Nat} {t : TypeId} {i : Ins} (h : Blk w b t (insA i)) (n : Nat) : Blk (w.setCell ⟨b, 2, none⟩ (.int .u8 n)) b t (insA { i with b := n }) := by
  unfold Blk at h ⊢
  simp [World.setCell, Array.getElem?_modify, h, insA]
theorem Blk.putC {w : World} {b : Nat} {t : TypeId} {i : Ins} (h : Blk w b t (insA i)) (n : Nat) : Blk (w.setCell ⟨b, 3, none⟩ (.int .u8 n)) b t (insA { i with c := n }) := by
  unfold Blk at h ⊢
  simp [World.setCell, Array.getElem?_modify, h, insA]
theorem Blk.putI {w : World} {b : Nat} {t : TypeId} {i : Ins} (h : Blk w b t (insA i)) (n : Int) : Blk (w.setCell ⟨b, 4, none⟩ (.int .i32 n)) b t (insA { i with imm := n }) := by
  unfold Blk at h ⊢
  simp [World.setCell, Array.getElem?_modify, h, insA]
theorem pieces_len (s : List UInt8) (hs : s.length ≤ 64) : ∀ p ∈ piecesI s, p.length ≤ 64 := by
  unfold piecesI
  split
  · intro p hp
    have := splitK_len _ _ _ p hp
    have := cut_len s hs
    omega
  · intro p hp; cases hp
set_option maxHeartbeats 4000000 in
set_option maxRecDepth 100000 in
theorem Read_any (s : List UInt8) (hs : s.length ≤ maxLen) (w : World) (hE : IsEnv w) : Calls Tryd.prog 12 #[.string (mkS s)] w fun e w' => ReadPost s e ∧ Below w.heap.size w w' := by
  have HRd : Hid (readI s = match candI s with | some i => if rightI i = true ∧ textI i = s then some i else none | none => none) := Lib.hid rfl
  have HCa : Hid (candI s = if 64 < s.length then none else if (opI (Lib.cut s [32]).1 (piecesI s)).2.2 = false ∨ (opI (Lib.cut s [32]).1 (piecesI s)).2.1.length ≠ (lettersI (opI (Lib.cut s [32]).1 (piecesI s)).1).length then none
    else fillI ⟨(opI (Lib.cut s [32]).1 (piecesI s)).1, 0, 0, 0, 0⟩ (lettersI (opI (Lib.cut s [32]).1 (piecesI s)).1) (opI (Lib.cut s [32]).1 (piecesI s)).2.1) := Lib.hid rfl
  have HE := Lib.hid hE
  clear hE
  generalize candI s = CA at HRd HCa
  unfold maxLen at hs
  by_cases h64 : 64 < s.length
  · have hca := HCa.out
    rw [if_pos h64] at hca
    subst hca
    have hrd : readI s = none := HRd.out
    have HNo := Lib.hid hrd
    clear hrd HRd HCa
    have hl : (64 : Int) < s.length := by omega
    go_enter Tryd.func12, Tryd.ntmps12
    go_wp2_with fail
    refine bodyPost_ret (v := .tuple #[.agg #[.int .u8 0, .int .u8 0, .int .u8 0, .int .u8 0, .int .i32 0], .int .i64 151]) (by simp [results, Tryd.results12, go_sem]) rfl ⟨by unfold ReadPost; rw [HNo.out]; rfl, ?_⟩
    repeat (first | exact (Below.refl _ _).alloc (Nat.le_refl _) _ | refine below_set ?_ (Nat.le_refl _) _)
  · have hca := HCa.out
    rw [if_neg h64] at hca
    have HCb := Lib.hid hca
    clear hca HCa
    have hl : (s.length : Int) ≤ 64 := by omega
    have hl2 : s.length ≤ 64 := by omega
    have hl3 : ¬ (64 : Int) < s.length := by omega
    have HCut := Lib.hid (fun w hE => cut_any s hl2 w hE)
    have hclen := cut_len s hl2
    have HLen := Lib.hid (pieces_len s hl2)
    have HPc : Hid (piecesI s = if (Lib.cut s [32]).2.2 = true then Lib.split (Lib.cut s [32]).2.1 [44, 32] else []) := Lib.hid rfl
    generalize Lib.cut s [32] = C at HCut HCb HPc hclen
    obtain ⟨N, rest, some_⟩ := C
    dsimp only at HCut HCb HPc hclen
    go_enter Tryd.func12, Tryd.ntmps12
    go_wp2_with fail
    refine (HCut.out _ (HE.out.kept ((Below.refl _ _).alloc (Nat.le_refl _) _))).mono ?_
    rintro _ _ ⟨rfl, n1, rfl⟩
    generalize hw1 : (w.alloc (.cells #[.int .u8 0, .int .u8 0, .int .u8 0, .int .u8 0, .int .i32 0] 23)).drewN n1 = w1
    have hB1 : Blk w1 w.heap.size 23 (insA Ins.none) := by rw [← hw1]; exact Blk.new w _ _ rfl
    have hb1 : Below w.heap.size w w1 := by rw [← hw1]; exact below_drewN' ((Below.refl _ _).alloc (Nat.le_refl _) _) _
    have HE1 := Lib.hid (HE.out.kept hb1)
    have HB1 := Lib.hid hB1
    have Z1 := Lib.hid hb1
    have hs1 : w1.heap.size = w.heap.size + 1 := by rw [← hw1]; simp
    have HS1 := Lib.hid hs1
    clear hw1 hB1 hb1 hs1 hl hl3 HCut
    go_upto_if 31 with fail
    go_cut [7] from 31 to 33 (fun v wx => ∃ a cap, v = .slice a (piecesI s).length cap ∧ PartsIs wx wx.heap.size (.slice a (piecesI s).length cap) (piecesI s) ∧ Below w1.heap.size w1 wx)
    case first =>
      cases some_
      · have hpc := HPc.out
        rw [if_neg (by decide)] at hpc
        go_wp2_with fail
        go_meet
        case rel => exact ⟨none, 0, by rw [hpc]; rfl, by rw [hpc]; exact .nil _ _, Below.refl _ _⟩
      · have hpc := HPc.out
        rw [if_pos rfl] at hpc
        have HPc2 := Lib.hid hpc
        clear hpc HPc
        go_wp2_with fail
        refine (split_any rest hclen w1 HE1.out).mono ?_
        rintro _ w2 ⟨v, rfl, hP, hb2, hs2⟩
        obtain ⟨a, cap, rfl, -⟩ := hP.form
        have HP2 := Lib.hid hP
        have HS2 := Lib.hid hs2
        clear hP hs2
        go_wp2_with fail
        go_meet
        case rel => exact ⟨a, cap, by rw [HPc2.out], by rw [HPc2.out, HS2.out]; exact HP2.out, hb2⟩
    case rest =>
      obtain ⟨a0, cap0, rfl, hP, hbc⟩ := hcut
      have HLe := HLen.out
      generalize piecesI s = ps at hP HLe HCb ⊢
      have hOp := op_any N _ ps HLe wc (HE1.out.kept hbc) hP
      generalize ps.length = m0 at hP hOp ⊢
      have HOp := Lib.hid hOp
      clear hOp
      have HKo := Lib.hid (opI_lt N ps)
      have HPo := Lib.hid (opI_parts N ps HLe)
      have Zc := Lib.hid (Z1.out.trans (hbc.mono Z1.out.size))
      have HRc := Lib.hid (HB1.out.below hbc)
      unfold OpPost at HOp
      clear hP hbc HLe HPc HLen HB1
      generalize opI N ps = O at HOp HKo HPo HCb
      obtain ⟨op, qs, ok⟩ := O
      dsimp only at HOp HKo HPo HCb
      have hop := HKo.out
      go_wp2_with fail
      with_reducible refine HOp.out.mono ?_
      rintro _ w2 ⟨⟨v', rfl, hq⟩, hb2⟩
      have hR2 := HRc.out.below hb2
      have hlt2 : w.heap.size < w2.heap.size := hR2.lt
      have HQ := Lib.hid (hq.mono hb2.size)
      have Z2 := Lib.hid (Zc.out.trans (hb2.mono Zc.out.size))
      have HR2 := Lib.hid hR2
      obtain ⟨aq, cq, hv, hq1, hq2, -⟩ := hq
      subst hv
      clear hb2 hR2 HOp Zc HRc HE1 Z1 HS1
      have HH := Lib.hid (has_any op hop)
      unfold HasPost at HH
      go_wp2_with fail
      refine (HH.out _).mono ?_
      rintro _ _ ⟨rfl, rfl⟩
      clear HH
      go_wp2_with fail
      have HLt : Hid (lettersI op = if (hasI op).2.head? = some 110 then (hasI op).2.tail else (hasI op).2) := Lib.hid rfl
      have HTr := Lib.hid (fun w => trim_any (hasI op).2 110 w)
      rw [← HLt.out] at HTr
      clear HLt
      refine (HTr.out _).mono ?_
      rintro _ _ ⟨rfl, rfl⟩
      clear HTr
      obtain ⟨wx, hwx⟩ : ∃ wx, wx = w2.alloc (.cells #[.int .u8 op, .int .u8 0, .int .u8 0, .int .u8 0, .int .i32 0] 23) := ⟨_, rfl⟩
      rw [← hwx]
      have HRx : Hid (Blk wx w.heap.size 23 (insA Ins.none)) := Lib.hid (by rw [hwx]; exact HR2.out.alloc _)
      have HIx : Hid (Blk wx w2.heap.size 23 (insA ⟨op, 0, 0, 0, 0⟩)) := Lib.hid (by rw [hwx]; exact Blk.new w2 _ _ rfl)
      have Z2x : Hid (Below w2.heap.size w2 wx) := Lib.hid (by rw [hwx]; exact (Below.refl _ _).alloc (Nat.le_refl _) _)
      have HSx : Hid (wx.heap.size = w2.heap.size + 1) := Lib.hid (by rw [hwx]; simp)
      have Zx := Lib.hid (Z2.out.trans (Z2x.out.mono (by omega)))
      clear hwx
      have hLl := letters_len ⟨op, hop⟩
      have HLk := Lib.hid (letters_known ⟨op, hop⟩)
      dsimp only at hLl HLk
      generalize lettersI op = L at *
      cases ok
      · have HNo : Hid (readI s = none) := Lib.hid (by have h := HCb.out; rw [if_pos (Or.inl rfl)] at h; have h2 := HRd.out; rw [h] at h2; exact h2)
        clear HCb HRd
        have hR := HRx.out
        have f0 := hR.froz 0
        have f1 := hR.froz 1
        have f2 := hR.froz 2
        have f3 := hR.froz 3
        have f4 := hR.froz 4
        have d0 : _ = some (Value.int .u8 0) := hR.cell 0
        have d1 : _ = some (Value.int .u8 0) := hR.cell 1
        have d2 : _ = some (Value.int .u8 0) := hR.cell 2
        have d3 : _ = some (Value.int .u8 0) := hR.cell 3
        have d4 : _ = some (Value.int .i32 0) := hR.cell 4
        have ZR := Lib.hid (Zx.out)
        clear hR
        go_wp2_with fail
        refine bodyPost_ret (v := .tuple #[.agg #[.int .u8 0, .int .u8 0, .int .u8 0, .int .u8 0, .int .i32 0], .int .i64 151]) (by simp [results, Tryd.results12, go_sem, d0, d1, d2, d3, d4]) rfl ⟨?_, ?_⟩
        · unfold ReadPost; rw [HNo.out]; rfl
        · repeat (first | with_reducible exact ZR.out | with_reducible refine below_set ?_ (Nat.le_refl _) _ | (with_reducible refine Below.alloc ?_ ?_ _; rotate_left; omega))
      · by_cases hlen : qs.length = L.length
        · have hca := HCb.out
          rw [if_neg (by rintro (h | h); cases h; exact h hlen)] at hca
          have HCc := Lib.hid hca
          clear hca HCb
          rw [hlen] at hq1 ⊢
          have HLq := Lib.hid hlen
          clear hlen
          go_wp2_with fail
          go_loopw [] (fun wr => ∃ (n : Nat) (j : Ins), n ≤ L.length ∧ Blk wr w2.heap.size 23 (insA j) ∧ wr.heap[wx.heap.size]? = some (.stringIter (mkS L) n) ∧ Below w2.heap.size w2 wr ∧ Hid (j.ok ∧ CA = fillI j (L.drop n) (qs.drop n))) (fun wr => L.length - wr.iterPos wx.heap.size)
          case atStart => exact ⟨0, ⟨op, 0, 0, 0, 0⟩, Nat.zero_le _, HIx.out.alloc _, World.iter_heap wx (mkS L) 0, Z2x.out.alloc (by have := HSx.out; omega) _, Lib.hid ⟨zero_ok hop, HCc.out⟩⟩
          case round =>
            obtain ⟨n, j, hn, hI, hit, hbel, hj⟩ := hrel
            obtain ⟨hjk, hCA⟩ := hj.out
            have hsx2 : w2.heap.size < wx.heap.size := by have := HSx.out; omega
            have hsx : w2.heap.size ≤ wx.heap.size := by omega
            have hsr : wx.heap.size < wr.heap.size := (Array.getElem?_eq_some_iff.1 hit).1
            have hpos : wr.iterPos wx.heap.size = n := iterPos_of hit
            clear HRx HIx Z2x HSx Zx hj HCc
            by_cases hp : n < L.length
            · obtain ⟨ch, hch⟩ : ∃ ch, L[n]? = some ch := ⟨L[n], List.getElem?_eq_getElem hp⟩
              obtain ⟨p, hpq⟩ : ∃ p, qs[n]? = some p := ⟨qs[n]'(by have := HLq.out; omega), List.getElem?_eq_getElem _⟩
              have hplen := HPo.out p (List.mem_of_getElem? hpq)
              have hcs := HLk.out ch (List.mem_of_getElem? hch)
              have hlt : ch.toNat < 128 := by rcases hcs with rfl | rfl | rfl | rfl <;> decide
              have hnx0 := fun ty => Lib.run_next_ascii_at (P := Tryd.prog) wr wx.heap.size (mkS L) n ty hit (by rw [mkS_size]; exact hp) (by rw [get_mkS hch]; exact hlt)
              have hnx : ∀ ty, (Instr.next (.pointer (some ⟨wx.heap.size, 0, none⟩)) true ty).run Tryd.prog wr = .ok (.tuple #[.bool true, .int .i64 n, .int .i32 ch.toNat]) (wr.iterAt wx.heap.size (mkS L) (n + 1)) := fun ty => by rw [hnx0 ty, get_mkS hch]
              clear hnx0
              rw [fillI_step hch hpq] at hCA
              have HCA := Lib.hid hCA
              have HPos := Lib.hid hpos
              have hI1 := hI.iter hit (n + 1)
              have HIt := Lib.hid (Lib.iterAt_heap wr wx.heap.size (mkS L) n (n + 1) hit)
              have b1 := Lib.below_iterAt hbel (k := wx.heap.size) hsx (mkS L) (n + 1)
              obtain ⟨aq2, cq2, he, -, -, hQ⟩ := HQ.out
              injection he with he1 _ he2
              subst he1 he2
              obtain ⟨g, o, ha, hg, hcell⟩ := hQ (by have := HLq.out; omega)
              subst ha
              have hc : (wr.iterAt wx.heap.size (mkS L) (n + 1)).cell? ⟨g, o + n, none⟩ = some (.string (mkS p)) := (b1.cell (p := ⟨g, _, none⟩) hg).trans (hcell n p hpq)
              have HEi := Lib.hid (HE.out.kept (Z2.out.trans (b1.mono (Nat.le_of_lt hlt2))))
              have B1 := Lib.hid b1
              have HI1 := Lib.hid hI1
              have HJk := Lib.hid hjk
              clear hit hbel hI hpos hch hpq hlt hCA hI1 b1 hQ hcell hjk
              generalize wr.iterAt wx.heap.size (mkS L) (n + 1) = wi at *
              rcases hcs with rfl | rfl | rfl | rfl
              · have HF := Lib.hid (HCA.out.trans (by rw [fillOne_u j 97 p (by decide)]))
                have hu := uN_le 4 (trimR p)
                have hpl2 := trimR_le p
                have HTp := Lib.hid (fun w => trim_any p 114 w)
                have HU := Lib.hid (pu4_any (mkS (trimR p)) wi HEi.out (by rw [mkS_size]; omega))
                rw [mkS_toList] at HU
                have hT : (if p.head? = some 114 then p.tail else p) = trimR p := rfl
                rw [hT] at HTp
                clear hT
                unfold UPost at HU
                generalize trimR p = q at *
                generalize uN 4 q = u at *
                generalize uOk 4 q = ok at *
                go_wp2_with fail
                refine (HTp.out _).mono ?_
                rintro _ _ ⟨rfl, rfl⟩
                go_wp2_with fail
                refine HU.out.mono ?_
                rintro _ w3 ⟨⟨ev, rfl, h1, h2⟩, b3⟩
                have hI3 := HI1.out.below b3
                have HIt3 := Lib.hid (heap_below HIt.out b3)
                have hb3 := B1.out.trans (b3.mono B1.out.size)
                have B3 := Lib.hid hb3
                clear b3 HU HTp hc HIt HI1 hb3 hnx
                cases ok
                · obtain ⟨te, pe, rfl⟩ := h2 rfl
                  have hf := HF.out
                  rw [if_neg (by decide)] at hf
                  have HNo : Hid (readI s = none) := Lib.hid (by have h2 := HRd.out; rw [hf] at h2; exact h2)
                  clear h1 h2 hf HF HCA HRd hI3
                  have hR := HR2.out.lower B3.out hlt2
                  have f0 := hR.froz 0
                  have f1 := hR.froz 1
                  have f2 := hR.froz 2
                  have f3 := hR.froz 3
                  have f4 := hR.froz 4
                  have d0 : _ = some (Value.int .u8 0) := hR.cell 0
                  have d1 : _ = some (Value.int .u8 0) := hR.cell 1
                  have d2 : _ = some (Value.int .u8 0) := hR.cell 2
                  have d3 : _ = some (Value.int .u8 0) := hR.cell 3
                  have d4 : _ = some (Value.int .i32 0) := hR.cell 4
                  have ZR := Lib.hid (Z2.out.trans (B3.out.mono (Nat.le_of_lt hlt2)))
                  clear hR
                  go_wp2_with fail
                  refine bodyPost_ret (v := .tuple #[.agg #[.int .u8 0, .int .u8 0, .int .u8 0, .int .u8 0, .int .i32 0], .int .i64 151]) (by simp [results, Tryd.results12, go_sem, d0, d1, d2, d3, d4]) rfl ⟨?_, ?_⟩
                  · unfold ReadPost; rw [HNo.out]; rfl
                  · repeat (first | with_reducible exact ZR.out | with_reducible refine below_set ?_ (Nat.le_refl _) _)
                · obtain rfl := h1 rfl
                  have hf := HF.out
                  rw [if_pos rfl] at hf
                  have HF2 := Lib.hid hf
                  clear h1 h2 hf HF HCA
                  have fz := hI3.froz 1
                  have cz : _ = some (Value.int .u8 j.a) := hI3.cell 1
                  have hu2 : u ≤ 255 := by omega
                  have HI4 := Lib.hid (hI3.putA u)
                  clear hI3
                  go_wp2_with fail
                  go_roundw
                  case rel =>
                    refine ⟨n + 1, _, hp, HI4.out, heap_other HIt3.out (by omega) _ _, B3.out.setCell (Nat.le_refl _) _, Lib.hid ⟨?_, HF2.out⟩⟩
                    obtain ⟨g1, g2, g3, g4, g5, g6⟩ := HJk.out
                    exact ⟨g1, by first | exact g2 | (dsimp only; omega), by first | exact g3 | (dsimp only; omega), by first | exact g4 | (dsimp only; omega), g5, g6⟩
                  case measure =>
                    rw [HPos.out, iterPos_of (heap_other HIt3.out (by omega) _ _)]
                    omega
              · have HF := Lib.hid (HCA.out.trans (by rw [fillOne_u j 98 p (by decide)]))
                have hu := uN_le 4 (trimR p)
                have hpl2 := trimR_le p
                have HTp := Lib.hid (fun w => trim_any p 114 w)
                have HU := Lib.hid (pu4_any (mkS (trimR p)) wi HEi.out (by rw [mkS_size]; omega))
                rw [mkS_toList] at HU
                have hT : (if p.head? = some 114 then p.tail else p) = trimR p := rfl
                rw [hT] at HTp
                clear hT
                unfold UPost at HU
                generalize trimR p = q at *
                generalize uN 4 q = u at *
                generalize uOk 4 q = ok at *
                go_wp2_with fail
                refine (HTp.out _).mono ?_
                rintro _ _ ⟨rfl, rfl⟩
                go_wp2_with fail
                refine HU.out.mono ?_
                rintro _ w3 ⟨⟨ev, rfl, h1, h2⟩, b3⟩
                have hI3 := HI1.out.below b3
                have HIt3 := Lib.hid (heap_below HIt.out b3)
                have hb3 := B1.out.trans (b3.mono B1.out.size)
                have B3 := Lib.hid hb3
                clear b3 HU HTp hc HIt HI1 hb3 hnx
                cases ok
                · obtain ⟨te, pe, rfl⟩ := h2 rfl
                  have hf := HF.out
                  rw [if_neg (by decide)] at hf
                  have HNo : Hid (readI s = none) := Lib.hid (by have h2 := HRd.out; rw [hf] at h2; exact h2)
                  clear h1 h2 hf HF HCA HRd hI3
                  have hR := HR2.out.lower B3.out hlt2
                  have f0 := hR.froz 0
                  have f1 := hR.froz 1
                  have f2 := hR.froz 2
                  have f3 := hR.froz 3
                  have f4 := hR.froz 4
                  have d0 : _ = some (Value.int .u8 0) := hR.cell 0
                  have d1 : _ = some (Value.int .u8 0) := hR.cell 1
                  have d2 : _ = some (Value.int .u8 0) := hR.cell 2
                  have d3 : _ = some (Value.int .u8 0) := hR.cell 3
                  have d4 : _ = some (Value.int .i32 0) := hR.cell 4
                  have ZR := Lib.hid (Z2.out.trans (B3.out.mono (Nat.le_of_lt hlt2)))
                  clear hR
                  go_wp2_with fail
                  refine bodyPost_ret (v := .tuple #[.agg #[.int .u8 0, .int .u8 0, .int .u8 0, .int .u8 0, .int .i32 0], .int .i64 151]) (by simp [results, Tryd.results12, go_sem, d0, d1, d2, d3, d4]) rfl ⟨?_, ?_⟩
                  · unfold ReadPost; rw [HNo.out]; rfl
                  · repeat (first | with_reducible exact ZR.out | with_reducible refine below_set ?_ (Nat.le_refl _) _)
                · obtain rfl := h1 rfl
                  have hf := HF.out
                  rw [if_pos rfl] at hf
                  have HF2 := Lib.hid hf
                  clear h1 h2 hf HF HCA
                  have fz := hI3.froz 2
                  have cz : _ = some (Value.int .u8 j.b) := hI3.cell 2
                  have hu2 : u ≤ 255 := by omega
                  have HI4 := Lib.hid (hI3.putB u)
                  clear hI3
                  go_wp2_with fail
                  go_roundw
                  case rel =>
                    refine ⟨n + 1, _, hp, HI4.out, heap_other HIt3.out (by omega) _ _, B3.out.setCell (Nat.le_refl _) _, Lib.hid ⟨?_, HF2.out⟩⟩
                    obtain ⟨g1, g2, g3, g4, g5, g6⟩ := HJk.out
                    exact ⟨g1, by first | exact g2 | (dsimp only; omega), by first | exact g3 | (dsimp only; omega), by first | exact g4 | (dsimp only; omega), g5, g6⟩
                  case measure =>
                    rw [HPos.out, iterPos_of (heap_other HIt3.out (by omega) _ _)]
                    omega
              · have HF := Lib.hid (HCA.out.trans (by rw [fillOne_u j 99 p (by decide)]))
                have hu := uN_le 4 (trimR p)
                have hpl2 := trimR_le p
                have HTp := Lib.hid (fun w => trim_any p 114 w)
                have HU := Lib.hid (pu4_any (mkS (trimR p)) wi HEi.out (by rw [mkS_size]; omega))
                rw [mkS_toList] at HU
                have hT : (if p.head? = some 114 then p.tail else p) = trimR p := rfl
                rw [hT] at HTp
                clear hT
                unfold UPost at HU
                generalize trimR p = q at *
                generalize uN 4 q = u at *
                generalize uOk 4 q = ok at *
                go_wp2_with fail
                refine (HTp.out _).mono ?_
                rintro _ _ ⟨rfl, rfl⟩
                go_wp2_with fail
                refine HU.out.mono ?_
                rintro _ w3 ⟨⟨ev, rfl, h1, h2⟩, b3⟩
                have hI3 := HI1.out.below b3
                have HIt3 := Lib.hid (heap_below HIt.out b3)
                have hb3 := B1.out.trans (b3.mono B1.out.size)
                have B3 := Lib.hid hb3
                clear b3 HU HTp hc HIt HI1 hb3 hnx
                cases ok
                · obtain ⟨te, pe, rfl⟩ := h2 rfl
                  have hf := HF.out
                  rw [if_neg (by decide)] at hf
                  have HNo : Hid (readI s = none) := Lib.hid (by have h2 := HRd.out; rw [hf] at h2; exact h2)
                  clear h1 h2 hf HF HCA HRd hI3
                  have hR := HR2.out.lower B3.out hlt2
                  have f0 := hR.froz 0
                  have f1 := hR.froz 1
                  have f2 := hR.froz 2
                  have f3 := hR.froz 3
                  have f4 := hR.froz 4
                  have d0 : _ = some (Value.int .u8 0) := hR.cell 0
                  have d1 : _ = some (Value.int .u8 0) := hR.cell 1
                  have d2 : _ = some (Value.int .u8 0) := hR.cell 2
                  have d3 : _ = some (Value.int .u8 0) := hR.cell 3
                  have d4 : _ = some (Value.int .i32 0) := hR.cell 4
                  have ZR := Lib.hid (Z2.out.trans (B3.out.mono (Nat.le_of_lt hlt2)))
                  clear hR
                  go_wp2_with fail
                  refine bodyPost_ret (v := .tuple #[.agg #[.int .u8 0, .int .u8 0, .int .u8 0, .int .u8 0, .int .i32 0], .int .i64 151]) (by simp [results, Tryd.results12, go_sem, d0, d1, d2, d3, d4]) rfl ⟨?_, ?_⟩
                  · unfold ReadPost; rw [HNo.out]; rfl
                  · repeat (first | with_reducible exact ZR.out | with_reducible refine below_set ?_ (Nat.le_refl _) _)
                · obtain rfl := h1 rfl
                  have hf := HF.out
                  rw [if_pos rfl] at hf
                  have HF2 := Lib.hid hf
                  clear h1 h2 hf HF HCA
                  have fz := hI3.froz 3
                  have cz : _ = some (Value.int .u8 j.c) := hI3.cell 3
                  have hu2 : u ≤ 255 := by omega
                  have HI4 := Lib.hid (hI3.putC u)
                  clear hI3
                  go_wp2_with fail
                  go_roundw
                  case rel =>
                    refine ⟨n + 1, _, hp, HI4.out, heap_other HIt3.out (by omega) _ _, B3.out.setCell (Nat.le_refl _) _, Lib.hid ⟨?_, HF2.out⟩⟩
                    obtain ⟨g1, g2, g3, g4, g5, g6⟩ := HJk.out
                    exact ⟨g1, by first | exact g2 | (dsimp only; omega), by first | exact g3 | (dsimp only; omega), by first | exact g4 | (dsimp only; omega), g5, g6⟩
                  case measure =>
                    rw [HPos.out, iterPos_of (heap_other HIt3.out (by omega) _ _)]
                    omega
              · have HU := Lib.hid (pint_any (mkS p) wi HEi.out (by rw [mkS_size]; omega))
                rw [mkS_toList] at HU
                unfold IPost at HU
                by_cases hok : ∃ v, Lib.parseIntB 32 p = .ok v
                · obtain ⟨v, hv⟩ := hok
                  have hf := HCA.out
                  rw [(fillOne_i j p).1 v hv] at hf
                  have HF2 := Lib.hid hf
                  have HV := Lib.hid hv
                  clear hf hv HCA
                  go_wp2_with fail
                  refine HU.out.mono ?_
                  rintro _ w3 ⟨⟨v3, ev, rfl, h1, -⟩, b3⟩
                  obtain ⟨hv3, hev, hr1, hr2⟩ := h1 v HV.out
                  subst hv3 hev
                  have hI3 := HI1.out.below b3
                  have HIt3 := Lib.hid (heap_below HIt.out b3)
                  have hb3 := B1.out.trans (b3.mono B1.out.size)
                  have B3 := Lib.hid hb3
                  clear b3 HU hc HIt HI1 hb3 hnx h1
                  have fz := hI3.froz 4
                  have cz : _ = some (Value.int .i32 j.imm) := hI3.cell 4
                  have HI4 := Lib.hid (hI3.putI v3)
                  clear hI3
                  go_wp2_with fail
                  go_roundw
                  case rel =>
                    refine ⟨n + 1, _, hp, HI4.out, heap_other HIt3.out (by omega) _ _, B3.out.setCell (Nat.le_refl _) _, Lib.hid ⟨?_, HF2.out⟩⟩
                    obtain ⟨g1, g2, g3, g4, g5, g6⟩ := HJk.out
                    exact ⟨g1, g2, g3, g4, hr1, hr2⟩
                  case measure =>
                    rw [HPos.out, iterPos_of (heap_other HIt3.out (by omega) _ _)]
                    omega
                · have hf := HCA.out
                  rw [(fillOne_i j p).2 (fun v hv => hok ⟨v, hv⟩)] at hf
                  have HNo : Hid (readI s = none) := Lib.hid (by have h2 := HRd.out; rw [hf] at h2; exact h2)
                  have HOk := Lib.hid hok
                  clear hok hf HCA HRd
                  go_wp2_with fail
                  refine HU.out.mono ?_
                  rintro _ w3 ⟨⟨v3, ev, rfl, -, h2⟩, b3⟩
                  obtain ⟨te, pe, rfl⟩ := h2 (fun v hv => HOk.out ⟨v, hv⟩)
                  have hb3 := B1.out.trans (b3.mono B1.out.size)
                  have B3 := Lib.hid hb3
                  clear b3 HU hc HIt HI1 hb3 hnx h2
                  have hR := HR2.out.lower B3.out hlt2
                  have f0 := hR.froz 0
                  have f1 := hR.froz 1
                  have f2 := hR.froz 2
                  have f3 := hR.froz 3
                  have f4 := hR.froz 4
                  have d0 : _ = some (Value.int .u8 0) := hR.cell 0
                  have d1 : _ = some (Value.int .u8 0) := hR.cell 1
                  have d2 : _ = some (Value.int .u8 0) := hR.cell 2
                  have d3 : _ = some (Value.int .u8 0) := hR.cell 3
                  have d4 : _ = some (Value.int .i32 0) := hR.cell 4
                  have ZR := Lib.hid (Z2.out.trans (B3.out.mono (Nat.le_of_lt hlt2)))
                  clear hR
                  go_wp2_with fail
                  refine bodyPost_ret (v := .tuple #[.agg #[.int .u8 0, .int .u8 0, .int .u8 0, .int .u8 0, .int .i32 0], .int .i64 151]) (by simp [results, Tryd.results12, go_sem, d0, d1, d2, d3, d4]) rfl ⟨?_, ?_⟩
                  · unfold ReadPost; rw [HNo.out]; rfl
                  · repeat (first | with_reducible exact ZR.out | with_reducible refine below_set ?_ (Nat.le_refl _) _)
            · obtain rfl : n = L.length := by omega
              have hnx : ∀ ty, (Instr.next (.pointer (some ⟨wx.heap.size, 0, none⟩)) true ty).run Tryd.prog wr = .ok (.tuple #[.bool false]) wr := fun ty => Lib.run_next_end_at (P := Tryd.prog) wr wx.heap.size (mkS L) L.length ty hit (by rw [mkS_size]; exact hp)
              rw [fillI_end] at hCA
              have hrd := HRd.out
              rw [hCA] at hrd
              have HRd2 := Lib.hid hrd
              have HTx := Lib.hid (Text_any j hjk wr (HE.out.kept (Z2.out.trans (hbel.mono (Nat.le_of_lt hlt2)))))
              unfold TextPost at HTx
              dsimp only at HRd2
              generalize textI j = T at HTx HRd2
              generalize rightI j = rt at HTx HRd2
              obtain ⟨o2, a2, b2, c2, i2⟩ := j
              have p0 : wr.cell? ⟨w2.heap.size, 0, none⟩ = some (.int .u8 o2) := hI.cell 0
              have p1 : wr.cell? ⟨w2.heap.size, 1, none⟩ = some (.int .u8 a2) := hI.cell 1
              have p2 : wr.cell? ⟨w2.heap.size, 2, none⟩ = some (.int .u8 b2) := hI.cell 2
              have p3 : wr.cell? ⟨w2.heap.size, 3, none⟩ = some (.int .u8 c2) := hI.cell 3
              have p4 : wr.cell? ⟨w2.heap.size, 4, none⟩ = some (.int .i32 i2) := hI.cell 4
              have HI := Lib.hid hI
              have B1 := Lib.hid hbel
              clear hI hbel hit hpos hrd hCA hjk HRd hn hp
              unfold insV insA at HTx
              dsimp only at HTx
              go_wp2_with fail
              refine HTx.out.mono ?_
              rintro _ w3 ⟨rfl, b3⟩
              have hI3 := HI.out.below b3
              have B3 := Lib.hid (B1.out.trans (b3.mono B1.out.size))
              clear b3 HTx p0 p1 p2 p3 p4 hnx
              cases rt
              · have HNo : Hid (readI s = none) := Lib.hid (by rw [HRd2.out, if_neg (fun h => by cases h.1)])
                clear HRd2 hI3
                simp only [Bool.false_eq_true, if_false]
                have hR := HR2.out.lower B3.out hlt2
                have f0 := hR.froz 0
                have f1 := hR.froz 1
                have f2 := hR.froz 2
                have f3 := hR.froz 3
                have f4 := hR.froz 4
                have d0 : _ = some (Value.int .u8 0) := hR.cell 0
                have d1 : _ = some (Value.int .u8 0) := hR.cell 1
                have d2 : _ = some (Value.int .u8 0) := hR.cell 2
                have d3 : _ = some (Value.int .u8 0) := hR.cell 3
                have d4 : _ = some (Value.int .i32 0) := hR.cell 4
                have ZR := Lib.hid (Z2.out.trans (B3.out.mono (Nat.le_of_lt hlt2)))
                clear hR
                go_wp2_with fail
                refine bodyPost_ret (v := .tuple #[.agg #[.int .u8 0, .int .u8 0, .int .u8 0, .int .u8 0, .int .i32 0], .int .i64 151]) (by simp [results, Tryd.results12, go_sem, d0, d1, d2, d3, d4]) rfl ⟨?_, ?_⟩
                · unfold ReadPost; rw [HNo.out]; rfl
                · repeat (first | with_reducible exact ZR.out | with_reducible refine below_set ?_ (Nat.le_refl _) _)
              · simp only [if_true]
                by_cases hTs : T = s
                · subst hTs
                  have HYes : Hid (readI T = some ⟨o2, a2, b2, c2, i2⟩) := Lib.hid (by rw [HRd2.out, if_pos ⟨rfl, rfl⟩])
                  clear HRd2
                  have p0 : w3.cell? ⟨w2.heap.size, 0, none⟩ = some (.int .u8 o2) := hI3.cell 0
                  have p1 : w3.cell? ⟨w2.heap.size, 1, none⟩ = some (.int .u8 a2) := hI3.cell 1
                  have p2 : w3.cell? ⟨w2.heap.size, 2, none⟩ = some (.int .u8 b2) := hI3.cell 2
                  have p3 : w3.cell? ⟨w2.heap.size, 3, none⟩ = some (.int .u8 c2) := hI3.cell 3
                  have p4 : w3.cell? ⟨w2.heap.size, 4, none⟩ = some (.int .i32 i2) := hI3.cell 4
                  clear hI3
                  have hR := HR2.out.lower B3.out hlt2
                  have f0 := hR.froz 0
                  have f1 := hR.froz 1
                  have f2 := hR.froz 2
                  have f3 := hR.froz 3
                  have f4 := hR.froz 4
                  have d0 : _ = some (Value.int .u8 0) := hR.cell 0
                  have d1 : _ = some (Value.int .u8 0) := hR.cell 1
                  have d2 : _ = some (Value.int .u8 0) := hR.cell 2
                  have d3 : _ = some (Value.int .u8 0) := hR.cell 3
                  have d4 : _ = some (Value.int .i32 0) := hR.cell 4
                  have ZR := Lib.hid (Z2.out.trans (B3.out.mono (Nat.le_of_lt hlt2)))
                  clear hR
                  go_wp2_with fail
                  refine bodyPost_ret (v := .tuple #[.agg #[.int .u8 o2, .int .u8 a2, .int .u8 b2, .int .u8 c2, .int .i32 i2], .int .i64 0]) (by simp [results, Tryd.results12, go_sem, d0, d1, d2, d3, d4]) rfl ⟨?_, ?_⟩
                  · unfold ReadPost; rw [HYes.out]; rfl
                  · repeat (first | with_reducible exact ZR.out | with_reducible refine below_set ?_ (Nat.le_refl _) _)
                · have HNo : Hid (readI s = none) := Lib.hid (by rw [HRd2.out, if_neg (fun h => hTs h.2)])
                  have e4 : ¬ (mkS T).toList = (mkS s).toList := by rw [ByteArray.toList_eq, ByteArray.toList_eq, mkS_toList, mkS_toList]; exact hTs
                  have e5 : ((mkS T).toList == (mkS s).toList) = false := by rw [beq_eq_false_iff_ne]; exact e4
                  have e6 : ((mkS T).toList != (mkS s).toList) = true := by rw [bne_iff_ne]; exact e4
                  clear hTs HRd2 hI3
                  have hR := HR2.out.lower B3.out hlt2
                  have f0 := hR.froz 0
                  have f1 := hR.froz 1
                  have f2 := hR.froz 2
                  have f3 := hR.froz 3
                  have f4 := hR.froz 4
                  have d0 : _ = some (Value.int .u8 0) := hR.cell 0
                  have d1 : _ = some (Value.int .u8 0) := hR.cell 1
                  have d2 : _ = some (Value.int .u8 0) := hR.cell 2
                  have d3 : _ = some (Value.int .u8 0) := hR.cell 3
                  have d4 : _ = some (Value.int .i32 0) := hR.cell 4
                  have ZR := Lib.hid (Z2.out.trans (B3.out.mono (Nat.le_of_lt hlt2)))
                  clear hR
                  go_wp2_with fail
                  refine bodyPost_ret (v := .tuple #[.agg #[.int .u8 0, .int .u8 0, .int .u8 0, .int .u8 0, .int .i32 0], .int .i64 151]) (by simp [results, Tryd.results12, go_sem, d0, d1, d2, d3, d4]) rfl ⟨?_, ?_⟩
                  · unfold ReadPost; rw [HNo.out]; rfl
                  · repeat (first | with_reducible exact ZR.out | with_reducible refine below_set ?_ (Nat.le_refl _) _)
        · have HNo : Hid (readI s = none) := Lib.hid (by have h := HCb.out; rw [if_pos (Or.inr hlen)] at h; have h2 := HRd.out; rw [h] at h2; exact h2)
          have hn1 : ¬ (qs.length : Int) = L.length := by omega
          have hn2 : ((qs.length : Int) == L.length) = false := by rw [beq_eq_false_iff_ne]; omega
          have hn3 : ((qs.length : Int) != L.length) = true := by rw [bne_iff_ne]; omega
          clear HCb HRd
          have hR := HRx.out
          have f0 := hR.froz 0
          have f1 := hR.froz 1
          have f2 := hR.froz 2
          have f3 := hR.froz 3
          have f4 := hR.froz 4
          have d0 : _ = some (Value.int .u8 0) := hR.cell 0
          have d1 : _ = some (Value.int .u8 0) := hR.cell 1
          have d2 : _ = some (Value.int .u8 0) := hR.cell 2
          have d3 : _ = some (Value.int .u8 0) := hR.cell 3
          have d4 : _ = some (Value.int .i32 0) := hR.cell 4
          have ZR := Lib.hid (Zx.out)
          clear hR
          go_wp2_with fail
          refine bodyPost_ret (v := .tuple #[.agg #[.int .u8 0, .int .u8 0, .int .u8 0, .int .u8 0, .int .i32 0], .int .i64 151]) (by simp [results, Tryd.results12, go_sem, d0, d1, d2, d3, d4]) rfl ⟨?_, ?_⟩
          · unfold ReadPost; rw [HNo.out]; rfl
          · repeat (first | with_reducible exact ZR.out | with_reducible refine below_set ?_ (Nat.le_refl _) _ | (with_reducible refine Below.alloc ?_ ?_ _; rotate_left; omega))
end Go.Proofs.YtdmoiahaekooaaaDoor
