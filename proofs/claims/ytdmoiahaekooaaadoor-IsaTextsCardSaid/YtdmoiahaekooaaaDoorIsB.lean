/-
  Walks of isa.Right, Encode, Decode. No condition but that an instruction's fields are such.
-/
import Derived.Test.YtdmoiahaekooaaaDoorIsA
import Derived.StillTailTactics
import Derived.Deep.QuietTactic
import Derived.RegionTactic
import Derived.BigRegion
import Derived.Lib.OthersKept
namespace Go.Proofs.YtdmoiahaekooaaaDoor
open Go.RowKit Go.Shelf Go.Sort

theorem below_drewN' {B : Nat} {a w : World} (h : Below B a w) (n : Nat) : Below B a (w.drewN n) := h.trans ⟨rfl, rfl, rfl, Nat.le_refl _, fun _ _ => rfl⟩
/-- A block that is known whole. -/
def Blk (w : World) (b : Nat) (t : TypeId) (cs : Array Value) : Prop := w.heap[b]? = some (.cells cs t (0, 0))
theorem Blk.lt {w : World} {b : Nat} {t : TypeId} {cs : Array Value} (h : Blk w b t cs) : b < w.heap.size := (Array.getElem?_eq_some_iff.1 h).1
theorem Blk.cell {w : World} {b : Nat} {t : TypeId} {cs : Array Value} (h : Blk w b t cs) (j : Nat) : w.cell? ⟨b, j, none⟩ = cs[j]? := cell_of_row w b j cs t (0, 0) h
theorem Blk.froz {w : World} {b : Nat} {t : TypeId} {cs : Array Value} (h : Blk w b t cs) (j : Nat) : w.frozen? ⟨b, j, none⟩ = false := by unfold Blk at h; simp [World.frozen?, h]
theorem Blk.new (w : World) (t : TypeId) (cs : Array Value) {b : Nat} (hb : b = w.heap.size) : Blk (w.alloc (.cells cs t)) b t cs := by subst hb; exact heap_alloc_new w _
theorem Blk.below {w w' : World} {b : Nat} {t : TypeId} {cs : Array Value} (h : Blk w b t cs) (hb : Below w.heap.size w w') : Blk w' b t cs := (hb.block b h.lt).trans h
theorem Blk.alloc {w : World} {b : Nat} {t : TypeId} {cs : Array Value} (h : Blk w b t cs) (o : Obj) : Blk (w.alloc o) b t cs := h.below ((Below.refl _ _).alloc (Nat.le_refl _) o)
theorem Blk.draws {w : World} {b : Nat} {t : TypeId} {cs : Array Value} (h : Blk w b t cs) (n : Nat) : Blk (w.drewN n) b t cs := h
theorem Blk.other {w : World} {b : Nat} {t : TypeId} {cs : Array Value} (h : Blk w b t cs) {c : Nat} (hne : b ≠ c) (o : Nat) (u : Value) : Blk (w.setCell ⟨c, o, none⟩ u) b t cs := (Below.heap_setCell w ⟨c, o, none⟩ u b hne).trans h
theorem Blk.iter {w : World} {b : Nat} {t : TypeId} {cs : Array Value} (h : Blk w b t cs) {k : Nat} {s : ByteArray} {p : Nat} (hk : w.heap[k]? = some (.stringIter s p)) (q : Nat) : Blk (w.iterAt k s q) b t cs := by
  unfold Blk at h ⊢
  rw [Lib.iterAt_other w k b s q (fun e => by rw [e, hk] at h; cases h), h]

theorem heap_other {w : World} {b c : Nat} {o : Obj} (h : w.heap[b]? = some o) (hne : b ≠ c) (q : Nat) (u : Value) : (w.setCell ⟨c, q, none⟩ u).heap[b]? = some o := (Below.heap_setCell w ⟨c, q, none⟩ u b hne).trans h
theorem iterPos_of {w : World} {b : Nat} {s : ByteArray} {k : Nat} (h : w.heap[b]? = some (.stringIter s k)) : w.iterPos b = k := by simp [World.iterPos, h]
theorem get_mkS {l : List UInt8} {k : Nat} {c : UInt8} (h : l[k]? = some c) {hk : k < (mkS l).size} : (mkS l)[k]'hk = c := by
  obtain ⟨h1, h2⟩ := List.getElem?_eq_some_iff.1 h
  rw [get_list]
  simpa using h2

/-! ## Instructions in memory -/
def insA (i : Ins) : Array Value := #[.int .u8 i.op, .int .u8 i.a, .int .u8 i.b, .int .u8 i.c, .int .i32 i.imm]
def insV (i : Ins) : Value := .agg (insA i)
def clrI (i : Ins) (c : UInt8) : Ins :=
  if c = 97 then { i with a := 0 } else if c = 98 then { i with b := 0 } else if c = 99 then { i with c := 0 } else if c = 105 then { i with imm := 0 } else i
def leftI (i : Ins) (l : List UInt8) : Ins := l.foldl clrI i
theorem left_snoc (i : Ins) (l : List UInt8) (c : UInt8) : leftI i (l ++ [c]) = clrI (leftI i l) c := by unfold leftI; rw [List.foldl_append]; rfl
theorem take_next {l : List UInt8} {k : Nat} {c : UInt8} (h : l[k]? = some c) : l.take (k + 1) = l.take k ++ [c] := by
  obtain ⟨hk, hc⟩ := List.getElem?_eq_some_iff.1 h
  rw [List.take_succ_eq_append_getElem hk, hc]
theorem Blk.setA {w : World} {b : Nat} {t : TypeId} {i : Ins} (h : Blk w b t (insA i)) : Blk (w.setCell ⟨b, 1, none⟩ (.int .u8 0)) b t (insA (clrI i 97)) := by
  unfold Blk at h ⊢
  simp [World.setCell, Array.getElem?_modify, h, insA, clrI]
theorem Blk.setB {w : World} {b : Nat} {t : TypeId} {i : Ins} (h : Blk w b t (insA i)) : Blk (w.setCell ⟨b, 2, none⟩ (.int .u8 0)) b t (insA (clrI i 98)) := by
  unfold Blk at h ⊢
  simp [World.setCell, Array.getElem?_modify, h, insA, clrI]
theorem Blk.setC {w : World} {b : Nat} {t : TypeId} {i : Ins} (h : Blk w b t (insA i)) : Blk (w.setCell ⟨b, 3, none⟩ (.int .u8 0)) b t (insA (clrI i 99)) := by
  unfold Blk at h ⊢
  simp [World.setCell, Array.getElem?_modify, h, insA, clrI]
theorem Blk.setI {w : World} {b : Nat} {t : TypeId} {i : Ins} (h : Blk w b t (insA i)) : Blk (w.setCell ⟨b, 4, none⟩ (.int .i32 0)) b t (insA (clrI i 105)) := by
  unfold Blk at h ⊢
  simp [World.setCell, Array.getElem?_modify, h, insA, clrI]
theorem clr_op (i : Ins) (c : UInt8) : (clrI i c).op = i.op := by
  unfold clrI
  by_cases h1 : c = 97
  · rw [if_pos h1]
  rw [if_neg h1]
  by_cases h2 : c = 98
  · rw [if_pos h2]
  rw [if_neg h2]
  by_cases h3 : c = 99
  · rw [if_pos h3]
  rw [if_neg h3]
  by_cases h4 : c = 105
  · rw [if_pos h4]
  rw [if_neg h4]
theorem left_op (l : List UInt8) : ∀ i : Ins, (leftI i l).op = i.op := by
  induction l with
  | nil => intro i; rfl
  | cons c r ih => intro i; exact (ih (clrI i c)).trans (clr_op i c)
/-- What is left of an instruction is nothing but its Op: that is what makes it right. -/
theorem left_right {i : Ins} (hop : i.op < 256) : rightI i = (!(hasI i.op).1.isEmpty && decide (i.a < 16) && decide (i.b < 16) && decide (i.c < 16) && (leftI i (hasI i.op).2 == ⟨i.op, 0, 0, 0, 0⟩)) := by
  have hl := has_letters ⟨i.op, hop⟩
  obtain ⟨op, a, b, c, imm⟩ := i
  unfold rightI
  dsimp only at hl ⊢
  generalize (hasI op).2 = L at hl ⊢
  have e : ∀ x y : Ins, (x == y) = decide (x = y) := fun x y => by rw [Bool.eq_iff_iff]; simp
  rw [e]
  simp only [List.mem_cons, List.not_mem_nil, or_false] at hl
  rcases hl with rfl | rfl | rfl | rfl | rfl | rfl | rfl <;> simp [leftI, clrI, Bool.and_assoc] <;> (rw [Bool.eq_iff_iff]; simp) 
theorem eq_left (o a b c : Nat) (i : Int) : ((⟨o, a, b, c, i⟩ : Ins) == ⟨o, 0, 0, 0, 0⟩) = decide (a = 0 ∧ b = 0 ∧ c = 0 ∧ i = 0) := by
  have e : ∀ x y : Ins, (x == y) = decide (x = y) := fun x y => by rw [Bool.eq_iff_iff]; simp
  rw [e]
  simp
theorem has_known : ∀ op : Fin 256, ∀ c ∈ (hasI op.val).2, c = 97 ∨ c = 98 ∨ c = 99 ∨ c = 105 ∨ c = 110 := by decide +kernel

set_option maxHeartbeats 2000000 in
set_option maxRecDepth 100000 in
theorem Right_any (i : Ins) (hk : i.ok) (w : World) : Calls Tryd.prog 15 #[insV i] w fun e w' => e = .returned (.bool (rightI i)) ∧ Below w.heap.size w w' := by
  have HR := Lib.hid (left_right hk.1)
  have HH := Lib.hid (has_any i.op hk.1)
  have HL := Lib.hid (has_known ⟨i.op, hk.1⟩)
  have HO := Lib.hid (left_op (hasI i.op).2 i)
  have hlen : (hasI i.op).2.length ≤ 5 := by
    have hl := has_letters ⟨i.op, hk.1⟩
    dsimp only at hl
    simp only [List.mem_cons, List.not_mem_nil, or_false] at hl
    rcases hl with h | h | h | h | h | h | h <;> rw [h] <;> simp
  generalize rightI i = R at HR ⊢
  unfold HasPost at HH
  dsimp only at HL
  generalize (hasI i.op).1 = N at HR HH
  generalize (hasI i.op).2 = L at HR HH HL HO hlen
  obtain ⟨op, a, b, c, imm⟩ := i
  obtain ⟨k1, k2, k3, k4, k5, k6⟩ := hk
  dsimp only at k1 k2 k3 k4 k5 k6 HR HH HO
  unfold insV insA
  dsimp only
  go_enter Tryd.func15, Tryd.ntmps15
  go_wp2_with fail
  refine (HH.out _).mono ?_
  rintro _ _ ⟨rfl, rfl⟩
  clear HH
  by_cases hN : N = []
  · subst hN
    have hR := HR.out
    simp only [List.isEmpty_nil, Bool.not_true, Bool.false_and] at hR
    subst hR
    have e0 : (mkS []).toList = [] := by rw [ByteArray.toList_eq, mkS_toList]
    have e1 : (mkS []).toList.isEmpty = true := by rw [e0]; rfl
    go_wp2_with fail
    go_ret
    exact ⟨rfl, (Below.refl _ _).alloc (Nat.le_refl _) _⟩
  · have e1 : (mkS N).toList ≠ [] := by rw [ByteArray.toList_eq, mkS_toList]; exact hN
    have e2 : ((mkS N).toList == []) = false := by rw [beq_eq_false_iff_ne]; exact e1
    have e3 : (!N.isEmpty) = true := by simpa using hN
    rw [e3, Bool.true_and] at HR
    clear e3
    have H0 := Lib.hid (Below.refl w.heap.size w)
    by_cases ha : a < 16
    · by_cases hb : b < 16
      · by_cases hc : c < 16
        · rw [decide_eq_true ha, decide_eq_true hb, decide_eq_true hc, Bool.and_true, Bool.and_true, Bool.true_and] at HR
          have ha' : ¬ (a : Int) ≥ 16 := by omega
          have hb' : ¬ (b : Int) ≥ 16 := by omega
          have hc' : ¬ (c : Int) ≥ 16 := by omega
          go_wp2_with fail
          clear e1 e2
          go_loopw [] (fun wr => ∃ k : Nat, k ≤ L.length ∧ Blk wr w.heap.size 23 (insA ⟨op, a, b, c, imm⟩) ∧ Blk wr (w.heap.size + 1) 23 (insA (leftI ⟨op, a, b, c, imm⟩ (L.take k))) ∧ wr.heap[w.heap.size + 2]? = some (.stringIter (mkS L) k) ∧ Below w.heap.size w wr) (fun wr => L.length - wr.iterPos (w.heap.size + 2))
          case atStart =>
            refine ⟨0, Nat.zero_le _, ?_, ?_, ?_, ?_⟩
            · exact ((Blk.new w _ _ rfl).alloc _).alloc _
            · exact (Blk.new (w.alloc _) _ _ (by simp)).alloc _
            · have := World.iter_heap ((w.alloc (.cells (insA ⟨op, a, b, c, imm⟩) 23)).alloc (.cells (insA ⟨op, a, b, c, imm⟩) 23)) (mkS L) 0
              have hs : ((w.alloc (.cells (insA ⟨op, a, b, c, imm⟩) 23)).alloc (.cells (insA ⟨op, a, b, c, imm⟩) 23)).heap.size = w.heap.size + 2 := by simp
              rw [hs] at this
              exact this
            · exact (((Below.refl _ w).alloc (Nat.le_refl _) _).alloc (by simp) _).alloc (by simp; omega) _
          case round =>
            obtain ⟨k, hk, hB0, hB1, hit, hbel⟩ := hrel
            have hsz : w.heap.size + 2 < wr.heap.size := (Array.getElem?_eq_some_iff.1 hit).1
            have hpos : wr.iterPos (w.heap.size + 2) = k := by simp [World.iterPos, hit]
            by_cases hp : k < L.length
            · obtain ⟨ch, hch⟩ : ∃ ch, L[k]? = some ch := ⟨L[k], List.getElem?_eq_getElem hp⟩
              have hcs := HL.out ch (List.mem_of_getElem? hch)
              have hlt : ch.toNat < 128 := by rcases hcs with rfl | rfl | rfl | rfl | rfl <;> decide
              have hnx0 := fun ty => Lib.run_next_ascii_at (P := Tryd.prog) wr (w.heap.size + 2) (mkS L) k ty hit (by rw [mkS_size]; exact hp) (by rw [get_mkS hch]; exact hlt)
              have hnx : ∀ ty, (Instr.next (.pointer (some ⟨w.heap.size + 2, 0, none⟩)) true ty).run Tryd.prog wr = .ok (.tuple #[.bool true, .int .i64 k, .int .i32 ch.toNat]) (wr.iterAt (w.heap.size + 2) (mkS L) (k + 1)) := fun ty => by rw [hnx0 ty, get_mkS hch]
              clear hnx0
              have B0 := Lib.hid (hB0.iter hit (k + 1))
              have B1 := hB1.iter hit (k + 1)
              have I1 := Lib.hid (Lib.iterAt_heap wr (w.heap.size + 2) (mkS L) k (k + 1) hit)
              have Z1 := Lib.hid (Lib.below_iterAt hbel (k := w.heap.size + 2) (by omega) (mkS L) (k + 1))
              have HT := Lib.hid (take_next hch)
              have HS := Lib.hid (left_snoc ⟨op, a, b, c, imm⟩ (L.take k) ch)
              have HP := Lib.hid hpos
              have f1 : (wr.iterAt (w.heap.size + 2) (mkS L) (k + 1)).frozen? ⟨w.heap.size + 1, 1, none⟩ = false := B1.froz 1
              have f2 : (wr.iterAt (w.heap.size + 2) (mkS L) (k + 1)).frozen? ⟨w.heap.size + 1, 2, none⟩ = false := B1.froz 2
              have f3 : (wr.iterAt (w.heap.size + 2) (mkS L) (k + 1)).frozen? ⟨w.heap.size + 1, 3, none⟩ = false := B1.froz 3
              have f4 : (wr.iterAt (w.heap.size + 2) (mkS L) (k + 1)).frozen? ⟨w.heap.size + 1, 4, none⟩ = false := B1.froz 4
              have c1 : (wr.iterAt (w.heap.size + 2) (mkS L) (k + 1)).cell? ⟨w.heap.size + 1, 1, none⟩ = some _ := B1.cell 1
              have c2 : (wr.iterAt (w.heap.size + 2) (mkS L) (k + 1)).cell? ⟨w.heap.size + 1, 2, none⟩ = some _ := B1.cell 2
              have c3 : (wr.iterAt (w.heap.size + 2) (mkS L) (k + 1)).cell? ⟨w.heap.size + 1, 3, none⟩ = some _ := B1.cell 3
              have c4 : (wr.iterAt (w.heap.size + 2) (mkS L) (k + 1)).cell? ⟨w.heap.size + 1, 4, none⟩ = some _ := B1.cell 4
              have hB1 := Lib.hid B1
              clear B1 hit hbel hB0 hpos hch hlt
              generalize wr.iterAt (w.heap.size + 2) (mkS L) (k + 1) = wi at *
              rcases hcs with rfl | rfl | rfl | rfl | rfl
              · go_wp2_with fail
                go_roundw
                case rel =>
                  refine ⟨k + 1, hp, ?_, ?_, ?_, ?_⟩
                  · exact B0.out.other (by omega) _ _
                  · rw [HT.out, HS.out]; exact hB1.out.setA
                  · exact heap_other I1.out (by omega) _ _
                  · exact Z1.out.setCell (by show w.heap.size ≤ w.heap.size + 1; omega) _
                case measure =>
                  rw [HP.out, show World.iterPos (wi.setCell ⟨w.heap.size + 1, 1, none⟩ (.int .u8 0)) (w.heap.size + 2) = k + 1 from iterPos_of (heap_other I1.out (by omega) _ _)]
                  omega
              · go_wp2_with fail
                go_roundw
                case rel =>
                  refine ⟨k + 1, hp, ?_, ?_, ?_, ?_⟩
                  · exact B0.out.other (by omega) _ _
                  · rw [HT.out, HS.out]; exact hB1.out.setB
                  · exact heap_other I1.out (by omega) _ _
                  · exact Z1.out.setCell (by show w.heap.size ≤ w.heap.size + 1; omega) _
                case measure =>
                  rw [HP.out, show World.iterPos (wi.setCell ⟨w.heap.size + 1, 2, none⟩ (.int .u8 0)) (w.heap.size + 2) = k + 1 from iterPos_of (heap_other I1.out (by omega) _ _)]
                  omega
              · go_wp2_with fail
                go_roundw
                case rel =>
                  refine ⟨k + 1, hp, ?_, ?_, ?_, ?_⟩
                  · exact B0.out.other (by omega) _ _
                  · rw [HT.out, HS.out]; exact hB1.out.setC
                  · exact heap_other I1.out (by omega) _ _
                  · exact Z1.out.setCell (by show w.heap.size ≤ w.heap.size + 1; omega) _
                case measure =>
                  rw [HP.out, show World.iterPos (wi.setCell ⟨w.heap.size + 1, 3, none⟩ (.int .u8 0)) (w.heap.size + 2) = k + 1 from iterPos_of (heap_other I1.out (by omega) _ _)]
                  omega
              · go_wp2_with fail
                go_roundw
                case rel =>
                  refine ⟨k + 1, hp, ?_, ?_, ?_, ?_⟩
                  · exact B0.out.other (by omega) _ _
                  · rw [HT.out, HS.out]; exact hB1.out.setI
                  · exact heap_other I1.out (by omega) _ _
                  · exact Z1.out.setCell (by show w.heap.size ≤ w.heap.size + 1; omega) _
                case measure =>
                  rw [HP.out, show World.iterPos (wi.setCell ⟨w.heap.size + 1, 4, none⟩ (.int .i32 0)) (w.heap.size + 2) = k + 1 from iterPos_of (heap_other I1.out (by omega) _ _)]
                  omega
              · go_wp2_with fail
                go_roundw
                case rel =>
                  refine ⟨k + 1, hp, B0.out, ?_, I1.out, Z1.out⟩
                  rw [HT.out, HS.out]; exact hB1.out
                case measure =>
                  rw [HP.out, show World.iterPos wi (w.heap.size + 2) = k + 1 from iterPos_of I1.out]
                  omega
            · obtain rfl : k = L.length := by omega
              have hnx : ∀ ty, (Instr.next (.pointer (some ⟨w.heap.size + 2, 0, none⟩)) true ty).run Tryd.prog wr = .ok (.tuple #[.bool false]) wr := fun ty => Lib.run_next_end_at (P := Tryd.prog) wr (w.heap.size + 2) (mkS L) L.length ty hit (by rw [mkS_size]; exact hp)
              rw [List.take_length] at hB1
              generalize leftI ⟨op, a, b, c, imm⟩ L = J at HR HO hB1
              obtain ⟨o2, a2, b2, c2, i2⟩ := J
              have hO : o2 = op := HO.out
              subst hO
              have p0 : wr.cell? ⟨w.heap.size, 0, none⟩ = some (.int .u8 o2) := hB0.cell 0
              have q0 : wr.cell? ⟨w.heap.size + 1, 0, none⟩ = some (.int .u8 o2) := hB1.cell 0
              have q1 : wr.cell? ⟨w.heap.size + 1, 1, none⟩ = some (.int .u8 a2) := hB1.cell 1
              have q2 : wr.cell? ⟨w.heap.size + 1, 2, none⟩ = some (.int .u8 b2) := hB1.cell 2
              have q3 : wr.cell? ⟨w.heap.size + 1, 3, none⟩ = some (.int .u8 c2) := hB1.cell 3
              have q4 : wr.cell? ⟨w.heap.size + 1, 4, none⟩ = some (.int .i32 i2) := hB1.cell 4
              have Z1 := Lib.hid hbel
              clear hbel hB0 hB1 hit hpos hp hk HO HL
              rw [eq_left] at HR
              go_wp2_with fail
              all_goals
                go_ret
                refine ⟨ret_bool ?_, Z1.out⟩
                rw [HR.out]
                first | (rw [eq_comm, decide_eq_true_iff]; omega) | (rw [eq_comm, decide_eq_false_iff_not]; omega)
        · rw [decide_eq_false hc, Bool.and_false, Bool.false_and] at HR
          have hR := HR.out
          subst hR
          have ha' : ¬ (a : Int) ≥ 16 := by omega
          have hb' : ¬ (b : Int) ≥ 16 := by omega
          have hc' : (c : Int) ≥ 16 := by omega
          go_wp2_with fail
          go_ret
          exact ⟨rfl, (Below.refl _ _).alloc (Nat.le_refl _) _⟩
      · rw [decide_eq_false hb, Bool.and_false, Bool.false_and, Bool.false_and] at HR
        have hR := HR.out
        subst hR
        have ha' : ¬ (a : Int) ≥ 16 := by omega
        have hb' : (b : Int) ≥ 16 := by omega
        go_wp2_with fail
        go_ret
        exact ⟨rfl, (Below.refl _ _).alloc (Nat.le_refl _) _⟩
    · rw [decide_eq_false ha, Bool.false_and, Bool.false_and, Bool.false_and] at HR
      have hR := HR.out
      subst hR
      have ha' : (a : Int) ≥ 16 := by omega
      go_wp2_with fail
      go_ret
      exact ⟨rfl, (Below.refl _ _).alloc (Nat.le_refl _) _⟩
end Go.Proofs.YtdmoiahaekooaaaDoor
