/-
  Walk of isa.Text. Condition: Go's own variables hold what their initialisers lay; an instruction's fields are such.
-/
import Derived.Test.YtdmoiahaekooaaaDoorIsD
namespace Go.Proofs.YtdmoiahaekooaaaDoor
open Go.RowKit Go.Shelf Go.Sort

def KeepTag (t : TypeId) (w w' : World) : Prop := ∀ (b : Nat) (cur : Array Value), w.heap[b]? = some (Obj.cells cur t (0, 0)) → w'.heap[b]? = some (Obj.cells cur t (0, 0))
theorem KeepTag.below {t : TypeId} {w w' : World} (hb : Below w.heap.size w w') : KeepTag t w w' := fun b _ h => (hb.block b (Array.getElem?_eq_some_iff.1 h).1).trans h
theorem KeepTag.iter {t : TypeId} {w : World} {k : Nat} {s : ByteArray} {p : Nat} (hk : w.heap[k]? = some (.stringIter s p)) (q : Nat) : KeepTag t w (w.iterAt k s q) := fun b cur h => by
  rw [Lib.iterAt_other w k b s q (fun e => by rw [e, hk] at h; cases h), h]
theorem own_tag {w w' : World} {base e size n : Nat} {v : Value} {xs : List Value} (h : w.ownsRow base e size v n xs) (hk : KeepTag e w w') : w'.ownsRow base e size v n xs := by
  refine ⟨h.1, ?_⟩
  rcases h.2 with h0 | ⟨g, cap, cur, hv, hb, hg, rest⟩
  · exact .inl h0
  · exact .inr ⟨g, cap, cur, hv, hb, hk g cur hg, rest⟩
theorem own_form {w : World} {base e size n : Nat} {v : Value} {xs : List Value} (h : w.ownsRow base e size v n xs) : ∃ a cap, v = .slice a n cap := by
  rcases h.2 with ⟨rfl, rfl⟩ | ⟨g, cap, cur, rfl, _⟩
  · exact ⟨_, _, rfl⟩
  · exact ⟨_, _, rfl⟩
theorem own_cells {w : World} {base e size n : Nat} {v : Value} {xs : List Value} (h : w.ownsRow base e size v n xs) (hn : n ≠ 0) :
    ∃ g cap, v = .slice (some ⟨g, 0, none⟩) n cap ∧ base ≤ g ∧ g < w.heap.size ∧ n ≤ cap ∧ cap ≤ maxLen ∧ (∀ j, j < n * size → w.cell? ⟨g, j, none⟩ = xs[j]?) ∧ (∀ j, w.frozen? ⟨g, j, none⟩ = false) := by
  have h0 := h
  rcases h.2 with ⟨rfl, h1⟩ | ⟨g, cap, cur, rfl, hb, hg, hc, hm, _⟩
  · exact absurd h1 hn
  · exact ⟨g, cap, rfl, hb, (Array.getElem?_eq_some_iff.1 hg).1, hc, hm, fun j hj => h0.cellAt j hj, fun j => h0.frozenAt j⟩
theorem Blk.own_ne {w : World} {b : Nat} {t : TypeId} {cs : Array Value} (h : Blk w b t cs) {base e size n : Nat} {v : Value} {xs : List Value} (ho : w.ownsRow base e size v n xs) (hne : e ≠ t) : v.ownBlock ≠ some b := by
  rcases ho.2 with ⟨rfl, _⟩ | ⟨g, cap, cur, rfl, _, hg, _⟩
  · simp [Value.ownBlock]
  · intro he
    have : g = b := by simpa [Value.ownBlock] using he
    subst this
    unfold Blk at h
    rw [hg] at h
    injection h with h
    injection h with _ h _
    exact hne h
theorem iter_own_ne {w : World} {b : Nat} {s : ByteArray} {p : Nat} (h : w.heap[b]? = some (.stringIter s p)) {base e size n : Nat} {v : Value} {xs : List Value} (ho : w.ownsRow base e size v n xs) : v.ownBlock ≠ some b := by
  rcases ho.2 with ⟨rfl, _⟩ | ⟨g, cap, cur, rfl, _, hg, _⟩
  · simp [Value.ownBlock]
  · intro he
    have : g = b := by simpa [Value.ownBlock] using he
    subst this
    rw [hg] at h
    cases h
theorem heap_grown {w w' : World} {r : Option Nat} {b : Nat} {o : Obj} (h : w.heap[b]? = some o) (hg : w.grownBy w' r) (hne : r ≠ some b) : w'.heap[b]? = some o :=
  (hg.block b (Array.getElem?_eq_some_iff.1 h).1 (fun e => hne e.symm)).trans h
theorem heap_below {w w' : World} {b : Nat} {o : Obj} (h : w.heap[b]? = some o) (hb : Below w.heap.size w w') : w'.heap[b]? = some o := (hb.block b (Array.getElem?_eq_some_iff.1 h).1).trans h
theorem ret_str {a b : ByteArray} (h : a = b) : Ending.returned (.string a) = .returned (.string b) := by rw [h]
theorem mk_cons (b : UInt8) (l : List UInt8) : mkS [b] ++ mkS l = mkS (b :: l) := by
  apply eq_mkS
  simp [mkS, ByteArray.data_append]
theorem mk_append (a b : List UInt8) : mkS a ++ mkS b = mkS (a ++ b) := by
  apply eq_mkS
  simp [mkS, ByteArray.data_append]
theorem itoa_any (n : Int) (h0 : -9223372036854775808 ≤ n) (h1 : n ≤ 9223372036854775807) (w : World) (hE : IsEnv w) :
    Calls Tryd.prog 23 #[.int .i64 n] w fun e w' => e = .returned (.string (mkS (Lib.itoa n))) ∧ Below w.heap.size w w' :=
  (Tryd.strconv_Itoa n h0 h1 w hE.pow).mono fun e w' ⟨he, k, os, hw⟩ => ⟨he, by rw [hw]; exact Lib.below_grow _ _ (Nat.le_refl _) _ _⟩
theorem itoa_nat (u : Nat) : Lib.itoa (u : Int) = Lib.decDigits u := by
  unfold Lib.itoa
  rw [if_neg (by omega), Int.toNat_natCast]
theorem itoa_any_nat (u : Nat) (hu : u < 256) (w : World) (hE : IsEnv w) :
    Calls Tryd.prog 23 #[.int .i64 u] w fun e w' => e = .returned (.string (mkS (Lib.decDigits u))) ∧ Below w.heap.size w w' := by
  rw [← itoa_nat]
  exact itoa_any u (by omega) (by omega) w hE
set_option maxHeartbeats 1000000 in
theorem reg_any (u : Nat) (hu : u < 256) (w : World) (hE : IsEnv w) : Calls Tryd.prog 22 #[.int .u8 u] w fun e w' => e = .returned (.string (mkS (114 :: Lib.decDigits u))) ∧ Below w.heap.size w w' := by
  have HI := Lib.hid (itoa_any u (by omega) (by omega) w hE)
  rw [itoa_nat] at HI
  have hl : (Lib.decDigits u).length ≤ 20 := by rw [Lib.decDigits_length]; exact Lib.nDigits_le20 u (by omega)
  generalize Lib.decDigits u = l at HI hl ⊢
  have hadd : ∀ W, (Op.stringOp .add (⟨#[114]⟩ : ByteArray) (mkS l)).run Tryd.prog W = .ok (.string (mkS (114 :: l))) W := fun W => by
    have := run_string_add_sum (P := Tryd.prog) W (mkS [114]) (mkS l) (by simp only [mkS_size, List.length_cons, List.length_nil]; omega)
    rwa [mk_cons] at this
  go_enter Tryd.func22, Tryd.ntmps22
  go_wp2_with fail
  refine HI.out.mono ?_
  rintro e w1 ⟨rfl, hb⟩
  go_wp2_with fail
  go_ret
  exact ⟨rfl, hb⟩
def strV (l : List UInt8) : Value := .string (mkS l)
def strsV (ps : List (List UInt8)) : List Value := ps.map strV
theorem Tryd.infoStr : (Tryd.prog.info? 9).map (fun i => (i.zero, i.size, i.bytes)) = some (some (.string ⟨#[]⟩), 1, 16) := by kernel_rfl
theorem parts_next (i : Ins) {l : List UInt8} {k : Nat} {c : UInt8} (h : l[k]? = some c) : strsV ((l.take k).map (partI i)) ++ [strV (partI i c)] = strsV ((l.take (k + 1)).map (partI i)) := by
  rw [take_next h]
  unfold strsV
  simp
/-- What isa.Text answers. -/
def TextPost (i : Ins) (e : Ending) : Prop := e = .returned (.tuple #[.string (mkS (if rightI i = true then textI i else [])), .int .i64 (if rightI i = true then 0 else 150)])
theorem and63 : ∀ op : Fin 256, bits BinOp.and IntKind.u8 (op.val : Int) 63 = ((op.val % 64 : Nat) : Int) := by decide +kernel
set_option maxHeartbeats 4000000 in
set_option maxRecDepth 100000 in
theorem Text_any (i : Ins) (hk : i.ok) (w : World) (hE : IsEnv w) : Calls Tryd.prog 10 #[insV i] w fun e w' => TextPost i e ∧ Below w.heap.size w w' := by
  have HR := Lib.hid (fun w => Right_any i hk w)
  have HH := Lib.hid (has_any i.op hk.1)
  unfold HasPost at HH
  unfold TextPost
  obtain ⟨i0, hi, hz0, hz1, hz2⟩ := info_parts Tryd.infoStr
  cases hr : rightI i with
  | false =>
    rw [hr] at HR
    clear hr HH
    have HE := Lib.hid hE
    clear hE
    obtain ⟨op, a, b, c, imm⟩ := i
    unfold insV insA at *
    dsimp only at HR ⊢
    go_enter Tryd.func10, Tryd.ntmps10
    go_wp2_with fail
    refine (HR.out _).mono ?_
    rintro _ w1 ⟨rfl, hb⟩
    have Z := Lib.hid (((Below.refl _ w).alloc (Nat.le_refl _) _).trans (hb.mono (by simp)))
    clear hb
    go_wp2_with fail
    go_ret2
    exact ⟨rfl, Z.out⟩
  | true =>
    have hlen := text_len hk hr
    have HL := Lib.hid (has_known ⟨i.op, hk.1⟩)
    have HT : Hid (textI i = if (hasI i.op).2 = [] then (hasI i.op).1 else (hasI i.op).1 ++ [32] ++ Lib.join ((hasI i.op).2.map (partI i)) [44, 32]) := Lib.hid rfl
    have HA := Lib.hid (and63 ⟨i.op, hk.1⟩)
    have HPl := Lib.hid (fun c => part_len hk hr c)
    have HP := Lib.hid (fun l k c (h : l[k]? = some c) => parts_next i h)
    have Pa : Hid (partI i 97 = 114 :: Lib.decDigits i.a) := Lib.hid rfl
    have Pb : Hid (partI i 98 = 114 :: Lib.decDigits i.b) := Lib.hid rfl
    have Pc : Hid (partI i 99 = 114 :: Lib.decDigits i.c) := Lib.hid rfl
    have Pi : Hid (partI i 105 = Lib.itoa i.imm) := Lib.hid rfl
    have Pn : Hid (partI i 110 = Lib.decDigits (i.op % 64)) := Lib.hid rfl
    rw [hr] at HR
    clear hr
    dsimp only at HL HA
    generalize partI i = P at HT HP HPl Pa Pb Pc Pi Pn
    generalize textI i = T at HT hlen ⊢
    generalize (hasI i.op).1 = N at HT HH
    have hlL : (hasI i.op).2.length ≤ 5 := by
      have hl := has_letters ⟨i.op, hk.1⟩
      dsimp only at hl
      simp only [List.mem_cons, List.not_mem_nil, or_false] at hl
      rcases hl with h | h | h | h | h | h | h <;> rw [h] <;> simp
    generalize (hasI i.op).2 = L at HT HH HL hlL
    have HE := Lib.hid hE
    clear hE
    obtain ⟨op, a, b, c, imm⟩ := i
    obtain ⟨k1, k2, k3, k4, k5, k6⟩ := hk
    unfold insV insA at HR ⊢
    dsimp only at k1 k2 k3 k4 k5 k6 HR HH HA Pa Pb Pc Pi Pn ⊢
    go_enter Tryd.func10, Tryd.ntmps10
    go_wp2_with fail
    refine (HR.out _).mono ?_
    rintro _ w1 ⟨rfl, hb⟩
    have hB : Blk w1 w.heap.size 23 (insA ⟨op, a, b, c, imm⟩) := (Blk.new w _ _ rfl).below hb
    have Z := Lib.hid (((Below.refl _ w).alloc (Nat.le_refl _) _).trans (hb.mono (by simp)))
    have hs1 : w.heap.size < w1.heap.size := hB.lt
    have c0 : w1.cell? ⟨w.heap.size, 0, none⟩ = some (.int .u8 op) := hB.cell 0
    have HB := Lib.hid hB
    clear hb hB HR
    go_wp2_with fail
    refine (HH.out _).mono ?_
    rintro _ _ ⟨rfl, rfl⟩
    clear HH
    go_wp2_with fail
    clear c0
    go_loopw [7] (fun v wr => ∃ k : Nat, k ≤ L.length ∧ Blk wr w.heap.size 23 (insA ⟨op, a, b, c, imm⟩) ∧ wr.ownsRow w.heap.size 9 1 v k (strsV ((L.take k).map P)) ∧ wr.heap[w1.heap.size]? = some (.stringIter (mkS L) k) ∧ Below w.heap.size w wr) (fun _ wr => L.length - wr.iterPos w1.heap.size)
    case atStart =>
      exact ⟨0, Nat.zero_le _, HB.out.alloc _, World.ownsRow_nil _ _ _ _, World.iter_heap w1 (mkS L) 0, Z.out.alloc (by omega) _⟩
    case round =>
      obtain ⟨k, hkk, hB0, hown, hit, hbel⟩ := hrel
      have hsz : w1.heap.size < wr.heap.size := (Array.getElem?_eq_some_iff.1 hit).1
      have hpos : wr.iterPos w1.heap.size = k := iterPos_of hit
      by_cases hp : k < L.length
      · obtain ⟨ch, hch⟩ : ∃ ch, L[k]? = some ch := ⟨L[k], List.getElem?_eq_getElem hp⟩
        have hcs := HL.out ch (List.mem_of_getElem? hch)
        have hlt : ch.toNat < 128 := by rcases hcs with rfl | rfl | rfl | rfl | rfl <;> decide
        have hnx0 := fun ty => Lib.run_next_ascii_at (P := Tryd.prog) wr w1.heap.size (mkS L) k ty hit (by rw [mkS_size]; exact hp) (by rw [get_mkS hch]; exact hlt)
        have hnx : ∀ ty, (Instr.next (.pointer (some ⟨w1.heap.size, 0, none⟩)) true ty).run Tryd.prog wr = .ok (.tuple #[.bool true, .int .i64 k, .int .i32 ch.toNat]) (wr.iterAt w1.heap.size (mkS L) (k + 1)) := fun ty => by rw [hnx0 ty, get_mkS hch]
        clear hnx0
        have hB1 := hB0.iter hit (k + 1)
        have o1 := own_tag hown (KeepTag.iter hit (k + 1))
        have I1 := Lib.hid (Lib.iterAt_heap wr w1.heap.size (mkS L) k (k + 1) hit)
        have z1 := Lib.below_iterAt hbel (k := w1.heap.size) (by omega) (mkS L) (k + 1)
        have Z1 := Lib.hid z1
        have hs2 : w.heap.size ≤ (wr.iterAt w1.heap.size (mkS L) (k + 1)).heap.size := z1.size
        have E1 := Lib.hid (HE.out.kept z1)
        have HPk := Lib.hid (HP.out L k ch hch)
        have HPos := Lib.hid hpos
        have hpl : (P ch).length ≤ 21 := HPl.out ch
        have q0 : (wr.iterAt w1.heap.size (mkS L) (k + 1)).cell? ⟨w.heap.size, 0, none⟩ = some (.int .u8 op) := hB1.cell 0
        have q1 : (wr.iterAt w1.heap.size (mkS L) (k + 1)).cell? ⟨w.heap.size, 1, none⟩ = some (.int .u8 a) := hB1.cell 1
        have q2 : (wr.iterAt w1.heap.size (mkS L) (k + 1)).cell? ⟨w.heap.size, 2, none⟩ = some (.int .u8 b) := hB1.cell 2
        have q3 : (wr.iterAt w1.heap.size (mkS L) (k + 1)).cell? ⟨w.heap.size, 3, none⟩ = some (.int .u8 c) := hB1.cell 3
        have q4 : (wr.iterAt w1.heap.size (mkS L) (k + 1)).cell? ⟨w.heap.size, 4, none⟩ = some (.int .i32 imm) := hB1.cell 4
        have HB1 := Lib.hid hB1
        clear hB1 hit hbel hB0 hpos hch hlt z1 hown
        generalize wr.iterAt w1.heap.size (mkS L) (k + 1) = wi at *
        have HO := Lib.hid o1
        clear o1
        rcases hcs with rfl | rfl | rfl | rfl | rfl
        · go_wp2_with fail
          refine (reg_any a k2 _ E1.out).mono ?_
          rintro _ w2 ⟨rfl, hb2⟩
          have hs := Pa.out
          generalize hx : P _ = X at hs HPk hpl
          have hxs : Hid (X = _) := Lib.hid hs
          rw [← hs]
          clear hx hs
          have B2 := Lib.hid (HB1.out.below hb2)
          have o2 := own_tag HO.out (KeepTag.below hb2)
          have I2 := Lib.hid (heap_below I1.out hb2)
          have z2 := Z1.out.trans (hb2.mono hs2)
          have hs3 : w.heap.size ≤ w2.heap.size := z2.size
          have Z2 := Lib.hid z2
          clear hb2 z2 q0 q1 q2 q3 q4 HO HB1 Z1 I1
          go_wp2_with (at_builtin; refine wpList_append_own _ rfl (.tmp 55) (.tmp 57) 45 rfl w.heap.size 9 i0 (.string ⟨#[]⟩) 1 16 Tryd.underlying45 hi hz0 hz1 hz2 rfl (by decide) _ _ _ rfl (o2.alloc _) ⟨w2.heap.size, 0, none⟩ 1 1 [.string (mkS X)] rfl rfl ?c1 ?c2 ?c3 ?c4 ?c5 ?_)
          case c1 => intro j u hj; match j, hj with | 0, hj => (simp at hj; subst hj; simp [Addr.add]) | j + 1, hj => simp at hj
          case c2 => intro u hu; simp at hu; subst hu; rfl
          case c3 => unfold maxLen; omega
          case c4 => omega
          case c5 => simp; omega
          intro v3 w3 o3 g3 _
          have i3 := Lib.hid (heap_grown (heap_below I2.out ((Below.refl _ _).alloc (Nat.le_refl _) (.cells #[.string (mkS X)] 9))) g3 (iter_own_ne I2.out o2))
          have b3 : Hid (Blk w3 w.heap.size 23 (insA ⟨op, a, b, c, imm⟩)) := Lib.hid (heap_grown (B2.out.alloc (.cells #[.string (mkS X)] 9)) g3 (B2.out.own_ne o2 (by decide)))
          have z3 := Lib.hid ((Z2.out.alloc hs3 (.cells #[.string (mkS X)] 9)).grown g3 (by simp; omega) (fun j hj => (o2.lt j hj).1))
          clear g3 o2 I2 B2 Z2
          have HO3 := Lib.hid o3
          clear o3
          go_wp2_with fail
          go_roundw
          case rel =>
            refine ⟨k + 1, hp, b3.out, ?_, i3.out, z3.out⟩
            have ho := HO3.out
            have hq := HPk.out
            unfold strV at hq
            rw [← List.map_take, hq] at ho
            exact ho
          case measure =>
            rw [HPos.out, iterPos_of i3.out]
            omega
        · go_wp2_with fail
          refine (reg_any b k3 _ E1.out).mono ?_
          rintro _ w2 ⟨rfl, hb2⟩
          have hs := Pb.out
          generalize hx : P _ = X at hs HPk hpl
          have hxs : Hid (X = _) := Lib.hid hs
          rw [← hs]
          clear hx hs
          have B2 := Lib.hid (HB1.out.below hb2)
          have o2 := own_tag HO.out (KeepTag.below hb2)
          have I2 := Lib.hid (heap_below I1.out hb2)
          have z2 := Z1.out.trans (hb2.mono hs2)
          have hs3 : w.heap.size ≤ w2.heap.size := z2.size
          have Z2 := Lib.hid z2
          clear hb2 z2 q0 q1 q2 q3 q4 HO HB1 Z1 I1
          go_wp2_with (at_builtin; refine wpList_append_own _ rfl (.tmp 55) (.tmp 57) 45 rfl w.heap.size 9 i0 (.string ⟨#[]⟩) 1 16 Tryd.underlying45 hi hz0 hz1 hz2 rfl (by decide) _ _ _ rfl (o2.alloc _) ⟨w2.heap.size, 0, none⟩ 1 1 [.string (mkS X)] rfl rfl ?c1 ?c2 ?c3 ?c4 ?c5 ?_)
          case c1 => intro j u hj; match j, hj with | 0, hj => (simp at hj; subst hj; simp [Addr.add]) | j + 1, hj => simp at hj
          case c2 => intro u hu; simp at hu; subst hu; rfl
          case c3 => unfold maxLen; omega
          case c4 => omega
          case c5 => simp; omega
          intro v3 w3 o3 g3 _
          have i3 := Lib.hid (heap_grown (heap_below I2.out ((Below.refl _ _).alloc (Nat.le_refl _) (.cells #[.string (mkS X)] 9))) g3 (iter_own_ne I2.out o2))
          have b3 : Hid (Blk w3 w.heap.size 23 (insA ⟨op, a, b, c, imm⟩)) := Lib.hid (heap_grown (B2.out.alloc (.cells #[.string (mkS X)] 9)) g3 (B2.out.own_ne o2 (by decide)))
          have z3 := Lib.hid ((Z2.out.alloc hs3 (.cells #[.string (mkS X)] 9)).grown g3 (by simp; omega) (fun j hj => (o2.lt j hj).1))
          clear g3 o2 I2 B2 Z2
          have HO3 := Lib.hid o3
          clear o3
          go_wp2_with fail
          go_roundw
          case rel =>
            refine ⟨k + 1, hp, b3.out, ?_, i3.out, z3.out⟩
            have ho := HO3.out
            have hq := HPk.out
            unfold strV at hq
            rw [← List.map_take, hq] at ho
            exact ho
          case measure =>
            rw [HPos.out, iterPos_of i3.out]
            omega
        · go_wp2_with fail
          refine (reg_any c k4 _ E1.out).mono ?_
          rintro _ w2 ⟨rfl, hb2⟩
          have hs := Pc.out
          generalize hx : P _ = X at hs HPk hpl
          have hxs : Hid (X = _) := Lib.hid hs
          rw [← hs]
          clear hx hs
          have B2 := Lib.hid (HB1.out.below hb2)
          have o2 := own_tag HO.out (KeepTag.below hb2)
          have I2 := Lib.hid (heap_below I1.out hb2)
          have z2 := Z1.out.trans (hb2.mono hs2)
          have hs3 : w.heap.size ≤ w2.heap.size := z2.size
          have Z2 := Lib.hid z2
          clear hb2 z2 q0 q1 q2 q3 q4 HO HB1 Z1 I1
          go_wp2_with (at_builtin; refine wpList_append_own _ rfl (.tmp 55) (.tmp 57) 45 rfl w.heap.size 9 i0 (.string ⟨#[]⟩) 1 16 Tryd.underlying45 hi hz0 hz1 hz2 rfl (by decide) _ _ _ rfl (o2.alloc _) ⟨w2.heap.size, 0, none⟩ 1 1 [.string (mkS X)] rfl rfl ?c1 ?c2 ?c3 ?c4 ?c5 ?_)
          case c1 => intro j u hj; match j, hj with | 0, hj => (simp at hj; subst hj; simp [Addr.add]) | j + 1, hj => simp at hj
          case c2 => intro u hu; simp at hu; subst hu; rfl
          case c3 => unfold maxLen; omega
          case c4 => omega
          case c5 => simp; omega
          intro v3 w3 o3 g3 _
          have i3 := Lib.hid (heap_grown (heap_below I2.out ((Below.refl _ _).alloc (Nat.le_refl _) (.cells #[.string (mkS X)] 9))) g3 (iter_own_ne I2.out o2))
          have b3 : Hid (Blk w3 w.heap.size 23 (insA ⟨op, a, b, c, imm⟩)) := Lib.hid (heap_grown (B2.out.alloc (.cells #[.string (mkS X)] 9)) g3 (B2.out.own_ne o2 (by decide)))
          have z3 := Lib.hid ((Z2.out.alloc hs3 (.cells #[.string (mkS X)] 9)).grown g3 (by simp; omega) (fun j hj => (o2.lt j hj).1))
          clear g3 o2 I2 B2 Z2
          have HO3 := Lib.hid o3
          clear o3
          go_wp2_with fail
          go_roundw
          case rel =>
            refine ⟨k + 1, hp, b3.out, ?_, i3.out, z3.out⟩
            have ho := HO3.out
            have hq := HPk.out
            unfold strV at hq
            rw [← List.map_take, hq] at ho
            exact ho
          case measure =>
            rw [HPos.out, iterPos_of i3.out]
            omega
        · go_wp2_with fail
          refine (itoa_any imm (by omega) (by omega) _ E1.out).mono ?_
          rintro _ w2 ⟨rfl, hb2⟩
          have hs := Pi.out
          generalize hx : P _ = X at hs HPk hpl
          have hxs : Hid (X = _) := Lib.hid hs
          rw [← hs]
          clear hx hs
          have B2 := Lib.hid (HB1.out.below hb2)
          have o2 := own_tag HO.out (KeepTag.below hb2)
          have I2 := Lib.hid (heap_below I1.out hb2)
          have z2 := Z1.out.trans (hb2.mono hs2)
          have hs3 : w.heap.size ≤ w2.heap.size := z2.size
          have Z2 := Lib.hid z2
          clear hb2 z2 q0 q1 q2 q3 q4 HO HB1 Z1 I1
          go_wp2_with (at_builtin; refine wpList_append_own _ rfl (.tmp 55) (.tmp 57) 45 rfl w.heap.size 9 i0 (.string ⟨#[]⟩) 1 16 Tryd.underlying45 hi hz0 hz1 hz2 rfl (by decide) _ _ _ rfl (o2.alloc _) ⟨w2.heap.size, 0, none⟩ 1 1 [.string (mkS X)] rfl rfl ?c1 ?c2 ?c3 ?c4 ?c5 ?_)
          case c1 => intro j u hj; match j, hj with | 0, hj => (simp at hj; subst hj; simp [Addr.add]) | j + 1, hj => simp at hj
          case c2 => intro u hu; simp at hu; subst hu; rfl
          case c3 => unfold maxLen; omega
          case c4 => omega
          case c5 => simp; omega
          intro v3 w3 o3 g3 _
          have i3 := Lib.hid (heap_grown (heap_below I2.out ((Below.refl _ _).alloc (Nat.le_refl _) (.cells #[.string (mkS X)] 9))) g3 (iter_own_ne I2.out o2))
          have b3 : Hid (Blk w3 w.heap.size 23 (insA ⟨op, a, b, c, imm⟩)) := Lib.hid (heap_grown (B2.out.alloc (.cells #[.string (mkS X)] 9)) g3 (B2.out.own_ne o2 (by decide)))
          have z3 := Lib.hid ((Z2.out.alloc hs3 (.cells #[.string (mkS X)] 9)).grown g3 (by simp; omega) (fun j hj => (o2.lt j hj).1))
          clear g3 o2 I2 B2 Z2
          have HO3 := Lib.hid o3
          clear o3
          go_wp2_with fail
          go_roundw
          case rel =>
            refine ⟨k + 1, hp, b3.out, ?_, i3.out, z3.out⟩
            have ho := HO3.out
            have hq := HPk.out
            unfold strV at hq
            rw [← List.map_take, hq] at ho
            exact ho
          case measure =>
            rw [HPos.out, iterPos_of i3.out]
            omega
        · have hA := HA.out
          go_wp2_with fail
          clear hA
          refine (itoa_any_nat (op % 64) (by omega) _ E1.out).mono ?_
          rintro _ w2 ⟨rfl, hb2⟩
          have hs := Pn.out
          generalize hx : P _ = X at hs HPk hpl
          have hxs : Hid (X = _) := Lib.hid hs
          rw [← hs]
          clear hx hs
          have B2 := Lib.hid (HB1.out.below hb2)
          have o2 := own_tag HO.out (KeepTag.below hb2)
          have I2 := Lib.hid (heap_below I1.out hb2)
          have z2 := Z1.out.trans (hb2.mono hs2)
          have hs3 : w.heap.size ≤ w2.heap.size := z2.size
          have Z2 := Lib.hid z2
          clear hb2 z2 q0 q1 q2 q3 q4 HO HB1 Z1 I1
          go_wp2_with (at_builtin; refine wpList_append_own _ rfl (.tmp 55) (.tmp 57) 45 rfl w.heap.size 9 i0 (.string ⟨#[]⟩) 1 16 Tryd.underlying45 hi hz0 hz1 hz2 rfl (by decide) _ _ _ rfl (o2.alloc _) ⟨w2.heap.size, 0, none⟩ 1 1 [.string (mkS X)] rfl rfl ?c1 ?c2 ?c3 ?c4 ?c5 ?_)
          case c1 => intro j u hj; match j, hj with | 0, hj => (simp at hj; subst hj; simp [Addr.add]) | j + 1, hj => simp at hj
          case c2 => intro u hu; simp at hu; subst hu; rfl
          case c3 => unfold maxLen; omega
          case c4 => omega
          case c5 => simp; omega
          intro v3 w3 o3 g3 _
          have i3 := Lib.hid (heap_grown (heap_below I2.out ((Below.refl _ _).alloc (Nat.le_refl _) (.cells #[.string (mkS X)] 9))) g3 (iter_own_ne I2.out o2))
          have b3 : Hid (Blk w3 w.heap.size 23 (insA ⟨op, a, b, c, imm⟩)) := Lib.hid (heap_grown (B2.out.alloc (.cells #[.string (mkS X)] 9)) g3 (B2.out.own_ne o2 (by decide)))
          have z3 := Lib.hid ((Z2.out.alloc hs3 (.cells #[.string (mkS X)] 9)).grown g3 (by simp; omega) (fun j hj => (o2.lt j hj).1))
          clear g3 o2 I2 B2 Z2
          have HO3 := Lib.hid o3
          clear o3
          go_wp2_with fail
          go_roundw
          case rel =>
            refine ⟨k + 1, hp, b3.out, ?_, i3.out, z3.out⟩
            have ho := HO3.out
            have hq := HPk.out
            unfold strV at hq
            rw [← List.map_take, hq] at ho
            exact ho
          case measure =>
            rw [HPos.out, iterPos_of i3.out]
            omega
      · obtain rfl : k = L.length := by omega
        have hnx : ∀ ty, (Instr.next (.pointer (some ⟨w1.heap.size, 0, none⟩)) true ty).run Tryd.prog wr = .ok (.tuple #[.bool false]) wr := fun ty => Lib.run_next_end_at (P := Tryd.prog) wr w1.heap.size (mkS L) L.length ty hit (by rw [mkS_size]; exact hp)
        rw [List.take_length] at hown
        have Z1 := Lib.hid hbel
        clear hbel hB0 hit hpos hp hkk HB Z
        obtain ⟨a7, cap7, rfl⟩ := own_form hown
        have E1 := Lib.hid (HE.out.kept (Z1.out.mono (Nat.le_refl _)))
        by_cases hL0 : L = []
        · subst hL0
          have hT := HT.out
          rw [if_pos rfl] at hT
          subst hT
          clear hown
          go_wp2_with fail
          go_ret2
          exact ⟨rfl, Z1.out⟩
        · have hT := HT.out
          rw [if_neg hL0] at hT
          have hn0 : L.length ≠ 0 := fun h => hL0 (List.eq_nil_of_length_eq_zero h)
          obtain ⟨g, cap, he, hg0, hg1, hg2, hg3, hg4, -⟩ := own_cells hown hn0
          injection he with he1 he2 he3
          subst he1 he3
          have hJ := Tryd.strings_Join g 0 cap7 ((L.map P).map mkS) ⟨#[44, 32]⟩ wr (fun j x hx => by
            have hj : j < L.length := by have := (List.getElem?_eq_some_iff.1 hx).1; simpa using this
            rw [Nat.zero_add, hg4 j (by omega)]
            unfold strsV strV
            rw [List.getElem?_map] at hx ⊢
            cases hq : (L.map P)[j]? with
            | none => rw [hq] at hx; cases hx
            | some y => rw [hq] at hx; simp only [Option.map_some, Option.some.injEq] at hx ⊢; rw [hx]) hg1 (by simp only [List.length_map]; omega) (by simpa using hg2) (by
            have hm : ((L.map P).map mkS).map (fun s => s.data.toList) = L.map P := by rw [List.map_map]; exact (List.map_congr_left (fun x _ => mkS_toList x)).trans (List.map_id _)
            rw [hm]
            have := congrArg List.length hT
            simp only [List.length_append] at this
            show (Lib.join (L.map P) [44, 32]).length ≤ _
            omega)
          have hm : ((L.map P).map mkS).map (fun s => s.data.toList) = L.map P := by rw [List.map_map]; exact (List.map_congr_left (fun x _ => mkS_toList x)).trans (List.map_id _)
          rw [hm, List.length_map, List.length_map] at hJ
          have hJ2 : Calls Tryd.prog 24 #[.slice (some ⟨g, 0, none⟩) L.length cap7, .string ⟨#[44, 32]⟩] wr fun e w' => e = .returned (.string (mkS (Lib.join (L.map P) [44, 32]))) ∧ Below wr.heap.size wr w' := hJ
          clear hJ hm hg4 hg3 hg2 hown
          generalize Lib.join (L.map P) [44, 32] = J at hJ2 hT
          have HJ := Lib.hid hJ2
          have hTl := congrArg List.length hT
          simp only [List.length_append, List.length_cons, List.length_nil] at hTl
          have hTn : N.length + 1 + J.length ≤ 64 := by omega
          have hadd1 : ∀ W, (Op.stringOp .add (mkS N) (⟨#[32]⟩ : ByteArray)).run Tryd.prog W = .ok (.string (mkS (N ++ [32]))) W := fun W => by
            have := run_string_add_sum (P := Tryd.prog) W (mkS N) (mkS [32]) (by simp only [mkS_size, List.length_cons, List.length_nil]; omega)
            rwa [mk_append] at this
          have hadd2 : ∀ W, (Op.stringOp .add (mkS (N ++ [32])) (mkS J)).run Tryd.prog W = .ok (.string (mkS (N ++ 32 :: J))) W := fun W => by
            have := run_string_add_sum (P := Tryd.prog) W (mkS (N ++ [32])) (mkS J) (by simp only [mkS_size, List.length_append, List.length_cons, List.length_nil]; omega)
            rwa [mk_append, List.append_assoc, List.singleton_append] at this
          rw [List.append_assoc, List.singleton_append] at hT
          have HT2 := Lib.hid hT
          clear hT hTl HT hJ2
          obtain ⟨n, hn⟩ : ∃ n, n = L.length := ⟨_, rfl⟩
          rw [← hn] at HJ hn0 ⊢
          have hne : ((n : Int) == 0) = false := by rw [beq_eq_false_iff_ne]; omega
          have hne2 : ¬ (n : Int) = 0 := by omega
          clear hn
          go_wp2_with fail
          refine HJ.out.mono ?_
          rintro _ w4 ⟨rfl, hb4⟩
          go_wp2_with fail
          go_ret2
          exact ⟨by rw [HT2.out]; rfl, Z1.out.trans (hb4.mono Z1.out.size)⟩
end Go.Proofs.YtdmoiahaekooaaaDoor
