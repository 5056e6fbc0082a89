/-
  Plain Lean, no program: the document's reader of an instruction's text finds what the short one finds. No condition.
-/
import Derived.Test.YtdmoiahaekooaaaDoorIsU
namespace Go.Proofs.YtdmoiahaekooaaaDoor
open Go

def upL (c : UInt8) : UInt8 := if c = 97 then 65 else if c = 98 then 66 else if c = 99 then 67 else if c = 105 then 73 else 70
def lettersR (op : Nat) : List UInt8 := (hasI op).2.map upL
def digL : Nat → List UInt8 → Option Nat
  | n, [] => some n
  | n, c :: r => if c.toNat < 48 ∨ 57 < c.toNat then none else digL (10 * n + (c.toNat - 48)) r
def negL (s : List UInt8) : Bool := s.head? == some 45
def numAt (s : List UInt8) : Option Int := if negL s = true then (digL 0 (s.take 11).tail).map fun n => -(n : Int) else (digL 0 (s.take 11)).map fun n => (n : Int)
def numR (s : List UInt8) : Int × Bool :=
  match numAt s with
  | some v => (v, decide (0 < s.length) && decide (s.length < 12) && (Lib.itoa v == s))
  | none => (0, false)
def regL (c : UInt8) : Bool := c == 65 || c == 66 || c == 67
def setR (i : Ins) (c : UInt8) (v : Int) : Ins :=
  if c = 65 then { i with a := v.toNat } else if c = 66 then { i with b := v.toNat } else if c = 67 then { i with c := v.toNat } else if c = 73 then { i with imm := v } else i
def fillOneR (i : Ins) (c : UInt8) (p : List UInt8) : Option Ins :=
  if regL c = true then
    if p.head? = some 114 ∧ (numR p.tail).2 = true ∧ 0 ≤ (numR p.tail).1 ∧ (numR p.tail).1 < 16 then some (setR i c (numR p.tail).1) else none
  else if (numR p).2 = true ∧ (c = 73 → -2147483648 ≤ (numR p).1 ∧ (numR p).1 ≤ 2147483647) then some (setR i c (numR p).1) else none
def fillR (i : Ins) : List UInt8 → List (List UInt8) → Option Ins
  | [], [] => some i
  | c :: cs, p :: ps => match fillOneR i c p with | some j => fillR j cs ps | none => none
  | _, _ => none
def nameR (s : List UInt8) : List UInt8 := s.takeWhile (· != 32)
def pieceR (s : List UInt8) : List UInt8 := s.takeWhile (· != 44)
def piecesR : Nat → List UInt8 → List (List UInt8)
  | 0, _ => []
  | _ + 1, [] => []
  | n + 1, _ :: t => pieceR t :: piecesR n ((t.drop (pieceR t).length).drop 1)
def cutR (s : List UInt8) : List (List UInt8) := piecesR 5 (s.drop (nameR s).length)
def matchR (s : List UInt8) (op : Nat) : Option Ins :=
  if (hasI op).1 ≠ nameR s ∨ (hasI op).1 = [] then none
  else match fillR ⟨op, 0, 0, 0, 0⟩ (lettersR op) (cutR s) with
    | some i => if rightI i = true ∧ textI i = s then some i else none
    | none => none

/-! ## Numbers -/
theorem digL_snoc : ∀ (l : List UInt8) (n m : Nat) (c : UInt8), digL n l = some m → digL n (l ++ [c]) = digL m [c]
  | [], n, m, c, h => by
    simp only [digL, Option.some.injEq] at h
    subst h
    rfl
  | x :: r, n, m, c, h => by
    simp only [digL, List.cons_append] at h ⊢
    split at h
    · cases h
    · rename_i h1
      rw [if_neg h1]
      exact digL_snoc r _ m c h
theorem digL_digs (u : Nat) : digL 0 (Lib.decDigits u) = some u := by
  induction u using Nat.strongRecOn with
  | _ u ih =>
    rw [Lib.decDigits]
    split
    · rename_i h
      have e : (UInt8.ofNat (48 + u)).toNat = 48 + u := by rw [UInt8.toNat_ofNat']; omega
      simp only [digL, e]
      rw [if_neg (by omega)]
      congr 1
      omega
    · rename_i h
      have e : (UInt8.ofNat (48 + u % 10)).toNat = 48 + u % 10 := by rw [UInt8.toNat_ofNat']; omega
      rw [digL_snoc _ 0 (u / 10) _ (ih (u / 10) (by omega))]
      simp only [digL, e]
      rw [if_neg (by omega)]
      congr 1
      omega
theorem digs_len10 (u : Nat) (h : u ≤ 2147483648) : (Lib.decDigits u).length ≤ 10 := by
  rw [Lib.decDigits_length]
  have go : ∀ (k u : Nat), u < 10 ^ (k + 1) → Lib.nDigits u ≤ k + 1 := by
    intro k
    induction k with
    | zero => intro u hu; rw [Lib.nDigits_small (by omega)]; omega
    | succ k ih =>
      intro u hu
      by_cases h : u < 10
      · rw [Lib.nDigits_small h]; omega
      · rw [Lib.nDigits_big h]
        have := ih (u / 10) (by rw [Nat.pow_succ] at hu; omega)
        omega
  exact go 9 u (by omega)
theorem num_itoa (v : Int) (h0 : -2147483648 ≤ v) (h1 : v ≤ 2147483647) : numR (Lib.itoa v) = (v, true) := by
  have hlen : (Lib.itoa v).length ≤ 11 ∧ 0 < (Lib.itoa v).length := by
    unfold Lib.itoa
    split
    · have := digs_len10 v.natAbs (by omega)
      simp only [List.length_cons]
      omega
    · have := digs_len10 v.toNat (by omega)
      have := List.length_pos_iff.2 (digs_ne v.toNat)
      omega
  have hat : numAt (Lib.itoa v) = some v := by
    unfold numAt
    rw [List.take_of_length_le hlen.1]
    unfold Lib.itoa negL
    split
    · rename_i h
      rw [if_pos (by simp), List.tail_cons, digL_digs]
      show some (-((v.natAbs : Nat) : Int)) = some v
      congr 1
      omega
    · rename_i h
      obtain ⟨c, r, hc, hc0, hc1⟩ := digs_head v.toNat
      have hd := digL_digs v.toNat
      rw [hc] at hd ⊢
      have hne : c ≠ 45 := by
        rintro rfl
        have : (45 : UInt8).toNat = 45 := rfl
        omega
      rw [if_neg (by simpa using hne), hd]
      show some ((v.toNat : Nat) : Int) = some v
      congr 1
      omega
  unfold numR
  rw [hat]
  dsimp only
  rw [decide_eq_true hlen.2, decide_eq_true (by omega : (Lib.itoa v).length < 12)]
  simp
theorem num_digs (u : Nat) (h : u ≤ 2147483647) : numR (Lib.decDigits u) = ((u : Int), true) := by
  have := num_itoa (u : Int) (by omega) (by omega)
  unfold Lib.itoa at this
  rwa [if_neg (by omega), Int.toNat_natCast] at this

/-! ## Pieces -/
theorem takeW_stop (x : List UInt8) (c : UInt8) (r : List UInt8) (hx : ∀ y ∈ x, y ≠ c) : (x ++ c :: r).takeWhile (· != c) = x := by
  induction x with
  | nil => simp
  | cons y x ih =>
    rw [List.cons_append, List.takeWhile_cons, if_pos (by simpa using hx y (List.mem_cons_self ..)), ih (fun z hz => hx z (List.mem_cons_of_mem _ hz))]
theorem takeW_all (x : List UInt8) (c : UInt8) (hx : ∀ y ∈ x, y ≠ c) : x.takeWhile (· != c) = x := by
  induction x with
  | nil => rfl
  | cons y x ih => rw [List.takeWhile_cons, if_pos (by simpa using hx y (List.mem_cons_self ..)), ih (fun z hz => hx z (List.mem_cons_of_mem _ hz))]
theorem pieces_join : ∀ (ps : List (List UInt8)) (n : Nat), ps.length ≤ n → ps ≠ [] → (∀ p ∈ ps, ∀ y ∈ p, y ≠ 44) → piecesR n (32 :: Lib.join ps [44, 32]) = ps
  | [], _, _, h, _ => absurd rfl h
  | [p], n, hn, _, hp => by
    obtain ⟨n, rfl⟩ : ∃ k, n = k + 1 := ⟨n - 1, by simp at hn; omega⟩
    have hp := hp p (List.mem_singleton_self p)
    rw [Lib.join_one, piecesR]
    unfold pieceR
    rw [takeW_all p 44 hp, List.drop_length]
    cases n <;> rfl
  | p :: q :: r, n, hn, _, hp => by
    obtain ⟨n, rfl⟩ : ∃ k, n = k + 1 := ⟨n - 1, by simp at hn; omega⟩
    have e : Lib.join (p :: q :: r) [44, 32] = p ++ 44 :: 32 :: Lib.join (q :: r) [44, 32] := by
      rw [Lib.join_cons, Lib.join_cons]
      simp [Lib.joinTail]
    have ih := pieces_join (q :: r) n (by simp at hn ⊢; omega) (List.cons_ne_nil _ _) (fun x hx => hp x (List.mem_cons_of_mem _ hx))
    rw [e, piecesR]
    unfold pieceR
    rw [takeW_stop p 44 _ (hp p (List.mem_cons_self ..)), List.drop_left]
    rw [List.drop_one, List.tail_cons, ih]
theorem cut_text {i : Ins} (hk : i.ok) : nameR (textI i) = (hasI i.op).1 ∧ cutR (textI i) = (hasI i.op).2.map (partI i) := by
  have hn := has_name ⟨i.op, hk.1⟩
  dsimp only at hn
  have hl := has_letters ⟨i.op, hk.1⟩
  dsimp only at hl
  have hlen : (hasI i.op).2.length ≤ 5 := by
    simp only [List.mem_cons, List.not_mem_nil, or_false] at hl
    rcases hl with h | h | h | h | h | h | h <;> rw [h] <;> simp
  unfold cutR textI nameR
  by_cases h : (hasI i.op).2 = []
  · rw [if_pos h, takeW_all _ 32 hn, List.drop_length, h]
    exact ⟨rfl, rfl⟩
  · rw [if_neg h, List.append_assoc, List.singleton_append, takeW_stop _ 32 _ hn, List.drop_left]
    refine ⟨rfl, pieces_join _ 5 (by simpa using hlen) (by simpa using h) ?_⟩
    intro p hp
    obtain ⟨x, _, rfl⟩ := List.mem_map.1 hp
    exact fun y hy => (part_mem i x y hy).1

/-! ## Filling -/
theorem fillR_a (j i : Ins) (h : i.a < 16) : fillOneR j 65 (partI i 97) = some { j with a := i.a } := by
  have e : partI i 97 = 114 :: Lib.decDigits i.a := rfl
  have r : regL 65 = true := rfl
  unfold fillOneR
  rw [e, if_pos r, List.tail_cons, num_digs i.a (by omega), if_pos ⟨rfl, rfl, by dsimp only; omega, by dsimp only; omega⟩]
  rfl
theorem fillR_b (j i : Ins) (h : i.b < 16) : fillOneR j 66 (partI i 98) = some { j with b := i.b } := by
  have e : partI i 98 = 114 :: Lib.decDigits i.b := rfl
  have r : regL 66 = true := rfl
  unfold fillOneR
  rw [e, if_pos r, List.tail_cons, num_digs i.b (by omega), if_pos ⟨rfl, rfl, by dsimp only; omega, by dsimp only; omega⟩]
  rfl
theorem fillR_c (j i : Ins) (h : i.c < 16) : fillOneR j 67 (partI i 99) = some { j with c := i.c } := by
  have e : partI i 99 = 114 :: Lib.decDigits i.c := rfl
  have r : regL 67 = true := rfl
  unfold fillOneR
  rw [e, if_pos r, List.tail_cons, num_digs i.c (by omega), if_pos ⟨rfl, rfl, by dsimp only; omega, by dsimp only; omega⟩]
  rfl
theorem fillR_i (j i : Ins) (h0 : -2147483648 ≤ i.imm) (h1 : i.imm ≤ 2147483647) : fillOneR j 73 (partI i 105) = some { j with imm := i.imm } := by
  have e : partI i 105 = Lib.itoa i.imm := rfl
  have r : ¬ regL 73 = true := by decide
  unfold fillOneR
  rw [e, if_neg r, num_itoa i.imm h0 h1, if_pos ⟨rfl, fun _ => ⟨h0, h1⟩⟩]
  rfl
theorem fillR_n (j i : Ins) : fillOneR j 70 (partI i 110) = some j := by
  have e : partI i 110 = Lib.decDigits (i.op % 64) := rfl
  have r : ¬ regL 70 = true := by decide
  unfold fillOneR
  rw [e, if_neg r, num_digs (i.op % 64) (by omega), if_pos ⟨rfl, fun h => absurd h (by decide)⟩]
  rfl
theorem has_letters4 : ∀ op : Fin 256, ∀ c ∈ [(97 : UInt8), 98, 99, 105], (lettersI op.val).contains c = (hasI op.val).2.contains c := by decide +kernel
theorem fillR_text {i : Ins} (hk : i.ok) (hr : rightI i = true) : fillR ⟨i.op, 0, 0, 0, 0⟩ (lettersR i.op) ((hasI i.op).2.map (partI i)) = some i := by
  obtain ⟨h1, h2, h3, h4, h5, h6, h7⟩ := right_parts hk hr
  have hl := has_letters ⟨i.op, hk.1⟩
  have l4 := has_letters4 ⟨i.op, hk.1⟩
  dsimp only at hl l4
  rw [l4 97 (by simp)] at h4
  rw [l4 98 (by simp)] at h5
  rw [l4 99 (by simp)] at h6
  rw [l4 105 (by simp)] at h7
  clear l4
  have k1 := hk.1
  obtain ⟨op, a, b, c, imm⟩ := i
  obtain ⟨_, _, _, _, k5, k6⟩ := hk
  dsimp only at h1 h2 h3 h4 h5 h6 h7 hl k1 k5 k6 ⊢
  unfold lettersR
  generalize hL : (hasI op).2 = L at hl h4 h5 h6 h7 ⊢
  clear hL
  have fa := fun j => fillR_a j ⟨op, a, b, c, imm⟩ h1
  have fb := fun j => fillR_b j ⟨op, a, b, c, imm⟩ h2
  have fc := fun j => fillR_c j ⟨op, a, b, c, imm⟩ h3
  have fi := fun j => fillR_i j ⟨op, a, b, c, imm⟩ k5 k6
  have fn := fun j => fillR_n j ⟨op, a, b, c, imm⟩
  have ua : upL 97 = 65 := rfl
  have ub : upL 98 = 66 := rfl
  have uc : upL 99 = 67 := rfl
  have ui : upL 105 = 73 := rfl
  have un : upL 110 = 70 := rfl
  simp only [List.mem_cons, List.not_mem_nil, or_false] at hl
  rcases hl with rfl | rfl | rfl | rfl | rfl | rfl | rfl <;>
    simp only [List.map_cons, List.map_nil, ua, ub, uc, ui, un, fillR, fa, fb, fc, fi, fn] <;>
    simp only [List.contains_cons, List.contains_nil, Bool.or_false, Bool.or_true, beq_self_eq_true, true_or, Bool.false_eq_true, false_or, show ((97 : UInt8) == 98) = false from rfl, show ((97 : UInt8) == 99) = false from rfl, show ((97 : UInt8) == 105) = false from rfl, show ((98 : UInt8) == 97) = false from rfl, show ((98 : UInt8) == 99) = false from rfl, show ((98 : UInt8) == 105) = false from rfl, show ((99 : UInt8) == 97) = false from rfl, show ((99 : UInt8) == 98) = false from rfl, show ((99 : UInt8) == 105) = false from rfl, show ((105 : UInt8) == 97) = false from rfl, show ((105 : UInt8) == 98) = false from rfl, show ((105 : UInt8) == 99) = false from rfl, show ((97 : UInt8) == 110) = false from rfl, show ((98 : UInt8) == 110) = false from rfl, show ((99 : UInt8) == 110) = false from rfl, show ((105 : UInt8) == 110) = false from rfl] at h4 h5 h6 h7 <;> (try subst h4) <;> (try subst h5) <;> (try subst h6) <;> (try subst h7) <;> rfl
theorem fillOne_ok {i j : Ins} {c : UInt8} {p : List UInt8} (hk : i.ok) (h : fillOneR i c p = some j) : j.ok := by
  unfold fillOneR at h
  obtain ⟨k1, k2, k3, k4, k5, k6⟩ := hk
  split at h
  · split at h
    · rename_i h1
      injection h with h
      subst h
      obtain ⟨_, _, h0, h16⟩ := h1
      unfold setR Ins.ok
      split
      · exact ⟨k1, by dsimp only; omega, k3, k4, k5, k6⟩
      split
      · exact ⟨k1, k2, by dsimp only; omega, k4, k5, k6⟩
      split
      · exact ⟨k1, k2, k3, by dsimp only; omega, k5, k6⟩
      split
      · exact ⟨k1, k2, k3, k4, by dsimp only; omega, by dsimp only; omega⟩
      · exact ⟨k1, k2, k3, k4, k5, k6⟩
    · cases h
  · rename_i hr
    split at h
    · rename_i h1
      injection h with h
      subst h
      unfold setR Ins.ok
      have n1 : c ≠ 65 := by rintro rfl; exact hr rfl
      have n2 : c ≠ 66 := by rintro rfl; exact hr rfl
      have n3 : c ≠ 67 := by rintro rfl; exact hr rfl
      rw [if_neg n1, if_neg n2, if_neg n3]
      split
      · rename_i h73
        have := h1.2 h73
        exact ⟨k1, k2, k3, k4, this.1, this.2⟩
      · exact ⟨k1, k2, k3, k4, k5, k6⟩
    · cases h
theorem fillR_ok : ∀ (cs : List UInt8) (ps : List (List UInt8)) (i j : Ins), i.ok → fillR i cs ps = some j → j.ok
  | [], [], i, j, hk, h => by
    simp only [fillR, Option.some.injEq] at h
    rwa [← h]
  | c :: cs, p :: ps, i, j, hk, h => by
    simp only [fillR] at h
    split at h
    · rename_i k hk1
      exact fillR_ok cs ps k j (fillOne_ok hk hk1) h
    · cases h
  | [], _ :: _, i, j, hk, h => by simp [fillR] at h
  | _ :: _, [], i, j, hk, h => by simp [fillR] at h

/-! ## What the document's reader finds -/
theorem zero_ok {op : Nat} (h : op < 256) : (⟨op, 0, 0, 0, 0⟩ : Ins).ok := ⟨h, Nat.zero_lt_succ _, Nat.zero_lt_succ _, Nat.zero_lt_succ _, by show (-2147483648 : Int) ≤ 0; omega, by show (0 : Int) ≤ 2147483647; omega⟩
theorem match_some {s : List UInt8} {op : Nat} {i : Ins} (hop : op < 256) (h : matchR s op = some i) : readI s = some i ∧ i.ok := by
  unfold matchR at h
  split at h
  · cases h
  · split at h
    · rename_i j hj
      split at h
      · rename_i hc
        injection h with h
        subst h
        have hk := fillR_ok _ _ _ _ (zero_ok hop) hj
        have := read_text hk hc.1
        rw [hc.2] at this
        exact ⟨this, hk⟩
      · cases h
    · cases h
theorem match_text {i : Ins} (hk : i.ok) (hr : rightI i = true) : matchR (textI i) i.op = some i := by
  obtain ⟨c1, c2⟩ := cut_text hk
  unfold matchR
  rw [c1, c2, if_neg (by have := right_op hr; simpa using this), fillR_text hk hr]
  dsimp only
  rw [if_pos ⟨hr, rfl⟩]
end Go.Proofs.YtdmoiahaekooaaaDoor
