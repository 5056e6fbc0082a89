/-
  Plain Lean, no program: instructions' texts, and what their pieces are read as. No condition.
-/
import Derived.Test.YtdmoiahaekooaaaDoorIsP
import Derived.Lib.ItoaNum
import Derived.Lib.ItoaLen
import Derived.Lib.ParseIntB
import Derived.Lib.Split
import Derived.Lib.Join
namespace Go.Proofs.YtdmoiahaekooaaaDoor
open Go

/-- What a letter stands for. -/
def partI (i : Ins) (c : UInt8) : List UInt8 :=
  if c = 97 then 114 :: Lib.decDigits i.a else if c = 98 then 114 :: Lib.decDigits i.b else if c = 99 then 114 :: Lib.decDigits i.c
  else if c = 105 then Lib.itoa i.imm else Lib.decDigits (i.op % 64)
def textI (i : Ins) : List UInt8 :=
  if (hasI i.op).2 = [] then (hasI i.op).1 else (hasI i.op).1 ++ [32] ++ Lib.join ((hasI i.op).2.map (partI i)) [44, 32]

def oneN : List UInt8 := [111, 110, 101]
def twoN : List UInt8 := [116, 119, 111]

theorem has_name : ∀ op : Fin 256, ∀ c ∈ (hasI op.val).1, c ≠ 32 := by decide +kernel
theorem has_letters : ∀ op : Fin 256, (hasI op.val).2 ∈ [[], [105], [97, 105], [97, 98], [97, 98, 105], [110, 97, 98, 99], [110, 97, 98]] := by decide +kernel
theorem has_one : ∀ op : Fin 256, (hasI op.val).1 = oneN → 64 ≤ op.val ∧ op.val < 128 ∧ (hasI op.val).2 = [110, 97, 98] := by decide +kernel
theorem has_two : ∀ op : Fin 256, (hasI op.val).1 = twoN → 128 ≤ op.val ∧ op.val < 192 ∧ (hasI op.val).2 = [110, 97, 98, 99] := by decide +kernel
theorem has_low : ∀ op : Fin 256, (hasI op.val).1 ≠ [] → (hasI op.val).1 ≠ oneN → (hasI op.val).1 ≠ twoN → op.val < 64 ∧ (hasI op.val).2.head? ≠ some 110 := by decide +kernel
theorem has_inj : ∀ a b : Fin 64, (hasI a.val).1 ≠ [] → (hasI a.val).1 = (hasI b.val).1 → a = b := by decide +kernel
theorem has_len : ∀ op : Fin 256, (hasI op.val).1.length ≤ 5 := by decide +kernel
theorem has_lowS : ∀ op : Fin 64, (hasI op.val).1 ≠ oneN ∧ (hasI op.val).1 ≠ twoN ∧ (hasI op.val).2.head? ≠ some 110 := by decide +kernel

/-! ## Numerals -/
theorem digs_mem (u : Nat) : ∀ c ∈ Lib.decDigits u, 48 ≤ c.toNat ∧ c.toNat ≤ 57 := by
  induction u using Nat.strongRecOn with
  | _ u ih =>
    intro c hc
    rw [Lib.decDigits] at hc
    split at hc
    · rename_i h
      rw [List.mem_singleton] at hc
      subst hc
      rw [UInt8.toNat_ofNat']
      omega
    · rename_i h
      rw [List.mem_append, List.mem_singleton] at hc
      rcases hc with hc | rfl
      · exact ih (u / 10) (by omega) c hc
      · rw [UInt8.toNat_ofNat']
        omega
theorem digs_ne (u : Nat) : Lib.decDigits u ≠ [] := by
  rw [Lib.decDigits]
  split
  · exact List.cons_ne_nil _ _
  · intro h
    have := congrArg List.length h
    simp at this
theorem parseU_snoc (M : Nat) : ∀ (l : List UInt8) (acc a : Nat) (c : UInt8), Lib.parseUintM M acc l = .ok a → Lib.parseUintM M acc (l ++ [c]) = Lib.parseUintM M a [c]
  | [], acc, a, c, h => by
    simp only [Lib.parseUintM] at h
    cases h
    rfl
  | x :: r, acc, a, c, h => by
    simp only [Lib.parseUintM, List.cons_append] at h ⊢
    split at h
    · rename_i h1
      rw [if_pos h1]
      split at h
      · cases h
      · rename_i h2
        rw [if_neg h2]
        split at h
        · cases h
        · rename_i h3
          rw [if_neg h3]
          exact parseU_snoc M r _ a c h
    · cases h
theorem parseU_digs (M : Nat) (hM : M ≤ 4294967295) (u : Nat) : u ≤ M → Lib.parseUintM M 0 (Lib.decDigits u) = .ok u := by
  induction u using Nat.strongRecOn with
  | _ u ih =>
    intro hu
    rw [Lib.decDigits]
    split
    · rename_i h
      have e : (UInt8.ofNat (48 + u)).toNat = 48 + u := by rw [UInt8.toNat_ofNat']; omega
      simp only [Lib.parseUintM, e]
      rw [if_pos (by omega), if_neg (by omega), if_neg (by omega)]
      congr 1
      omega
    · rename_i h
      have e : (UInt8.ofNat (48 + u % 10)).toNat = 48 + u % 10 := by rw [UInt8.toNat_ofNat']; omega
      rw [parseU_snoc M _ 0 (u / 10) _ (ih (u / 10) (by omega) (by omega))]
      simp only [Lib.parseUintM, e]
      rw [if_pos (by omega), if_neg (by omega), if_neg (by omega)]
      congr 1
      omega
theorem parseUB_digs (B : Nat) (hB : 2 ^ B - 1 ≤ 4294967295) (u : Nat) (h : u ≤ 2 ^ B - 1) : Lib.parseUintB B (Lib.decDigits u) = .ok u := by
  unfold Lib.parseUintB
  rw [if_neg (digs_ne u)]
  exact parseU_digs _ hB u h
theorem digs_head (u : Nat) : ∃ c r, Lib.decDigits u = c :: r ∧ 48 ≤ c.toNat ∧ c.toNat ≤ 57 := by
  cases h : Lib.decDigits u with
  | nil => exact absurd h (digs_ne u)
  | cons c r =>
    have := digs_mem u c (by rw [h]; exact List.mem_cons_self ..)
    exact ⟨c, r, rfl, this⟩
theorem parseI_itoa (v : Int) (h0 : -2147483648 ≤ v) (h1 : v ≤ 2147483647) : Lib.parseIntB 32 (Lib.itoa v) = .ok v := by
  unfold Lib.itoa
  have e31 : (2 : Nat) ^ (32 - 1) = 2147483648 := by decide
  have e32 : (2 : Nat) ^ 32 - 1 = 4294967295 := by decide
  split
  · rename_i h
    unfold Lib.parseIntB
    dsimp only
    have e45 : (45 : UInt8).toNat = 45 := rfl
    rw [if_pos (Or.inr e45), parseUB_digs 32 (by omega) v.natAbs (by omega)]
    dsimp only
    rw [if_neg (fun hh => hh.1 e45), if_neg (by rw [e31]; omega), if_pos e45]
    congr 1
    omega
  · rename_i h
    obtain ⟨c, r, hc, hc0, hc1⟩ := digs_head v.toNat
    have hp := parseUB_digs 32 (by omega) v.toNat (by omega)
    rw [hc] at hp ⊢
    unfold Lib.parseIntB
    dsimp only
    rw [if_neg (by omega), hp]
    dsimp only
    rw [if_neg (by rw [e31]; omega), if_neg (by omega), if_neg (by omega)]
    congr 1
    omega
theorem itoa_mem (v : Int) : ∀ c ∈ Lib.itoa v, c = 45 ∨ 48 ≤ c.toNat ∧ c.toNat ≤ 57 := by
  intro c hc
  unfold Lib.itoa at hc
  split at hc
  · rcases List.mem_cons.1 hc with rfl | hc
    · exact Or.inl rfl
    · exact Or.inr (digs_mem _ c hc)
  · exact Or.inr (digs_mem _ c hc)
theorem part_mem (i : Ins) (x : UInt8) : ∀ c ∈ partI i x, c ≠ 44 ∧ c ≠ 32 := by
  intro c hc
  have hd : ∀ u, c ∈ Lib.decDigits u → c ≠ 44 ∧ c ≠ 32 := fun u h => by
    have := digs_mem u c h
    constructor
    · rintro rfl
      have : (44 : UInt8).toNat = 44 := rfl
      omega
    · rintro rfl
      have : (32 : UInt8).toNat = 32 := rfl
      omega
  have hr : ∀ u, c ∈ 114 :: Lib.decDigits u → c ≠ 44 ∧ c ≠ 32 := fun u h => by
    rcases List.mem_cons.1 h with rfl | h
    · decide
    · exact hd u h
  unfold partI at hc
  split at hc
  · exact hr _ hc
  split at hc
  · exact hr _ hc
  split at hc
  · exact hr _ hc
  split at hc
  · rcases itoa_mem _ c hc with rfl | h
    · decide
    · constructor
      · rintro rfl
        have : (44 : UInt8).toNat = 44 := rfl
        omega
      · rintro rfl
        have : (32 : UInt8).toNat = 32 := rfl
        omega
  · exact hd _ hc

/-! ## Cutting -/
theorem occ_not {s : List UInt8} {c : UInt8} {t : List UInt8} {i : Nat} (h : s[i]? ≠ some c) : Lib.occAt s (c :: t) i = false := by
  cases e : Lib.occAt s (c :: t) i with
  | false => rfl
  | true => exact absurd (Lib.occAt_head rfl e) h
theorem index_at (x r : List UInt8) (c : UInt8) (t : List UInt8) (hx : ∀ y ∈ x, y ≠ c) : Lib.index (x ++ (c :: t) ++ r) (c :: t) = x.length := by
  apply Lib.index_first
  · simp only [List.length_append]; omega
  · rw [Lib.occAt_iff_take _ _ _ (by simp only [List.length_append]; omega), List.append_assoc, List.drop_left, List.take_left]
    exact beq_self_eq_true _
  · intro j hj
    apply occ_not
    rw [List.append_assoc, List.getElem?_append_left hj, List.getElem?_eq_getElem hj]
    intro h
    injection h with h
    exact hx _ (List.getElem_mem hj) h
theorem index_no (x : List UInt8) (c : UInt8) (t : List UInt8) (hx : ∀ y ∈ x, y ≠ c) : Lib.index x (c :: t) = -1 := by
  apply Lib.index_none
  intro j _
  apply occ_not
  by_cases hj : j < x.length
  · rw [List.getElem?_eq_getElem hj]
    intro h
    injection h with h
    exact hx _ (List.getElem_mem hj) h
  · rw [List.getElem?_eq_none (by omega)]
    exact fun h => by cases h
theorem cut_at (x r : List UInt8) (c : UInt8) (hx : ∀ y ∈ x, y ≠ c) : Lib.cut (x ++ [c] ++ r) [c] = (x, r, true) := by
  unfold Lib.cut
  rw [index_at x r c [] hx, if_pos (by omega)]
  congr 1
  · rw [List.append_assoc]; simp
  · congr 1
    simp
theorem cut_no (x : List UInt8) (c : UInt8) (hx : ∀ y ∈ x, y ≠ c) : Lib.cut x [c] = (x, [], false) := by
  unfold Lib.cut
  rw [index_no x c [] hx, if_neg (by omega)]
theorem split_join (c d : UInt8) : ∀ (ps : List (List UInt8)), (∀ p ∈ ps, ∀ y ∈ p, y ≠ c) → ps ≠ [] → Lib.split (Lib.join ps [c, d]) [c, d] = ps
  | [], _, h => absurd rfl h
  | [p], hp, _ => by
    have hn := index_no p c [d] (hp p (List.mem_singleton_self p))
    rw [Lib.join_one]
    unfold Lib.split
    rw [Lib.count_miss hn]
    rfl
  | p :: q :: r, hp, _ => by
    have e : Lib.join (p :: q :: r) [c, d] = p ++ [c, d] ++ Lib.join (q :: r) [c, d] := by
      rw [Lib.join_cons, Lib.join_cons]
      simp [Lib.joinTail]
    have hi := index_at p (Lib.join (q :: r) [c, d]) c [d] (hp p (List.mem_cons_self ..))
    have ih := split_join c d (q :: r) (fun x hx => hp x (List.mem_cons_of_mem _ hx)) (List.cons_ne_nil _ _)
    have ed : (p ++ [c, d] ++ Lib.join (q :: r) [c, d]).drop (p.length + [c, d].length) = Lib.join (q :: r) [c, d] := by simp
    have et : (p ++ [c, d] ++ Lib.join (q :: r) [c, d]).take p.length = p := by rw [List.append_assoc, List.take_left]
    rw [e]
    unfold Lib.split at ih ⊢
    rw [Lib.count_hit (List.cons_ne_nil _ _) hi, ed, Nat.add_comm, Lib.splitK, hi, if_neg (by simp), Int.toNat_natCast, ed, Nat.add_zero, et, ih]

/-! ## An instruction's text is taken apart -/
/-- What strings.Cut and strings.Split give at an instruction's text. -/
theorem text_cut {i : Ins} (hk : i.ok) : (Lib.cut (textI i) [32]).1 = (hasI i.op).1 ∧ (Lib.cut (textI i) [32]).2.2 = decide ((hasI i.op).2 ≠ []) ∧ ((hasI i.op).2 ≠ [] → Lib.split (Lib.cut (textI i) [32]).2.1 [44, 32] = (hasI i.op).2.map (partI i)) := by
  have hn := has_name ⟨i.op, hk.1⟩
  unfold textI
  by_cases h : (hasI i.op).2 = []
  · rw [if_pos h, cut_no _ _ hn]
    exact ⟨rfl, by simp [h], fun h' => absurd h h'⟩
  · rw [if_neg h, cut_at _ _ _ hn]
    refine ⟨rfl, by simp [h], fun _ => ?_⟩
    refine split_join 44 32 _ ?_ (by simpa using h)
    intro p hp
    obtain ⟨x, _, rfl⟩ := List.mem_map.1 hp
    exact fun y hy => (part_mem i x y hy).1
end Go.Proofs.YtdmoiahaekooaaaDoor
