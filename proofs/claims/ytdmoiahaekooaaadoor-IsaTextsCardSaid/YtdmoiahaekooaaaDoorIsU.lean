/-
  Plain Lean, no program: what a text is read as; an instruction's text is read as itself. No condition.
-/
import Derived.Test.YtdmoiahaekooaaaDoorIsT
namespace Go.Proofs.YtdmoiahaekooaaaDoor
open Go

/-- What ParseUint of base 10 and size B hands back beside its error. -/
def uN (B : Nat) (p : List UInt8) : Nat := match Lib.parseUintB B p with | .ok n => n | .range => 2 ^ B - 1 | _ => 0
def uOk (B : Nat) (p : List UInt8) : Bool := match Lib.parseUintB B p with | .ok _ => true | _ => false
def findOp (name : List UInt8) : Option Nat := (List.range 64).find? fun k => !(hasI k).1.isEmpty && (hasI k).1 == name
def opI (name : List UInt8) (parts : List (List UInt8)) : Nat × List (List UInt8) × Bool :=
  if name = oneN ∧ parts ≠ [] then (64 + uN 6 (parts.headD []), parts.tail, uOk 6 (parts.headD []))
  else if name = twoN ∧ parts ≠ [] then (128 + uN 6 (parts.headD []), parts.tail, uOk 6 (parts.headD []))
  else match findOp name with
    | some k => (k, parts, true)
    | none => (0, [], false)
/-- An Op's letters but the first one, where it is n. -/
def lettersI (op : Nat) : List UInt8 := if (hasI op).2.head? = some 110 then (hasI op).2.tail else (hasI op).2
def trimR (p : List UInt8) : List UInt8 := if p.head? = some 114 then p.tail else p
def fillOne (i : Ins) (c : UInt8) (p : List UInt8) : Option Ins :=
  if c = 105 then (match Lib.parseIntB 32 p with | .ok v => some { i with imm := v } | _ => none)
  else match Lib.parseUintB 4 (trimR p) with
    | .ok n => some (if c = 97 then { i with a := n } else if c = 98 then { i with b := n } else if c = 99 then { i with c := n } else i)
    | _ => none
def fillI (i : Ins) : List UInt8 → List (List UInt8) → Option Ins
  | c :: cs, p :: ps => match fillOne i c p with | some j => fillI j cs ps | none => none
  | _, _ => some i
def piecesI (s : List UInt8) : List (List UInt8) := if (Lib.cut s [32]).2.2 = true then Lib.split (Lib.cut s [32]).2.1 [44, 32] else []
def candI (s : List UInt8) : Option Ins :=
  if 64 < s.length then none
  else
    if (opI (Lib.cut s [32]).1 (piecesI s)).2.2 = false ∨ (opI (Lib.cut s [32]).1 (piecesI s)).2.1.length ≠ (lettersI (opI (Lib.cut s [32]).1 (piecesI s)).1).length then none
    else fillI ⟨(opI (Lib.cut s [32]).1 (piecesI s)).1, 0, 0, 0, 0⟩ (lettersI (opI (Lib.cut s [32]).1 (piecesI s)).1) (opI (Lib.cut s [32]).1 (piecesI s)).2.1
def readI (s : List UInt8) : Option Ins :=
  match candI s with
  | some i => if rightI i = true ∧ textI i = s then some i else none
  | none => none

theorem letters_all : ∀ op : Fin 256, lettersI op.val ∈ [[], [105], [97, 105], [97, 98], [97, 98, 105], [97, 98, 99]] := by decide +kernel

theorem uN_digs (B : Nat) (hB : 2 ^ B - 1 ≤ 4294967295) (u : Nat) (h : u ≤ 2 ^ B - 1) : uN B (Lib.decDigits u) = u ∧ uOk B (Lib.decDigits u) = true := by
  unfold uN uOk
  rw [parseUB_digs B hB u h]
  exact ⟨rfl, rfl⟩

theorem find_low {op : Nat} (h : op < 64) (hn : (hasI op).1 ≠ []) : findOp (hasI op).1 = some op := by
  unfold findOp
  rw [List.find?_range_eq_some]
  refine ⟨?_, List.mem_range.2 h, ?_⟩
  · simp [hn]
  · intro j hj
    simp only [Bool.not_and, Bool.not_not, Bool.or_eq_true]
    by_cases hj0 : (hasI j).1 = []
    · left; simp [hj0]
    · right
      simp only [Bool.not_eq_true', beq_eq_false_iff_ne]
      intro e
      have := has_inj ⟨j, by omega⟩ ⟨op, h⟩ hj0 e
      have := congrArg Fin.val this
      dsimp only at this
      omega

theorem op_text {i : Ins} (hk : i.ok) (hr : rightI i = true) : opI (hasI i.op).1 ((hasI i.op).2.map (partI i)) = (i.op, (lettersI i.op).map (partI i), true) := by
  have h0 := right_op hr
  have hp : partI i 110 = Lib.decDigits (i.op % 64) := by unfold partI; simp
  by_cases h1 : (hasI i.op).1 = oneN
  · obtain ⟨a, b, c⟩ := has_one ⟨i.op, hk.1⟩ h1
    dsimp only at a b c
    have hu := uN_digs 6 (by decide) (i.op % 64) (by omega)
    unfold opI lettersI
    rw [h1, c, if_pos ⟨rfl, by simp⟩]
    simp only [List.map_cons, List.head?_cons, if_true, List.headD_cons, List.tail_cons, hp, hu.1, hu.2]
    congr 1
    omega
  by_cases h2 : (hasI i.op).1 = twoN
  · obtain ⟨a, b, c⟩ := has_two ⟨i.op, hk.1⟩ h2
    dsimp only at a b c
    have hu := uN_digs 6 (by decide) (i.op % 64) (by omega)
    unfold opI lettersI
    rw [h2, c, if_neg (fun h => absurd h.1 (by decide)), if_pos ⟨rfl, by simp⟩]
    simp only [List.map_cons, List.head?_cons, if_true, List.headD_cons, List.tail_cons, hp, hu.1, hu.2]
    congr 1
    omega
  obtain ⟨a, b⟩ := has_low ⟨i.op, hk.1⟩ h0 h1 h2
  dsimp only at a b
  unfold opI lettersI
  rw [if_neg (fun h => h1 h.1), if_neg (fun h => h2 h.1), find_low a h0, if_neg b]

theorem trim_reg (u : Nat) : trimR (114 :: Lib.decDigits u) = Lib.decDigits u := rfl
theorem fill_a (j i : Ins) (h : i.a < 16) : fillOne j 97 (partI i 97) = some { j with a := i.a } := by
  unfold fillOne partI
  rw [if_neg (by decide), if_pos rfl, trim_reg, parseUB_digs 4 (by decide) i.a (by omega)]
  rfl
theorem fill_b (j i : Ins) (h : i.b < 16) : fillOne j 98 (partI i 98) = some { j with b := i.b } := by
  unfold fillOne partI
  rw [if_neg (by decide), if_neg (by decide), if_pos rfl, trim_reg, parseUB_digs 4 (by decide) i.b (by omega)]
  rfl
theorem fill_c (j i : Ins) (h : i.c < 16) : fillOne j 99 (partI i 99) = some { j with c := i.c } := by
  unfold fillOne partI
  rw [if_neg (by decide), if_neg (by decide), if_neg (by decide), if_pos rfl, trim_reg, parseUB_digs 4 (by decide) i.c (by omega)]
  rfl
theorem fill_i (j i : Ins) (h0 : -2147483648 ≤ i.imm) (h1 : i.imm ≤ 2147483647) : fillOne j 105 (partI i 105) = some { j with imm := i.imm } := by
  unfold fillOne partI
  rw [if_pos rfl, if_neg (by decide), if_neg (by decide), if_neg (by decide), if_pos rfl, parseI_itoa i.imm h0 h1]
theorem letters_has : ∀ op : Fin 256, ∀ c ∈ [(97 : UInt8), 98, 99, 105], (hasI op.val).2.contains c = (lettersI op.val).contains c := by decide +kernel
theorem right_parts {i : Ins} (hk : i.ok) (h : rightI i = true) : i.a < 16 ∧ i.b < 16 ∧ i.c < 16 ∧ ((lettersI i.op).contains 97 = true ∨ i.a = 0) ∧ ((lettersI i.op).contains 98 = true ∨ i.b = 0) ∧ ((lettersI i.op).contains 99 = true ∨ i.c = 0) ∧ ((lettersI i.op).contains 105 = true ∨ i.imm = 0) := by
  unfold rightI at h
  have hl := letters_has ⟨i.op, hk.1⟩
  have e1 := hl 97 (by simp)
  have e2 := hl 98 (by simp)
  have e3 := hl 99 (by simp)
  have e4 := hl 105 (by simp)
  dsimp only at e1 e2 e3 e4
  rw [e1, e2, e3, e4] at h
  simp only [Bool.and_eq_true, Bool.or_eq_true, decide_eq_true_eq, beq_iff_eq] at h
  obtain ⟨⟨⟨⟨⟨⟨⟨_, h1⟩, h2⟩, h3⟩, h4⟩, h5⟩, h6⟩, h7⟩ := h
  exact ⟨h1, h2, h3, h4, h5, h6, h7⟩
theorem fill_text {i : Ins} (hk : i.ok) (hr : rightI i = true) : fillI ⟨i.op, 0, 0, 0, 0⟩ (lettersI i.op) ((lettersI i.op).map (partI i)) = some i := by
  obtain ⟨h1, h2, h3, h4, h5, h6, h7⟩ := right_parts hk hr
  have hl := letters_all ⟨i.op, hk.1⟩
  dsimp only at hl
  obtain ⟨op, a, b, c, imm⟩ := i
  obtain ⟨_, _, _, _, k5, k6⟩ := hk
  dsimp only at h1 h2 h3 h4 h5 h6 h7 hl k5 k6 ⊢
  generalize hL : lettersI op = L at hl h4 h5 h6 h7 ⊢
  clear hL
  have fa := fun j => fill_a j ⟨op, a, b, c, imm⟩ h1
  have fb := fun j => fill_b j ⟨op, a, b, c, imm⟩ h2
  have fc := fun j => fill_c j ⟨op, a, b, c, imm⟩ h3
  have fi := fun j => fill_i j ⟨op, a, b, c, imm⟩ k5 k6
  simp only [List.mem_cons, List.not_mem_nil, or_false] at hl
  rcases hl with rfl | rfl | rfl | rfl | rfl | rfl <;>
    simp only [List.map_cons, List.map_nil, fillI, fa, fb, fc, fi] <;>
    simp only [List.contains_cons, List.contains_nil, Bool.or_false, Bool.or_true, beq_self_eq_true, true_or, Bool.false_eq_true, false_or, show ((97 : UInt8) == 98) = false from rfl, show ((97 : UInt8) == 99) = false from rfl, show ((97 : UInt8) == 105) = false from rfl, show ((98 : UInt8) == 97) = false from rfl, show ((98 : UInt8) == 99) = false from rfl, show ((98 : UInt8) == 105) = false from rfl, show ((99 : UInt8) == 97) = false from rfl, show ((99 : UInt8) == 98) = false from rfl, show ((99 : UInt8) == 105) = false from rfl, show ((105 : UInt8) == 97) = false from rfl, show ((105 : UInt8) == 98) = false from rfl, show ((105 : UInt8) == 99) = false from rfl] at h4 h5 h6 h7 <;> (try subst h4) <;> (try subst h5) <;> (try subst h6) <;> (try subst h7) <;> rfl
theorem part_len {i : Ins} (hk : i.ok) (hr : rightI i = true) (x : UInt8) : (partI i x).length ≤ 21 := by
  obtain ⟨h1, h2, h3, _⟩ := right_parts hk hr
  obtain ⟨_, _, _, _, k5, k6⟩ := hk
  have hd : ∀ u, u < 100 → (Lib.decDigits u).length ≤ 2 := fun u hu => by
    rw [Lib.decDigits_length]
    by_cases h : u < 10
    · rw [Lib.nDigits_small h]; omega
    · rw [Lib.nDigits_big h, Lib.nDigits_small (by omega)]; exact Nat.le_refl _
  unfold partI
  split
  · have := hd i.a (by omega); simp only [List.length_cons]; omega
  split
  · have := hd i.b (by omega); simp only [List.length_cons]; omega
  split
  · have := hd i.c (by omega); simp only [List.length_cons]; omega
  split
  · exact Lib.itoa_length_le i.imm (by omega) (by omega)
  · have := hd (i.op % 64) (by omega); omega
theorem part_len3 {i : Ins} (hk : i.ok) (hr : rightI i = true) (x : UInt8) (hx : x ≠ 105) : (partI i x).length ≤ 3 := by
  obtain ⟨h1, h2, h3, _⟩ := right_parts hk hr
  have hd : ∀ u, u < 100 → (Lib.decDigits u).length ≤ 2 := fun u hu => by
    rw [Lib.decDigits_length]
    by_cases h : u < 10
    · rw [Lib.nDigits_small h]; omega
    · rw [Lib.nDigits_big h, Lib.nDigits_small (by omega)]; exact Nat.le_refl _
  unfold partI
  split
  · have := hd i.a (by omega); simp only [List.length_cons]; omega
  split
  · have := hd i.b (by omega); simp only [List.length_cons]; omega
  split
  · have := hd i.c (by omega); simp only [List.length_cons]; omega
  have := hd (i.op % 64) (by omega)
  omega
theorem text_len {i : Ins} (hk : i.ok) (hr : rightI i = true) : (textI i).length ≤ 64 := by
  have hn := has_len ⟨i.op, hk.1⟩
  have hl := has_letters ⟨i.op, hk.1⟩
  dsimp only at hn hl
  unfold textI
  generalize (hasI i.op).1 = N at hn ⊢
  generalize (hasI i.op).2 = L at hl ⊢
  have pa := part_len3 hk hr 97 (by decide)
  have pb := part_len3 hk hr 98 (by decide)
  have pc := part_len3 hk hr 99 (by decide)
  have pn := part_len3 hk hr 110 (by decide)
  have pi := part_len hk hr 105
  simp only [List.mem_cons, List.not_mem_nil, or_false] at hl
  rcases hl with rfl | rfl | rfl | rfl | rfl | rfl | rfl
  · rw [if_pos rfl]; omega
  all_goals
    rw [if_neg (List.cons_ne_nil _ _)]
    simp only [List.map_cons, List.map_nil, List.length_append, Lib.join_length, Lib.lens, List.length_cons, List.length_nil, List.sum_cons, List.sum_nil]
    omega
theorem cand_text {i : Ins} (hk : i.ok) (hr : rightI i = true) : candI (textI i) = some i := by
  obtain ⟨c1, c2, c3⟩ := text_cut hk
  have hp : piecesI (textI i) = (hasI i.op).2.map (partI i) := by
    unfold piecesI
    by_cases h : (hasI i.op).2 = []
    · rw [c2, h]; simp
    · rw [c3 h, c2, if_pos (by simp [h])]
  have ho := op_text hk hr
  have hl := text_len hk hr
  unfold candI
  rw [if_neg (by omega), c1, hp, ho]
  dsimp only
  rw [if_neg (by simp)]
  exact fill_text hk hr
theorem text_inj {i j : Ins} (hi : i.ok) (hj : j.ok) (ri : rightI i = true) (rj : rightI j = true) : textI i = textI j ↔ i = j := by
  constructor
  · intro h
    have := cand_text hi ri
    rw [h, cand_text hj rj] at this
    injection this with this
    exact this.symm
  · rintro rfl; rfl
theorem read_text {i : Ins} (hk : i.ok) (hr : rightI i = true) : readI (textI i) = some i := by
  unfold readI
  rw [cand_text hk hr]
  dsimp only
  rw [if_pos ⟨hr, rfl⟩]
theorem read_some {s : List UInt8} {i : Ins} (h : readI s = some i) : rightI i = true ∧ textI i = s := by
  unfold readI at h
  split at h
  · split at h
    · rename_i hc
      injection h with h
      subst h
      exact hc
    · cases h
  · cases h
theorem read_none {s : List UInt8} (h : readI s = none) {i : Ins} (hk : i.ok) (hr : rightI i = true) : textI i ≠ s := by
  rintro rfl
  rw [read_text hk hr] at h
  cases h
end Go.Proofs.YtdmoiahaekooaaaDoor
