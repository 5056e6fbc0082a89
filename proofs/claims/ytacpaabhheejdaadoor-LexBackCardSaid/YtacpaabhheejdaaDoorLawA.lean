/-
  Walks of the laws of layer 3: shown, read. Condition: Go's own variables hold what their initialisers lay.
-/
import Derived.Test.YtacpaabhheejdaaDoorLexF
namespace Go.Proofs.YtacpaabhheejdaaDoor
open Go.RowKit Go.Shelf Go.Sort

/-- lex.Lex of a text that has these tokens, at least one. -/
theorem Lex_ok (s : ByteArray) (toks : List Tok) (w : World) (hs : s.size ≤ maxLen) (hE : ErrIs w) (hl : lexL s.data.toList = .ok toks) (hne : toks.length ≠ 0) :
    Calls Tryd.prog 12 #[.string s] w fun e w' => ∃ g cap, e = .returned (.tuple #[.slice (some ⟨g, 0, none⟩) toks.length cap, .agg #[.int .i64 0, .int .i64 0]]) ∧ w.heap.size ≤ g ∧ g < w'.heap.size ∧ toks.length ≤ cap ∧ (∀ j, j < toks.length * 4 → w'.cell? ⟨g, j, none⟩ = (tokCells toks)[j]?) ∧ Below w.heap.size w w' := by
  refine (Lex_any s w hs hE).mono ?_
  rintro e w' (⟨v, t, hlex, he, hown, hb⟩ | ⟨k, c, hlex, _⟩)
  · rw [hl] at hlex
    injection hlex with h
    subst h
    obtain ⟨g, cap, rfl, h1, h2, h3, _, h5, _⟩ := own_cells hown hne
    exact ⟨g, cap, he, h1, h2, h3, h5, hb⟩
  · rw [hl] at hlex; cases hlex
theorem Lex_no (s : ByteArray) (k c : Nat) (w : World) (hs : s.size ≤ maxLen) (hE : ErrIs w) (hl : lexL s.data.toList = .error (k, c)) :
    Calls Tryd.prog 12 #[.string s] w fun e w' => e = .returned (.tuple #[.slice none 0 0, .agg #[.int .i64 k, .int .i64 c]]) ∧ Below w.heap.size w w' := by
  refine (Lex_any s w hs hE).mono ?_
  rintro e w' (⟨v, t, hlex, _⟩ | ⟨k', c', hlex, he, hb⟩)
  · rw [hl] at hlex; cases hlex
  · rw [hl] at hlex
    injection hlex with h
    injection h with h1 h2
    subst h1 h2
    exact ⟨he, hb⟩
theorem lex_ex1 : lexL [60, 61, 32, 60, 61, 61] = .ok [⟨3, 0, [60, 61], 0⟩, ⟨3, 3, [60, 61], 0⟩, ⟨3, 5, [61], 0⟩] := by rfl
theorem lex_ex2 : lexL [95, 48, 48, 55, 97] = .ok [⟨2, 0, [], -7⟩, ⟨1, 4, [97], 0⟩] := by rfl
theorem lex_ex3 : lexL [97, 32, 95, 98] = .error (2, 31) := by rfl
theorem spell_ex : spellP ⟨2, 0, [], -7⟩ = ([95, 55], true) := by
  have h1 : spellS ⟨2, 0, [], -7⟩ = [95, 55] := by
    have : Lib.decDigits 7 = [55] := by rw [Lib.decDigits]; rfl
    simp [spellS, numT, this]
  have h2 : lexL [95, 55] = .ok [⟨2, 0, [], -7⟩] := by rfl
  refine (spellP_ok (x := ⟨2, 0, [], -7⟩) (by rw [h1]; exact h2) (by rw [h1]; decide) rfl (.inl ?_) ?_).trans (by rw [h1])
  · rw [h1]; decide +kernel
  · rw [h1]; decide
set_option maxRecDepth 100000 in
set_option maxHeartbeats 4000000 in
theorem shown_any (w : World) (hE : Env w) : Calls Tryd.prog 11 #[] w fun e w' => e = .returned (.bool true) ∧ Below w.heap.size w w' := by
  have L1 := Lib.hid (fun w h => Lex_ok ⟨#[60, 61, 32, 60, 61, 61]⟩ _ w (by decide) h lex_ex1 (by decide))
  have L2 := Lib.hid (fun w h => Lex_ok ⟨#[95, 48, 48, 55, 97]⟩ _ w (by decide) h lex_ex2 (by decide))
  have L3 := Lib.hid (fun w h => Lex_no ⟨#[97, 32, 95, 98]⟩ _ _ w (by decide) h lex_ex3)
  have L4 := Lib.hid (fun w h => Spell_any ⟨2, 0, [], -7⟩ w h ⟨by decide, by decide, by decide⟩)
  go_enter Tryd.func11, Tryd.ntmps11
  go_wp2_with fail
  refine (L1.out _ hE.err).mono ?_
  rintro e w1 ⟨g1, cap1, rfl, hg1, hl1, hc1, hcell1, hb1⟩
  have e1 : Below w.heap.size w w1 := hb1
  clear hb1
  go_wp2_with fail
  have E1 : ∀ o, ErrIs (w1.alloc o) := fun o => (hE.kept (e1.alloc e1.size o)).err
  refine (L2.out _ (E1 _)).mono ?_
  rintro e w2 ⟨g2, cap2, rfl, hg2, hl2, hc2, hcell2, hb2⟩
  have s2 : w1.heap.size < w2.heap.size := by have := hb2.size; simp at this; omega
  have hcell1 : ∀ j, j < 12 → w2.cell? ⟨g1, j, none⟩ = (tokCells [⟨3, 0, [60, 61], 0⟩, ⟨3, 3, [60, 61], 0⟩, ⟨3, 5, [61], 0⟩])[j]? := fun j hj => by
    rw [hb2.cell (p := ⟨g1, j, none⟩) (by simp; omega), World.cell?_alloc_lt _ _ _ hl1]; exact hcell1 j hj
  have p10 : w2.cell? ⟨w1.heap.size, 0, none⟩ = some (.int .i64 0) := by rw [hb2.cell (p := ⟨w1.heap.size, 0, none⟩) (by simp)]; simp
  have p11 : w2.cell? ⟨w1.heap.size, 1, none⟩ = some (.int .i64 0) := by rw [hb2.cell (p := ⟨w1.heap.size, 1, none⟩) (by simp)]; simp
  have e2 : Below w.heap.size w w2 := (e1.alloc e1.size _).trans (hb2.mono (by have := e1.size; simp; omega))
  clear hb2
  go_wp2_with fail
  have E2 : ∀ o, ErrIs (w2.alloc o) := fun o => (hE.kept (e2.alloc e2.size o)).err
  refine (L3.out _ (E2 _)).mono ?_
  rintro e w3 ⟨rfl, hb3⟩
  have s3 : w2.heap.size < w3.heap.size := by have := hb3.size; simp at this; omega
  have K3 : ∀ g j, g < w2.heap.size → w3.cell? ⟨g, j, none⟩ = w2.cell? ⟨g, j, none⟩ := fun g j hg => by
    rw [hb3.cell (p := ⟨g, j, none⟩) (by simp; omega), World.cell?_alloc_lt _ _ _ hg]
  have p20 : w3.cell? ⟨w2.heap.size, 0, none⟩ = some (.int .i64 0) := by rw [hb3.cell (p := ⟨w2.heap.size, 0, none⟩) (by simp)]; simp
  have p21 : w3.cell? ⟨w2.heap.size, 1, none⟩ = some (.int .i64 0) := by rw [hb3.cell (p := ⟨w2.heap.size, 1, none⟩) (by simp)]; simp
  have e3 : Below w.heap.size w w3 := (e2.alloc e2.size _).trans (hb3.mono (by have := e2.size; simp; omega))
  clear hb3
  have HK3 := Lib.hid K3
  clear K3
  go_wp2_with fail
  have E3 : ∀ o, Env (w3.alloc o) := fun o => hE.kept (e3.alloc e3.size o)
  refine (L4.out _ (E3 _)).mono ?_
  rintro e w4 ⟨hres, hb4⟩
  rw [spell_ex] at hres
  subst hres
  have K4 : ∀ g j, g < w3.heap.size → w4.cell? ⟨g, j, none⟩ = w3.cell? ⟨g, j, none⟩ := fun g j hg => by
    rw [hb4.cell (p := ⟨g, j, none⟩) (by simp; omega), World.cell?_alloc_lt _ _ _ hg]
  have q30 : w4.cell? ⟨w3.heap.size, 0, none⟩ = some (.int .i64 2) := by rw [hb4.cell (p := ⟨w3.heap.size, 0, none⟩) (by simp)]; simp
  have q31 : w4.cell? ⟨w3.heap.size, 1, none⟩ = some (.int .i64 31) := by rw [hb4.cell (p := ⟨w3.heap.size, 1, none⟩) (by simp)]; simp
  have q20 := (K4 _ 0 s3).trans p20
  have q21 := (K4 _ 1 s3).trans p21
  have q10 := (K4 _ 0 (by omega)).trans ((HK3.out _ 0 s2).trans p10)
  have q11 := (K4 _ 1 (by omega)).trans ((HK3.out _ 1 s2).trans p11)
  have a4 : w4.cell? ⟨g1, 4, none⟩ = some (.int .i64 3) := (K4 _ 4 (by omega)).trans ((HK3.out _ 4 (by omega)).trans (hcell1 4 (by decide)))
  have a5 : w4.cell? ⟨g1, 5, none⟩ = some (.int .i64 3) := (K4 _ 5 (by omega)).trans ((HK3.out _ 5 (by omega)).trans (hcell1 5 (by decide)))
  have a6 : w4.cell? ⟨g1, 6, none⟩ = some (.string ⟨#[60, 61]⟩) := (K4 _ 6 (by omega)).trans ((HK3.out _ 6 (by omega)).trans (hcell1 6 (by decide)))
  have a7 : w4.cell? ⟨g1, 7, none⟩ = some (.int .i64 0) := (K4 _ 7 (by omega)).trans ((HK3.out _ 7 (by omega)).trans (hcell1 7 (by decide)))
  have b0 : w4.cell? ⟨g2, 0, none⟩ = some (.int .i64 2) := (K4 _ 0 (by omega)).trans ((HK3.out _ 0 hl2).trans (hcell2 0 (by decide)))
  have b1 : w4.cell? ⟨g2, 1, none⟩ = some (.int .i64 0) := (K4 _ 1 (by omega)).trans ((HK3.out _ 1 hl2).trans (hcell2 1 (by decide)))
  have b2 : w4.cell? ⟨g2, 2, none⟩ = some (.string ⟨#[]⟩) := (K4 _ 2 (by omega)).trans ((HK3.out _ 2 hl2).trans (hcell2 2 (by decide)))
  have b3 : w4.cell? ⟨g2, 3, none⟩ = some (.int .i64 (-7)) := (K4 _ 3 (by omega)).trans ((HK3.out _ 3 hl2).trans (hcell2 3 (by decide)))
  have b4 : w4.cell? ⟨g2, 4, none⟩ = some (.int .i64 1) := (K4 _ 4 (by omega)).trans ((HK3.out _ 4 hl2).trans (hcell2 4 (by decide)))
  have b5 : w4.cell? ⟨g2, 5, none⟩ = some (.int .i64 4) := (K4 _ 5 (by omega)).trans ((HK3.out _ 5 hl2).trans (hcell2 5 (by decide)))
  have b6 : w4.cell? ⟨g2, 6, none⟩ = some (.string ⟨#[97]⟩) := (K4 _ 6 (by omega)).trans ((HK3.out _ 6 hl2).trans (hcell2 6 (by decide)))
  have b7 : w4.cell? ⟨g2, 7, none⟩ = some (.int .i64 0) := (K4 _ 7 (by omega)).trans ((HK3.out _ 7 hl2).trans (hcell2 7 (by decide)))
  have e4 : Below w.heap.size w w4 := (e3.alloc e3.size _).trans (hb4.mono (by have := e3.size; simp; omega))
  clear hb4 K4 HK3 hcell1 hcell2
  have ms : mkS [95, 55] = ⟨#[95, 55]⟩ := rfl
  rw [ms]
  go_wp2
  go_ret
  exact ⟨rfl, e4⟩

/-- What read gives: the tokens and true, or nothing and false. -/
def ReadPost (l : List UInt8) (w : World) (e : Ending) (w' : World) : Prop :=
  (∃ v toks, lexL l = .ok toks ∧ e = .returned (.tuple #[v, .bool true]) ∧ w'.ownsRow w.heap.size 32 4 v toks.length (tokCells toks) ∧ Below w.heap.size w w') ∨
  (∃ x, lexL l = .error x ∧ e = .returned (.tuple #[.slice none 0 0, .bool false]) ∧ Below w.heap.size w w')
theorem below_draws {B : Nat} {a w : World} (h : Below B a w) (n : Nat) : Below B a (w.drewN n) := h.trans ⟨rfl, rfl, rfl, Nat.le_refl _, fun _ _ => rfl⟩
theorem own_drewN {w : World} {base e size n : Nat} {v : Value} {xs : List Value} (h : w.ownsRow base e size v n xs) (k : Nat) : (w.drewN k).ownsRow base e size v n xs := h
set_option maxHeartbeats 1000000 in
theorem read_any (s : ByteArray) (w : World) (hs : s.size ≤ maxLen) (hE : ErrIs w) : Calls Tryd.prog 17 #[.string s] w (ReadPost s.data.toList w) := by
  have L1 := Lib.hid (Lex_any s w hs hE)
  go_enter Tryd.func17, Tryd.ntmps17
  go_wp2_with fail
  refine L1.out.mono ?_
  intro e w1 hp
  rcases hp with ⟨v, toks, hlex, rfl, hown, hb⟩ | ⟨k, c, hlex, rfl, hb⟩
  · obtain ⟨a, cap, rfl⟩ := own_form hown
    have HL := Lib.hid hlex
    clear hlex
    generalize hn : toks.length = n at *
    have HN := Lib.hid hn
    clear hn
    go_wp2
    go_quiet (fail)
    go_wp2
    go_ret2
    exact .inl ⟨_, toks, HL.out, rfl, by rw [HN.out]; exact own_drewN (hown.alloc _) _, below_draws (hb.alloc hb.size _) _⟩
  · have hc0 : ((c : Int) == 0) = false := by rw [beq_eq_false_iff_ne]; have := lexL_bad hlex; omega
    have hc1 : ¬ (c : Int) = 0 := by have := lexL_bad hlex; omega
    have HL := Lib.hid hlex
    clear hlex
    by_cases hk : (k : Int) = 0
    · have hk0 : ((k : Int) == 0) = true := by rw [hk]; rfl
      go_wp2
      go_quiet (fail)
      go_wp2
      go_ret2
      exact .inr ⟨_, HL.out, rfl, below_draws (hb.alloc hb.size _) _⟩
    · have hk0 : ((k : Int) == 0) = false := by rw [beq_eq_false_iff_ne]; exact hk
      go_wp2
      go_quiet (fail)
      go_wp2
      go_ret2
      exact .inr ⟨_, HL.out, rfl, below_draws (hb.alloc hb.size _) _⟩
end Go.Proofs.YtacpaabhheejdaaDoor
