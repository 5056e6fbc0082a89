/-
  Walk of the law LexReads. Condition: Go's own variables hold what their initialisers lay.
-/
import Derived.Test.YtacpaabhheejdaaDoorLexJ
import Derived.Test.YtacpaabhheejdaaDoorLawC
namespace Go.Proofs.YtacpaabhheejdaaDoor
open Go.RowKit Go.Shelf Go.Sort

theorem TokS.nil (w : World) (B : Nat) : TokS w B (.slice none 0 0) [] := ⟨none, 0, rfl, Nat.le_refl _, by unfold maxLen; omega, fun h => absurd h (by simp)⟩
/-- lex.Lex and the document's: what they tell is given by lexL alone. -/
theorem LexPost.both {l : List UInt8} {w w' : World} {e : Ending} (h : LexPost l w e w') : ∃ v k c, e = .returned (.tuple #[v, .agg #[.int .i64 k, .int .i64 c]]) ∧ Below w.heap.size w w' ∧ (∃ toks, TokS w' w'.heap.size v toks ∧ ((lexL l = .ok toks ∧ k = 0 ∧ c = 0) ∨ (∃ a b : Nat, lexL l = .error (a, b) ∧ k = a ∧ c = b ∧ toks = []))) := by
  rcases h with ⟨v, toks, hlex, he, hown, hb⟩ | ⟨k, c, hlex, he, hb⟩
  · exact ⟨v, 0, 0, he, hb, toks, TokS.of_own hown, .inl ⟨hlex, rfl, rfl⟩⟩
  · exact ⟨_, k, c, he, hb, [], TokS.nil _ _, .inr ⟨k, c, hlex, rfl, rfl, rfl⟩⟩
set_option maxRecDepth 100000 in
set_option maxHeartbeats 4000000 in
theorem Reads_any (s : ByteArray) (w : World) (hs : s.size ≤ maxLen) (hE : Env w) : Calls Tryd.prog 3 #[.string s] w fun e w' => e = .returned (.bool true) ∧ Below w.heap.size w w' := by
  have S := Lib.hid (fun w h => shown_any w h)
  have L := Lib.hid (fun w h => Lex_any s w hs h)
  have R := Lib.hid (fun w => RLex_any s w hs)
  go_enter Tryd.func3, Tryd.ntmps3
  go_wp2_with fail
  refine (S.out _ hE).mono ?_
  rintro e w1 ⟨rfl, e1⟩
  have E1 := (hE.kept e1).err
  go_wp2_with fail
  refine (L.out _ E1).mono ?_
  intro e w2 hp
  obtain ⟨v, k, c, rfl, hb, toks, T, hlex⟩ := hp.both
  have e2 : Below w.heap.size w w2 := e1.trans (hb.mono e1.size)
  have HL := Lib.hid hlex
  have HT := Lib.hid T
  clear hp hb hlex T
  go_wp2_with fail
  refine (R.out _).mono ?_
  intro e w3 hp
  obtain ⟨v', k', c', rfl, hb, toks', T', hlex'⟩ := hp.both
  have hall : k' = k ∧ c' = c ∧ toks' = toks ∧ ∀ t ∈ toks, 0 ≤ t.at_ ∧ t.at_ ≤ 4294967296 := by
    rcases HL.out with ⟨h1, rfl, rfl⟩ | ⟨a, b, h1, rfl, rfl, rfl⟩
    · rcases hlex' with ⟨h2, rfl, rfl⟩ | ⟨a', b', h2, rfl, rfl, rfl⟩
      · rw [h1] at h2
        injection h2 with h2
        have := (places_law _ _ h1).1
        have hle := ((lexL_ok_iff _ _).1 h1).1
        exact ⟨rfl, rfl, h2.symm, fun t ht => by have := this t ht; omega⟩
      · rw [h1] at h2; cases h2
    · rcases hlex' with ⟨h2, rfl, rfl⟩ | ⟨a', b', h2, rfl, rfl, rfl⟩
      · rw [h1] at h2; cases h2
      · rw [h1] at h2
        injection h2 with h2
        injection h2 with h2 h3
        subst h2 h3
        exact ⟨rfl, rfl, rfl, fun t ht => by simp at ht⟩
  obtain ⟨rfl, rfl, rfl, hpl⟩ := hall
  have hb0 : Below w2.heap.size w2 w3 := ((Below.refl _ _).alloc (Nat.le_refl _) _).trans (hb.mono (by simp))
  have p0 : w3.cell? ⟨w2.heap.size, 0, none⟩ = some (.int .i64 k') := by rw [hb.cell (p := ⟨w2.heap.size, 0, none⟩) (by simp)]; simp
  have p1 : w3.cell? ⟨w2.heap.size, 1, none⟩ = some (.int .i64 c') := by rw [hb.cell (p := ⟨w2.heap.size, 1, none⟩) (by simp)]; simp
  have e3 : Below w.heap.size w w3 := e2.trans (hb0.mono e2.size)
  have hz : w2.heap.size < w3.heap.size := by have := hb.size; simp at this; omega
  have TA := (HT.out.below hb0).mono hb0.size
  have HTA := Lib.hid TA
  have HTB := Lib.hid T'
  have HP := Lib.hid hpl
  clear hp hb hlex' hpl TA T' HL
  have SM := Lib.hid (fun wx (h : Below w3.heap.size w3 wx) => Same_true toks' v v' 0 0 wx ((HTA.out.below h).mono h.size) (by rw [move_zero]; exact (HTB.out.below h).mono h.size) HP.out (by omega) (by omega))
  go_wp2_with fail
  refine (SM.out _ (by exact (Below.refl _ _).alloc (Nat.le_refl _) _)).mono ?_
  rintro e w4 ⟨rfl, hb4⟩
  go_wp2
  go_ret
  exact ⟨rfl, (e3.alloc e3.size _).trans (hb4.mono (by have := e3.size; simp; omega))⟩
end Go.Proofs.YtacpaabhheejdaaDoor
