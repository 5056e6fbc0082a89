/-
  Walks of the laws LexFaults, LexCuts. Condition: Go's own variables hold what their initialisers lay.
-/
import Derived.Test.YtacpaabhheejdaaDoorLawP
namespace Go.Proofs.YtacpaabhheejdaaDoor
open Go.RowKit Go.Shelf Go.Sort

theorem extract_take (s : ByteArray) (k : Nat) : (s.extract 0 k).data.toList = s.data.toList.take k := by
  rw [ByteArray.data_extract, Array.toList_extract, List.extract_eq_take_drop, List.drop_zero, Nat.sub_zero]
theorem extract_drop (s : ByteArray) (k : Nat) : (s.extract k s.size).data.toList = s.data.toList.drop k := by
  rw [ByteArray.data_extract, Array.toList_extract, List.extract_eq_take_drop, List.take_of_length_le]
  rw [List.length_drop]; exact Nat.le_refl _
theorem extract_len (s : ByteArray) (a b : Nat) (h : s.size ≤ maxLen) : (s.extract a b).size ≤ maxLen := by
  rw [ByteArray.size_extract]; unfold maxLen at *; omega
set_option maxRecDepth 100000 in
set_option maxHeartbeats 4000000 in
theorem Faults_any (s : ByteArray) (w : World) (hs : s.size ≤ maxLen) (hE : Env w) : Calls Tryd.prog 7 #[.string s] w fun e w' => e = .returned (.bool true) ∧ Below w.heap.size w w' := by
  have S := Lib.hid (fun w h => shown_any w h)
  have L := Lib.hid (fun w h => Lex_any s w hs h)
  have R := Lib.hid (fun s w h1 h2 => read_any s w h1 h2)
  have hsz : s.data.toList.length = s.size := rfl
  go_enter Tryd.func7, Tryd.ntmps7
  go_wp2_with fail
  refine (S.out _ hE).mono ?_
  rintro e w1 ⟨rfl, e1⟩
  have E1 := (hE.kept e1).err
  go_wp2_with fail
  refine (L.out _ E1).mono ?_
  intro e w2 hp
  rcases hp with ⟨v, toks, hlex, rfl, hown, hb⟩ | ⟨k, c, hlex, rfl, hb⟩
  · obtain ⟨a, cap, rfl⟩ := own_form hown
    have hle := ((lexL_ok_iff _ _).1 hlex).1
    rw [hsz] at hle
    have e2 : Below w.heap.size w w2 := e1.trans (hb.mono e1.size)
    clear hb hown hlex
    go_wp2
    go_ret
    exact ⟨by simp; omega, e2.alloc e2.size _⟩
  · have hc0 := lexL_bad hlex
    have e2 : Below w.heap.size w w2 := e1.trans (hb.mono e1.size)
    clear hb
    rcases fault_law _ _ _ hlex with ⟨h1, rfl, rfl⟩ | ⟨h1, h2, ⟨acc, h3⟩, ⟨x, h4⟩⟩
    · rw [hsz] at h1
      clear hlex
      go_wp2
      go_ret
      exact ⟨by first | rfl | (simp; done), e2.alloc e2.size _⟩
    · rw [hsz] at h2
      have H3 := Lib.hid h3
      have H4 := Lib.hid h4
      clear hlex h3 h4
      have c0 : ((c : Int) == 0) = false := by rw [beq_eq_false_iff_ne]; omega
      have c0' : ¬ (c : Int) = 0 := by omega
      have c1 : ((c : Int) == 30) = false := by rw [beq_eq_false_iff_ne]; omega
      have c1' : ¬ (c : Int) = 30 := by omega
      have K : k < s.size := h2
      have K2 : (k : Int) < s.size := by omega
      have K : k < s.size := h2
      have K2 : (k : Int) < s.size := by omega
      have K3 : ¬ (s.size : Int) ≤ k := by omega
      have hs2 : s.size ≤ 9223372036854775807 := by unfold maxLen at hs; omega
      by_cases hk : (k : Int) = 0
      · have hk0 : ((k : Int) == 0) = true := by rw [hk]; rfl
        have hk1 : k = 0 := by omega
        subst hk1
        have K4 : (0 : Int) < s.size := by omega
        have K5 : ¬ (s.size : Int) ≤ 0 := by omega
        have K6 : s.size ≠ 0 := by omega
        have K7 : ¬ s.size = 0 := by omega
        go_wp2_with fail
        have E2 : ∀ o, ErrIs (w2.alloc o) := fun o => (hE.kept (e2.alloc e2.size o)).err
        refine (R.out .empty _ (by decide) (E2 _)).mono ?_
        intro e w3 hp
        rcases hp with ⟨v, toks, hlex, rfl, hown, hb⟩ | ⟨x, hlex, rfl, hb⟩
        · have p0 : w3.cell? ⟨w2.heap.size, 0, none⟩ = some (.int .i64 0) := by rw [hb.cell (p := ⟨w2.heap.size, 0, none⟩) (by simp)]; simp
          have p1 : w3.cell? ⟨w2.heap.size, 1, none⟩ = some (.int .i64 c) := by rw [hb.cell (p := ⟨w2.heap.size, 1, none⟩) (by simp)]; simp
          have e3 : Below w.heap.size w w3 := (e2.alloc e2.size _).trans (hb.mono (by have := e2.size; simp; omega))
          clear hb hown hlex
          go_wp2_with fail
          have E3 : ErrIs w3 := (hE.kept e3).err
          refine (R.out s _ hs E3).mono ?_
          intro e w4 hp
          rcases hp with ⟨v, toks, hlex, rfl, hown, hb⟩ | ⟨x, hlex, rfl, hb⟩
          · rw [show s.data.toList = s.data.toList.drop 0 from rfl, H4.out] at hlex; cases hlex
          · have e4 : Below w.heap.size w w4 := e3.trans (hb.mono e3.size)
            clear hb hlex
            go_wp2
            go_ret
            exact ⟨rfl, e4⟩
        · exact absurd hlex (by rw [show ByteArray.empty.data.toList = [] from rfl]; exact fun h => by cases h)
      · have hk0 : ((k : Int) == 0) = false := by rw [beq_eq_false_iff_ne]; exact hk
        go_wp2_with fail
        have E2 : ∀ o, ErrIs (w2.alloc o) := fun o => (hE.kept (e2.alloc e2.size o)).err
        refine (R.out (s.extract 0 k) _ (extract_len _ _ _ hs) (E2 _)).mono ?_
        intro e w3 hp
        rcases hp with ⟨v, toks, hlex, rfl, hown, hb⟩ | ⟨x, hlex, rfl, hb⟩
        · have p0 : w3.cell? ⟨w2.heap.size, 0, none⟩ = some (.int .i64 k) := by rw [hb.cell (p := ⟨w2.heap.size, 0, none⟩) (by simp)]; simp
          have p1 : w3.cell? ⟨w2.heap.size, 1, none⟩ = some (.int .i64 c) := by rw [hb.cell (p := ⟨w2.heap.size, 1, none⟩) (by simp)]; simp
          have e3 : Below w.heap.size w w3 := (e2.alloc e2.size _).trans (hb.mono (by have := e2.size; simp; omega))
          clear hb hown hlex
          go_wp2_with fail
          have E3 : ErrIs w3 := (hE.kept e3).err
          refine (R.out (s.extract k s.size) _ (extract_len _ _ _ hs) E3).mono ?_
          intro e w4 hp
          rcases hp with ⟨v, toks, hlex, rfl, hown, hb⟩ | ⟨x, hlex, rfl, hb⟩
          · rw [extract_drop, H4.out] at hlex; cases hlex
          · have e4 : Below w.heap.size w w4 := e3.trans (hb.mono e3.size)
            clear hb hlex
            go_wp2
            go_ret
            exact ⟨rfl, e4⟩
        · exact absurd hlex (by rw [extract_take, H3.out]; exact fun h => by cases h)
end Go.Proofs.YtacpaabhheejdaaDoor
