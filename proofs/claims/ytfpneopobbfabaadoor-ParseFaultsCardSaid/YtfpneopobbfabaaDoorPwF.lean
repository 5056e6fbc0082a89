/-
  Walk of windrowlaw04.ParseFaults: it answers true. Condition: the text is no longer than a string may be; strconv.ErrRange holds an error.
-/
import Derived.Test.YtfpneopobbfabaaDoorPwA
import Derived.Test.YtfpneopobbfabaaDoorLwD
namespace Go.Proofs.YtfpneopobbfabaaDoor
open Go.RowKit Go.Shelf Go.Sort

theorem take_mkS (s : ByteArray) (k : Nat) : (s.extract 0 k).data.toList = s.data.toList.take k := by
  rw [extract_mkS, mkS_toList]
  rfl
set_option maxHeartbeats 8000000 in
set_option maxRecDepth 100000 in
theorem PFaults_any (s : ByteArray) (w : World) (hs : s.size ≤ maxLen) (hE : ErrIs w) : Calls Tryd.prog 9 #[.string s] w fun e w' => e = .returned (.bool true) ∧ Below w.heap.size w w' := by
  have hs0 := hs
  have HSh := Lib.hid (fun w h => shown_any w h)
  unfold maxLen at hs
  go_enter Tryd.func9, Tryd.ntmps9
  go_wp2_with fail
  refine (HSh.out w hE).mono ?_
  rintro _ w1 ⟨rfl, hb1⟩
  have HB1 := Lib.hid hb1
  have HE1 := Lib.hid (hE.kept hb1)
  clear hb1
  cases hp : parseL s.data.toList with
  | ok p =>
    have HP := Lib.hid (Parse_ok s p w1 hs0 HE1.out hp)
    clear hp
    go_wp2_with fail
    refine HP.out.mono ?_
    rintro _ w2 ⟨vi, vl, rfl, hb2, hV⟩
    obtain ⟨_, _, o1, _, o3, _⟩ := hV
    obtain ⟨ai, ci, rfl⟩ := own_form o1
    obtain ⟨al, cl, rfl⟩ := own_form o3
    have HB2 := Lib.hid (HB1.out.trans (hb2.mono HB1.out.size))
    clear o1 o3 hb2
    go_wp2_with fail
    go_ret
    exact ⟨rfl, (HB2.out.alloc HB2.out.size _).alloc (Nat.le_trans HB2.out.size (by simp)) _⟩
  | error y =>
    obtain ⟨a, c⟩ := y
    have HP := Lib.hid (Parse_no s a c w1 hs0 HE1.out hp)
    obtain ⟨m, ha, hml, hlaw⟩ := faults_law hp
    have HLaw := Lib.hid hlaw
    subst ha
    have hms : m ≤ s.size := hml
    clear hp hlaw hml
    go_wp2_with fail
    refine HP.out.mono ?_
    rintro _ w2 ⟨rfl, hb2⟩
    have HB2 := Lib.hid (HB1.out.trans (hb2.mono HB1.out.size))
    have HE2 := Lib.hid (HE1.out.kept hb2)
    clear hb2
    rcases HLaw.out with ⟨hc1, hc2⟩ | ⟨⟨hc1, hc2⟩, hrest⟩
    · have hcc : ((c : Int) == 0) = false := by rw [beq_eq_false_iff_ne]; omega
      have hcn : ¬ (c : Int) = 0 := by omega
      have hg1 : (30 : Int) ≤ (c : Int) := by omega
      have hg2 : (c : Int) ≤ 33 := by omega
      have hm0 : ¬ (m : Int) < 0 := by omega
      have hm1 : ¬ (s.size : Int) < (m : Int) := by omega
      by_cases h30 : c = 30
      · subst h30
        go_wp2_with fail
        go_ret
        exact ⟨rfl, (HB2.out.alloc HB2.out.size _).alloc (Nat.le_trans HB2.out.size (by simp)) _⟩
      · have h30b : ((c : Int) == 30) = false := by rw [beq_eq_false_iff_ne]; omega
        have hd1 : decide ((30 : Int) ≤ (c : Int)) = true := by simpa using hg1
        have hd2 : decide ((c : Int) ≤ 33) = true := by simpa using hg2
        go_wp2_with fail
        go_ret
        exact ⟨rfl, (HB2.out.alloc HB2.out.size _).alloc (Nat.le_trans HB2.out.size (by simp)) _⟩
    · have hcc : ((c : Int) == 0) = false := by rw [beq_eq_false_iff_ne]; omega
      have hcn : ¬ (c : Int) = 0 := by omega
      have hm0 : ¬ (m : Int) < 0 := by omega
      have hm1 : ¬ (s.size : Int) < (m : Int) := by omega
      have h30b : ((c : Int) == 30) = false := by rw [beq_eq_false_iff_ne]; omega
      have hg1 : (30 : Int) ≤ (c : Int) := by omega
      have hg2 : ¬ (c : Int) ≤ 33 := by omega
      have hd1 : decide ((30 : Int) ≤ (c : Int)) = true := by simpa using hg1
      have hd2 : decide ((c : Int) ≤ 33) = false := by simpa using hg2
      have HR := Lib.hid hrest
      have HW : Hid (Below w.heap.size w ((w2.alloc (.cells #[.slice none 0 0, .slice none 0 0] 26)).alloc (.cells #[.int .i64 m, .int .i64 c] 29))) := Lib.hid ((HB2.out.alloc HB2.out.size _).alloc (Nat.le_trans HB2.out.size (by simp)) _)
      have HEW : Hid (ErrIs ((w2.alloc (.cells #[.slice none 0 0, .slice none 0 0] 26)).alloc (.cells #[.int .i64 m, .int .i64 c] 29))) := Lib.hid (HE2.out.kept (((Below.refl _ _).alloc (Nat.le_refl _) _).alloc (by simp) _))
      clear hrest HLaw
      go_upto_block 0 with fail
      generalize ((w2.alloc (.cells #[.slice none 0 0, .slice none 0 0] 26)).alloc (.cells #[.int .i64 m, .int .i64 c] 29)) = W at HW HEW ⊢
      go_cut [6] from 9 (fun s6 wx => ∃ g, s6 = .int .i64 (g : Nat) ∧ g ≤ m ∧ (g = 0 ∨ s.data.toList[g - 1]? = some 10) ∧ (∀ i, g ≤ i → i < m → s.data.toList[i]? ≠ some 10) ∧ wx = W)
      case first =>
        go_wp2_with fail
        go_loopg [6] m (fun gg s6 wx => ∃ g : Nat, g = gg ∧ s6 = .int .i64 g ∧ g ≤ m ∧ (∀ i, g ≤ i → i < m → s.data.toList[i]? ≠ some 10) ∧ wx = W)
        case atStart => exact ⟨m, rfl, rfl, Nat.le_refl _, fun i h1 h2 => by omega, rfl⟩
        case round =>
          obtain ⟨g, rfl, rfl, hgm, hno, rfl⟩ := hrel
          have HNo := Lib.hid hno
          clear hno
          cases g with
          | zero =>
            have hz : ¬ (0 : Int) < ((0 : Nat) : Int) := by simp
            go_wp2_with fail
            go_meet
            case rel => exact ⟨0, rfl, hgm, .inl rfl, HNo.out, rfl⟩
          | succ g =>
            have hgl : g < s.size := by omega
            have hpos : (0 : Int) < ((g + 1 : Nat) : Int) := by omega
            have hsub : ((g + 1 : Nat) : Int) - 1 = (g : Int) := by omega
            have hget : s.data.toList[g]? = some s[g] := List.getElem?_eq_getElem (show g < s.data.toList.length from hgl)
            have HG := Lib.hid hget
            clear hget
            by_cases hb : s[g] = 10
            · have hbb : ((s[g].toNat : Int) != 10) = false := by rw [hb]; decide
              have hget2 : s.data.toList[g]? = some 10 := by rw [HG.out, hb]
              have HG2 := Lib.hid hget2
              clear hget2 hb
              go_wp2_with fail
              go_meet
              case rel => exact ⟨g + 1, rfl, hgm, .inr HG2.out, HNo.out, rfl⟩
            · have hbn : ¬ (s[g].toNat : Int) = 10 := by
                intro h
                exact hb (UInt8.toNat_inj.1 (show s[g].toNat = (10 : UInt8).toNat by have : (10 : UInt8).toNat = 10 := rfl; omega))
              have hbb : ((s[g].toNat : Int) != 10) = true := by simpa using hbn
              have HB := Lib.hid hb
              clear hb
              go_wp2_with fail
              go_roundg g
              case measure => omega
              case rel =>
                refine ⟨g, rfl, rfl, by omega, fun i h1 h2 => ?_, rfl⟩
                rcases Nat.lt_or_ge g i with h | h
                · exact HNo.out i (by omega) h2
                · obtain rfl : i = g := by omega
                  rw [HG.out]
                  intro h
                  injection h with h
                  exact HB.out h
      case rest =>
        obtain ⟨g, rfl, hgm, hz, hno, rfl⟩ := hcut
        have HPre := Lib.hid (HR.out g hgm hz hno)
        have hsz3 : (s.extract 0 g).size ≤ maxLen := by unfold maxLen; simp; omega
        have hgs0 : (0 : Int) ≤ (g : Int) := by omega
        have hgs1 : (g : Int) ≤ (s.size : Int) := by omega
        have hgs2 : g ≤ s.size := by omega
        clear hz hno HR
        rcases HPre.out with ⟨q, hq⟩ | hq
        · have HP3 := Lib.hid (Parse_ok (s.extract 0 g) q wc hsz3 HEW.out (by rw [take_mkS]; exact hq))
          clear hq hsz3 HPre
          go_wp2_with fail
          refine HP3.out.mono ?_
          rintro _ w4 ⟨vi, vl, rfl, hb4, hV⟩
          obtain ⟨_, _, o1, _, o3, _⟩ := hV
          obtain ⟨ai, ci, rfl⟩ := own_form o1
          obtain ⟨al, cl, rfl⟩ := own_form o3
          have HB4 := Lib.hid (HW.out.trans (hb4.mono HW.out.size))
          clear o1 o3 hb4
          go_wp2_with fail
          go_ret
          exact ⟨rfl, (HB4.out.alloc HB4.out.size _).alloc (Nat.le_trans HB4.out.size (by simp)) _⟩
        · have HP3 := Lib.hid (Parse_no (s.extract 0 g) g 42 wc hsz3 HEW.out (by rw [take_mkS]; exact hq))
          clear hq hsz3 HPre
          go_wp2_with fail
          refine HP3.out.mono ?_
          rintro _ w4 ⟨rfl, hb4⟩
          have HB4 := Lib.hid (HW.out.trans (hb4.mono HW.out.size))
          clear hb4
          go_wp2_with fail
          go_ret
          exact ⟨rfl, (HB4.out.alloc HB4.out.size _).alloc (Nat.le_trans HB4.out.size (by simp)) _⟩
end Go.Proofs.YtfpneopobbfabaaDoor
