/-
  Walks of windrowlaw04.plain and out. Condition: the text is no longer than a string may be; strconv.ErrRange holds an error.
-/
import Derived.Test.YtfpneopobbfabaaDoorPwA
import Derived.Test.YtfpneopobbfabaaDoorLwD
namespace Go.Proofs.YtfpneopobbfabaaDoor
open Go.RowKit Go.Shelf Go.Sort

theorem bool_ret {a b : Bool} (h : a = b) : Ending.returned (.bool a) = .returned (.bool b) := by rw [h]
theorem plainB_long {e : List UInt8} {m : Nat} (h : m < e.length) : plainB e m = false := by
  unfold plainB
  rw [show decide (e.length ≤ m) = false by simpa using h]
  rfl
theorem plainB_bad {e : List UInt8} {m k : Nat} {b : UInt8} (hk : e[k]? = some b) (h : b = 10 ∨ b = 35) : plainB e m = false := by
  cases hp : plainB e m with
  | false => rfl
  | true =>
    obtain ⟨_, h1, h2⟩ := plainB_iff.1 hp
    rcases h with rfl | rfl
    · exact absurd (List.mem_of_getElem? hk) h1
    · exact absurd (List.mem_of_getElem? hk) h2
theorem plainB_good {e : List UInt8} {m : Nat} (hm : e.length ≤ m) (h : ∀ (i : Nat) (b : UInt8), e[i]? = some b → b ≠ 10 ∧ b ≠ 35) : plainB e m = true := by
  refine plainB_iff.2 ⟨hm, fun hc => ?_, fun hc => ?_⟩
  · obtain ⟨i, hi⟩ := List.getElem?_of_mem hc
    exact (h i _ hi).1 rfl
  · obtain ⟨i, hi⟩ := List.getElem?_of_mem hc
    exact (h i _ hi).2 rfl
theorem byteI_ne {b c : UInt8} (h : b ≠ c) : ¬ (b.toNat : Int) = (c.toNat : Int) := fun e => h (UInt8.toNat_inj.1 (by omega))
set_option maxHeartbeats 4000000 in
set_option maxRecDepth 100000 in
theorem plain_any (s : ByteArray) (m : Nat) (w : World) (_ : s.size ≤ maxLen) (_ : m ≤ 100000) : Calls Tryd.prog 20 #[.string s, .int .i64 m] w fun e w' => e = .returned (.bool (plainB s.data.toList m)) ∧ w = w' := by

  by_cases hl : m < s.size
  · have hl' : (m : Int) < (s.size : Int) := by omega
    have HP := Lib.hid (plainB_long (e := s.data.toList) (m := m) hl)
    go_enter Tryd.func20, Tryd.ntmps20
    go_wp2
    go_ret
    exact ⟨bool_ret HP.out.symm, rfl⟩
  · have hl' : ¬ (m : Int) < (s.size : Int) := by omega
    have hlm : s.size ≤ m := by omega
    go_enter Tryd.func20, Tryd.ntmps20
    go_wp2
    go_loopg [5] s.size (fun gg s5 wx => ∃ k : Nat, gg = s.size - k ∧ s5 = .int .i64 k ∧ k ≤ s.size ∧ (∀ (i : Nat) (b : UInt8), i < k → s.data.toList[i]? = some b → b ≠ 10 ∧ b ≠ 35) ∧ wx = w)
    case atStart => exact ⟨0, rfl, rfl, Nat.zero_le _, fun i b h => absurd h (Nat.not_lt_zero _), rfl⟩
    case round =>
      obtain ⟨k, rfl, rfl, hk, hno, rfl⟩ := hrel
      have HNo := Lib.hid hno
      clear hno
      by_cases hlt : k < s.size
      · have hlt' : (k : Int) < (s.size : Int) := by omega
        have HG : Hid (s.data.toList[k]? = some s[k]) := Lib.hid (List.getElem?_eq_getElem (show k < s.data.toList.length from hlt))
        by_cases h1 : s[k] = 10
        · have h1b : ((s[k].toNat : Int) == 10) = true := by rw [h1]; rfl
          have HP := Lib.hid (plainB_bad (m := m) HG.out (.inl h1))
          clear h1
          go_wp2
          go_ret
          exact ⟨bool_ret HP.out.symm, rfl⟩
        · have h1b : ((s[k].toNat : Int) == 10) = false := by rw [beq_eq_false_iff_ne]; exact byteI_ne (c := 10) h1
          by_cases h2 : s[k] = 35
          · have h2b : ((s[k].toNat : Int) == 35) = true := by rw [h2]; rfl
            have HP := Lib.hid (plainB_bad (m := m) HG.out (.inr h2))
            clear h1 h2
            go_wp2
            go_ret
            exact ⟨bool_ret HP.out.symm, rfl⟩
          · have h2b : ((s[k].toNat : Int) == 35) = false := by rw [beq_eq_false_iff_ne]; exact byteI_ne (c := 35) h2
            have H12 := Lib.hid (And.intro h1 h2)
            clear h1 h2
            go_wp2
            go_roundg (s.size - (k + 1))
            case measure => omega
            case rel =>
              refine ⟨k + 1, rfl, by rw [Int.natCast_add]; rfl, by omega, fun i b hi hb => ?_, rfl⟩
              rcases Nat.lt_succ_iff_lt_or_eq.1 hi with h | rfl
              · exact HNo.out i b h hb
              · rw [HG.out] at hb
                injection hb with hb
                subst hb
                exact H12.out
      · obtain rfl : k = s.size := by omega
        have hlt' : ¬ (s.size : Int) < (s.size : Int) := by omega
        have HP := Lib.hid (plainB_good (e := s.data.toList) (m := m) hlm (fun i b hb => HNo.out i b (List.getElem?_eq_some_iff.1 hb).1 hb))
        go_wp2
        go_ret
        exact ⟨bool_ret HP.out.symm, rfl⟩
def OutPost (x : Option (List Itm)) (w : World) (en : Ending) (w' : World) : Prop :=
  Below w.heap.size w w' ∧ match x with
  | none => en = .returned (.tuple #[.slice none 0 0, .bool false])
  | some its => ∃ v cs, en = .returned (.tuple #[v, .bool true]) ∧ w'.ownsRow 0 48 5 v its.length cs ∧ ItsC w' its cs
theorem pOut_bytes (s : ByteArray) : ((⟨#[111, 117, 116, 32]⟩ : ByteArray) ++ s).data.toList = pOut s.data.toList := by
  rw [ByteArray.data_append, Array.toList_append]
  rfl
set_option maxHeartbeats 4000000 in
set_option maxRecDepth 100000 in
theorem out_any (s : ByteArray) (w : World) (hs : s.size ≤ 100000) (hE : ErrIs w) : Calls Tryd.prog 21 #[.string s] w (OutPost (outP s.data.toList) w) := by
  have hsz : ((⟨#[111, 117, 116, 32]⟩ : ByteArray) ++ s).size ≤ maxLen := by
    rw [ByteArray.size_append]
    have : (⟨#[111, 117, 116, 32]⟩ : ByteArray).size = 4 := rfl
    unfold maxLen
    omega
  have HP := Lib.hid (fun w hE => Parse_any ((⟨#[111, 117, 116, 32]⟩ : ByteArray) ++ s) w hsz hE)
  rw [pOut_bytes] at HP
  cases hp : parseL (pOut s.data.toList) with
  | error y =>
    obtain ⟨a, c⟩ := y
    have hc : 30 ≤ c := by
      obtain ⟨m, _, _, h | ⟨h, _⟩⟩ := faults_law hp <;> omega
    have hc0 : ¬ (c : Int) = 0 := by omega
    have hc0b : ((c : Int) == 0) = false := by rw [beq_eq_false_iff_ne]; exact hc0
    have HO : Hid (outP s.data.toList = none) := Lib.hid (by unfold outP; rw [hp])
    rw [hp] at HP
    clear hsz hp hc
    go_enter Tryd.func21, Tryd.ntmps21
    go_wp2_with fail
    refine (HP.out w hE).mono ?_
    rintro _ w1 ⟨hb, rfl⟩
    have HB := Lib.hid hb
    clear hb
    dsimp only
    go_wp2_with fail
    go_ret2
    rw [HO.out]
    exact ⟨(HB.out.alloc HB.out.size _).alloc (Nat.le_trans HB.out.size (by simp)) _, rfl⟩
  | ok p =>
    rw [hp] at HP
    have HO := Lib.hid hp
    clear hsz hp
    go_enter Tryd.func21, Tryd.ntmps21
    go_wp2_with fail
    refine (HP.out w hE).mono ?_
    rintro _ w1 ⟨hb, vi, vl, rfl, ci, cl, o1, o2, o3, o4⟩
    have HB := Lib.hid hb
    have HB2 : Hid (∀ o1 o2, Below w.heap.size w ((w1.alloc o1).alloc o2)) := Lib.hid (fun o1 o2 => (hb.alloc hb.size _).alloc (Nat.le_trans hb.size (by simp)) _)
    clear hb
    by_cases hl : p.lines.length = 1
    · obtain ⟨gl, capl, rfl, _, hgl, _, _, hgc, _⟩ := own_cells o3 (by omega)
      obtain ⟨x, hx⟩ : ∃ x, p.lines = [x] := List.length_eq_one_iff.1 hl
      obtain ⟨c, hcl, ⟨vx, cs, rfl, hox, hix⟩, hcj⟩ := o4.2 0 x (by rw [hx]; rfl)
      have x2 : w1.cell? ⟨gl, 2, none⟩ = some vx := by
        rw [hgc 2 (by omega)]
        exact hcj 2 _ rfl
      obtain ⟨ax, cx, rfl⟩ := own_form hox
      obtain ⟨ai, capi, rfl⟩ := own_form o1
      rw [hl]
      by_cases hi : p.inputs.length = 0
      · have hi0 : p.inputs = [] := List.length_eq_zero_iff.1 hi
        have HO2 : Hid (outP s.data.toList = some x.items) := by
          apply Lib.hid
          unfold outP
          rw [HO.out]
          obtain ⟨pi, pl⟩ := p
          dsimp only at hx hi0
          subst hx hi0
          rfl
        rw [hi]
        have HX := Lib.hid (And.intro hox hix)
        clear hl hi hi0 hx hox hix hgc hcj hcl o1 o2 o3 o4
        go_wp2_with fail
        go_ret2
        rw [HO2.out]
        have ka : ∀ o1 o2 t, KeepTag t w1 ((w1.alloc o1).alloc o2) := fun o1 o2 t => KeepTag.below (((Below.refl _ _).alloc (Nat.le_refl _) _).alloc (by simp) _)
        exact ⟨HB2.out _ _, _, _, rfl, own_tag HX.out.1 (ka _ _ _), HX.out.2.keep (ka _ _ _)⟩
      · have HO2 : Hid (outP s.data.toList = none) := by
          apply Lib.hid
          unfold outP
          rw [HO.out]
          obtain ⟨pi, pl⟩ := p
          cases pi with
          | nil => exact absurd rfl hi
          | cons a b => rfl
        obtain ⟨n, hn⟩ : ∃ n, n = p.inputs.length := ⟨_, rfl⟩
        rw [← hn]
        have hpos : (0 : Int) < (n : Int) := by omega
        clear hl hi hx hox hix hgc hcj hcl o1 o2 o3 o4 hn
        go_wp2_with fail
        go_ret2
        rw [HO2.out]
        exact ⟨HB2.out _ _, rfl⟩
    · have HO2 : Hid (outP s.data.toList = none) := by
        apply Lib.hid
        unfold outP
        rw [HO.out]
        obtain ⟨pi, pl⟩ := p
        cases pi with
        | cons a b => rfl
        | nil =>
          match pl with
          | [] => rfl
          | [a] => exact absurd rfl hl
          | a :: b :: c => rfl
      obtain ⟨al, capl, rfl⟩ := own_form o3
      obtain ⟨ai, capi, rfl⟩ := own_form o1
      obtain ⟨n, hn⟩ : ∃ n, n = p.lines.length := ⟨_, rfl⟩
      rw [← hn]
      have hnb : ((n : Int) == 1) = false := by rw [beq_eq_false_iff_ne]; omega
      have hnb2 : ((n : Int) != 1) = true := by rw [bne_iff_ne]; omega
      clear hl o1 o2 o3 o4 hn
      go_wp2_with fail
      go_ret2
      rw [HO2.out]
      exact ⟨HB2.out _ _, rfl⟩
end Go.Proofs.YtfpneopobbfabaaDoor
