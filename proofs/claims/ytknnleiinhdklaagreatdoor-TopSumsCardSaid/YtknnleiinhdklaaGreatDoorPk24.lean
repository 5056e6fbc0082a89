/-
  Walks of package show: the writer's builder: WriteString, String; line. Condition: the builder holds some bytes, in the writer's own memory.
-/
import Derived.Lib.Builder
import Derived.Lib.AppendStr
import Derived.Lib.UnsafeStr
import Derived.Laws.Externs
import Derived.RegionTactic
import Derived.BigRegion
import Derived.Test.YtknnleiinhdklaaGreatDoorPk12
import Derived.Test.YtknnleiinhdklaaGreatDoorPk17
namespace Go.Proofs.YtknnleiinhdklaaGreatDoor
open Go.RowKit Go.Shelf Go.Sort Go.Maps
theorem Tryz.sizeBuilder : (Tryz.prog.info? 147).map (·.size) = some 2 := by kernel_rfl
theorem Tryz.liesBuilder : liesAt Tryz.prog Tryz.prog.depth 149 (4 / Tryz.prog.cellsOf 149) 2 147 1 = true := by kernel_rfl
theorem same_ptr (w : World) (ks : Nat) : (binOp .neq 145 (.pointer (some ⟨ks, 2, none⟩)) (.pointer (some ⟨ks, 2, none⟩))).run Tryz.prog w = .ok (.bool false) w := by
 obtain ⟨j, hj, _⟩ := Option.map_eq_some_iff.1 Tryz.sizeBuilder
 exact Lib.run_neq_ptr_same w _ Tryz.underlying145 hj
set_option maxHeartbeats 1000000 in
set_option maxRecDepth 100000 in
theorem check_used (ks : Nat) (w : World) (h0 : w.cell? ⟨ks, 2, none⟩ = some (.pointer (some ⟨ks, 2, none⟩))) :
  Calls Tryz.prog 134 #[.pointer (some ⟨ks, 2, none⟩)] w fun e w' => e = .returned (.tuple #[]) ∧ w' = w := by
 have hp := same_ptr w ks
 go_enter Tryz.func134, Tryz.ntmps134
 go_wp2
 go_end0
 exact ⟨rfl, rfl⟩
set_option maxHeartbeats 1000000 in
set_option maxRecDepth 100000 in
theorem check_fresh (ks : Nat) (x y v : Value) (w : World) (hb : Blk w ks 149 #[x, y, .pointer none, v]) :
  Calls Tryz.prog 134 #[.pointer (some ⟨ks, 2, none⟩)] w fun e w' => e = .returned (.tuple #[]) ∧ w' = w.setCell ⟨ks, 2, none⟩ (.pointer (some ⟨ks, 2, none⟩)) := by
 obtain ⟨j, hj, hjs⟩ := Option.map_eq_some_iff.1 Tryz.sizeBuilder
 have h0 := (hb.cell 2).trans (show _ = some (Value.pointer none) from rfl)
 have hf := Blk.froz hb 2
 have hsh : w.shape? ks = some (149, 4) := by
  unfold Blk at hb
  simp [World.shape?, hb]
 clear hb
 go_enter Tryz.func134, Tryz.ntmps134
 go_wp2
 rw [Lib.run_to_unsafe w ⟨ks, 2, none⟩ Tryz.underlying145 Tryz.underlying234 hj (by rw [hjs]; decide) hsh (show 2 < 4 by decide)]
 simp only [Result.andThen]
 rw [Oper.upon_value]
 go_wp2
 rw [run_callFunc_extern Tryz.func145 (by kernel_rfl) (by kernel_rfl) (by kernel_rfl) (e := Extern.AbiNoEscape.same) (by kernel_rfl)]
 rw [Lib.run_noEscape]
 simp only [Result.andThen]
 rw [Oper.upon_value]
 go_wp2
 rw [Lib.run_from_unsafe w ⟨ks, 2, none⟩ Tryz.underlying234 Tryz.underlying145 hj hsh Tryz.liesBuilder]
 simp only [Result.andThen]
 rw [Oper.upon_value]
 go_wp2
 go_end0
 exact ⟨rfl, rfl⟩
theorem ShowAt.check {w : World} {B ks k1 k2 n : Nat} (h : ShowAt w B ks k1 k2 n) : Calls Tryz.prog 134 #[.pointer (some ⟨ks, 2, none⟩)] w fun e w' => e = .returned (.tuple #[]) ∧
  (∃ v, ∃ l : List UInt8, l.length = n ∧ Blk w' ks 149 #[.map (some k1), .map (some k2), .pointer (some ⟨ks, 2, none⟩), v] ∧ w'.ownsRow B 5 1 v n (Lib.byteCells l) ∧ MapV Tryz.prog 69 w' k1 25 (textsM false fieldsW) ∧ MapV Tryz.prog 69 w' k2 25 (textsM true fieldsW)) ∧ (w' = w ∨ w' = w.setCell ⟨ks, 2, none⟩ (.pointer (some ⟨ks, 2, none⟩))) := by
 obtain ⟨p, v, l, hl, hb, hp, ho, hm1, hm2⟩ := h
 rcases hp with rfl | rfl
 ·refine (check_fresh ks _ _ _ w hb).mono ?_
  rintro e w' ⟨rfl, rfl⟩
  have hne : ∀ k f, MapV Tryz.prog 69 w k 25 f → k ≠ ks := fun k f hm e => by
   obtain ⟨es, clock, hk⟩ := hm.is_map
   rw [e] at hk
   unfold Blk at hb
   rw [hb] at hk
   cases hk
  exact ⟨rfl, ⟨v, l, hl, hb.set42 _, own_tag ho (KeepTag.set hb (by decide) 2 _), hm1.block (Below.heap_setCell w ⟨ks, 2, none⟩ _ k1 (hne k1 _ hm1)), hm2.block (Below.heap_setCell w ⟨ks, 2, none⟩ _ k2 (hne k2 _ hm2))⟩, .inr rfl⟩
 ·refine (check_used ks w ((hb.cell 2).trans rfl)).mono ?_
  rintro e w' ⟨rfl, rfl⟩
  exact ⟨rfl, ⟨v, l, hl, hb, ho, hm1, hm2⟩, .inl rfl⟩
theorem Tryz.infoB8 : (Tryz.prog.info? 5).map (fun i => (i.zero, i.size, i.bytes)) = some (some (.int .u8 0), 1, 1) := by kernel_rfl
/-- What the writer's calls keep. -/
def KeepS (w w' : World) : Prop := ∀ t, t ≠ 149 → t ≠ 5 → KeepTag t w w'
theorem KeepS.trans {a b c : World} (h : KeepS a b) (k : KeepS b c) : KeepS a c := fun t h1 h2 => (h t h1 h2).trans (k t h1 h2)
theorem KeepS.below {w w' : World} (hb : Below w.heap.size w w') : KeepS w w' := fun _ _ _ => KeepTag.below hb
theorem map_ne {w : World} {ks k n : Nat} {cs : Array Value} {tt : TypeId} {f : Lit → Option Value} (hb : Blk w ks tt cs) (hm : MapV Tryz.prog 69 w k n f) : k ≠ ks := fun e => by
 obtain ⟨es, clock, hk⟩ := hm.is_map
 rw [e] at hk
 unfold Blk at hb
 rw [hb] at hk
 cases hk
theorem map_own_ne {w : World} {k n base size m : Nat} {v : Value} {xs : List Value} {t : TypeId} {f : Lit → Option Value} (ho : w.ownsRow base t size v m xs) (hm : MapV Tryz.prog 69 w k n f) : some k ≠ v.ownBlock := fun e => by
 obtain ⟨es, clock, hk⟩ := hm.is_map
 rcases ho.2 with ⟨rfl, _⟩ | ⟨g, cap, cur, rfl, _, hg, _⟩
 ·cases e
 ·injection e with e
  rw [e] at hk
  have hk : w.heap[g]? = _ := hk
  rw [hg] at hk
  cases hk
theorem ShowAt.kept {w w1 : World} {B ks k1 k2 n : Nat} (h : ShowAt w B ks k1 k2 n) (hBk : B ≤ ks) (hBw : B ≤ w.heap.size) (hw : w1 = w ∨ w1 = w.setCell ⟨ks, 2, none⟩ (.pointer (some ⟨ks, 2, none⟩))) : Below B w w1 ∧ KeepS w w1 ∧ B ≤ w1.heap.size := by
 rcases hw with rfl | rfl
 ·exact ⟨Below.refl _ _, fun t _ _ => KeepTag.refl t _, hBw⟩
 ·obtain ⟨p, v', l', _, hb', _⟩ := h
  exact ⟨below_set (Below.refl _ _) hBk _, fun t h1 _ => KeepTag.set hb' h1 2 _, by rw [World.size_setCell]; exact hBw⟩
def WritePost (B ks k1 k2 n : Nat) (w : World) (e : Ending) (w' : World) : Prop := (∃ k : Int, e = .returned (.tuple #[.int .i64 k, .nilIface])) ∧ ShowAt w' B ks k1 k2 n ∧ Below B w w' ∧ KeepS w w'
set_option maxHeartbeats 2000000 in
set_option maxRecDepth 100000 in
theorem write_any (B ks k1 k2 n : Nat) (s : ByteArray) (w : World) (h : ShowAt w B ks k1 k2 n) (hn : n + s.size ≤ 1000000000) (hBk : B ≤ ks) (hBw : B ≤ w.heap.size) :
  Calls Tryz.prog 116 #[.pointer (some ⟨ks, 2, none⟩), .string s] w (WritePost B ks k1 k2 (n + s.size) w) := by
 obtain ⟨i0, hi, hz0, hz1, hz2⟩ := info_parts Tryz.infoB8
 have HC := Lib.hid h.check
 have HS := Lib.hid h
 have HN : Hid (n + s.size ≤ maxLen ∧ n + s.size ≤ 140737488355328) := Lib.hid ⟨by unfold maxLen; omega, by omega⟩
 clear h hn
 go_enter Tryz.func116, Tryz.ntmps116
 go_wp2_with (first
  | (go_at_call 134; refine HC.out.mono ?_; rintro _ w1 ⟨rfl, ⟨v, l, hl, hb, ho, hm1, hm2⟩, hw⟩; have HW := Lib.hid (HS.out.kept hBk hBw hw); obtain ⟨av, cv, hfv⟩ := own_form ho; subst hfv; have y3 := (hb.cell 3).trans (show _ = some (Value.slice av n cv) from rfl); have HB1 := Lib.hid hb; have HO1 := Lib.hid ho; have HM1 := Lib.hid (And.intro hl (And.intro hm1 hm2)); clear hb ho hm1 hm2 hw hl)
  | (at_builtin; refine Lib.wpList_append_own_string _ rfl (.tmp 12) (.tmp 13) 50 9 rfl B 5 i0 Tryz.underlying50 Tryz.underlying9 hi hz0 hz1 hz2 _ n (Lib.byteCells l) rfl HO1.out s rfl HN.out.1 HN.out.2 HW.out.2.2 ?_; intro v2 w2 ho2 hg2 _; obtain ⟨a2, c2, hf2⟩ := own_form ho2; subst hf2; have hb2 := HB1.out.keep (KeepTag.own hg2 HO1.out (by decide)); have z3 := (hb2.cell 3).trans (show _ = some (Value.slice av n cv) from rfl); have zf := Blk.froz hb2; have HB2 := Lib.hid hb2; have HO2 := Lib.hid ho2; have HG2 := Lib.hid hg2; clear ho2 hg2 hb2))
 refine bodyPost_ret (v := .tuple #[.int .i64 s.size, .nilIface]) (by simp [results, Tryz.results116, go_sem]) rfl ⟨⟨_, rfl⟩, ?_, ?_, ?_⟩
 ·have hk : KeepTag 5 w2 (w2.setCell ⟨ks, 3, none⟩ (.slice a2 (n + s.size) c2)) := KeepTag.set HB2.out (by decide) 3 _
  have m1 := HM1.out.2.1.kept HG2.out (map_own_ne HO1.out HM1.out.2.1)
  have m2 := HM1.out.2.2.kept HG2.out (map_own_ne HO1.out HM1.out.2.2)
  refine ⟨_, _, l ++ s.data.toList, ?_, HB2.out.set43 _, .inr rfl, own_tag ?_ hk, m1.block (Below.heap_setCell w2 ⟨ks, 3, none⟩ _ k1 (map_ne HB2.out m1)), m2.block (Below.heap_setCell w2 ⟨ks, 3, none⟩ _ k2 (map_ne HB2.out m2))⟩
  ·rw [List.length_append, HM1.out.1]
   rfl
  ·rw [Lib.byteCells_append, ← Lib.strCells_eq]
   exact HO2.out
 ·exact below_set (HW.out.1.grown HG2.out HW.out.2.2 (fun k hk => (HO1.out.lt k hk).1)) hBk _
 ·exact fun _ h1 h2 => (HW.out.2.1 _ h1 h2).trans ((KeepTag.own HG2.out HO1.out h2).trans (KeepTag.set HB2.out h1 3 _))
set_option maxHeartbeats 2000000 in
set_option maxRecDepth 100000 in
/-- What the builder holds, as a text: some text. -/
theorem string_any (B ks k1 k2 n : Nat) (w : World) (h : ShowAt w B ks k1 k2 n) (hn : 0 < n) :
  Calls Tryz.prog 83 #[.pointer (some ⟨ks, 2, none⟩)] w fun e w' => (∃ s, e = .returned (.string s)) ∧ Below B w w' := by
 obtain ⟨p, v, l, hl, hb, _, ho, _, _⟩ := h
 have h0 : l ≠ [] := fun e => by rw [e] at hl; simp at hl; omega
 obtain ⟨g, cap, cur, rfl, hbg, hg, hnc, hcm, hcs, htake⟩ : ∃ g cap cur, v = .slice (some ⟨g, 0, none⟩) n cap ∧ B ≤ g ∧ w.heap[g]? = some (.cells cur 5 (0, 0)) ∧ n ≤ cap ∧ cap ≤ maxLen ∧ cur.size = cap * 1 ∧ cur.toList.take (n * 1) = Lib.byteCells l := by
  rcases ho.2 with ⟨_, hz⟩ | ⟨g, cap, cur, hv, r⟩
  ·omega
  ·exact ⟨g, cap, cur, hv, r⟩
 have c1 : w.drew.cell? ⟨ks, 3, none⟩ = some (.slice (some ⟨g, 0, none⟩) n cap) := (hb.cell 3).trans rfl
 have hSD : (Builtin.unsafeSliceData_ #[50] 171 #[.slice (some ⟨g, 0, none⟩) n cap]).run Tryz.prog w.drew = .ok (.pointer (some ⟨g, 0, none⟩)) w.drew :=
  Lib.run_unsafeSliceData_row _ _ _ _ _ _ (by omega)
 have hUS : (Builtin.unsafeString_ #[171, 3] 9 #[.pointer (some ⟨g, 0, none⟩), .int .i64 n]).run Tryz.prog w.drew = .ok (.string ⟨l.toArray⟩) (w.drew.freeze ⟨g, 0, none⟩ n) := by
  rw [← hl]
  refine Lib.run_unsafeString_row w.drew 171 3 9 5 Tryz.underlying171 (by kernel_rfl) g cur.size (by have hg' : w.drew.heap[g]? = some (.cells cur 5 (0, 0)) := hg; simp [World.shape?, hg']) l h0 (by omega) (by unfold maxLen at hcm; omega) ?_
  intro j x hx
  exact World.ownsRow.cells ho (g := g) rfl j (.int .u8 x.toNat) (by simp [Lib.byteCells, hx])
 have HG := Lib.hid hbg
 clear hb ho hg htake hcs hl h0
 go_enter Tryz.func83, Tryz.ntmps83
 go_wp2
 go_region
 all_goals
  go_wp2
  go_ret
  exact ⟨⟨_, rfl⟩, Lib.below_freeze (Below.drew (Below.refl B w)) (p := ⟨g, 0, none⟩) HG.out _⟩
set_option maxHeartbeats 2000000 in
set_option maxRecDepth 100000 in
theorem line_any (B ks k1 k2 n : Nat) (head text : ByteArray) (w : World) (h : ShowAt w B ks k1 k2 n) (hn : n ≤ 900000000) (hh : head.size ≤ 1000) (ht : text.size ≤ 1000000) (hBk : B ≤ ks) (hBw : B ≤ w.heap.size) :
  Calls Tryz.prog 100 #[.pointer (some ⟨ks, 0, none⟩), .string head, .string text] w fun e w' => e = .returned (.tuple #[]) ∧ (∃ m, ShowAt w' B ks k1 k2 m ∧ 0 < m ∧ m ≤ n + 1001001) ∧ Below B w w' ∧ KeepS w w' := by
 have hsz : ((head ++ text) ++ (⟨#[10]⟩ : ByteArray)).size = head.size + text.size + 1 := by rw [ByteArray.size_append, ByteArray.size_append]; rfl
 have HW := Lib.hid (write_any B ks k1 k2 n ((head ++ text) ++ ⟨#[10]⟩) w h (by rw [hsz]; omega) hBk hBw)
 rw [hsz] at HW
 have hb0 : ∃ p v, Blk w ks 149 #[.map (some k1), .map (some k2), p, v] := let ⟨p, v, _, _, h2, _⟩ := h; ⟨p, v, h2⟩
 obtain ⟨p, v, hb⟩ := hb0
 clear h hsz
 go_enter Tryz.func100, Tryz.ntmps100
 go_wp2_with (go_at_call 116; refine HW.out.mono ?_; rintro _ w1 ⟨⟨k, rfl⟩, hs, hb1, hk1⟩; have HS := Lib.hid hs; have HB1 := Lib.hid hb1; have HK1 := Lib.hid hk1; clear hs hb1 hk1)
 go_end0
 exact ⟨rfl, ⟨_, HS.out, by omega, by omega⟩, HB1.out, HK1.out⟩
end Go.Proofs.YtknnleiinhdklaaGreatDoor
