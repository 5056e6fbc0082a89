/-
  Walk of the document's fill (windrowref16). Condition: pieces of at most 64 bytes.
-/
import Derived.Test.YtdmoiahaekooaaaDoorIs1
namespace Go.Proofs.YtdmoiahaekooaaaDoor
open Go.RowKit Go.Shelf Go.Sort

/-- What the document's fill answers. -/
def FillPost (i : Ins) (L : List UInt8) (ps : List (List UInt8)) (e : Ending) : Prop := ∃ j b, e = .returned (.tuple #[insV j, .bool b]) ∧ (b = true → fillR i L ps = some j) ∧ (b = false → fillR i L ps = none)
theorem fillR_len : ∀ (L : List UInt8) (ps : List (List UInt8)) (i : Ins), ps.length ≠ L.length → fillR i L ps = none
  | [], [], _, h => absurd rfl h
  | [], _ :: _, _, _ => rfl
  | _ :: _, [], _, _ => rfl
  | c :: cs, p :: ps, i, h => by
    simp only [fillR]
    cases fillOneR i c p with
    | none => rfl
    | some j => exact fillR_len cs ps j (fun e => h (by simp [e]))
theorem fillR_step {j : Ins} {c : UInt8} {p : List UInt8} {L : List UInt8} {ps : List (List UInt8)} {n : Nat} (hc : L[n]? = some c) (hp : ps[n]? = some p) : fillR j (L.drop n) (ps.drop n) = match fillOneR j c p with | some j' => fillR j' (L.drop (n + 1)) (ps.drop (n + 1)) | none => none := by
  obtain ⟨h1, h2⟩ := List.getElem?_eq_some_iff.1 hc
  obtain ⟨h3, h4⟩ := List.getElem?_eq_some_iff.1 hp
  rw [List.drop_eq_getElem_cons h1, List.drop_eq_getElem_cons h3, h2, h4]
  rfl
theorem Blk.cells5 {w : World} {b : Nat} {t : TypeId} {i : Ins} (h : Blk w b t (insA i)) : w.cell? ⟨b, 0, none⟩ = some (.int .u8 i.op) ∧ w.cell? ⟨b, 1, none⟩ = some (.int .u8 i.a) ∧ w.cell? ⟨b, 2, none⟩ = some (.int .u8 i.b) ∧ w.cell? ⟨b, 3, none⟩ = some (.int .u8 i.c) ∧ w.cell? ⟨b, 4, none⟩ = some (.int .i32 i.imm) :=
  ⟨h.cell 0, h.cell 1, h.cell 2, h.cell 3, h.cell 4⟩
theorem fr_reg {j : Ins} {c : UInt8} {p : List UInt8} (hc : regL c = true) : fillOneR j c p = if p.head? = some 114 ∧ (numR p.tail).2 = true ∧ 0 ≤ (numR p.tail).1 ∧ (numR p.tail).1 < 16 then some (setR j c (numR p.tail).1) else none := by
  unfold fillOneR
  rw [if_pos hc]
theorem fr_num {j : Ins} {c : UInt8} {p : List UInt8} (hc : regL c ≠ true) : fillOneR j c p = if (numR p).2 = true ∧ (c = 73 → -2147483648 ≤ (numR p).1 ∧ (numR p).1 ≤ 2147483647) then some (setR j c (numR p).1) else none := by
  unfold fillOneR
  rw [if_neg hc]
set_option maxHeartbeats 8000000 in
set_option maxRecDepth 100000 in
theorem fill_any (i : Ins) (S : ByteArray) (v : Value) (ps : List (List UInt8)) (hS5 : S.size ≤ 5) (hSk : ∀ c ∈ S.data.toList, c = 65 ∨ c = 66 ∨ c = 67 ∨ c = 73 ∨ c = 70) (hps : ∀ p ∈ ps, p.length ≤ 64) (w : World) (hik : i.ok) (hP : PartsIs w w.heap.size v ps) :
    Calls Tryd.prog 34 #[insV i, .string S, v] w fun e w' => FillPost i S.data.toList ps e ∧ Below w.heap.size w w' := by
  have HS : Hid (∀ k (h : k < S.size), S.data.toList[k]? = some S[k]) := Lib.hid (fun k h => by rw [get_list S k h]; exact List.getElem?_eq_getElem _)
  have HL : Hid (S.data.toList.length = S.size) := Lib.hid rfl
  have HIk := Lib.hid hik
  have HSk := Lib.hid hSk
  have HPs := Lib.hid hps
  have HP := Lib.hid hP
  have HLen := Lib.hid (fun h => fillR_len S.data.toList ps i h)
  clear hSk hps hik
  generalize S.data.toList = L at *
  obtain ⟨a0, c0, rfl, hc1, hc2, -⟩ := hP
  obtain ⟨m, hm⟩ : ∃ m, m = ps.length := ⟨_, rfl⟩
  have HM := Lib.hid hm
  rw [← hm] at hc1 ⊢
  unfold maxLen at hc2
  clear hm
  unfold insV insA
  go_enter Tryd.func34, Tryd.ntmps34
  go_upto_region 1 with fail
  generalize hW : (w.alloc (.cells #[.int .u8 i.op, .int .u8 i.a, .int .u8 i.b, .int .u8 i.c, .int .i32 i.imm] 23)).alloc (.cells #[.int .u8 0, .int .u8 0, .int .u8 0, .int .u8 0, .int .i32 0] 23) = wx
  have H1 : Hid (Blk wx w.heap.size 23 (insA i)) := Lib.hid (by rw [← hW]; exact (Blk.new w _ _ rfl).alloc _)
  have H2 : Hid (Blk wx (w.heap.size + 1) 23 (insA Ins.none)) := Lib.hid (by rw [← hW]; exact Blk.new _ _ _ (by simp))
  have Z2 : Hid (Below w.heap.size w wx) := Lib.hid (by rw [← hW]; exact ((Below.refl _ w).alloc (Nat.le_refl _) _).alloc (by simp) _)
  clear hW
  by_cases hlen : m = S.size
  · have i1 : ((m : Int) != S.size) = false := by rw [bne_eq_false_iff_eq]; omega
    have i2 : (m : Int) = S.size := by omega
    have HEq := Lib.hid hlen
    clear HLen hlen i2
    go_wp2_with fail
    clear i1
    go_loopw [8] (fun vi wr => ∃ (k : Nat) (j : Ins), k ≤ S.size ∧ vi = .int .i64 k ∧ Blk wr w.heap.size 23 (insA j) ∧ Blk wr (w.heap.size + 1) 23 (insA Ins.none) ∧ Below w.heap.size w wr ∧ Hid (j.ok ∧ fillR i L ps = fillR j (L.drop k) (ps.drop k))) (fun vi _ => S.size - (intOf vi).toNat)
    case atStart => exact ⟨0, i, Nat.zero_le _, rfl, H1.out, H2.out, Z2.out, Lib.hid ⟨HIk.out, rfl⟩⟩
    case round =>
      obtain ⟨k, j, hk, rfl, hI, hR, hbel, hj⟩ := hrel
      obtain ⟨hjk, hfi⟩ := hj.out
      clear hj H1 H2 Z2
      by_cases hlt : k < S.size
      · have hc := HS.out k hlt
        obtain ⟨p, hp⟩ : ∃ p, ps[k]? = some p := ⟨ps[k]'(by have := HM.out; have := HEq.out; omega), List.getElem?_eq_getElem _⟩
        have hpl := HPs.out p (List.mem_of_getElem? hp)
        have hcs := HSk.out _ (List.mem_of_getElem? hc)
        rw [fillR_step hc hp] at hfi
        obtain ⟨aq, cq, he, -, -, hQ⟩ := HP.out
        rw [← HM.out] at he
        injection he with he1 _ he2
        subst he1 he2
        obtain ⟨g, o, ha, hg, hcell⟩ := hQ (by have := HM.out; have := HEq.out; omega)
        subst ha
        have hcp : wr.cell? ⟨g, o + k, none⟩ = some (.string (mkS p)) := (hbel.cell (p := ⟨g, _, none⟩) hg).trans (hcell k p hp)
        have kI : (k : Int) < m := by have := HEq.out; omega
        have kS : (k : Int) < S.size := by omega
        obtain ⟨P, hPp⟩ : ∃ P, P = mkS p := ⟨_, rfl⟩
        rw [← hPp] at hcp
        have hPl : P.data.toList = p := by rw [hPp, mkS_toList]
        have hPs : P.size ≤ 64 := by rw [hPp, mkS_size]; exact hpl
        have hg1 : ¬ g = w.heap.size := by omega
        have hg2 : ¬ g = w.heap.size + 1 := by omega
        have HI := Lib.hid hI
        have HR := Lib.hid hR
        have HZ := Lib.hid hbel
        have HJk := Lib.hid hjk
        have HC := Lib.hid (fun c w => in_any ⟨#[65, 66, 67]⟩ c (by decide) w)
        clear hpl hp hc hQ hcell hI hR hbel hjk hPp
        rcases hcs with hcs | hcs | hcs | hcs | hcs
        · have e1 : (S[k].toNat : Int) = 65 := by rw [hcs]; rfl
          rw [hcs] at hfi
          have HFi := Lib.hid hfi
          clear hfi hcs
          have HCc : Hid (∀ w, Calls Tryd.prog 35 #[.string ⟨#[65, 66, 67]⟩, .int .u8 65] w fun e w' => e = .returned (.bool true) ∧ w = w') := Lib.hid (fun w => HC.out 65 w)
          have hrg : regL 65 = true := rfl
          rw [fr_reg hrg] at HFi
          clear HC hrg
          cases p with
          | nil =>
            have y1 : P.toList = [] := by rw [ByteArray.toList_eq]; exact hPl
            have y2 : P.toList.isEmpty = true := by rw [y1]; rfl
            go_wp2_with fail
            (with_reducible refine (HCc.out _).mono ?_)
            rintro _ _ ⟨rfl, rfl⟩
            have HNo : Hid (fillR i L ps = none) := Lib.hid (by rw [HFi.out, if_neg (fun h => by cases h.1)])
            have hI := HI.out
            have hR := HR.out
            have ZR := HZ
            clear HI HR HZ
            obtain ⟨p0, p1, p2, p3, p4⟩ := hI.cells5
            have f0 := hR.froz 0
            have f1 := hR.froz 1
            have f2 := hR.froz 2
            have f3 := hR.froz 3
            have f4 := hR.froz 4
            have d0 : _ = some (Value.int .u8 0) := hR.cell 0
            have d1 : _ = some (Value.int .u8 0) := hR.cell 1
            have d2 : _ = some (Value.int .u8 0) := hR.cell 2
            have d3 : _ = some (Value.int .u8 0) := hR.cell 3
            have d4 : _ = some (Value.int .i32 0) := hR.cell 4
            clear hI hR
            go_wp2_with fail
            refine bodyPost_ret (v := .tuple #[.agg #[.int .u8 j.op, .int .u8 j.a, .int .u8 j.b, .int .u8 j.c, .int .i32 j.imm], .bool false]) (by simp [results, Tryd.results34, go_sem, d0, d1, d2, d3, d4]) rfl ⟨?_, ?_⟩
            · exact ⟨j, false, rfl, (fun h => by cases h), fun _ => HNo.out⟩
            · repeat (first | with_reducible exact ZR.out | with_reducible refine below_set ?_ (by omega) _)
          | cons x q =>
            have y1 : ¬ P.toList = [] := by rw [ByteArray.toList_eq, hPl]; exact List.cons_ne_nil _ _
            have y2 : P.toList.isEmpty = false := by simpa using y1
            have hP0 : 0 < P.size := by
              have h1 : P.size = (x :: q).length := by rw [← hPl]; rfl
              rw [h1, List.length_cons]; omega
            have iP : (0 : Int) < P.size := by omega
            have hx0 : P[0] = x := by rw [get_list P 0 hP0]; simp [hPl]
            by_cases hx : x = 114
            · subst hx
              have z1 : (P[0].toNat : Int) = 114 := by rw [hx0]; rfl
              have hNu : ∀ w, Calls Tryd.prog 48 #[.string (P.extract 1 P.size)] w fun e w' => e = .returned (.tuple #[.int .i64 (numR q).1, .bool (numR q).2]) ∧ Below w.heap.size w w' := fun w => by
                have hq : (P.extract 1 P.size).data.toList = q := by
                  have h1 : P.size = (114 :: q).length := by rw [← hPl]; rfl
                  rw [extract_mkS, mkS_toList, hPl, h1, List.take_length]
                  rfl
                have := number_any (P.extract 1 P.size) (by have : (P.extract 1 P.size).size = q.length := by rw [size_list, hq]
                                                            have h1 : P.size = (114 :: q).length := by rw [← hPl]; rfl
                                                            rw [List.length_cons] at h1
                                                            omega) w
                rwa [hq] at this
              have HNu := Lib.hid hNu
              simp only [List.head?_cons, List.tail_cons] at HFi
              clear hNu hx0 hPl
              generalize numR q = NR at HFi HNu
              obtain ⟨nv, nb⟩ := NR
              dsimp only at HFi HNu
              cases nb
              · go_wp2_with fail
                (with_reducible refine (HCc.out _).mono ?_)
                rintro _ _ ⟨rfl, rfl⟩
                go_wp2_with fail
                (with_reducible refine (HNu.out _).mono ?_)
                rintro _ w3 ⟨rfl, b3⟩
                have HNo : Hid (fillR i L ps = none) := Lib.hid (by rw [HFi.out, if_neg (fun h => by cases h.2.1)])
                have hI := HI.out.below b3
                have hR := HR.out.below b3
                have ZR := Lib.hid (HZ.out.trans (b3.mono HZ.out.size))
                clear b3 HI HR HZ
                obtain ⟨p0, p1, p2, p3, p4⟩ := hI.cells5
                have f0 := hR.froz 0
                have f1 := hR.froz 1
                have f2 := hR.froz 2
                have f3 := hR.froz 3
                have f4 := hR.froz 4
                have d0 : _ = some (Value.int .u8 0) := hR.cell 0
                have d1 : _ = some (Value.int .u8 0) := hR.cell 1
                have d2 : _ = some (Value.int .u8 0) := hR.cell 2
                have d3 : _ = some (Value.int .u8 0) := hR.cell 3
                have d4 : _ = some (Value.int .i32 0) := hR.cell 4
                clear hI hR
                go_wp2_with fail
                refine bodyPost_ret (v := .tuple #[.agg #[.int .u8 j.op, .int .u8 j.a, .int .u8 j.b, .int .u8 j.c, .int .i32 j.imm], .bool false]) (by simp [results, Tryd.results34, go_sem, d0, d1, d2, d3, d4]) rfl ⟨?_, ?_⟩
                · exact ⟨j, false, rfl, (fun h => by cases h), fun _ => HNo.out⟩
                · repeat (first | with_reducible exact ZR.out | with_reducible refine below_set ?_ (by omega) _)
              · by_cases n1 : nv < 0
                · go_wp2_with fail
                  (with_reducible refine (HCc.out _).mono ?_)
                  rintro _ _ ⟨rfl, rfl⟩
                  go_wp2_with fail
                  (with_reducible refine (HNu.out _).mono ?_)
                  rintro _ w3 ⟨rfl, b3⟩
                  have HNo : Hid (fillR i L ps = none) := Lib.hid (by rw [HFi.out, if_neg (fun h => by have := h.2.2.1; omega)])
                  have hI := HI.out.below b3
                  have hR := HR.out.below b3
                  have ZR := Lib.hid (HZ.out.trans (b3.mono HZ.out.size))
                  clear b3 HI HR HZ
                  obtain ⟨p0, p1, p2, p3, p4⟩ := hI.cells5
                  have f0 := hR.froz 0
                  have f1 := hR.froz 1
                  have f2 := hR.froz 2
                  have f3 := hR.froz 3
                  have f4 := hR.froz 4
                  have d0 : _ = some (Value.int .u8 0) := hR.cell 0
                  have d1 : _ = some (Value.int .u8 0) := hR.cell 1
                  have d2 : _ = some (Value.int .u8 0) := hR.cell 2
                  have d3 : _ = some (Value.int .u8 0) := hR.cell 3
                  have d4 : _ = some (Value.int .i32 0) := hR.cell 4
                  clear hI hR
                  go_wp2_with fail
                  refine bodyPost_ret (v := .tuple #[.agg #[.int .u8 j.op, .int .u8 j.a, .int .u8 j.b, .int .u8 j.c, .int .i32 j.imm], .bool false]) (by simp [results, Tryd.results34, go_sem, d0, d1, d2, d3, d4]) rfl ⟨?_, ?_⟩
                  · exact ⟨j, false, rfl, (fun h => by cases h), fun _ => HNo.out⟩
                  · repeat (first | with_reducible exact ZR.out | with_reducible refine below_set ?_ (by omega) _)
                · by_cases n2 : 16 ≤ nv
                  · have n2b : ¬ nv < 16 := by omega
                    go_wp2_with fail
                    (with_reducible refine (HCc.out _).mono ?_)
                    rintro _ _ ⟨rfl, rfl⟩
                    go_wp2_with fail
                    (with_reducible refine (HNu.out _).mono ?_)
                    rintro _ w3 ⟨rfl, b3⟩
                    have HNo : Hid (fillR i L ps = none) := Lib.hid (by rw [HFi.out, if_neg (fun h => by have := h.2.2.2; omega)])
                    have hI := HI.out.below b3
                    have hR := HR.out.below b3
                    have ZR := Lib.hid (HZ.out.trans (b3.mono HZ.out.size))
                    clear b3 HI HR HZ
                    obtain ⟨p0, p1, p2, p3, p4⟩ := hI.cells5
                    have f0 := hR.froz 0
                    have f1 := hR.froz 1
                    have f2 := hR.froz 2
                    have f3 := hR.froz 3
                    have f4 := hR.froz 4
                    have d0 : _ = some (Value.int .u8 0) := hR.cell 0
                    have d1 : _ = some (Value.int .u8 0) := hR.cell 1
                    have d2 : _ = some (Value.int .u8 0) := hR.cell 2
                    have d3 : _ = some (Value.int .u8 0) := hR.cell 3
                    have d4 : _ = some (Value.int .i32 0) := hR.cell 4
                    clear hI hR
                    go_wp2_with fail
                    refine bodyPost_ret (v := .tuple #[.agg #[.int .u8 j.op, .int .u8 j.a, .int .u8 j.b, .int .u8 j.c, .int .i32 j.imm], .bool false]) (by simp [results, Tryd.results34, go_sem, d0, d1, d2, d3, d4]) rfl ⟨?_, ?_⟩
                    · exact ⟨j, false, rfl, (fun h => by cases h), fun _ => HNo.out⟩
                    · repeat (first | with_reducible exact ZR.out | with_reducible refine below_set ?_ (by omega) _)
                  · obtain ⟨u, rfl⟩ := Int.eq_ofNat_of_zero_le (show 0 ≤ nv by omega)
                    have hu : u < 16 := by omega
                    have u1 : ¬ (u : Int) < 0 := by omega
                    have u2 : ¬ (16 : Int) ≤ u := by omega
                    have u3 : decide ((16 : Int) ≤ u) = false := decide_eq_false u2
                    have hf := HFi.out
                    rw [if_pos ⟨by trivial, by trivial, by omega, by omega⟩] at hf
                    have HF2 : Hid (fillR i L ps = fillR { j with a := u } (L.drop (k + 1)) (ps.drop (k + 1))) := Lib.hid hf
                    obtain ⟨g1, g2, g3, g4, g5, g6⟩ := HJk.out
                    clear hf HFi n1 n2 u2
                    go_wp2_with fail
                    (with_reducible refine (HCc.out _).mono ?_)
                    rintro _ _ ⟨rfl, rfl⟩
                    go_wp2_with fail
                    (with_reducible refine (HNu.out _).mono ?_)
                    rintro _ w3 ⟨rfl, b3⟩
                    have hI := HI.out.below b3
                    have hR := HR.out.below b3
                    have ZR := Lib.hid (HZ.out.trans (b3.mono HZ.out.size))
                    clear b3 HI HR HZ
                    have fz := hI.froz 1
                    have cz : _ = some (Value.int .u8 j.a) := hI.cell 1
                    have HI4 := Lib.hid (hI.putA u)
                    have HR4 := Lib.hid hR
                    clear hI hR
                    go_wp2_with fail
                    go_roundw
                    case rel =>
                      exact ⟨k + 1, { j with a := u }, hlt, by go_num, HI4.out, HR4.out.other (by omega) _ _, ZR.out.setCell (Nat.le_refl _) _, Lib.hid ⟨⟨g1, by show u < 256; omega, g3, g4, g5, g6⟩, HF2.out⟩⟩
                    case measure => simp [intOf]; omega
            · have z1 : ¬ (P[0].toNat : Int) = 114 := by
                rw [hx0]
                intro e
                exact hx (UInt8.toNat_inj.1 (by have e2 : (114 : UInt8).toNat = 114 := rfl; omega))
              have z2 : ((P[0].toNat : Int) != 114) = true := by rw [bne_iff_ne]; exact z1
              clear hx0
              go_wp2_with fail
              (with_reducible refine (HCc.out _).mono ?_)
              rintro _ _ ⟨rfl, rfl⟩
              have HNo : Hid (fillR i L ps = none) := Lib.hid (by rw [HFi.out, if_neg (fun h => hx (by simpa using h.1))])
              have hI := HI.out
              have hR := HR.out
              have ZR := HZ
              clear HI HR HZ
              obtain ⟨p0, p1, p2, p3, p4⟩ := hI.cells5
              have f0 := hR.froz 0
              have f1 := hR.froz 1
              have f2 := hR.froz 2
              have f3 := hR.froz 3
              have f4 := hR.froz 4
              have d0 : _ = some (Value.int .u8 0) := hR.cell 0
              have d1 : _ = some (Value.int .u8 0) := hR.cell 1
              have d2 : _ = some (Value.int .u8 0) := hR.cell 2
              have d3 : _ = some (Value.int .u8 0) := hR.cell 3
              have d4 : _ = some (Value.int .i32 0) := hR.cell 4
              clear hI hR
              go_wp2_with fail
              refine bodyPost_ret (v := .tuple #[.agg #[.int .u8 j.op, .int .u8 j.a, .int .u8 j.b, .int .u8 j.c, .int .i32 j.imm], .bool false]) (by simp [results, Tryd.results34, go_sem, d0, d1, d2, d3, d4]) rfl ⟨?_, ?_⟩
              · exact ⟨j, false, rfl, (fun h => by cases h), fun _ => HNo.out⟩
              · repeat (first | with_reducible exact ZR.out | with_reducible refine below_set ?_ (by omega) _)
        · have e1 : (S[k].toNat : Int) = 66 := by rw [hcs]; rfl
          rw [hcs] at hfi
          have HFi := Lib.hid hfi
          clear hfi hcs
          have HCc : Hid (∀ w, Calls Tryd.prog 35 #[.string ⟨#[65, 66, 67]⟩, .int .u8 66] w fun e w' => e = .returned (.bool true) ∧ w = w') := Lib.hid (fun w => HC.out 66 w)
          have hrg : regL 66 = true := rfl
          rw [fr_reg hrg] at HFi
          clear HC hrg
          cases p with
          | nil =>
            have y1 : P.toList = [] := by rw [ByteArray.toList_eq]; exact hPl
            have y2 : P.toList.isEmpty = true := by rw [y1]; rfl
            go_wp2_with fail
            (with_reducible refine (HCc.out _).mono ?_)
            rintro _ _ ⟨rfl, rfl⟩
            have HNo : Hid (fillR i L ps = none) := Lib.hid (by rw [HFi.out, if_neg (fun h => by cases h.1)])
            have hI := HI.out
            have hR := HR.out
            have ZR := HZ
            clear HI HR HZ
            obtain ⟨p0, p1, p2, p3, p4⟩ := hI.cells5
            have f0 := hR.froz 0
            have f1 := hR.froz 1
            have f2 := hR.froz 2
            have f3 := hR.froz 3
            have f4 := hR.froz 4
            have d0 : _ = some (Value.int .u8 0) := hR.cell 0
            have d1 : _ = some (Value.int .u8 0) := hR.cell 1
            have d2 : _ = some (Value.int .u8 0) := hR.cell 2
            have d3 : _ = some (Value.int .u8 0) := hR.cell 3
            have d4 : _ = some (Value.int .i32 0) := hR.cell 4
            clear hI hR
            go_wp2_with fail
            refine bodyPost_ret (v := .tuple #[.agg #[.int .u8 j.op, .int .u8 j.a, .int .u8 j.b, .int .u8 j.c, .int .i32 j.imm], .bool false]) (by simp [results, Tryd.results34, go_sem, d0, d1, d2, d3, d4]) rfl ⟨?_, ?_⟩
            · exact ⟨j, false, rfl, (fun h => by cases h), fun _ => HNo.out⟩
            · repeat (first | with_reducible exact ZR.out | with_reducible refine below_set ?_ (by omega) _)
          | cons x q =>
            have y1 : ¬ P.toList = [] := by rw [ByteArray.toList_eq, hPl]; exact List.cons_ne_nil _ _
            have y2 : P.toList.isEmpty = false := by simpa using y1
            have hP0 : 0 < P.size := by
              have h1 : P.size = (x :: q).length := by rw [← hPl]; rfl
              rw [h1, List.length_cons]; omega
            have iP : (0 : Int) < P.size := by omega
            have hx0 : P[0] = x := by rw [get_list P 0 hP0]; simp [hPl]
            by_cases hx : x = 114
            · subst hx
              have z1 : (P[0].toNat : Int) = 114 := by rw [hx0]; rfl
              have hNu : ∀ w, Calls Tryd.prog 48 #[.string (P.extract 1 P.size)] w fun e w' => e = .returned (.tuple #[.int .i64 (numR q).1, .bool (numR q).2]) ∧ Below w.heap.size w w' := fun w => by
                have hq : (P.extract 1 P.size).data.toList = q := by
                  have h1 : P.size = (114 :: q).length := by rw [← hPl]; rfl
                  rw [extract_mkS, mkS_toList, hPl, h1, List.take_length]
                  rfl
                have := number_any (P.extract 1 P.size) (by have : (P.extract 1 P.size).size = q.length := by rw [size_list, hq]
                                                            have h1 : P.size = (114 :: q).length := by rw [← hPl]; rfl
                                                            rw [List.length_cons] at h1
                                                            omega) w
                rwa [hq] at this
              have HNu := Lib.hid hNu
              simp only [List.head?_cons, List.tail_cons] at HFi
              clear hNu hx0 hPl
              generalize numR q = NR at HFi HNu
              obtain ⟨nv, nb⟩ := NR
              dsimp only at HFi HNu
              cases nb
              · go_wp2_with fail
                (with_reducible refine (HCc.out _).mono ?_)
                rintro _ _ ⟨rfl, rfl⟩
                go_wp2_with fail
                (with_reducible refine (HNu.out _).mono ?_)
                rintro _ w3 ⟨rfl, b3⟩
                have HNo : Hid (fillR i L ps = none) := Lib.hid (by rw [HFi.out, if_neg (fun h => by cases h.2.1)])
                have hI := HI.out.below b3
                have hR := HR.out.below b3
                have ZR := Lib.hid (HZ.out.trans (b3.mono HZ.out.size))
                clear b3 HI HR HZ
                obtain ⟨p0, p1, p2, p3, p4⟩ := hI.cells5
                have f0 := hR.froz 0
                have f1 := hR.froz 1
                have f2 := hR.froz 2
                have f3 := hR.froz 3
                have f4 := hR.froz 4
                have d0 : _ = some (Value.int .u8 0) := hR.cell 0
                have d1 : _ = some (Value.int .u8 0) := hR.cell 1
                have d2 : _ = some (Value.int .u8 0) := hR.cell 2
                have d3 : _ = some (Value.int .u8 0) := hR.cell 3
                have d4 : _ = some (Value.int .i32 0) := hR.cell 4
                clear hI hR
                go_wp2_with fail
                refine bodyPost_ret (v := .tuple #[.agg #[.int .u8 j.op, .int .u8 j.a, .int .u8 j.b, .int .u8 j.c, .int .i32 j.imm], .bool false]) (by simp [results, Tryd.results34, go_sem, d0, d1, d2, d3, d4]) rfl ⟨?_, ?_⟩
                · exact ⟨j, false, rfl, (fun h => by cases h), fun _ => HNo.out⟩
                · repeat (first | with_reducible exact ZR.out | with_reducible refine below_set ?_ (by omega) _)
              · by_cases n1 : nv < 0
                · go_wp2_with fail
                  (with_reducible refine (HCc.out _).mono ?_)
                  rintro _ _ ⟨rfl, rfl⟩
                  go_wp2_with fail
                  (with_reducible refine (HNu.out _).mono ?_)
                  rintro _ w3 ⟨rfl, b3⟩
                  have HNo : Hid (fillR i L ps = none) := Lib.hid (by rw [HFi.out, if_neg (fun h => by have := h.2.2.1; omega)])
                  have hI := HI.out.below b3
                  have hR := HR.out.below b3
                  have ZR := Lib.hid (HZ.out.trans (b3.mono HZ.out.size))
                  clear b3 HI HR HZ
                  obtain ⟨p0, p1, p2, p3, p4⟩ := hI.cells5
                  have f0 := hR.froz 0
                  have f1 := hR.froz 1
                  have f2 := hR.froz 2
                  have f3 := hR.froz 3
                  have f4 := hR.froz 4
                  have d0 : _ = some (Value.int .u8 0) := hR.cell 0
                  have d1 : _ = some (Value.int .u8 0) := hR.cell 1
                  have d2 : _ = some (Value.int .u8 0) := hR.cell 2
                  have d3 : _ = some (Value.int .u8 0) := hR.cell 3
                  have d4 : _ = some (Value.int .i32 0) := hR.cell 4
                  clear hI hR
                  go_wp2_with fail
                  refine bodyPost_ret (v := .tuple #[.agg #[.int .u8 j.op, .int .u8 j.a, .int .u8 j.b, .int .u8 j.c, .int .i32 j.imm], .bool false]) (by simp [results, Tryd.results34, go_sem, d0, d1, d2, d3, d4]) rfl ⟨?_, ?_⟩
                  · exact ⟨j, false, rfl, (fun h => by cases h), fun _ => HNo.out⟩
                  · repeat (first | with_reducible exact ZR.out | with_reducible refine below_set ?_ (by omega) _)
                · by_cases n2 : 16 ≤ nv
                  · have n2b : ¬ nv < 16 := by omega
                    go_wp2_with fail
                    (with_reducible refine (HCc.out _).mono ?_)
                    rintro _ _ ⟨rfl, rfl⟩
                    go_wp2_with fail
                    (with_reducible refine (HNu.out _).mono ?_)
                    rintro _ w3 ⟨rfl, b3⟩
                    have HNo : Hid (fillR i L ps = none) := Lib.hid (by rw [HFi.out, if_neg (fun h => by have := h.2.2.2; omega)])
                    have hI := HI.out.below b3
                    have hR := HR.out.below b3
                    have ZR := Lib.hid (HZ.out.trans (b3.mono HZ.out.size))
                    clear b3 HI HR HZ
                    obtain ⟨p0, p1, p2, p3, p4⟩ := hI.cells5
                    have f0 := hR.froz 0
                    have f1 := hR.froz 1
                    have f2 := hR.froz 2
                    have f3 := hR.froz 3
                    have f4 := hR.froz 4
                    have d0 : _ = some (Value.int .u8 0) := hR.cell 0
                    have d1 : _ = some (Value.int .u8 0) := hR.cell 1
                    have d2 : _ = some (Value.int .u8 0) := hR.cell 2
                    have d3 : _ = some (Value.int .u8 0) := hR.cell 3
                    have d4 : _ = some (Value.int .i32 0) := hR.cell 4
                    clear hI hR
                    go_wp2_with fail
                    refine bodyPost_ret (v := .tuple #[.agg #[.int .u8 j.op, .int .u8 j.a, .int .u8 j.b, .int .u8 j.c, .int .i32 j.imm], .bool false]) (by simp [results, Tryd.results34, go_sem, d0, d1, d2, d3, d4]) rfl ⟨?_, ?_⟩
                    · exact ⟨j, false, rfl, (fun h => by cases h), fun _ => HNo.out⟩
                    · repeat (first | with_reducible exact ZR.out | with_reducible refine below_set ?_ (by omega) _)
                  · obtain ⟨u, rfl⟩ := Int.eq_ofNat_of_zero_le (show 0 ≤ nv by omega)
                    have hu : u < 16 := by omega
                    have u1 : ¬ (u : Int) < 0 := by omega
                    have u2 : ¬ (16 : Int) ≤ u := by omega
                    have u3 : decide ((16 : Int) ≤ u) = false := decide_eq_false u2
                    have hf := HFi.out
                    rw [if_pos ⟨by trivial, by trivial, by omega, by omega⟩] at hf
                    have HF2 : Hid (fillR i L ps = fillR { j with b := u } (L.drop (k + 1)) (ps.drop (k + 1))) := Lib.hid hf
                    obtain ⟨g1, g2, g3, g4, g5, g6⟩ := HJk.out
                    clear hf HFi n1 n2 u2
                    go_wp2_with fail
                    (with_reducible refine (HCc.out _).mono ?_)
                    rintro _ _ ⟨rfl, rfl⟩
                    go_wp2_with fail
                    (with_reducible refine (HNu.out _).mono ?_)
                    rintro _ w3 ⟨rfl, b3⟩
                    have hI := HI.out.below b3
                    have hR := HR.out.below b3
                    have ZR := Lib.hid (HZ.out.trans (b3.mono HZ.out.size))
                    clear b3 HI HR HZ
                    have fz := hI.froz 2
                    have cz : _ = some (Value.int .u8 j.b) := hI.cell 2
                    have HI4 := Lib.hid (hI.putB u)
                    have HR4 := Lib.hid hR
                    clear hI hR
                    go_wp2_with fail
                    go_roundw
                    case rel =>
                      exact ⟨k + 1, { j with b := u }, hlt, by go_num, HI4.out, HR4.out.other (by omega) _ _, ZR.out.setCell (Nat.le_refl _) _, Lib.hid ⟨⟨g1, g2, by show u < 256; omega, g4, g5, g6⟩, HF2.out⟩⟩
                    case measure => simp [intOf]; omega
            · have z1 : ¬ (P[0].toNat : Int) = 114 := by
                rw [hx0]
                intro e
                exact hx (UInt8.toNat_inj.1 (by have e2 : (114 : UInt8).toNat = 114 := rfl; omega))
              have z2 : ((P[0].toNat : Int) != 114) = true := by rw [bne_iff_ne]; exact z1
              clear hx0
              go_wp2_with fail
              (with_reducible refine (HCc.out _).mono ?_)
              rintro _ _ ⟨rfl, rfl⟩
              have HNo : Hid (fillR i L ps = none) := Lib.hid (by rw [HFi.out, if_neg (fun h => hx (by simpa using h.1))])
              have hI := HI.out
              have hR := HR.out
              have ZR := HZ
              clear HI HR HZ
              obtain ⟨p0, p1, p2, p3, p4⟩ := hI.cells5
              have f0 := hR.froz 0
              have f1 := hR.froz 1
              have f2 := hR.froz 2
              have f3 := hR.froz 3
              have f4 := hR.froz 4
              have d0 : _ = some (Value.int .u8 0) := hR.cell 0
              have d1 : _ = some (Value.int .u8 0) := hR.cell 1
              have d2 : _ = some (Value.int .u8 0) := hR.cell 2
              have d3 : _ = some (Value.int .u8 0) := hR.cell 3
              have d4 : _ = some (Value.int .i32 0) := hR.cell 4
              clear hI hR
              go_wp2_with fail
              refine bodyPost_ret (v := .tuple #[.agg #[.int .u8 j.op, .int .u8 j.a, .int .u8 j.b, .int .u8 j.c, .int .i32 j.imm], .bool false]) (by simp [results, Tryd.results34, go_sem, d0, d1, d2, d3, d4]) rfl ⟨?_, ?_⟩
              · exact ⟨j, false, rfl, (fun h => by cases h), fun _ => HNo.out⟩
              · repeat (first | with_reducible exact ZR.out | with_reducible refine below_set ?_ (by omega) _)
        · have e1 : (S[k].toNat : Int) = 67 := by rw [hcs]; rfl
          rw [hcs] at hfi
          have HFi := Lib.hid hfi
          clear hfi hcs
          have HCc : Hid (∀ w, Calls Tryd.prog 35 #[.string ⟨#[65, 66, 67]⟩, .int .u8 67] w fun e w' => e = .returned (.bool true) ∧ w = w') := Lib.hid (fun w => HC.out 67 w)
          have hrg : regL 67 = true := rfl
          rw [fr_reg hrg] at HFi
          clear HC hrg
          cases p with
          | nil =>
            have y1 : P.toList = [] := by rw [ByteArray.toList_eq]; exact hPl
            have y2 : P.toList.isEmpty = true := by rw [y1]; rfl
            go_wp2_with fail
            (with_reducible refine (HCc.out _).mono ?_)
            rintro _ _ ⟨rfl, rfl⟩
            have HNo : Hid (fillR i L ps = none) := Lib.hid (by rw [HFi.out, if_neg (fun h => by cases h.1)])
            have hI := HI.out
            have hR := HR.out
            have ZR := HZ
            clear HI HR HZ
            obtain ⟨p0, p1, p2, p3, p4⟩ := hI.cells5
            have f0 := hR.froz 0
            have f1 := hR.froz 1
            have f2 := hR.froz 2
            have f3 := hR.froz 3
            have f4 := hR.froz 4
            have d0 : _ = some (Value.int .u8 0) := hR.cell 0
            have d1 : _ = some (Value.int .u8 0) := hR.cell 1
            have d2 : _ = some (Value.int .u8 0) := hR.cell 2
            have d3 : _ = some (Value.int .u8 0) := hR.cell 3
            have d4 : _ = some (Value.int .i32 0) := hR.cell 4
            clear hI hR
            go_wp2_with fail
            refine bodyPost_ret (v := .tuple #[.agg #[.int .u8 j.op, .int .u8 j.a, .int .u8 j.b, .int .u8 j.c, .int .i32 j.imm], .bool false]) (by simp [results, Tryd.results34, go_sem, d0, d1, d2, d3, d4]) rfl ⟨?_, ?_⟩
            · exact ⟨j, false, rfl, (fun h => by cases h), fun _ => HNo.out⟩
            · repeat (first | with_reducible exact ZR.out | with_reducible refine below_set ?_ (by omega) _)
          | cons x q =>
            have y1 : ¬ P.toList = [] := by rw [ByteArray.toList_eq, hPl]; exact List.cons_ne_nil _ _
            have y2 : P.toList.isEmpty = false := by simpa using y1
            have hP0 : 0 < P.size := by
              have h1 : P.size = (x :: q).length := by rw [← hPl]; rfl
              rw [h1, List.length_cons]; omega
            have iP : (0 : Int) < P.size := by omega
            have hx0 : P[0] = x := by rw [get_list P 0 hP0]; simp [hPl]
            by_cases hx : x = 114
            · subst hx
              have z1 : (P[0].toNat : Int) = 114 := by rw [hx0]; rfl
              have hNu : ∀ w, Calls Tryd.prog 48 #[.string (P.extract 1 P.size)] w fun e w' => e = .returned (.tuple #[.int .i64 (numR q).1, .bool (numR q).2]) ∧ Below w.heap.size w w' := fun w => by
                have hq : (P.extract 1 P.size).data.toList = q := by
                  have h1 : P.size = (114 :: q).length := by rw [← hPl]; rfl
                  rw [extract_mkS, mkS_toList, hPl, h1, List.take_length]
                  rfl
                have := number_any (P.extract 1 P.size) (by have : (P.extract 1 P.size).size = q.length := by rw [size_list, hq]
                                                            have h1 : P.size = (114 :: q).length := by rw [← hPl]; rfl
                                                            rw [List.length_cons] at h1
                                                            omega) w
                rwa [hq] at this
              have HNu := Lib.hid hNu
              simp only [List.head?_cons, List.tail_cons] at HFi
              clear hNu hx0 hPl
              generalize numR q = NR at HFi HNu
              obtain ⟨nv, nb⟩ := NR
              dsimp only at HFi HNu
              cases nb
              · go_wp2_with fail
                (with_reducible refine (HCc.out _).mono ?_)
                rintro _ _ ⟨rfl, rfl⟩
                go_wp2_with fail
                (with_reducible refine (HNu.out _).mono ?_)
                rintro _ w3 ⟨rfl, b3⟩
                have HNo : Hid (fillR i L ps = none) := Lib.hid (by rw [HFi.out, if_neg (fun h => by cases h.2.1)])
                have hI := HI.out.below b3
                have hR := HR.out.below b3
                have ZR := Lib.hid (HZ.out.trans (b3.mono HZ.out.size))
                clear b3 HI HR HZ
                obtain ⟨p0, p1, p2, p3, p4⟩ := hI.cells5
                have f0 := hR.froz 0
                have f1 := hR.froz 1
                have f2 := hR.froz 2
                have f3 := hR.froz 3
                have f4 := hR.froz 4
                have d0 : _ = some (Value.int .u8 0) := hR.cell 0
                have d1 : _ = some (Value.int .u8 0) := hR.cell 1
                have d2 : _ = some (Value.int .u8 0) := hR.cell 2
                have d3 : _ = some (Value.int .u8 0) := hR.cell 3
                have d4 : _ = some (Value.int .i32 0) := hR.cell 4
                clear hI hR
                go_wp2_with fail
                refine bodyPost_ret (v := .tuple #[.agg #[.int .u8 j.op, .int .u8 j.a, .int .u8 j.b, .int .u8 j.c, .int .i32 j.imm], .bool false]) (by simp [results, Tryd.results34, go_sem, d0, d1, d2, d3, d4]) rfl ⟨?_, ?_⟩
                · exact ⟨j, false, rfl, (fun h => by cases h), fun _ => HNo.out⟩
                · repeat (first | with_reducible exact ZR.out | with_reducible refine below_set ?_ (by omega) _)
              · by_cases n1 : nv < 0
                · go_wp2_with fail
                  (with_reducible refine (HCc.out _).mono ?_)
                  rintro _ _ ⟨rfl, rfl⟩
                  go_wp2_with fail
                  (with_reducible refine (HNu.out _).mono ?_)
                  rintro _ w3 ⟨rfl, b3⟩
                  have HNo : Hid (fillR i L ps = none) := Lib.hid (by rw [HFi.out, if_neg (fun h => by have := h.2.2.1; omega)])
                  have hI := HI.out.below b3
                  have hR := HR.out.below b3
                  have ZR := Lib.hid (HZ.out.trans (b3.mono HZ.out.size))
                  clear b3 HI HR HZ
                  obtain ⟨p0, p1, p2, p3, p4⟩ := hI.cells5
                  have f0 := hR.froz 0
                  have f1 := hR.froz 1
                  have f2 := hR.froz 2
                  have f3 := hR.froz 3
                  have f4 := hR.froz 4
                  have d0 : _ = some (Value.int .u8 0) := hR.cell 0
                  have d1 : _ = some (Value.int .u8 0) := hR.cell 1
                  have d2 : _ = some (Value.int .u8 0) := hR.cell 2
                  have d3 : _ = some (Value.int .u8 0) := hR.cell 3
                  have d4 : _ = some (Value.int .i32 0) := hR.cell 4
                  clear hI hR
                  go_wp2_with fail
                  refine bodyPost_ret (v := .tuple #[.agg #[.int .u8 j.op, .int .u8 j.a, .int .u8 j.b, .int .u8 j.c, .int .i32 j.imm], .bool false]) (by simp [results, Tryd.results34, go_sem, d0, d1, d2, d3, d4]) rfl ⟨?_, ?_⟩
                  · exact ⟨j, false, rfl, (fun h => by cases h), fun _ => HNo.out⟩
                  · repeat (first | with_reducible exact ZR.out | with_reducible refine below_set ?_ (by omega) _)
                · by_cases n2 : 16 ≤ nv
                  · have n2b : ¬ nv < 16 := by omega
                    go_wp2_with fail
                    (with_reducible refine (HCc.out _).mono ?_)
                    rintro _ _ ⟨rfl, rfl⟩
                    go_wp2_with fail
                    (with_reducible refine (HNu.out _).mono ?_)
                    rintro _ w3 ⟨rfl, b3⟩
                    have HNo : Hid (fillR i L ps = none) := Lib.hid (by rw [HFi.out, if_neg (fun h => by have := h.2.2.2; omega)])
                    have hI := HI.out.below b3
                    have hR := HR.out.below b3
                    have ZR := Lib.hid (HZ.out.trans (b3.mono HZ.out.size))
                    clear b3 HI HR HZ
                    obtain ⟨p0, p1, p2, p3, p4⟩ := hI.cells5
                    have f0 := hR.froz 0
                    have f1 := hR.froz 1
                    have f2 := hR.froz 2
                    have f3 := hR.froz 3
                    have f4 := hR.froz 4
                    have d0 : _ = some (Value.int .u8 0) := hR.cell 0
                    have d1 : _ = some (Value.int .u8 0) := hR.cell 1
                    have d2 : _ = some (Value.int .u8 0) := hR.cell 2
                    have d3 : _ = some (Value.int .u8 0) := hR.cell 3
                    have d4 : _ = some (Value.int .i32 0) := hR.cell 4
                    clear hI hR
                    go_wp2_with fail
                    refine bodyPost_ret (v := .tuple #[.agg #[.int .u8 j.op, .int .u8 j.a, .int .u8 j.b, .int .u8 j.c, .int .i32 j.imm], .bool false]) (by simp [results, Tryd.results34, go_sem, d0, d1, d2, d3, d4]) rfl ⟨?_, ?_⟩
                    · exact ⟨j, false, rfl, (fun h => by cases h), fun _ => HNo.out⟩
                    · repeat (first | with_reducible exact ZR.out | with_reducible refine below_set ?_ (by omega) _)
                  · obtain ⟨u, rfl⟩ := Int.eq_ofNat_of_zero_le (show 0 ≤ nv by omega)
                    have hu : u < 16 := by omega
                    have u1 : ¬ (u : Int) < 0 := by omega
                    have u2 : ¬ (16 : Int) ≤ u := by omega
                    have u3 : decide ((16 : Int) ≤ u) = false := decide_eq_false u2
                    have hf := HFi.out
                    rw [if_pos ⟨by trivial, by trivial, by omega, by omega⟩] at hf
                    have HF2 : Hid (fillR i L ps = fillR { j with c := u } (L.drop (k + 1)) (ps.drop (k + 1))) := Lib.hid hf
                    obtain ⟨g1, g2, g3, g4, g5, g6⟩ := HJk.out
                    clear hf HFi n1 n2 u2
                    go_wp2_with fail
                    (with_reducible refine (HCc.out _).mono ?_)
                    rintro _ _ ⟨rfl, rfl⟩
                    go_wp2_with fail
                    (with_reducible refine (HNu.out _).mono ?_)
                    rintro _ w3 ⟨rfl, b3⟩
                    have hI := HI.out.below b3
                    have hR := HR.out.below b3
                    have ZR := Lib.hid (HZ.out.trans (b3.mono HZ.out.size))
                    clear b3 HI HR HZ
                    have fz := hI.froz 3
                    have cz : _ = some (Value.int .u8 j.c) := hI.cell 3
                    have HI4 := Lib.hid (hI.putC u)
                    have HR4 := Lib.hid hR
                    clear hI hR
                    go_wp2_with fail
                    go_roundw
                    case rel =>
                      exact ⟨k + 1, { j with c := u }, hlt, by go_num, HI4.out, HR4.out.other (by omega) _ _, ZR.out.setCell (Nat.le_refl _) _, Lib.hid ⟨⟨g1, g2, g3, by show u < 256; omega, g5, g6⟩, HF2.out⟩⟩
                    case measure => simp [intOf]; omega
            · have z1 : ¬ (P[0].toNat : Int) = 114 := by
                rw [hx0]
                intro e
                exact hx (UInt8.toNat_inj.1 (by have e2 : (114 : UInt8).toNat = 114 := rfl; omega))
              have z2 : ((P[0].toNat : Int) != 114) = true := by rw [bne_iff_ne]; exact z1
              clear hx0
              go_wp2_with fail
              (with_reducible refine (HCc.out _).mono ?_)
              rintro _ _ ⟨rfl, rfl⟩
              have HNo : Hid (fillR i L ps = none) := Lib.hid (by rw [HFi.out, if_neg (fun h => hx (by simpa using h.1))])
              have hI := HI.out
              have hR := HR.out
              have ZR := HZ
              clear HI HR HZ
              obtain ⟨p0, p1, p2, p3, p4⟩ := hI.cells5
              have f0 := hR.froz 0
              have f1 := hR.froz 1
              have f2 := hR.froz 2
              have f3 := hR.froz 3
              have f4 := hR.froz 4
              have d0 : _ = some (Value.int .u8 0) := hR.cell 0
              have d1 : _ = some (Value.int .u8 0) := hR.cell 1
              have d2 : _ = some (Value.int .u8 0) := hR.cell 2
              have d3 : _ = some (Value.int .u8 0) := hR.cell 3
              have d4 : _ = some (Value.int .i32 0) := hR.cell 4
              clear hI hR
              go_wp2_with fail
              refine bodyPost_ret (v := .tuple #[.agg #[.int .u8 j.op, .int .u8 j.a, .int .u8 j.b, .int .u8 j.c, .int .i32 j.imm], .bool false]) (by simp [results, Tryd.results34, go_sem, d0, d1, d2, d3, d4]) rfl ⟨?_, ?_⟩
              · exact ⟨j, false, rfl, (fun h => by cases h), fun _ => HNo.out⟩
              · repeat (first | with_reducible exact ZR.out | with_reducible refine below_set ?_ (by omega) _)
        · have e1 : (S[k].toNat : Int) = 73 := by rw [hcs]; rfl
          rw [hcs] at hfi
          have HFi := Lib.hid hfi
          clear hfi hcs
          have HCc : Hid (∀ w, Calls Tryd.prog 35 #[.string ⟨#[65, 66, 67]⟩, .int .u8 73] w fun e w' => e = .returned (.bool false) ∧ w = w') := Lib.hid (fun w => HC.out 73 w)
          have hrg : regL 73 ≠ true := by decide
          rw [fr_num hrg] at HFi
          have HNu : Hid (∀ w, Calls Tryd.prog 48 #[.string P] w fun e w' => e = .returned (.tuple #[.int .i64 (numR p).1, .bool (numR p).2]) ∧ Below w.heap.size w w') := Lib.hid (fun w => by have := number_any P hPs w; rwa [hPl] at this)
          clear HC hrg hPl
          generalize numR p = NR at HFi HNu
          obtain ⟨nv, nb⟩ := NR
          dsimp only at HFi HNu
          cases nb
          · go_wp2_with fail
            (with_reducible refine (HCc.out _).mono ?_)
            rintro _ _ ⟨rfl, rfl⟩
            go_wp2_with fail
            (with_reducible refine (HNu.out _).mono ?_)
            rintro _ w3 ⟨rfl, b3⟩
            have HNo : Hid (fillR i L ps = none) := Lib.hid (by rw [HFi.out, if_neg (fun h => by cases h.1)])
            have hI := HI.out.below b3
            have hR := HR.out.below b3
            have ZR := Lib.hid (HZ.out.trans (b3.mono HZ.out.size))
            clear b3 HI HR HZ
            obtain ⟨p0, p1, p2, p3, p4⟩ := hI.cells5
            have f0 := hR.froz 0
            have f1 := hR.froz 1
            have f2 := hR.froz 2
            have f3 := hR.froz 3
            have f4 := hR.froz 4
            have d0 : _ = some (Value.int .u8 0) := hR.cell 0
            have d1 : _ = some (Value.int .u8 0) := hR.cell 1
            have d2 : _ = some (Value.int .u8 0) := hR.cell 2
            have d3 : _ = some (Value.int .u8 0) := hR.cell 3
            have d4 : _ = some (Value.int .i32 0) := hR.cell 4
            clear hI hR
            go_wp2_with fail
            refine bodyPost_ret (v := .tuple #[.agg #[.int .u8 j.op, .int .u8 j.a, .int .u8 j.b, .int .u8 j.c, .int .i32 j.imm], .bool false]) (by simp [results, Tryd.results34, go_sem, d0, d1, d2, d3, d4]) rfl ⟨?_, ?_⟩
            · exact ⟨j, false, rfl, (fun h => by cases h), fun _ => HNo.out⟩
            · repeat (first | with_reducible exact ZR.out | with_reducible refine below_set ?_ (by omega) _)
          · by_cases n1 : nv < -2147483648
            · go_wp2_with fail
              (with_reducible refine (HCc.out _).mono ?_)
              rintro _ _ ⟨rfl, rfl⟩
              go_wp2_with fail
              (with_reducible refine (HNu.out _).mono ?_)
              rintro _ w3 ⟨rfl, b3⟩
              have HNo : Hid (fillR i L ps = none) := Lib.hid (by rw [HFi.out, if_neg (fun h => by have := (h.2 (by trivial)).1; omega)])
              have hI := HI.out.below b3
              have hR := HR.out.below b3
              have ZR := Lib.hid (HZ.out.trans (b3.mono HZ.out.size))
              clear b3 HI HR HZ
              obtain ⟨p0, p1, p2, p3, p4⟩ := hI.cells5
              have f0 := hR.froz 0
              have f1 := hR.froz 1
              have f2 := hR.froz 2
              have f3 := hR.froz 3
              have f4 := hR.froz 4
              have d0 : _ = some (Value.int .u8 0) := hR.cell 0
              have d1 : _ = some (Value.int .u8 0) := hR.cell 1
              have d2 : _ = some (Value.int .u8 0) := hR.cell 2
              have d3 : _ = some (Value.int .u8 0) := hR.cell 3
              have d4 : _ = some (Value.int .i32 0) := hR.cell 4
              clear hI hR
              go_wp2_with fail
              refine bodyPost_ret (v := .tuple #[.agg #[.int .u8 j.op, .int .u8 j.a, .int .u8 j.b, .int .u8 j.c, .int .i32 j.imm], .bool false]) (by simp [results, Tryd.results34, go_sem, d0, d1, d2, d3, d4]) rfl ⟨?_, ?_⟩
              · exact ⟨j, false, rfl, (fun h => by cases h), fun _ => HNo.out⟩
              · repeat (first | with_reducible exact ZR.out | with_reducible refine below_set ?_ (by omega) _)
            · by_cases n2 : 2147483647 < nv
              · go_wp2_with fail
                (with_reducible refine (HCc.out _).mono ?_)
                rintro _ _ ⟨rfl, rfl⟩
                go_wp2_with fail
                (with_reducible refine (HNu.out _).mono ?_)
                rintro _ w3 ⟨rfl, b3⟩
                have HNo : Hid (fillR i L ps = none) := Lib.hid (by rw [HFi.out, if_neg (fun h => by have := (h.2 (by trivial)).2; omega)])
                have hI := HI.out.below b3
                have hR := HR.out.below b3
                have ZR := Lib.hid (HZ.out.trans (b3.mono HZ.out.size))
                clear b3 HI HR HZ
                obtain ⟨p0, p1, p2, p3, p4⟩ := hI.cells5
                have f0 := hR.froz 0
                have f1 := hR.froz 1
                have f2 := hR.froz 2
                have f3 := hR.froz 3
                have f4 := hR.froz 4
                have d0 : _ = some (Value.int .u8 0) := hR.cell 0
                have d1 : _ = some (Value.int .u8 0) := hR.cell 1
                have d2 : _ = some (Value.int .u8 0) := hR.cell 2
                have d3 : _ = some (Value.int .u8 0) := hR.cell 3
                have d4 : _ = some (Value.int .i32 0) := hR.cell 4
                clear hI hR
                go_wp2_with fail
                refine bodyPost_ret (v := .tuple #[.agg #[.int .u8 j.op, .int .u8 j.a, .int .u8 j.b, .int .u8 j.c, .int .i32 j.imm], .bool false]) (by simp [results, Tryd.results34, go_sem, d0, d1, d2, d3, d4]) rfl ⟨?_, ?_⟩
                · exact ⟨j, false, rfl, (fun h => by cases h), fun _ => HNo.out⟩
                · repeat (first | with_reducible exact ZR.out | with_reducible refine below_set ?_ (by omega) _)
              · have m1 : -2147483648 ≤ nv := by omega
                have m2 : nv ≤ 2147483647 := by omega
                have hf := HFi.out
                rw [if_pos ⟨by trivial, fun _ => ⟨m1, m2⟩⟩] at hf
                have HF2 : Hid (fillR i L ps = fillR { j with imm := nv } (L.drop (k + 1)) (ps.drop (k + 1))) := Lib.hid hf
                obtain ⟨g1, g2, g3, g4, g5, g6⟩ := HJk.out
                have n3 : decide (nv < -2147483648) = false := decide_eq_false n1
                have n4 : decide ((2147483647 : Int) < nv) = false := decide_eq_false n2
                clear hf HFi
                go_wp2_with fail
                (with_reducible refine (HCc.out _).mono ?_)
                rintro _ _ ⟨rfl, rfl⟩
                go_wp2_with fail
                (with_reducible refine (HNu.out _).mono ?_)
                rintro _ w3 ⟨rfl, b3⟩
                have hI := HI.out.below b3
                have hR := HR.out.below b3
                have ZR := Lib.hid (HZ.out.trans (b3.mono HZ.out.size))
                clear b3 HI HR HZ
                have fz := hI.froz 4
                have cz : _ = some (Value.int .i32 j.imm) := hI.cell 4
                have HI4 := Lib.hid (hI.putI nv)
                have HR4 := Lib.hid hR
                clear hI hR
                go_wp2_with fail
                go_roundw
                case rel =>
                  exact ⟨k + 1, { j with imm := nv }, hlt, by go_num, HI4.out, HR4.out.other (by omega) _ _, ZR.out.setCell (Nat.le_refl _) _, Lib.hid ⟨⟨g1, g2, g3, g4, m1, m2⟩, HF2.out⟩⟩
                case measure => simp [intOf]; omega
        · have e1 : (S[k].toNat : Int) = 70 := by rw [hcs]; rfl
          rw [hcs] at hfi
          have HFi := Lib.hid hfi
          clear hfi hcs
          have HCc : Hid (∀ w, Calls Tryd.prog 35 #[.string ⟨#[65, 66, 67]⟩, .int .u8 70] w fun e w' => e = .returned (.bool false) ∧ w = w') := Lib.hid (fun w => HC.out 70 w)
          have hrg : regL 70 ≠ true := by decide
          rw [fr_num hrg] at HFi
          have HNu : Hid (∀ w, Calls Tryd.prog 48 #[.string P] w fun e w' => e = .returned (.tuple #[.int .i64 (numR p).1, .bool (numR p).2]) ∧ Below w.heap.size w w') := Lib.hid (fun w => by have := number_any P hPs w; rwa [hPl] at this)
          clear HC hrg hPl
          generalize numR p = NR at HFi HNu
          obtain ⟨nv, nb⟩ := NR
          dsimp only at HFi HNu
          cases nb
          · go_wp2_with fail
            (with_reducible refine (HCc.out _).mono ?_)
            rintro _ _ ⟨rfl, rfl⟩
            go_wp2_with fail
            (with_reducible refine (HNu.out _).mono ?_)
            rintro _ w3 ⟨rfl, b3⟩
            have HNo : Hid (fillR i L ps = none) := Lib.hid (by rw [HFi.out, if_neg (fun h => by cases h.1)])
            have hI := HI.out.below b3
            have hR := HR.out.below b3
            have ZR := Lib.hid (HZ.out.trans (b3.mono HZ.out.size))
            clear b3 HI HR HZ
            obtain ⟨p0, p1, p2, p3, p4⟩ := hI.cells5
            have f0 := hR.froz 0
            have f1 := hR.froz 1
            have f2 := hR.froz 2
            have f3 := hR.froz 3
            have f4 := hR.froz 4
            have d0 : _ = some (Value.int .u8 0) := hR.cell 0
            have d1 : _ = some (Value.int .u8 0) := hR.cell 1
            have d2 : _ = some (Value.int .u8 0) := hR.cell 2
            have d3 : _ = some (Value.int .u8 0) := hR.cell 3
            have d4 : _ = some (Value.int .i32 0) := hR.cell 4
            clear hI hR
            go_wp2_with fail
            refine bodyPost_ret (v := .tuple #[.agg #[.int .u8 j.op, .int .u8 j.a, .int .u8 j.b, .int .u8 j.c, .int .i32 j.imm], .bool false]) (by simp [results, Tryd.results34, go_sem, d0, d1, d2, d3, d4]) rfl ⟨?_, ?_⟩
            · exact ⟨j, false, rfl, (fun h => by cases h), fun _ => HNo.out⟩
            · repeat (first | with_reducible exact ZR.out | with_reducible refine below_set ?_ (by omega) _)
          · have hf := HFi.out
            rw [if_pos ⟨by trivial, fun h => absurd h (by decide)⟩] at hf
            have HF2 : Hid (fillR i L ps = fillR j (L.drop (k + 1)) (ps.drop (k + 1))) := Lib.hid hf
            clear hf HFi
            go_wp2_with fail
            (with_reducible refine (HCc.out _).mono ?_)
            rintro _ _ ⟨rfl, rfl⟩
            go_wp2_with fail
            (with_reducible refine (HNu.out _).mono ?_)
            rintro _ w3 ⟨rfl, b3⟩
            have hI := HI.out.below b3
            have hR := HR.out.below b3
            have ZR := Lib.hid (HZ.out.trans (b3.mono HZ.out.size))
            clear b3 HI HR HZ
            have HI4 := Lib.hid hI
            have HR4 := Lib.hid hR
            clear hI hR
            go_wp2_with fail
            go_roundw
            case rel =>
              exact ⟨k + 1, j, hlt, by go_num, HI4.out, HR4.out, ZR.out, Lib.hid ⟨HJk.out, HF2.out⟩⟩
            case measure => simp [intOf]; omega
      · obtain rfl : k = S.size := by omega
        have hdr : fillR j (L.drop S.size) (ps.drop S.size) = some j := by
          have h1 := HL.out
          have h2 := HM.out
          have h3 := HEq.out
          rw [List.drop_of_length_le (by omega), List.drop_of_length_le (by omega)]
          rfl
        have HYes := Lib.hid (hfi.trans hdr)
        have ZR := Lib.hid hbel
        have kI : ¬ (S.size : Int) < m := by have := HEq.out; omega
        clear hdr hfi hbel hjk
        obtain ⟨p0, p1, p2, p3, p4⟩ := hI.cells5
        have f0 := hR.froz 0
        have f1 := hR.froz 1
        have f2 := hR.froz 2
        have f3 := hR.froz 3
        have f4 := hR.froz 4
        have d0 : _ = some (Value.int .u8 0) := hR.cell 0
        have d1 : _ = some (Value.int .u8 0) := hR.cell 1
        have d2 : _ = some (Value.int .u8 0) := hR.cell 2
        have d3 : _ = some (Value.int .u8 0) := hR.cell 3
        have d4 : _ = some (Value.int .i32 0) := hR.cell 4
        clear hI hR
        go_wp2_with fail
        refine bodyPost_ret (v := .tuple #[.agg #[.int .u8 j.op, .int .u8 j.a, .int .u8 j.b, .int .u8 j.c, .int .i32 j.imm], .bool true]) (by simp [results, Tryd.results34, go_sem, d0, d1, d2, d3, d4]) rfl ⟨?_, ?_⟩
        · exact ⟨j, true, rfl, (fun _ => HYes.out), fun h => by cases h⟩
        · repeat (first | with_reducible exact ZR.out | with_reducible refine below_set ?_ (by omega) _)
  · have i1 : ((m : Int) != S.size) = true := by rw [bne_iff_ne]; omega
    have i2 : ¬ (m : Int) = S.size := by omega
    have HNo := Lib.hid (HLen.out (by rw [HL.out, ← HM.out]; exact hlen))
    have hI := H1.out
    have hR := H2.out
    have ZR := Z2
    clear H1 H2 Z2 hlen HLen
    obtain ⟨p0, p1, p2, p3, p4⟩ := hI.cells5
    have f0 := hR.froz 0
    have f1 := hR.froz 1
    have f2 := hR.froz 2
    have f3 := hR.froz 3
    have f4 := hR.froz 4
    have d0 : _ = some (Value.int .u8 0) := hR.cell 0
    have d1 : _ = some (Value.int .u8 0) := hR.cell 1
    have d2 : _ = some (Value.int .u8 0) := hR.cell 2
    have d3 : _ = some (Value.int .u8 0) := hR.cell 3
    have d4 : _ = some (Value.int .i32 0) := hR.cell 4
    clear hI hR
    go_wp2_with fail
    refine bodyPost_ret (v := .tuple #[.agg #[.int .u8 i.op, .int .u8 i.a, .int .u8 i.b, .int .u8 i.c, .int .i32 i.imm], .bool false]) (by simp [results, Tryd.results34, go_sem, d0, d1, d2, d3, d4]) rfl ⟨?_, ?_⟩
    · exact ⟨i, false, rfl, (fun h => by cases h), fun _ => HNo.out⟩
    · repeat (first | with_reducible exact ZR.out | with_reducible refine below_set ?_ (by omega) _)
end Go.Proofs.YtdmoiahaekooaaaDoor
