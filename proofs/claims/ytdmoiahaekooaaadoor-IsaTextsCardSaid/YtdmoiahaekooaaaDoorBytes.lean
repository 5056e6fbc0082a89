/-
  Of no program: a slice of one-cell elements that the call made (by append or by a conversion): what it reads; that one may append to it; bytes out of a string and back. No condition.
-/
import Derived.Test.YtdmoiahaekooaaaDoorPlain
import Derived.ArgAppend
import Derived.Below
import Derived.Deep.Onto
import Derived.Laws.IdiomStrings
import Derived.Laws.BytesArg
import Derived.Lib.AppendStr
namespace Go.Proofs.YtdmoiahaekooaaaDoor
open Go Go.RowKit

/-- The value is nil and there is nothing; or it lies in a block from 'base' on, reads xs, and all its cells may be written. -/
def RowS (w : World) (base : Nat) (v : Value) (xs : List Value) : Prop :=
  (v = .slice none 0 0 ∧ xs = []) ∨
  ∃ g cap, v = .slice (some ⟨g, 0, none⟩) xs.length cap ∧ base ≤ g ∧ g < w.heap.size ∧ xs.length ≤ cap ∧ cap ≤ maxLen ∧
    (∀ j u, xs[j]? = some u → w.cell? ⟨g, j, none⟩ = some u) ∧ (∀ j, j < cap → (w.cell? ⟨g, j, none⟩).isSome = true ∧ w.frozen? ⟨g, j, none⟩ = false)
theorem RowS.nil (w : World) (base : Nat) : RowS w base (.slice none 0 0) [] := .inl ⟨rfl, rfl⟩
theorem RowS.form {w : World} {base : Nat} {v : Value} {xs : List Value} (h : RowS w base v xs) : ∃ a cap, v = .slice a xs.length cap := by
  rcases h with ⟨rfl, rfl⟩ | ⟨g, cap, rfl, _⟩
  · exact ⟨_, _, rfl⟩
  · exact ⟨_, _, rfl⟩
theorem RowS.of_own {w : World} {base n : Nat} {e : TypeId} {v : Value} {xs : List Value} (h : w.ownsRow base e 1 v n xs) : RowS w base v xs := by
  have h0 := h
  have hl := h.1
  rw [Nat.mul_one] at hl
  rcases h.2 with ⟨rfl, hn⟩ | ⟨g, cap, cur, rfl, hb, hg, hc, hm, hs, ht⟩
  · exact .inl ⟨rfl, List.eq_nil_of_length_eq_zero (by omega)⟩
  · refine .inr ⟨g, cap, by rw [hl], hb, (Array.getElem?_eq_some_iff.1 hg).1, by omega, hm, ?_, ?_⟩
    · intro j u hu
      have := h0.cells (g := g) rfl j u hu
      rwa [Addr.add_lit, Nat.zero_add] at this
    · intro j hj
      have hcell := cell_of_row w g j cur e (0, 0) hg
      refine ⟨?_, ?_⟩
      · rw [hcell, Array.getElem?_eq_getElem (by omega)]; rfl
      · simp [World.frozen?, hg]
theorem RowS.kept {w w' : World} {base : Nat} {v : Value} {xs : List Value} (h : RowS w base v xs) (hs : w.heap.size ≤ w'.heap.size) (hb : ∀ k, base ≤ k → k < w.heap.size → w'.heap[k]? = w.heap[k]?) : RowS w' base v xs := by
  rcases h with ⟨rfl, rfl⟩ | ⟨g, cap, rfl, h1, h2, h3, h4, h5, h6⟩
  · exact .nil _ _
  · have hg := hb g h1 h2
    refine .inr ⟨g, cap, rfl, h1, Nat.lt_of_lt_of_le h2 hs, h3, h4, fun j u hu => (World.cell?_of_block (a := ⟨g, j, none⟩) hg).trans (h5 j u hu), fun j hj => ?_⟩
    rw [World.cell?_of_block (a := ⟨g, j, none⟩) hg, World.frozen?_of_block (a := ⟨g, j, none⟩) hg]
    exact h6 j hj
theorem RowS.below {w w' : World} {base : Nat} {v : Value} {xs : List Value} (h : RowS w base v xs) (hb : Below w.heap.size w w') : RowS w' base v xs :=
  h.kept hb.size fun k _ hk => hb.block k hk
theorem RowS.alloc {w : World} {base : Nat} {v : Value} {xs : List Value} (h : RowS w base v xs) (o : Obj) : RowS (w.alloc o) base v xs :=
  h.below ((Below.refl _ _).alloc (Nat.le_refl _) o)
theorem below_cells {B b : Nat} {a : World} (hb : B ≤ b) : ∀ (vs : List Value) (o : Nat) (w : World), Below B a w → Below B a (w.setCells b o vs)
  | [], _, _, h => h
  | v :: r, o, _, h => below_cells hb r (o + 1) _ (h.setCell (p := ⟨b, o, none⟩) hb v)
theorem isSome_cells (b : Nat) : ∀ (vs : List Value) (o : Nat) (w : World) (x : Addr), (w.cell? x).isSome = true → ((w.setCells b o vs).cell? x).isSome = true
  | [], _, _, _, h => h
  | v :: r, o, w, x, h => by
    refine isSome_cells b r (o + 1) _ x ?_
    by_cases hx : x = ⟨b, o, none⟩
    · subst hx
      obtain ⟨u, hu⟩ := Option.isSome_iff_exists.1 h
      rw [World.cell?_setCell_same w ⟨b, o, none⟩ v hu]; rfl
    · rw [World.cell?_setCell_other w ⟨b, o, none⟩ x v (fun e => hx e.symm)]; exact h

section
variable {P : Program}
theorem run_append_rowS (w : World) (t ty e : TypeId) (i : TypeInfo) (z : Value) (bytes : Nat) (ht : P.underlying t = some (.slice e)) (hi : P.info? e = some i) (hz : i.zero = some z)
    (hsize : i.size = 1) (hby : i.bytes = bytes) (hzs : z.cells.size = 1) {base : Nat} {v : Value} {xs : List Value} (h : RowS w base v xs)
    (ad : Addr) (m c : Nat) (news : List Value) (hl : news.length = m) (hnews : ∀ j u, news[j]? = some u → w.cell? (ad.add j) = some u) (h1 : ∀ u ∈ news, u.oneCell' = true)
    (h63 : xs.length + m ≤ maxLen) (hbytes : (xs.length + m) * bytes ≤ 140737488355328) (hbase : base ≤ w.heap.size) :
    ∃ v' w', (Builtin.append_ #[t, t] ty #[v, .slice (some ad) m c]).run P w = .ok v' w' ∧ RowS w' base v' (xs ++ news) ∧ Below base w w' := by
  rcases h with ⟨rfl, rfl⟩ | ⟨g, cap, rfl, g1, g2, g3, g4, g5, g6⟩
  · obtain ⟨v', w', r1, r2, r3, _⟩ := run_append_own (P := P) w base t ty e i z 1 bytes ht hi hz hsize hby hzs (by decide) (.slice none 0 0) 0 [] (World.ownsRow_nil w base e 1) ad m c news (by omega) hnews h1 (by simpa using h63) (by simpa using hbytes) hbase
    exact ⟨v', w', r1, .of_own r2, (Below.refl _ _).grown r3 hbase (by simp [Value.ownBlock])⟩
  · by_cases hroom : xs.length + m ≤ cap
    · have hsp : ∀ j, j < news.length → (w.cell? ⟨g, 0 + xs.length * i.size + j, none⟩).isSome = true ∧ w.frozen? ⟨g, 0 + xs.length * i.size + j, none⟩ = false := fun j hj => by
        rw [hsize, Nat.mul_one, Nat.zero_add]
        exact g6 _ (by omega)
      have hr := run_append_room_cells (P := P) w t ty e i ht hi g 0 xs.length cap ad m c news (by rw [hsize]; omega) hnews h1 hroom (fun j hj => (hsp j hj).1) (fun j hj => (hsp j hj).2)
      rw [hsize, Nat.mul_one, Nat.zero_add] at hr
      refine ⟨_, _, hr, .inr ⟨g, cap, by rw [List.length_append, hl], g1, ?_, by rw [List.length_append]; omega, g4, ?_, ?_⟩, below_cells g1 _ _ _ (Below.refl _ _)⟩
      · have := (below_cells (Nat.le_refl g) news xs.length w (Below.refl g w)).size
        omega
      · intro j u hu
        by_cases hj : j < xs.length
        · rw [List.getElem?_append_left hj] at hu
          rw [World.cell?_setCells_out g news xs.length w ⟨g, j, none⟩ (fun _ _ => .inl hj)]
          exact g5 j u hu
        · rw [List.getElem?_append_right (by omega)] at hu
          have hj2 : j - xs.length < news.length := (List.getElem?_eq_some_iff.1 hu).1
          have := World.cell?_setCells_in g news xs.length w (fun q hq => (g6 _ (by omega)).1) (j - xs.length) hj2
          rw [show xs.length + (j - xs.length) = j by omega] at this
          rw [this, ← hu, List.getElem?_eq_getElem hj2]
      · intro j hj
        exact ⟨isSome_cells g _ _ _ _ (g6 j hj).1, by rw [World.frozen?_setCells]; exact (g6 j hj).2⟩
    · obtain ⟨v', w', hr, r1, r2⟩ := run_append_arg_grows (P := P) w t ty e i z 1 bytes ht hi hz hsize hby hzs (by decide) ⟨g, 0, none⟩ xs.length cap xs (by omega) (fun j u hu => by rw [Addr.add_lit, Nat.zero_add]; exact g5 j u hu) ad m c news (by omega) hnews (by omega) h63 hbytes
      refine ⟨v', w', hr, .of_own (r1.mono hbase), (Below.refl _ _).grown r2 hbase (by simp)⟩
theorem wpList_append_rowS (w : World) {ops : Array Oper} {rest : List Oper} {o : Oper} {a : Act} {Q : Exit → Act → World → Prop} (hgd : o.guard = none) (s x : Operand) (t : TypeId)
    (ho : o.op = .call { callee := .builtin .append, args := #[s, x], argTypes := #[t, t] })
    (e : TypeId) (i : TypeInfo) (z : Value) (bytes : Nat) (ht : P.underlying t = some (.slice e)) (hi : P.info? e = some i) (hz : i.zero = some z)
    (hsize : i.size = 1) (hby : i.bytes = bytes) (hzs : z.cells.size = 1) {base : Nat} {v : Value} {xs : List Value} (hs : a.eval s = v) (h : RowS w base v xs)
    (ad : Addr) (m c : Nat) (news : List Value) (hx : a.eval x = .slice (some ad) m c) (hl : news.length = m) (hnews : ∀ j u, news[j]? = some u → w.cell? (ad.add j) = some u) (h1 : ∀ u ∈ news, u.oneCell' = true)
    (h63 : xs.length + m ≤ maxLen) (hbytes : (xs.length + m) * bytes ≤ 140737488355328) (hbase : base ≤ w.heap.size)
    (hK : ∀ v' w', RowS w' base v' (xs ++ news) → Below base w w' → wpList P ops Q rest (a.put o.dst v') w') : wpList P ops Q (o :: rest) a w := by
  refine wpList_plain hgd fun K hK' => ?_
  obtain ⟨v', w', hrun, r1, r2⟩ := run_append_rowS (P := P) w t o.type e i z bytes ht hi hz hsize hby hzs h ad m c news hl hnews h1 h63 hbytes hbase
  unfold Oper.wp
  simp [execOp, ho, resolve, invoke, builtin, hs, hx, hrun, Result.andThen]
  exact hK' _ _ (hK v' w' r1 r2)

/-! ### bytes and strings -/
def byteV (b : UInt8) : Value := .int .u8 b.toNat
theorem byteV_one (l : List UInt8) : ∀ u ∈ l.map byteV, u.oneCell' = true := by
  intro u hu
  obtain ⟨b, _, rfl⟩ := List.mem_map.1 hu
  rfl
theorem run_bytes_rowS (w : World) (src dst e : TypeId) (s : ByteArray) (hs : P.underlying src = some .string) (hd : P.underlying dst = some (.slice e)) (he : P.underlying e = some (.int .u8)) (h63 : s.size ≤ maxLen) :
    ∃ v' w', (convert src dst (.string s)).run P w = .ok v' w' ∧ RowS w' w.heap.size v' (s.data.toList.map byteV) ∧ Below w.heap.size w w' := by
  have hge := grownCap_ge w s.size 0 e
  have hcm : grownCap w s.size 0 e ≤ maxLen := grownCap_le_maxLen w s.size 0 e h63
  refine ⟨_, _, run_bytes_of_string (P := P) w src dst e s hs hd he, .inr ⟨w.heap.size, grownCap w s.size 0 e, by rw [List.length_map]; rfl, Nat.le_refl _, by simp, by rw [List.length_map]; exact hge, hcm, ?_, ?_⟩, ?_⟩
  · intro j u hu
    have hj : j < s.data.size := by
      have := (List.getElem?_eq_some_iff.1 hu).1
      simpa using this
    have hb : (w.drew.alloc (.cells (bytesRow s (grownCap w s.size 0 e)) e ((bytesRow s (grownCap w s.size 0 e)).size, (bytesRow s (grownCap w s.size 0 e)).size + 1))).heap[w.heap.size]? = some (.cells (bytesRow s (grownCap w s.size 0 e)) e ((bytesRow s (grownCap w s.size 0 e)).size, (bytesRow s (grownCap w s.size 0 e)).size + 1)) := heap_alloc_new w.drew _
    rw [cell_of_row _ _ _ _ _ _ hb]
    unfold bytesRow
    rw [Array.getElem?_append_left (by simpa using hj)]
    rw [← hu]
    simp
    rfl
  · intro j hj
    have hb : (w.drew.alloc (.cells (bytesRow s (grownCap w s.size 0 e)) e ((bytesRow s (grownCap w s.size 0 e)).size, (bytesRow s (grownCap w s.size 0 e)).size + 1))).heap[w.heap.size]? = some (.cells (bytesRow s (grownCap w s.size 0 e)) e ((bytesRow s (grownCap w s.size 0 e)).size, (bytesRow s (grownCap w s.size 0 e)).size + 1)) := heap_alloc_new w.drew _
    have hsz : (bytesRow s (grownCap w s.size 0 e)).size = grownCap w s.size 0 e := by
      unfold bytesRow
      simp
      have : s.data.size = s.size := rfl
      omega
    rw [cell_of_row _ _ _ _ _ _ hb]
    refine ⟨by rw [Array.getElem?_eq_getElem (by omega)]; rfl, ?_⟩
    unfold World.frozen?
    rw [hb]
    simp
    omega
  · exact ((Below.refl _ _).drew).alloc (Nat.le_refl _) _
theorem wpList_bytes_rowS (w : World) {ops : Array Oper} {rest : List Oper} {o : Oper} {a : Act} {Q : Exit → Act → World → Prop} (hgd : o.guard = none) (src dst : TypeId) (x : Operand)
    (ho : o.op = .convert src dst x) (e : TypeId) (s : ByteArray) (hs : P.underlying src = some .string) (hd : P.underlying dst = some (.slice e)) (he : P.underlying e = some (.int .u8)) (hx : a.eval x = .string s) (h63 : s.size ≤ maxLen)
    (hK : ∀ v' w', RowS w' w.heap.size v' (s.data.toList.map byteV) → Below w.heap.size w w' → wpList P ops Q rest (a.put o.dst v') w') : wpList P ops Q (o :: rest) a w := by
  refine wpList_plain hgd fun K hK' => ?_
  obtain ⟨v', w', hrun, r1, r2⟩ := run_bytes_rowS (P := P) w src dst e s hs hd he h63
  unfold Oper.wp
  simp [execOp, ho, hx, hrun, Result.andThen]
  exact hK' _ _ (hK v' w' r1 r2)
theorem run_string_rowS (w : World) (src dst e : TypeId) {base : Nat} {v : Value} {l : List UInt8} (h : RowS w base v (l.map byteV)) (hs : P.underlying src = some (.slice e)) (he : P.underlying e = some (.int .u8)) (hd : P.underlying dst = some .string) :
    (convert src dst v).run P w = .ok (.string (mkS l)) w := by
  rcases h with ⟨rfl, hl⟩ | ⟨g, cap, rfl, _, _, _, _, g5, _⟩
  · have : l = [] := by simpa using hl
    subst this
    exact run_convert_bytes_nil w src e hs he 0 0 dst hd
  · rw [List.length_map]
    refine run_convert_bytes_back w src dst e ⟨g, 0, none⟩ cap l hs he hd fun j hj => ?_
    rw [Addr.add_lit, Nat.zero_add]
    exact g5 j _ (by rw [List.getElem?_map, List.getElem?_eq_getElem hj]; rfl)
theorem wpList_string_rowS (w : World) {ops : Array Oper} {rest : List Oper} {o : Oper} {a : Act} {Q : Exit → Act → World → Prop} (hgd : o.guard = none) (src dst : TypeId) (x : Operand)
    (ho : o.op = .convert src dst x) (e : TypeId) {base : Nat} {v : Value} {l : List UInt8} (h : RowS w base v (l.map byteV)) (hs : P.underlying src = some (.slice e)) (he : P.underlying e = some (.int .u8)) (hd : P.underlying dst = some .string) (hx : a.eval x = v)
    (hK : wpList P ops Q rest (a.put o.dst (.string (mkS l))) w) : wpList P ops Q (o :: rest) a w := by
  refine wpList_plain hgd fun K hK' => ?_
  unfold Oper.wp
  simp [execOp, ho, hx, run_string_rowS (P := P) w src dst e h hs he hd, Result.andThen]
  exact hK' _ _ hK
end
end Go.Proofs.YtdmoiahaekooaaaDoor
