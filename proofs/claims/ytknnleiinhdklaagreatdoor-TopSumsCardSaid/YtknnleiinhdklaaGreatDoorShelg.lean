/-
  DERIVED: contracts of the shelf at this dump, in plain words, as the laying tool wrote them; those alone that are used.
-/
import Derived.Shelf.Strings.OnBuilder
import Derived.Shelf.Strings.Fields
import Derived.Shelf.LaysM
import Derived.Shelf.LaysC
import Derived.Test.YtknnleiinhdklaaGreatDoorShelf
namespace Go.Proofs
def Tryz.lays156_ren : Go.Shelf.Ren := ⟨fun | 156 => 119 | 165 => 135 | 166 => 116 | 169 => 83 | 240 => 134 | 241 => 146 | 276 => 145 | 277 => 157 | n => n, fun | 31 => 49 | 9 => 9 | 3 => 3 | 4 => 4 | 0 => 0 | 20 => 20 | 72 => 147 | 76 => 190 | 70 => 145 | 37 => 50 | 75 => 134 | 127 => 171 | 164 => 234 | 5 => 5 | 80 => 150 | n => n, fun | n => n⟩
theorem Tryz.lays156 : Go.Proofs.Lays.n156 Tryz.prog Tryz.lays156_ren := {
  mixed := by kernel_rfl
  f156 := Tryz.func119.trans (congrArg some (by kernel_rfl))
  f165 := Tryz.func135.trans (congrArg some (by kernel_rfl))
  f166 := Tryz.func116.trans (congrArg some (by kernel_rfl))
  f169 := Tryz.func83.trans (congrArg some (by kernel_rfl))
  f240 := Tryz.func134.trans (congrArg some (by kernel_rfl))
  f241 := Tryz.func146.trans (congrArg some (by kernel_rfl))
  f276 := Tryz.func145.trans (congrArg some (by kernel_rfl))
  f277 := Tryz.func157.trans (congrArg some (by kernel_rfl))
  t0 := Tryz.underlying0
  a0 := Tryz.isAgg0
  z0 := Tryz.sizeOf0
  v0 := Tryz.zeroValue0
  t3 := Tryz.underlying3
  a3 := Tryz.isAgg3
  z3 := Tryz.sizeOf3
  v3 := Tryz.zeroValue3
  t4 := Tryz.underlying4
  a4 := Tryz.isAgg4
  z4 := Tryz.sizeOf4
  v4 := Tryz.zeroValue4
  t9 := Tryz.underlying9
  a9 := Tryz.isAgg9
  z9 := Tryz.sizeOf9
  v9 := Tryz.zeroValue9
  t20 := Tryz.underlying20
  a20 := Tryz.isAgg20
  z20 := Tryz.sizeOf20
  v20 := Tryz.zeroValue20
  t31 := Tryz.underlying49
  a31 := Tryz.isAgg49
  z31 := Tryz.sizeOf49
  v31 := Tryz.zeroValue49
  t37 := Tryz.underlying50
  a37 := Tryz.isAgg50
  z37 := Tryz.sizeOf50
  v37 := Tryz.zeroValue50
  t70 := Tryz.underlying145
  a70 := Tryz.isAgg145
  z70 := Tryz.sizeOf145
  v70 := Tryz.zeroValue145
  t72 := Tryz.underlying147
  a72 := Tryz.isAgg147
  z72 := Tryz.sizeOf147
  v72 := Tryz.zeroValue147
  t75 := Tryz.underlying134
  a75 := Tryz.isAgg134
  z75 := Tryz.sizeOf134
  v75 := Tryz.zeroValue134
  t76 := Tryz.underlying190
  a76 := Tryz.isAgg190
  z76 := Tryz.sizeOf190
  v76 := Tryz.zeroValue190
  t127 := Tryz.underlying171
  a127 := Tryz.isAgg171
  z127 := Tryz.sizeOf171
  v127 := Tryz.zeroValue171
  t164 := Tryz.underlying234
  a164 := Tryz.isAgg234
  z164 := Tryz.sizeOf234
  v164 := Tryz.zeroValue234 }
theorem Tryz.Builder_Extra_156 : Builder.Extra Tryz.prog Tryz.lays156_ren := {
  sizeBuilder := by kernel_rfl
  liesBuilder := by kernel_rfl
  t5 := Tryz.underlying5
  a5 := Tryz.isAgg5
  z5 := Tryz.sizeOf5
  v5 := Tryz.zeroValue5
  infoByte := by kernel_rfl
  cellsByte := by kernel_rfl
  sizeByte := by kernel_rfl
  neB5 := by decide }
open Go.RowKit in
/-- strings.Join: "Join concatenates the elements of its first argument to create a single string. The separator string sep is placed between elements in the resulting string.": HOWEVER MANY ELEMENTS. Below the heap's end the world is as it was. (LAID: no walk: one application.) -/
theorem Tryz.strings_Join (bk o c : Nat) (xs : List ByteArray) (sep : ByteArray) (w : World) (hcells : ∀ (j : Nat) x, xs[j]? = some x → w.cell? ⟨bk, o + j, none⟩ = some (.string x)) (hbk : bk < w.heap.size) (hN : xs.length ≤ 140737488355328) (hcap : xs.length ≤ c) (hlen : (Lib.join (xs.map (·.data.toList)) sep.data.toList).length ≤ 140737488355328) :
    Calls Tryz.prog 119 #[.slice (some ⟨bk, o, none⟩) xs.length c, .string sep] w fun e w' => e = .returned (.string ⟨(Lib.join (xs.map (·.data.toList)) sep.data.toList).toArray⟩) ∧ Below w.heap.size w w' := Any.strings_Join Tryz.lays156 Tryz.Builder_Extra_156 bk o c xs sep w hcells hbk hN hcap hlen
def Tryz.lays157_ren : Go.Shelf.Ren := ⟨fun | 157 => 98 | 229 => 113 | 199 => 114 | 261 => 129 | 311 => 137 | 312 => 138 | n => n, fun | 9 => 9 | 31 => 49 | 3 => 3 | 5 => 5 | 4 => 4 | 119 => 186 | 0 => 0 | 40 => 188 | 152 => 207 | 21 => 21 | 154 => 209 | 51 => 210 | 141 => 212 | 196 => 223 | 193 => 220 | 198 => 225 | 49 => 35 | 194 => 221 | 201 => 228 | 226 => 236 | 46 => 182 | 227 => 237 | n => n, fun | 0 => 0 | 6 => 4 | n => n⟩
theorem Tryz.lays157 : Go.Proofs.Lays.n157 Tryz.prog Tryz.lays157_ren := {
  mixed := by kernel_rfl
  f157 := Tryz.func98.trans (congrArg some (by kernel_rfl))
  f199 := Tryz.func114.trans (congrArg some (by kernel_rfl))
  f229 := Tryz.func113.trans (congrArg some (by kernel_rfl))
  f261 := Tryz.func129.trans (congrArg some (by kernel_rfl))
  f311 := Tryz.func137.trans (congrArg some (by kernel_rfl))
  f312 := Tryz.func138.trans (congrArg some (by kernel_rfl))
  t0 := Tryz.underlying0
  a0 := Tryz.isAgg0
  z0 := Tryz.sizeOf0
  v0 := Tryz.zeroValue0
  t3 := Tryz.underlying3
  a3 := Tryz.isAgg3
  z3 := Tryz.sizeOf3
  v3 := Tryz.zeroValue3
  t4 := Tryz.underlying4
  a4 := Tryz.isAgg4
  z4 := Tryz.sizeOf4
  v4 := Tryz.zeroValue4
  t5 := Tryz.underlying5
  a5 := Tryz.isAgg5
  z5 := Tryz.sizeOf5
  v5 := Tryz.zeroValue5
  t9 := Tryz.underlying9
  a9 := Tryz.isAgg9
  z9 := Tryz.sizeOf9
  v9 := Tryz.zeroValue9
  t21 := Tryz.underlying21
  a21 := Tryz.isAgg21
  z21 := Tryz.sizeOf21
  v21 := Tryz.zeroValue21
  t31 := Tryz.underlying49
  a31 := Tryz.isAgg49
  z31 := Tryz.sizeOf49
  v31 := Tryz.zeroValue49
  t40 := Tryz.underlying188
  a40 := Tryz.isAgg188
  z40 := Tryz.sizeOf188
  v40 := Tryz.zeroValue188
  t46 := Tryz.underlying182
  a46 := Tryz.isAgg182
  z46 := Tryz.sizeOf182
  v46 := Tryz.zeroValue182
  t49 := Tryz.underlying35
  a49 := Tryz.isAgg35
  z49 := Tryz.sizeOf35
  v49 := Tryz.zeroValue35
  t51 := Tryz.underlying210
  a51 := Tryz.isAgg210
  z51 := Tryz.sizeOf210
  v51 := Tryz.zeroValue210
  t119 := Tryz.underlying186
  a119 := Tryz.isAgg186
  z119 := Tryz.sizeOf186
  t141 := Tryz.underlying212
  a141 := Tryz.isAgg212
  z141 := Tryz.sizeOf212
  v141 := Tryz.zeroValue212
  t152 := Tryz.underlying207
  a152 := Tryz.isAgg207
  z152 := Tryz.sizeOf207
  v152 := Tryz.zeroValue207
  t154 := Tryz.underlying209
  a154 := Tryz.isAgg209
  z154 := Tryz.sizeOf209
  v154 := Tryz.zeroValue209
  t193 := Tryz.underlying220
  a193 := Tryz.isAgg220
  z193 := Tryz.sizeOf220
  v193 := Tryz.zeroValue220
  t194 := Tryz.underlying221
  a194 := Tryz.isAgg221
  z194 := Tryz.sizeOf221
  v194 := Tryz.zeroValue221
  t196 := Tryz.underlying223
  a196 := Tryz.isAgg223
  z196 := Tryz.sizeOf223
  v196 := Tryz.zeroValue223
  t198 := Tryz.underlying225
  a198 := Tryz.isAgg225
  z198 := Tryz.sizeOf225
  v198 := Tryz.zeroValue225
  t201 := Tryz.underlying228
  a201 := Tryz.isAgg228
  z201 := Tryz.sizeOf228
  v201 := Tryz.zeroValue228
  t226 := Tryz.underlying236
  a226 := Tryz.isAgg236
  z226 := Tryz.sizeOf236
  v226 := Tryz.zeroValue236
  t227 := Tryz.underlying237
  a227 := Tryz.isAgg237
  z227 := Tryz.sizeOf237
  v227 := Tryz.zeroValue237
  g0 := by kernel_rfl
  g6 := by kernel_rfl }
open Go.RowKit Go.Lib in
/-- strings.Fields, the table by 'Lib.TabIs' (as strings.TrimSpace's contract). 'hg': the table's number, by its name: at a dump 'by kernel_rfl'. (LAID: no walk: one application.) -/
theorem Tryz.strings_Fields (s : ByteArray) (w : World) (hs : s.size < 4294967281) (hascii : ∀ (j : Nat) b, s.data.toList[j]? = some b → b.toNat < 128) (htab : Lib.TabIs Tryz.prog w "strings.asciiSpace" .u8 Lib.asciiSpaceTab) :
    Calls Tryz.prog 98 #[.string s] w fun e w' =>
      e = .returned (.slice (some ⟨w.heap.size, 0, none⟩) (Lib.fields s.data.toList).length (Lib.fields s.data.toList).length) ∧ w' = w.alloc (.cells ((Lib.fields s.data.toList).map fun l => Value.string ⟨l.toArray⟩).toArray 9) := Any.strings_Fields Tryz.lays157 (by kernel_rfl) (by kernel_rfl) s w hs hascii htab
end Go.Proofs
