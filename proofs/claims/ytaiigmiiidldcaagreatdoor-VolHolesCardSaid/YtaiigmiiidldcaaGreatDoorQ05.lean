/- DERIVED: THE SHELF's CONTRACTS AT THIS DUMP, IN PLAIN WORDS (tools/lay-plain.mjs out of 'TryzShelf.lean', which tools/lay-shelf.mjs wrote): THE SAME DECLARATIONS UNDER THE SAME NAMES: 'import', 'namespace', 'open', 'def', 'theorem' AND NOTHING ELSE: no command of the shelf's: FOR A HAND-IN. Each laying: the table of numbers ('.._ren') and one theorem, a field a fact of the dump's own or the kernel's comparison; each contract: ONE APPLICATION. -/
import Derived.Shelf.Small.Bits
import Derived.Shelf.Small.Wraps
import Derived.Shelf.Strings.Search1
import Derived.Shelf.Strings.Search2
import Derived.Shelf.Strings.Search3
import Derived.Shelf.Strings.Count
import Derived.Shelf.Strings.Split
import Derived.Shelf.Slices.Clone
import Derived.Test.YtaiigmiiidldcaaGreatDoorProg
set_option linter.unusedSimpArgs false
set_option linter.unusedVariables false
namespace Go.Proofs
open Go.Shelf
def Tryz.lays144_ren : Go.Shelf.Ren := ⟨fun | 144 => 203 | 143 => 255 | 219 => 294 | 217 => 315 | 225 => 316 | 224 => 317 | 267 => 318 | 266 => 329 | 314 => 330 | n => n, fun | 9 => 9 | 4 => 4 | 3 => 3 | 5 => 5 | 46 => 225 | 146 => 375 | 51 => 302 | n => n, fun | 1 => 25 | n => n⟩
theorem Tryz.lays144 : Go.Proofs.Lays.n144 Tryz.prog Tryz.lays144_ren := {
  mixed := by kernel_rfl
  f143 := Tryz.func255.trans (congrArg some (by kernel_rfl))
  f144 := Tryz.func203.trans (congrArg some (by kernel_rfl))
  f217 := Tryz.func315.trans (congrArg some (by kernel_rfl))
  f219 := Tryz.func294.trans (congrArg some (by kernel_rfl))
  f224 := Tryz.func317.trans (congrArg some (by kernel_rfl))
  f225 := Tryz.func316.trans (congrArg some (by kernel_rfl))
  f266 := Tryz.func329.trans (congrArg some (by kernel_rfl))
  f267 := Tryz.func318.trans (congrArg some (by kernel_rfl))
  f314 := Tryz.func330.trans (congrArg some (by kernel_rfl))
  t3 := Tryz.underlying3
  a3 := Tryz.isAgg3
  z3 := Tryz.sizeOf3
  v3 := Tryz.zeroValue3
  t4 := Tryz.underlying4
  a4 := Tryz.isAgg4
  z4 := Tryz.sizeOf4
  v4 := Tryz.zeroValue4
  t5 := Tryz.underlying5
  a5 := Tryz.isAgg5
  z5 := Tryz.sizeOf5
  v5 := Tryz.zeroValue5
  t9 := Tryz.underlying9
  a9 := Tryz.isAgg9
  z9 := Tryz.sizeOf9
  v9 := Tryz.zeroValue9
  t46 := Tryz.underlying225
  a46 := Tryz.isAgg225
  z46 := Tryz.sizeOf225
  v46 := Tryz.zeroValue225
  t51 := Tryz.underlying302
  a51 := Tryz.isAgg302
  z51 := Tryz.sizeOf302
  v51 := Tryz.zeroValue302
  t146 := Tryz.underlying375
  a146 := Tryz.isAgg375
  z146 := Tryz.sizeOf375
  v146 := Tryz.zeroValue375
  g1 := by kernel_rfl }
open Go.RowKit Go.Lib in
/-- strings.Contains: "Contains reports whether substr is within s.": AT A substr OF ONE BYTE c: IT RETURNS 'decide (0 ≤ Lib.indexByte s c)'; the world is as it was. (LAID: no walk: one application.) -/
theorem Tryz.strings_Contains_one (s : ByteArray) (c : UInt8) (w : World) :
    Calls Tryz.prog 203 #[.string s, .string ⟨#[c]⟩] w fun e w' => e = .returned (.bool (decide (0 ≤ Lib.indexByte s.data.toList c))) ∧ w' = w := Any.strings_Contains_one Tryz.lays144 s c w
def Tryz.lays146_ren : Go.Shelf.Ren := ⟨fun | 146 => 204 | 221 => 256 | 268 => 295 | 138 => 296 | 143 => 255 | 195 => 319 | 197 => 320 | 218 => 321 | 219 => 294 | 260 => 331 | 217 => 315 | 225 => 316 | 224 => 317 | 267 => 318 | 266 => 329 | 314 => 330 | n => n, fun | 9 => 9 | 31 => 62 | 3 => 3 | 4 => 4 | 0 => 0 | 105 => 370 | 21 => 21 | 5 => 5 | 46 => 225 | 119 => 380 | 139 => 383 | 138 => 382 | 146 => 375 | 51 => 302 | n => n, fun | 1 => 25 | 3 => 28 | 4 => 29 | n => n⟩
theorem Tryz.lays146 : Go.Proofs.Lays.n146 Tryz.prog Tryz.lays146_ren := {
  mixed := by kernel_rfl
  f138 := Tryz.func296.trans (congrArg some (by kernel_rfl))
  f143 := Tryz.func255.trans (congrArg some (by kernel_rfl))
  f146 := Tryz.func204.trans (congrArg some (by kernel_rfl))
  f195 := Tryz.func319.trans (congrArg some (by kernel_rfl))
  f197 := Tryz.func320.trans (congrArg some (by kernel_rfl))
  f217 := Tryz.func315.trans (congrArg some (by kernel_rfl))
  f218 := Tryz.func321.trans (congrArg some (by kernel_rfl))
  f219 := Tryz.func294.trans (congrArg some (by kernel_rfl))
  f221 := Tryz.func256.trans (congrArg some (by kernel_rfl))
  f224 := Tryz.func317.trans (congrArg some (by kernel_rfl))
  f225 := Tryz.func316.trans (congrArg some (by kernel_rfl))
  f260 := Tryz.func331.trans (congrArg some (by kernel_rfl))
  f266 := Tryz.func329.trans (congrArg some (by kernel_rfl))
  f267 := Tryz.func318.trans (congrArg some (by kernel_rfl))
  f268 := Tryz.func295.trans (congrArg some (by kernel_rfl))
  f314 := Tryz.func330.trans (congrArg some (by kernel_rfl))
  t0 := Tryz.underlying0
  a0 := Tryz.isAgg0
  z0 := Tryz.sizeOf0
  v0 := Tryz.zeroValue0
  t3 := Tryz.underlying3
  a3 := Tryz.isAgg3
  z3 := Tryz.sizeOf3
  v3 := Tryz.zeroValue3
  t4 := Tryz.underlying4
  a4 := Tryz.isAgg4
  z4 := Tryz.sizeOf4
  v4 := Tryz.zeroValue4
  t5 := Tryz.underlying5
  a5 := Tryz.isAgg5
  z5 := Tryz.sizeOf5
  v5 := Tryz.zeroValue5
  t9 := Tryz.underlying9
  a9 := Tryz.isAgg9
  z9 := Tryz.sizeOf9
  v9 := Tryz.zeroValue9
  t21 := Tryz.underlying21
  a21 := Tryz.isAgg21
  z21 := Tryz.sizeOf21
  v21 := Tryz.zeroValue21
  t31 := Tryz.underlying62
  a31 := Tryz.isAgg62
  z31 := Tryz.sizeOf62
  v31 := Tryz.zeroValue62
  t46 := Tryz.underlying225
  a46 := Tryz.isAgg225
  z46 := Tryz.sizeOf225
  v46 := Tryz.zeroValue225
  t51 := Tryz.underlying302
  a51 := Tryz.isAgg302
  z51 := Tryz.sizeOf302
  v51 := Tryz.zeroValue302
  t105 := Tryz.underlying370
  a105 := Tryz.isAgg370
  z105 := Tryz.sizeOf370
  v105 := Tryz.zeroValue370
  t119 := Tryz.underlying380
  a119 := Tryz.isAgg380
  z119 := Tryz.sizeOf380
  t138 := Tryz.underlying382
  a138 := Tryz.isAgg382
  z138 := Tryz.sizeOf382
  v138 := Tryz.zeroValue382
  t139 := Tryz.underlying383
  a139 := Tryz.isAgg383
  z139 := Tryz.sizeOf383
  v139 := Tryz.zeroValue383
  t146 := Tryz.underlying375
  a146 := Tryz.isAgg375
  z146 := Tryz.sizeOf375
  v146 := Tryz.zeroValue375
  g1 := by kernel_rfl
  g3 := by kernel_rfl
  g4 := by kernel_rfl }
open Go.RowKit Go.Lib in
/-- strings.Split. (LAID: no walk: one application.) -/
theorem Tryz.strings_Split (s sep : ByteArray) (m : Int) (w : World) (hs : s.size < 4294967281) (hm : w.cell? ⟨25, 0, none⟩ = some (.int .i64 m)) (h1 : 1 ≤ sep.size) :
    Calls Tryz.prog 204 #[.string s, .string sep] w fun e w' =>
      e = .returned (.slice (some ⟨w.heap.size, 0, none⟩) (Lib.countB s sep + 1) (Lib.countB s sep + 1)) ∧ w' = w.alloc (.cells ((Lib.splitB sep 0 (Lib.countB s sep) s).map Value.string).toArray 9) := Any.strings_Split Tryz.lays146 (by kernel_rfl) s sep m w hs hm h1
def Tryz.laysNm216_ren : Go.Shelf.Ren := ⟨fun | 16 => 257 | n => n, fun | 24 => 62 | 9 => 9 | 4 => 4 | n => n, fun | n => n⟩
theorem Tryz.laysNm216 : Go.Proofs.Lays2.n16 Tryz.prog Tryz.laysNm216_ren := {
  mixed := by kernel_rfl
  f16 := Tryz.func257.trans (congrArg some (by kernel_rfl))
  t4 := Tryz.underlying4
  a4 := Tryz.isAgg4
  z4 := Tryz.sizeOf4
  v4 := Tryz.zeroValue4
  t9 := Tryz.underlying9
  a9 := Tryz.isAgg9
  z9 := Tryz.sizeOf9
  v9 := Tryz.zeroValue9
  t24 := Tryz.underlying62
  a24 := Tryz.isAgg62
  z24 := Tryz.sizeOf62
  v24 := Tryz.zeroValue62
  i9 := by kernel_rfl }
open Go.RowKit Go.Lib in
/-- slices.Clone at []string: "Clone returns a copy of the slice. The elements are copied using assignment, so this is a shallow clone. The result may have additional unused capacity. The result preserves the nilness of s.": OF A SLICE THAT IS NOT nil IT RETURNS A SLICE THAT IS NOT nil, OF THE SAME ELEMENTS, IN MEMORY OF THE CALL's OWN: in the how-to's words (6f): 'w'.ownsRow B e 1 v' n cells': v' begins at the head of a row among the blocks from B on (B: the heap's size at the call), not frozen, whose first cells are the elements · 'Below B w w'': below B all is as it was. The capacity is whatever the run-time gives. 'zs': what the cells behind the slice's address hold; 'zs.take n': its elements. (LAID: no walk: one application.) -/
theorem Tryz.slices_Clone_string (b off n c : Nat) (zs : List ByteArray) (w : World) (hz : n ≤ zs.length) (hbig : n * 16 ≤ 140737488355328) (hc : ∀ j, j < zs.length → w.cell? ⟨b, off + j, none⟩ = some (.string (zs.getD j ByteArray.empty))) :
    Calls Tryz.prog 257 #[.slice (some ⟨b, off, none⟩) n c] w fun e w' => ∃ v', e = .returned v' ∧ w'.ownsRow w.heap.size 9 1 v' n ((zs.take n).map (Value.string)) ∧ v' ≠ .slice none 0 0 ∧ Below w.heap.size w w' := Any.slices_Clone_string Tryz.laysNm216 b off n c zs w hz hbig hc
open Go.RowKit Go.Lib in
/-- The same at nil: nil comes back; the world is as it was. (LAID: no walk: one application.) -/
theorem Tryz.slices_Clone_string_nil (n c : Nat) (w : World) :
    Calls Tryz.prog 257 #[.slice none n c] w fun e w' => e = .returned (.slice none 0 0) ∧ w' = w := Any.slices_Clone_string_nil Tryz.laysNm216 n c w
open Go.RowKit Go.Lib in
/-- The same at a slice of length 0 that is not nil, WHATEVER ITS ADDRESS (no cell is asked for): a slice that is not nil and owns nothing comes back. (LAID: no walk: one application.) -/
theorem Tryz.slices_Clone_string_zero (a : Addr) (c : Nat) (w : World) :
    Calls Tryz.prog 257 #[.slice (some a) 0 c] w fun e w' => ∃ v', e = .returned v' ∧ w'.ownsRow w.heap.size 9 1 v' 0 [] ∧ v' ≠ .slice none 0 0 ∧ Below w.heap.size w w' := Any.slices_Clone_string_zero Tryz.laysNm216 a c w
def Tryz.lays122_ren : Go.Shelf.Ren := ⟨fun | 122 => 146 | 215 => 223 | n => n, fun | 3 => 3 | 4 => 4 | n => n, fun | n => n⟩
theorem Tryz.lays122 : Go.Proofs.Lays.n122 Tryz.prog Tryz.lays122_ren := {
  mixed := by kernel_rfl
  f122 := Tryz.func146.trans (congrArg some (by kernel_rfl))
  f215 := Tryz.func223.trans (congrArg some (by kernel_rfl))
  t3 := Tryz.underlying3
  a3 := Tryz.isAgg3
  z3 := Tryz.sizeOf3
  v3 := Tryz.zeroValue3
  t4 := Tryz.underlying4
  a4 := Tryz.isAgg4
  z4 := Tryz.sizeOf4
  v4 := Tryz.zeroValue4 }
open Go.RowKit in
/-- cmp.Compare at int: "Compare returns -1 if x is less than y, 0 if x equals y, +1 if x is greater than y.": IT RETURNS 'Lib.compareInt x y'; the world is as it was. (LAID: no walk: one application.) -/
theorem Tryz.cmp_Compare_int (x y : Int) (w : World) :
    Calls Tryz.prog 146 #[.int .i64 x, .int .i64 y] w fun e w' => e = .returned (.int .i64 (Lib.compareInt x y)) ∧ w' = w := Any.cmp_Compare_int Tryz.lays122 x y w
end Go.Proofs
