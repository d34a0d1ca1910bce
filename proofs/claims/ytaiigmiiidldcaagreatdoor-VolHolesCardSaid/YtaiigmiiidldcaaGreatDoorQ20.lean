/- DERIVED: THE SHELF's CONTRACTS AT THIS DUMP, IN PLAIN WORDS (tools/lay-plain.mjs out of 'TryzShelf.lean', which tools/lay-shelf.mjs wrote): THE SAME DECLARATIONS UNDER THE SAME NAMES: 'import', 'namespace', 'open', 'def', 'theorem' AND NOTHING ELSE: no command of the shelf's: FOR A HAND-IN. Each laying: the table of numbers ('.._ren') and one theorem, a field a fact of the dump's own or the kernel's comparison; each contract: ONE APPLICATION. -/
import Derived.Shelf.Sort.Plain
import Derived.Test.YtaiigmiiidldcaaGreatDoorProg
set_option linter.unusedSimpArgs false
set_option linter.unusedVariables false
namespace Go.Proofs
open Go.Shelf
def Tryz.lays189_ren : Go.Shelf.Ren := ⟨fun | 189 => 148 | 125 => 144 | 257 => 224 | 128 => 221 | 129 => 222 | 294 => 268 | 295 => 269 | 296 => 270 | 297 => 271 | 298 => 272 | 299 => 273 | 216 => 274 | 300 => 275 | 301 => 276 | 328 => 299 | 329 => 264 | 330 => 265 | 331 => 300 | 332 => 301 | 215 => 223 | 343 => 322 | n => n, fun | 28 => 59 | 3 => 3 | 46 => 225 | 0 => 0 | 51 => 302 | 53 => 304 | 4 => 4 | 183 => 295 | 182 => 294 | 131 => 299 | 5 => 5 | 9 => 9 | 218 => 331 | 222 => 335 | 228 => 357 | 229 => 181 | n => n, fun | n => n⟩
theorem Tryz.lays189 : Go.Proofs.Lays.n189 Tryz.prog Tryz.lays189_ren := {
  mixed := by kernel_rfl
  f125 := Tryz.func144.trans (congrArg some (by kernel_rfl))
  f128 := Tryz.func221.trans (congrArg some (by kernel_rfl))
  f129 := Tryz.func222.trans (congrArg some (by kernel_rfl))
  f189 := Tryz.func148.trans (congrArg some (by kernel_rfl))
  f215 := Tryz.func223.trans (congrArg some (by kernel_rfl))
  f216 := Tryz.func274.trans (congrArg some (by kernel_rfl))
  f257 := Tryz.func224.trans (congrArg some (by kernel_rfl))
  f294 := Tryz.func268.trans (congrArg some (by kernel_rfl))
  f295 := Tryz.func269.trans (congrArg some (by kernel_rfl))
  f296 := Tryz.func270.trans (congrArg some (by kernel_rfl))
  f297 := Tryz.func271.trans (congrArg some (by kernel_rfl))
  f298 := Tryz.func272.trans (congrArg some (by kernel_rfl))
  f299 := Tryz.func273.trans (congrArg some (by kernel_rfl))
  f300 := Tryz.func275.trans (congrArg some (by kernel_rfl))
  f301 := Tryz.func276.trans (congrArg some (by kernel_rfl))
  f328 := Tryz.func299.trans (congrArg some (by kernel_rfl))
  f329 := Tryz.func264.trans (congrArg some (by kernel_rfl))
  f330 := Tryz.func265.trans (congrArg some (by kernel_rfl))
  f331 := Tryz.func300.trans (congrArg some (by kernel_rfl))
  f332 := Tryz.func301.trans (congrArg some (by kernel_rfl))
  f343 := Tryz.func322.trans (congrArg some (by kernel_rfl))
  t0 := Tryz.underlying0
  a0 := Tryz.isAgg0
  z0 := Tryz.sizeOf0
  v0 := Tryz.zeroValue0
  t3 := Tryz.underlying3
  a3 := Tryz.isAgg3
  z3 := Tryz.sizeOf3
  v3 := Tryz.zeroValue3
  t4 := Tryz.underlying4
  a4 := Tryz.isAgg4
  z4 := Tryz.sizeOf4
  v4 := Tryz.zeroValue4
  t5 := Tryz.underlying5
  a5 := Tryz.isAgg5
  z5 := Tryz.sizeOf5
  v5 := Tryz.zeroValue5
  t9 := Tryz.underlying9
  a9 := Tryz.isAgg9
  z9 := Tryz.sizeOf9
  v9 := Tryz.zeroValue9
  t28 := Tryz.underlying59
  a28 := Tryz.isAgg59
  z28 := Tryz.sizeOf59
  v28 := Tryz.zeroValue59
  t46 := Tryz.underlying225
  a46 := Tryz.isAgg225
  z46 := Tryz.sizeOf225
  v46 := Tryz.zeroValue225
  t51 := Tryz.underlying302
  a51 := Tryz.isAgg302
  z51 := Tryz.sizeOf302
  v51 := Tryz.zeroValue302
  t53 := Tryz.underlying304
  a53 := Tryz.isAgg304
  z53 := Tryz.sizeOf304
  v53 := Tryz.zeroValue304
  t131 := Tryz.underlying299
  a131 := Tryz.isAgg299
  z131 := Tryz.sizeOf299
  v131 := Tryz.zeroValue299
  t182 := Tryz.underlying294
  a182 := Tryz.isAgg294
  z182 := Tryz.sizeOf294
  v182 := Tryz.zeroValue294
  t183 := Tryz.underlying295
  a183 := Tryz.isAgg295
  z183 := Tryz.sizeOf295
  v183 := Tryz.zeroValue295
  t218 := Tryz.underlying331
  a218 := Tryz.isAgg331
  z218 := Tryz.sizeOf331
  v218 := Tryz.zeroValue331
  t222 := Tryz.underlying335
  a222 := Tryz.isAgg335
  z222 := Tryz.sizeOf335
  v222 := Tryz.zeroValue335
  t228 := Tryz.underlying357
  a228 := Tryz.isAgg357
  z228 := Tryz.sizeOf357
  v228 := Tryz.zeroValue357
  t229 := Tryz.underlying181
  a229 := Tryz.isAgg181
  z229 := Tryz.sizeOf181
  v229 := Tryz.zeroValue181 }
open Go.Sort Go.RowKit in
theorem Tryz.slices_Sort_int (blk off cap : Nat) (zs : List Int) (w : World) (hH : Holds (Value.int .i64) w blk off zs.toArray) (hblk : blk < w.heap.size) (hsz : zs.length < 4611686018427387904) :
    Calls Tryz.prog 148 #[.slice (some ⟨blk, off, none⟩) zs.length cap] w fun e w' =>
      e = .returned (.tuple #[]) ∧ ∃ n os, w' = grow (putRow (Value.int .i64) (Sort.ahead w n) blk off (zs.mergeSort fun x y => decide (x ≤ y)).toArray) os := Any.slices_Sort_int Tryz.lays189 blk off cap zs w hH hblk hsz
end Go.Proofs
