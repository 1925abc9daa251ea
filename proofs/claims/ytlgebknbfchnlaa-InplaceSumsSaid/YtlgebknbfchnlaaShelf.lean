/-
  DERIVED: THE SHELF's CONTRACTS AT THIS DUMP, IN PLAIN WORDS (tools/lay-plain.mjs out of 'TryShelf.lean', which tools/lay-shelf.mjs wrote): THE SAME DECLARATIONS UNDER THE SAME NAMES: 'import', 'namespace', 'open', 'def', 'theorem' AND NOTHING ELSE: no command of the shelf's: FOR A HAND-IN. Each laying: the table of numbers ('.._ren') and one theorem, a field a fact of the dump's own or the kernel's comparison; each contract: ONE APPLICATION.
-/
import Derived.Shelf.Sort.Plain
import Derived.Test.YtlgebknbfchnlaaProg
namespace Go.Proofs
open Go.Shelf
def Try.lays189_ren : Go.Shelf.Ren := ⟨fun | 189 => 69 | 125 => 95 | 257 => 94 | 128 => 122 | 129 => 123 | 294 => 113 | 295 => 114 | 296 => 115 | 297 => 116 | 298 => 117 | 299 => 118 | 216 => 119 | 300 => 120 | 301 => 121 | 328 => 132 | 329 => 133 | 330 => 134 | 331 => 135 | 332 => 136 | 215 => 137 | 343 => 140 | n => n, fun | 28 => 77 | 3 => 3 | 46 => 150 | 0 => 0 | 51 => 178 | 53 => 22 | 4 => 4 | 183 => 170 | 182 => 169 | 131 => 175 | 5 => 5 | 9 => 9 | 218 => 188 | 222 => 191 | 228 => 194 | 229 => 195 | n => n, fun | n => n⟩
theorem Try.lays189 : Go.Proofs.Lays.n189 Try.prog Try.lays189_ren := {
  mixed := by kernel_rfl
  f125 := Try.func95.trans (congrArg some (by kernel_rfl))
  f128 := Try.func122.trans (congrArg some (by kernel_rfl))
  f129 := Try.func123.trans (congrArg some (by kernel_rfl))
  f189 := Try.func69.trans (congrArg some (by kernel_rfl))
  f215 := Try.func137.trans (congrArg some (by kernel_rfl))
  f216 := Try.func119.trans (congrArg some (by kernel_rfl))
  f257 := Try.func94.trans (congrArg some (by kernel_rfl))
  f294 := Try.func113.trans (congrArg some (by kernel_rfl))
  f295 := Try.func114.trans (congrArg some (by kernel_rfl))
  f296 := Try.func115.trans (congrArg some (by kernel_rfl))
  f297 := Try.func116.trans (congrArg some (by kernel_rfl))
  f298 := Try.func117.trans (congrArg some (by kernel_rfl))
  f299 := Try.func118.trans (congrArg some (by kernel_rfl))
  f300 := Try.func120.trans (congrArg some (by kernel_rfl))
  f301 := Try.func121.trans (congrArg some (by kernel_rfl))
  f328 := Try.func132.trans (congrArg some (by kernel_rfl))
  f329 := Try.func133.trans (congrArg some (by kernel_rfl))
  f330 := Try.func134.trans (congrArg some (by kernel_rfl))
  f331 := Try.func135.trans (congrArg some (by kernel_rfl))
  f332 := Try.func136.trans (congrArg some (by kernel_rfl))
  f343 := Try.func140.trans (congrArg some (by kernel_rfl))
  t0 := Try.underlying0
  a0 := Try.isAgg0
  z0 := Try.sizeOf0
  v0 := Try.zeroValue0
  t3 := Try.underlying3
  a3 := Try.isAgg3
  z3 := Try.sizeOf3
  v3 := Try.zeroValue3
  t4 := Try.underlying4
  a4 := Try.isAgg4
  z4 := Try.sizeOf4
  v4 := Try.zeroValue4
  t5 := Try.underlying5
  a5 := Try.isAgg5
  z5 := Try.sizeOf5
  v5 := Try.zeroValue5
  t9 := Try.underlying9
  a9 := Try.isAgg9
  z9 := Try.sizeOf9
  v9 := Try.zeroValue9
  t28 := Try.underlying77
  a28 := Try.isAgg77
  z28 := Try.sizeOf77
  v28 := Try.zeroValue77
  t46 := Try.underlying150
  a46 := Try.isAgg150
  z46 := Try.sizeOf150
  v46 := Try.zeroValue150
  t51 := Try.underlying178
  a51 := Try.isAgg178
  z51 := Try.sizeOf178
  v51 := Try.zeroValue178
  t53 := Try.underlying22
  a53 := Try.isAgg22
  z53 := Try.sizeOf22
  v53 := Try.zeroValue22
  t131 := Try.underlying175
  a131 := Try.isAgg175
  z131 := Try.sizeOf175
  v131 := Try.zeroValue175
  t182 := Try.underlying169
  a182 := Try.isAgg169
  z182 := Try.sizeOf169
  v182 := Try.zeroValue169
  t183 := Try.underlying170
  a183 := Try.isAgg170
  z183 := Try.sizeOf170
  v183 := Try.zeroValue170
  t218 := Try.underlying188
  a218 := Try.isAgg188
  z218 := Try.sizeOf188
  v218 := Try.zeroValue188
  t222 := Try.underlying191
  a222 := Try.isAgg191
  z222 := Try.sizeOf191
  v222 := Try.zeroValue191
  t228 := Try.underlying194
  a228 := Try.isAgg194
  z228 := Try.sizeOf194
  v228 := Try.zeroValue194
  t229 := Try.underlying195
  a229 := Try.isAgg195
  z229 := Try.sizeOf195
  v229 := Try.zeroValue195 }
open Go.Sort Go.RowKit in
theorem Try.slices_Sort_int (blk off cap : Nat) (zs : List Int) (w : World) (hH : Holds (Value.int .i64) w blk off zs.toArray) (hblk : blk < w.heap.size) (hsz : zs.length < 4611686018427387904) :
    Calls Try.prog 69 #[.slice (some ⟨blk, off, none⟩) zs.length cap] w fun e w' =>
      e = .returned (.tuple #[]) ∧ ∃ n os, w' = grow (putRow (Value.int .i64) (Sort.ahead w n) blk off (zs.mergeSort fun x y => decide (x ≤ y)).toArray) os := Any.slices_Sort_int Try.lays189 blk off cap zs w hH hblk hsz
end Go.Proofs
