/- The contract of slices.Sort at []int, as the shelf's tool wrote it for this program. -/
import Derived.Shelf.Sort.Plain
import Derived.Test.YtbldgpemocnboaaProg
namespace Go.Proofs
open Go.Shelf
def Try.lays189_ren : Go.Shelf.Ren := ⟨fun | 189 => 114 | 125 => 127 | 257 => 126 | 128 => 138 | 129 => 139 | 294 => 129 | 295 => 130 | 296 => 131 | 297 => 132 | 298 => 133 | 299 => 134 | 216 => 135 | 300 => 136 | 301 => 137 | 328 => 140 | 329 => 141 | 330 => 142 | 331 => 143 | 332 => 144 | 215 => 145 | 343 => 146 | n => n, fun | 28 => 117 | 3 => 3 | 46 => 50 | 0 => 0 | 51 => 35 | 53 => 121 | 4 => 4 | 183 => 175 | 182 => 174 | 131 => 180 | 5 => 5 | 9 => 9 | 218 => 185 | 222 => 189 | 228 => 191 | 229 => 85 | n => n, fun | n => n⟩
theorem Try.lays189 : Go.Proofs.Lays.n189 Try.prog Try.lays189_ren := {
  mixed := by kernel_rfl
  f125 := Try.func127.trans (congrArg some (by kernel_rfl))
  f128 := Try.func138.trans (congrArg some (by kernel_rfl))
  f129 := Try.func139.trans (congrArg some (by kernel_rfl))
  f189 := Try.func114.trans (congrArg some (by kernel_rfl))
  f215 := Try.func145.trans (congrArg some (by kernel_rfl))
  f216 := Try.func135.trans (congrArg some (by kernel_rfl))
  f257 := Try.func126.trans (congrArg some (by kernel_rfl))
  f294 := Try.func129.trans (congrArg some (by kernel_rfl))
  f295 := Try.func130.trans (congrArg some (by kernel_rfl))
  f296 := Try.func131.trans (congrArg some (by kernel_rfl))
  f297 := Try.func132.trans (congrArg some (by kernel_rfl))
  f298 := Try.func133.trans (congrArg some (by kernel_rfl))
  f299 := Try.func134.trans (congrArg some (by kernel_rfl))
  f300 := Try.func136.trans (congrArg some (by kernel_rfl))
  f301 := Try.func137.trans (congrArg some (by kernel_rfl))
  f328 := Try.func140.trans (congrArg some (by kernel_rfl))
  f329 := Try.func141.trans (congrArg some (by kernel_rfl))
  f330 := Try.func142.trans (congrArg some (by kernel_rfl))
  f331 := Try.func143.trans (congrArg some (by kernel_rfl))
  f332 := Try.func144.trans (congrArg some (by kernel_rfl))
  f343 := Try.func146.trans (congrArg some (by kernel_rfl))
  t0 := Try.underlying0
  a0 := Try.isAgg0
  z0 := Try.sizeOf0
  v0 := Try.zeroValue0
  t3 := Try.underlying3
  a3 := Try.isAgg3
  z3 := Try.sizeOf3
  v3 := Try.zeroValue3
  t4 := Try.underlying4
  a4 := Try.isAgg4
  z4 := Try.sizeOf4
  v4 := Try.zeroValue4
  t5 := Try.underlying5
  a5 := Try.isAgg5
  z5 := Try.sizeOf5
  v5 := Try.zeroValue5
  t9 := Try.underlying9
  a9 := Try.isAgg9
  z9 := Try.sizeOf9
  v9 := Try.zeroValue9
  t28 := Try.underlying117
  a28 := Try.isAgg117
  z28 := Try.sizeOf117
  v28 := Try.zeroValue117
  t46 := Try.underlying50
  a46 := Try.isAgg50
  z46 := Try.sizeOf50
  v46 := Try.zeroValue50
  t51 := Try.underlying35
  a51 := Try.isAgg35
  z51 := Try.sizeOf35
  v51 := Try.zeroValue35
  t53 := Try.underlying121
  a53 := Try.isAgg121
  z53 := Try.sizeOf121
  v53 := Try.zeroValue121
  t131 := Try.underlying180
  a131 := Try.isAgg180
  z131 := Try.sizeOf180
  v131 := Try.zeroValue180
  t182 := Try.underlying174
  a182 := Try.isAgg174
  z182 := Try.sizeOf174
  v182 := Try.zeroValue174
  t183 := Try.underlying175
  a183 := Try.isAgg175
  z183 := Try.sizeOf175
  v183 := Try.zeroValue175
  t218 := Try.underlying185
  a218 := Try.isAgg185
  z218 := Try.sizeOf185
  v218 := Try.zeroValue185
  t222 := Try.underlying189
  a222 := Try.isAgg189
  z222 := Try.sizeOf189
  v222 := Try.zeroValue189
  t228 := Try.underlying191
  a228 := Try.isAgg191
  z228 := Try.sizeOf191
  v228 := Try.zeroValue191
  t229 := Try.underlying85
  a229 := Try.isAgg85
  z229 := Try.sizeOf85
  v229 := Try.zeroValue85 }
open Go.Sort Go.RowKit in
theorem Try.slices_Sort_int (blk off cap : Nat) (zs : List Int) (w : World) (hH : Holds (Value.int .i64) w blk off zs.toArray) (hblk : blk < w.heap.size) (hsz : zs.length < 4611686018427387904) :
    Calls Try.prog 114 #[.slice (some ⟨blk, off, none⟩) zs.length cap] w fun e w' =>
      e = .returned (.tuple #[]) ∧ ∃ n os, w' = grow (putRow (Value.int .i64) (Sort.ahead w n) blk off (zs.mergeSort fun x y => decide (x ≤ y)).toArray) os := Any.slices_Sort_int Try.lays189 blk off cap zs w hH hblk hsz
end Go.Proofs
