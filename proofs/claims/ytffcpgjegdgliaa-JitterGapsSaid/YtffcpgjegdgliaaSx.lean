/-
  THE LIBRARY's SORT of whole numbers, at this program.
-/
import Derived.Test.YtffcpgjegdgliaaFx
import Derived.Shelf.Sort.Plain
import Derived.Ground.NamesProg
namespace Go.Proofs.Ytffcpgjegdgliaa
open Go Go.AM Go.Shelf
def Try.lays189_ren : Go.Shelf.Ren := ⟨fun | 189 => 18 | 125 => 21 | 257 => 20 | 128 => 32 | 129 => 33 | 294 => 23 | 295 => 24 | 296 => 25 | 297 => 26 | 298 => 27 | 299 => 28 | 216 => 29 | 300 => 30 | 301 => 31 | 328 => 35 | 329 => 36 | 330 => 37 | 331 => 38 | 332 => 39 | 215 => 40 | 343 => 41 | n => n, fun | 28 => 22 | 3 => 3 | 46 => 43 | 0 => 0 | 51 => 52 | 53 => 54 | 4 => 4 | 183 => 47 | 182 => 46 | 131 => 32 | 5 => 5 | 9 => 9 | 218 => 55 | 222 => 59 | 228 => 61 | 229 => 62 | n => n, fun | n => n⟩
theorem Try.lays189 : Go.Proofs.Lays.n189 Try.prog Try.lays189_ren := {
  mixed := by kernel_rfl
  f125 := Try.func21.trans (congrArg some (by kernel_rfl))
  f128 := Try.func32.trans (congrArg some (by kernel_rfl))
  f129 := Try.func33.trans (congrArg some (by kernel_rfl))
  f189 := Try.func18.trans (congrArg some (by kernel_rfl))
  f215 := Try.func40.trans (congrArg some (by kernel_rfl))
  f216 := Try.func29.trans (congrArg some (by kernel_rfl))
  f257 := Try.func20.trans (congrArg some (by kernel_rfl))
  f294 := Try.func23.trans (congrArg some (by kernel_rfl))
  f295 := Try.func24.trans (congrArg some (by kernel_rfl))
  f296 := Try.func25.trans (congrArg some (by kernel_rfl))
  f297 := Try.func26.trans (congrArg some (by kernel_rfl))
  f298 := Try.func27.trans (congrArg some (by kernel_rfl))
  f299 := Try.func28.trans (congrArg some (by kernel_rfl))
  f300 := Try.func30.trans (congrArg some (by kernel_rfl))
  f301 := Try.func31.trans (congrArg some (by kernel_rfl))
  f328 := Try.func35.trans (congrArg some (by kernel_rfl))
  f329 := Try.func36.trans (congrArg some (by kernel_rfl))
  f330 := Try.func37.trans (congrArg some (by kernel_rfl))
  f331 := Try.func38.trans (congrArg some (by kernel_rfl))
  f332 := Try.func39.trans (congrArg some (by kernel_rfl))
  f343 := Try.func41.trans (congrArg some (by kernel_rfl))
  t0 := Try.underlying0
  a0 := Try.isAgg0
  z0 := Try.sizeOf0
  v0 := Try.zeroValue0
  t3 := Try.underlying3
  a3 := Try.isAgg3
  z3 := Try.sizeOf3
  v3 := Try.zeroValue3
  t4 := Try.underlying4
  a4 := Try.isAgg4
  z4 := Try.sizeOf4
  v4 := Try.zeroValue4
  t5 := Try.underlying5
  a5 := Try.isAgg5
  z5 := Try.sizeOf5
  v5 := Try.zeroValue5
  t9 := Try.underlying9
  a9 := Try.isAgg9
  z9 := Try.sizeOf9
  v9 := Try.zeroValue9
  t28 := Try.underlying22
  a28 := Try.isAgg22
  z28 := Try.sizeOf22
  v28 := Try.zeroValue22
  t46 := Try.underlying43
  a46 := Try.isAgg43
  z46 := Try.sizeOf43
  v46 := Try.zeroValue43
  t51 := Try.underlying52
  a51 := Try.isAgg52
  z51 := Try.sizeOf52
  v51 := Try.zeroValue52
  t53 := Try.underlying54
  a53 := Try.isAgg54
  z53 := Try.sizeOf54
  v53 := Try.zeroValue54
  t131 := Try.underlying32
  a131 := Try.isAgg32
  z131 := Try.sizeOf32
  v131 := Try.zeroValue32
  t182 := Try.underlying46
  a182 := Try.isAgg46
  z182 := Try.sizeOf46
  v182 := Try.zeroValue46
  t183 := Try.underlying47
  a183 := Try.isAgg47
  z183 := Try.sizeOf47
  v183 := Try.zeroValue47
  t218 := Try.underlying55
  a218 := Try.isAgg55
  z218 := Try.sizeOf55
  v218 := Try.zeroValue55
  t222 := Try.underlying59
  a222 := Try.isAgg59
  z222 := Try.sizeOf59
  v222 := Try.zeroValue59
  t228 := Try.underlying61
  a228 := Try.isAgg61
  z228 := Try.sizeOf61
  v228 := Try.zeroValue61
  t229 := Try.underlying62
  a229 := Try.isAgg62
  z229 := Try.sizeOf62
  v229 := Try.zeroValue62
  }
theorem sorts : SortsI Try.prog 18 := fun blk off cap zs w hH hb hl => Any.slices_Sort_int Try.lays189 blk off cap zs w hH hb hl
theorem body18 : Body Try.prog 18 := c18.body
end Go.Proofs.Ytffcpgjegdgliaa
