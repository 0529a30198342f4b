/-
  THE LIBRARY's SORT of whole numbers, at this program.
-/
import Derived.Test.YtikapnnabemedaaFx
import Derived.Shelf.Sort.Plain
import Derived.Ground.NamesProg
namespace Go.Proofs.Ytikapnnabemedaa
open Go Go.AM Go.Shelf
def Try.lays189_ren : Go.Shelf.Ren := ⟨fun | 189 => 20 | 125 => 23 | 257 => 22 | 128 => 33 | 129 => 34 | 294 => 24 | 295 => 25 | 296 => 26 | 297 => 27 | 298 => 28 | 299 => 29 | 216 => 30 | 300 => 31 | 301 => 32 | 328 => 35 | 329 => 36 | 330 => 37 | 331 => 38 | 332 => 39 | 215 => 40 | 343 => 41 | n => n, fun | 28 => 30 | 3 => 3 | 46 => 42 | 0 => 0 | 51 => 54 | 53 => 56 | 4 => 4 | 183 => 47 | 182 => 46 | 131 => 27 | 5 => 5 | 9 => 9 | 218 => 57 | 222 => 61 | 228 => 63 | 229 => 64 | n => n, fun | n => n⟩
theorem Try.lays189 : Go.Proofs.Lays.n189 Try.prog Try.lays189_ren := {
  mixed := by kernel_rfl
  f125 := Try.func23.trans (congrArg some (by kernel_rfl))
  f128 := Try.func33.trans (congrArg some (by kernel_rfl))
  f129 := Try.func34.trans (congrArg some (by kernel_rfl))
  f189 := Try.func20.trans (congrArg some (by kernel_rfl))
  f215 := Try.func40.trans (congrArg some (by kernel_rfl))
  f216 := Try.func30.trans (congrArg some (by kernel_rfl))
  f257 := Try.func22.trans (congrArg some (by kernel_rfl))
  f294 := Try.func24.trans (congrArg some (by kernel_rfl))
  f295 := Try.func25.trans (congrArg some (by kernel_rfl))
  f296 := Try.func26.trans (congrArg some (by kernel_rfl))
  f297 := Try.func27.trans (congrArg some (by kernel_rfl))
  f298 := Try.func28.trans (congrArg some (by kernel_rfl))
  f299 := Try.func29.trans (congrArg some (by kernel_rfl))
  f300 := Try.func31.trans (congrArg some (by kernel_rfl))
  f301 := Try.func32.trans (congrArg some (by kernel_rfl))
  f328 := Try.func35.trans (congrArg some (by kernel_rfl))
  f329 := Try.func36.trans (congrArg some (by kernel_rfl))
  f330 := Try.func37.trans (congrArg some (by kernel_rfl))
  f331 := Try.func38.trans (congrArg some (by kernel_rfl))
  f332 := Try.func39.trans (congrArg some (by kernel_rfl))
  f343 := Try.func41.trans (congrArg some (by kernel_rfl))
  t0 := Try.underlying0
  a0 := Try.isAgg0
  z0 := Try.sizeOf0
  v0 := Try.zeroValue0
  t3 := Try.underlying3
  a3 := Try.isAgg3
  z3 := Try.sizeOf3
  v3 := Try.zeroValue3
  t4 := Try.underlying4
  a4 := Try.isAgg4
  z4 := Try.sizeOf4
  v4 := Try.zeroValue4
  t5 := Try.underlying5
  a5 := Try.isAgg5
  z5 := Try.sizeOf5
  v5 := Try.zeroValue5
  t9 := Try.underlying9
  a9 := Try.isAgg9
  z9 := Try.sizeOf9
  v9 := Try.zeroValue9
  t28 := Try.underlying30
  a28 := Try.isAgg30
  z28 := Try.sizeOf30
  v28 := Try.zeroValue30
  t46 := Try.underlying42
  a46 := Try.isAgg42
  z46 := Try.sizeOf42
  v46 := Try.zeroValue42
  t51 := Try.underlying54
  a51 := Try.isAgg54
  z51 := Try.sizeOf54
  v51 := Try.zeroValue54
  t53 := Try.underlying56
  a53 := Try.isAgg56
  z53 := Try.sizeOf56
  v53 := Try.zeroValue56
  t131 := Try.underlying27
  a131 := Try.isAgg27
  z131 := Try.sizeOf27
  v131 := Try.zeroValue27
  t182 := Try.underlying46
  a182 := Try.isAgg46
  z182 := Try.sizeOf46
  v182 := Try.zeroValue46
  t183 := Try.underlying47
  a183 := Try.isAgg47
  z183 := Try.sizeOf47
  v183 := Try.zeroValue47
  t218 := Try.underlying57
  a218 := Try.isAgg57
  z218 := Try.sizeOf57
  v218 := Try.zeroValue57
  t222 := Try.underlying61
  a222 := Try.isAgg61
  z222 := Try.sizeOf61
  v222 := Try.zeroValue61
  t228 := Try.underlying63
  a228 := Try.isAgg63
  z228 := Try.sizeOf63
  v228 := Try.zeroValue63
  t229 := Try.underlying64
  a229 := Try.isAgg64
  z229 := Try.sizeOf64
  v229 := Try.zeroValue64
  }
theorem sorts : SortsI Try.prog 20 := fun blk off cap zs w hH hb hl => Any.slices_Sort_int Try.lays189 blk off cap zs w hH hb hl
theorem body20 : Body Try.prog 20 := c20.body
theorem sort_nil (m : Mem) : ACalls Try.prog 20 [.sl none 0 (some 0)] m (fun r m' => r = .tup [] ∧ m' = m) := reckon hm codeOk 200 20 rfl rfl (by kernel_rfl) _
end Go.Proofs.Ytikapnnabemedaa
