/-
  THE LIBRARY's SORT of whole numbers, at this program.
-/
import Derived.Test.YtikapnnabemedaaFx
import Derived.Shelf.Sort.Plain
import Derived.Shelf.Lay
import Derived.Ground.NamesProg
namespace Go.Proofs.Ytikapnnabemedaa
open Go Go.AM Go.Shelf
shelf_lay Lays.n189 Nm 189 at Try as Try.lays189
theorem sorts : SortsI Try.prog 20 := fun blk off cap zs w hH hb hl => Any.slices_Sort_int Try.lays189 blk off cap zs w hH hb hl
theorem body20 : Body Try.prog 20 := c20.body
theorem sort_nil (m : Mem) : ACalls Try.prog 20 [.sl none 0 (some 0)] m (fun r m' => r = .tup [] ∧ m' = m) := reckon hm codeOk 200 20 rfl rfl (by kernel_rfl) _
end Go.Proofs.Ytikapnnabemedaa
