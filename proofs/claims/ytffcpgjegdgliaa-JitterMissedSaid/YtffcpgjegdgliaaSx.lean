/-
  THE LIBRARY's SORT of whole numbers, at this program.
-/
import Derived.Test.YtffcpgjegdgliaaFx
import Derived.Shelf.Sort.Plain
import Derived.Shelf.Lay
import Derived.Ground.NamesProg
namespace Go.Proofs.Ytffcpgjegdgliaa
open Go Go.AM Go.Shelf
shelf_lay Lays.n189 Nm 189 at Try as Try.lays189
theorem sorts : SortsI Try.prog 18 := fun blk off cap zs w hH hb hl => Any.slices_Sort_int Try.lays189 blk off cap zs w hH hb hl
theorem body18 : Body Try.prog 18 := c18.body
end Go.Proofs.Ytffcpgjegdgliaa
