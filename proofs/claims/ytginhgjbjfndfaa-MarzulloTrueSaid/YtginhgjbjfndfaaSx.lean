/-
  THE LIBRARY's SORT of edges, at this program.
-/
import Derived.Test.YtginhgjbjfndfaaHx
import Derived.Shelf.SlSortCmp.WholeK
import Derived.Shelf.SlGeneric
import Derived.Shelf.Lay
import Derived.Ground.SlsfProg
namespace Go.Proofs.Ytginhgjbjfndfaa
open Go Go.AM Go.Shelf
shelf_lay_g SlLaysF0.n6 Slsf 6 at Try 19 as Try.sortE
theorem enters20 : ∀ args w, (callFunc 20 args).run Try.prog w = .ok (.enter 20 args) w := enters_of Try.func20 (by kernel_rfl) rfl
theorem sorts : SortsF Try.prog 19 20 eiE 2 cfE := fun blk off cap d w hcmp hH hblk hsz =>
  AnyQ.slices_SortFunc Try.sortE 2 Try.isAgg47 Try.sizeOf47 (ecM eiE) (fun _ => rfl) (fun x => ecM_one eiE x) cfE swo 20 #[] blk off cap d w enters20 hcmp hH hblk hsz
end Go.Proofs.Ytginhgjbjfndfaa
