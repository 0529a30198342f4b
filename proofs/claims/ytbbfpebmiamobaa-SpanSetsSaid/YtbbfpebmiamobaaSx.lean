/-
  THE LIBRARY's SORT of spans, and of edges, at this program.
-/
import Derived.Test.YtbbfpebmiamobaaGx
import Derived.Shelf.SlSortCmp.WholeK
import Derived.Shelf.SlGeneric
import Derived.Shelf.Lay
import Derived.Ground.SlsfProg
namespace Go.Proofs.Ytbbfpebmiamobaa
open Go Go.AM Go.Shelf
shelf_lay_g SlLaysF0.n6 Slsf 6 at Try 24 as Try.sortP
shelf_lay_g SlLaysF0.n6 Slsf 6 at Try 47 as Try.sortE
theorem enters25 : ∀ args w, (callFunc 25 args).run Try.prog w = .ok (.enter 25 args) w := enters_of Try.func25 (by kernel_rfl) rfl
theorem enters48 : ∀ args w, (callFunc 48 args).run Try.prog w = .ok (.enter 48 args) w := enters_of Try.func48 (by kernel_rfl) rfl
theorem sortsP : SortsF Try.prog 24 25 eiP 2 cfP := fun blk off cap d w hcmp hH hblk hsz =>
  AnyQ.slices_SortFunc Try.sortP 2 Try.isAgg29 Try.sizeOf29 (ecM eiP) (fun _ => rfl) (fun x => ecM_one eiP x) cfP swoP 25 #[] blk off cap d w enters25 hcmp hH hblk hsz
theorem sortsE : SortsF Try.prog 47 48 eiE 3 cfE := fun blk off cap d w hcmp hH hblk hsz =>
  AnyQ.slices_SortFunc Try.sortE 3 Try.isAgg59 Try.sizeOf59 (ecM eiE) (fun _ => rfl) (fun x => ecM_one eiE x) cfE swoE 48 #[] blk off cap d w enters48 hcmp hH hblk hsz
end Go.Proofs.Ytbbfpebmiamobaa
