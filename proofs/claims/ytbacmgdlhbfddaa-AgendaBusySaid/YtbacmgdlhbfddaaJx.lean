/-
  THE FACTS at the head of each statement, reckoned out.
-/
import Derived.Test.YtbacmgdlhbfddaaCx
import Derived.Test.YtbacmgdlhbfddaaAm17
namespace Go.Proofs.Ytbacmgdlhbfddaa
open Go Go.AM
set_option maxRecDepth 60000
def F5 : AFn
  | [], m => some (.bool true, m)
  | _, _ => none
theorem s5 : ASpec Try.prog 5 F5 := by
  intro args m r m' h
  unfold F5 at h; split at h <;> cases h
  exact reckon hm codeOk 400 40 rfl rfl (by kernel_rfl) _
end Go.Proofs.Ytbacmgdlhbfddaa
