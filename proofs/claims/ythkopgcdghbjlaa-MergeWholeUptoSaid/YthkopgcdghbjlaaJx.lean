/-
  THE FACTS at the head of each statement, reckoned out.
-/
import Derived.Test.YthkopgcdghbjlaaCx
import Derived.Test.YthkopgcdghbjlaaAm17
namespace Go.Proofs.Ythkopgcdghbjlaa
open Go Go.AM
set_option maxRecDepth 60000
abbrev code2 : CodeL := (7, 12, b7) :: code
theorem codeOk2 : CodeOk Try.prog code2 := ⟨c7, codeOk⟩
def F5 : AFn
  | [], m => some (.bool true, m)
  | _, _ => none
theorem s5 : ASpec Try.prog 5 F5 := by
  intro args m r m' h
  unfold F5 at h; split at h <;> cases h
  exact reckon hm codeOk2 400 40 rfl rfl (by kernel_rfl) _
end Go.Proofs.Ythkopgcdghbjlaa
