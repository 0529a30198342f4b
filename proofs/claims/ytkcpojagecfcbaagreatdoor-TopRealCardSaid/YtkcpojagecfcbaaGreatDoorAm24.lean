/-
  THE ABSTRACT MACHINE: slices of one's own that are a row to its end, however made. No Go program here.
-/
import Derived.Test.YtkcpojagecfcbaaGreatDoorAm23
namespace Go.AM
open Go
set_option linter.unusedVariables false
set_option linter.unusedSimpArgs false
end Go.AM
