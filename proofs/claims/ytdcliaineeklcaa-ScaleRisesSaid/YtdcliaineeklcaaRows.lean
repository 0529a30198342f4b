/-
  No cell of these rows narrows 'for every input' (looked for: loops, veiled, ifaces, maps, wideKeys, modest, calm, conditions, laid).
  DERIVED. THE GIVEN ROWS OF THIS SEAT. 4 by the template 'for every input the law returns true; each argument reads behind the call as it read before'; 0 by the template 'total and deterministic' (their statements: YtdcliaineeklcaaTotals.lean).
  GIVEN WITH THE SEED: the statements are not yours to turn. If you find one false, say at which input.
  Laid BY PROGRAM, IN A SANDBOX (cutbox-rows.mjs): the forced cells as the released guide's own fill.sh prints them over the translation ee9c57751baf1966… (all of the seat's roots in one cut). By AI agents, Wed Nov 11 2026. No macro, syntax, notation, axiom, sorry.
-/
import Derived.Test.YtdcliaineeklcaaChecked
import GoSem.Claim
import GoSem.ClaimJoined
import GoSem.ClaimMapViews
import Derived.JoinedTies
import Derived.KernelRfl
namespace Go.Proofs.Ytdcliaineeklcaa
/- THE CELL 'sum', in the pinned program and in every row, IS THE sha256 OF THE DUMP (.gsa) THAT YtdcliaineeklcaaProg.lean LOADS. Nothing in Lean hashes anything: it is a label: what it is worth is what the hold of that sum in a sandbox is worth. -/
noncomputable def Try.pinned : Pinned := { name := "ytdcliaineeklcaa", sum := "ee9c57751baf196653488bf0aa5cb9b0d64dcf73834f1e59b6d8b0d1f40c79b2", checked := Try.checked }
namespace Rows
def none {H : Type} : Left H := { results := [], args := [] }

/-- 'fuseelaw04.ScaleNanos': WHATEVER THE INPUT: true; the input reads as it did. -/
def scaleNanosSpec : ChangeSpec := { name := "scaleNanos", fn := fun _ => fun
  | [d1, d2] => { results := [.lit (.bool true)], args := [d1, d2] }
  | _ => none }
def scaleNanosRow : OpenClaim := { program := "ytdcliaineeklcaa", sum := "ee9c57751baf196653488bf0aa5cb9b0d64dcf73834f1e59b6d8b0d1f40c79b2", func := "fusee/fuseelaw04.ScaleNanos", spec := "scaleNanos", inPlace := ["math/bits.Add64"], named := ["math/bits.divideError", "math/bits.overflowError"], apart := false }
def ScaleNanosSaid : Prop := scaleNanosRow.holds Try.pinned (OpenSpec.ofChange scaleNanosSpec)

/-- ITS FALSE NEIGHBOUR: 'it returns false'. Refute it at one input. -/
def scaleNanosWrong : ChangeSpec := { name := "scaleNanos", fn := fun _ => fun
  | [d1, d2] => { results := [.lit (.bool false)], args := [d1, d2] }
  | _ => none }
def ScaleNanosWrongFalsely : Prop := scaleNanosRow.holds Try.pinned (OpenSpec.ofChange scaleNanosWrong)

/-- 'fuseelaw04.ScaleCycles': WHATEVER THE INPUT: true; the input reads as it did. -/
def scaleCyclesSpec : ChangeSpec := { name := "scaleCycles", fn := fun _ => fun
  | [d1, d2] => { results := [.lit (.bool true)], args := [d1, d2] }
  | _ => none }
def scaleCyclesRow : OpenClaim := { program := "ytdcliaineeklcaa", sum := "ee9c57751baf196653488bf0aa5cb9b0d64dcf73834f1e59b6d8b0d1f40c79b2", func := "fusee/fuseelaw04.ScaleCycles", spec := "scaleCycles", inPlace := ["math/bits.Add64"], named := ["math/bits.divideError", "math/bits.overflowError"], apart := false }
def ScaleCyclesSaid : Prop := scaleCyclesRow.holds Try.pinned (OpenSpec.ofChange scaleCyclesSpec)

/-- ITS FALSE NEIGHBOUR: 'it returns false'. Refute it at one input. -/
def scaleCyclesWrong : ChangeSpec := { name := "scaleCycles", fn := fun _ => fun
  | [d1, d2] => { results := [.lit (.bool false)], args := [d1, d2] }
  | _ => none }
def ScaleCyclesWrongFalsely : Prop := scaleCyclesRow.holds Try.pinned (OpenSpec.ofChange scaleCyclesWrong)

/-- 'fuseelaw04.ScaleMakes': WHATEVER THE INPUT: true; the input reads as it did. -/
def scaleMakesSpec : ChangeSpec := { name := "scaleMakes", fn := fun _ => fun
  | [d] => { results := [.lit (.bool true)], args := [d] }
  | _ => none }
def scaleMakesRow : OpenClaim := { program := "ytdcliaineeklcaa", sum := "ee9c57751baf196653488bf0aa5cb9b0d64dcf73834f1e59b6d8b0d1f40c79b2", func := "fusee/fuseelaw04.ScaleMakes", spec := "scaleMakes", inPlace := ["math/bits.Add64"], named := ["math/bits.divideError", "math/bits.overflowError"], apart := false }
def ScaleMakesSaid : Prop := scaleMakesRow.holds Try.pinned (OpenSpec.ofChange scaleMakesSpec)

/-- ITS FALSE NEIGHBOUR: 'it returns false'. Refute it at one input. -/
def scaleMakesWrong : ChangeSpec := { name := "scaleMakes", fn := fun _ => fun
  | [d] => { results := [.lit (.bool false)], args := [d] }
  | _ => none }
def ScaleMakesWrongFalsely : Prop := scaleMakesRow.holds Try.pinned (OpenSpec.ofChange scaleMakesWrong)

/-- 'fuseelaw04.ScaleRises': WHATEVER THE INPUT: true; the input reads as it did. -/
def scaleRisesSpec : ChangeSpec := { name := "scaleRises", fn := fun _ => fun
  | [d1, d2, d3] => { results := [.lit (.bool true)], args := [d1, d2, d3] }
  | _ => none }
def scaleRisesRow : OpenClaim := { program := "ytdcliaineeklcaa", sum := "ee9c57751baf196653488bf0aa5cb9b0d64dcf73834f1e59b6d8b0d1f40c79b2", func := "fusee/fuseelaw04.ScaleRises", spec := "scaleRises", inPlace := ["math/bits.Add64"], named := ["math/bits.divideError", "math/bits.overflowError"], apart := false }
def ScaleRisesSaid : Prop := scaleRisesRow.holds Try.pinned (OpenSpec.ofChange scaleRisesSpec)

/-- ITS FALSE NEIGHBOUR: 'it returns false'. Refute it at one input. -/
def scaleRisesWrong : ChangeSpec := { name := "scaleRises", fn := fun _ => fun
  | [d1, d2, d3] => { results := [.lit (.bool false)], args := [d1, d2, d3] }
  | _ => none }
def ScaleRisesWrongFalsely : Prop := scaleRisesRow.holds Try.pinned (OpenSpec.ofChange scaleRisesWrong)

/- THE SECOND FORM. 'bulk': how many values and letters a reading holds, each counted each time it is reached (what is shared counts as often as it is met; a slice's spare places count too). A statement '..UptoSaid' is the law's where the arguments, and the package variables that the reading takes, are together of bulk at most 1048576: NARROWER than '..Said'. Prove '..Said' where nothing that the law and all that it calls make is longer than what came in: it says more and counts as full. Else prove '..UptoSaid'. A law counts once. -/
mutual
def uptoBulk {H : Type} : DataW H → Nat
  | .lit (.string bytes) => bytes.length + 1
  | .lit _ => 1
  | .nil => 1
  | .ptr d => uptoBulk d + 1
  | .slice elems spare => uptoBulkAll elems + uptoBulkAll spare + 1
  | .agg parts => uptoBulkAll parts + 1
  | .iface _ d => uptoBulk d + 1
  | .map entries => uptoBulkEntries entries + 1
  | .held _ => 1
def uptoBulkAll {H : Type} : List (DataW H) → Nat
  | [] => 0
  | d :: r => uptoBulk d + uptoBulkAll r
def uptoBulkEntries {H : Type} : List (Lit × DataW H) → Nat
  | [] => 0
  | x :: r => uptoBulkEntry x + uptoBulkEntries r
def uptoBulkEntry {H : Type} : Lit × DataW H → Nat
  | (.string bytes, d) => bytes.length + uptoBulk d + 1
  | (_, d) => uptoBulk d + 1
 end
def uptoSmall : (H : Type) → List (DataW H) → Bool := fun _ ds => decide (uptoBulkAll ds ≤ 1048576)
def OpenSpec.upto (s : _root_.Go.ChangeSpec) : _root_.Go.OpenSpec := { _root_.Go.OpenSpec.ofChange s with cond := some uptoSmall }

/-- 'fuseelaw04.ScaleNanos', WHERE WHAT IT READS IS OF BULK AT MOST 1048576: true; the input reads as it did. -/
def scaleNanosUptoRow : OpenClaim := { program := "ytdcliaineeklcaa", sum := "ee9c57751baf196653488bf0aa5cb9b0d64dcf73834f1e59b6d8b0d1f40c79b2", func := "fusee/fuseelaw04.ScaleNanos", spec := "scaleNanos", inPlace := ["math/bits.Add64"], named := ["math/bits.divideError", "math/bits.overflowError"], apart := false, narrowed := true }
def ScaleNanosUptoSaid : Prop := scaleNanosUptoRow.holds Try.pinned (OpenSpec.upto scaleNanosSpec)

/-- 'fuseelaw04.ScaleCycles', WHERE WHAT IT READS IS OF BULK AT MOST 1048576: true; the input reads as it did. -/
def scaleCyclesUptoRow : OpenClaim := { program := "ytdcliaineeklcaa", sum := "ee9c57751baf196653488bf0aa5cb9b0d64dcf73834f1e59b6d8b0d1f40c79b2", func := "fusee/fuseelaw04.ScaleCycles", spec := "scaleCycles", inPlace := ["math/bits.Add64"], named := ["math/bits.divideError", "math/bits.overflowError"], apart := false, narrowed := true }
def ScaleCyclesUptoSaid : Prop := scaleCyclesUptoRow.holds Try.pinned (OpenSpec.upto scaleCyclesSpec)

/-- 'fuseelaw04.ScaleMakes', WHERE WHAT IT READS IS OF BULK AT MOST 1048576: true; the input reads as it did. -/
def scaleMakesUptoRow : OpenClaim := { program := "ytdcliaineeklcaa", sum := "ee9c57751baf196653488bf0aa5cb9b0d64dcf73834f1e59b6d8b0d1f40c79b2", func := "fusee/fuseelaw04.ScaleMakes", spec := "scaleMakes", inPlace := ["math/bits.Add64"], named := ["math/bits.divideError", "math/bits.overflowError"], apart := false, narrowed := true }
def ScaleMakesUptoSaid : Prop := scaleMakesUptoRow.holds Try.pinned (OpenSpec.upto scaleMakesSpec)

/-- 'fuseelaw04.ScaleRises', WHERE WHAT IT READS IS OF BULK AT MOST 1048576: true; the input reads as it did. -/
def scaleRisesUptoRow : OpenClaim := { program := "ytdcliaineeklcaa", sum := "ee9c57751baf196653488bf0aa5cb9b0d64dcf73834f1e59b6d8b0d1f40c79b2", func := "fusee/fuseelaw04.ScaleRises", spec := "scaleRises", inPlace := ["math/bits.Add64"], named := ["math/bits.divideError", "math/bits.overflowError"], apart := false, narrowed := true }
def ScaleRisesUptoSaid : Prop := scaleRisesUptoRow.holds Try.pinned (OpenSpec.upto scaleRisesSpec)

end Rows
end Go.Proofs.Ytdcliaineeklcaa
