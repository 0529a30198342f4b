/-
  No cell of these rows narrows 'for every input' (looked for: loops, veiled, ifaces, maps, wideKeys, modest, calm, conditions, laid).
  DERIVED. THE GIVEN ROWS OF THIS SEAT. 4 by the template 'for every input the law returns true; each argument reads behind the call as it read before'; 0 by the template 'total and deterministic' (their statements: YtffcpgjegdgliaaTotals.lean).
  GIVEN WITH THE SEED: the statements are not yours to turn. If you find one false, say at which input.
  Laid BY PROGRAM, IN A SANDBOX (cutbox-rows.mjs): the forced cells as the released guide's own fill.sh prints them over the translation 13431615f37c4f96… (all of the seat's roots in one cut). By AI agents, Wed Nov 11 2026. No macro, syntax, notation, axiom, sorry.
-/
import Derived.Test.YtffcpgjegdgliaaChecked
import GoSem.Claim
import GoSem.ClaimJoined
import GoSem.ClaimMapViews
import Derived.JoinedTies
import Derived.KernelRfl
namespace Go.Proofs.Ytffcpgjegdgliaa
/- THE CELL 'sum', in the pinned program and in every row, IS THE sha256 OF THE DUMP (.gsa) THAT YtffcpgjegdgliaaProg.lean LOADS. Nothing in Lean hashes anything: it is a label: what it is worth is what the hold of that sum in a sandbox is worth. -/
noncomputable def Try.pinned : Pinned := { name := "ytffcpgjegdgliaa", sum := "13431615f37c4f96ec7e7c912c1755d5017f733074cc4bec1e778be622c6099a", checked := Try.checked }
namespace Rows
def none {H : Type} : Left H := { results := [], args := [] }

/-- 'fuseelaw29.JitterErrors': WHATEVER THE INPUT: true; the input reads as it did. -/
def jitterErrorsSpec : ChangeSpec := { name := "jitterErrors", fn := fun _ => fun
  | [d1, d2, d3] => { results := [.lit (.bool true)], args := [d1, d2, d3] }
  | _ => none }
def jitterErrorsRow : OpenClaim := { program := "ytffcpgjegdgliaa", sum := "13431615f37c4f96ec7e7c912c1755d5017f733074cc4bec1e778be622c6099a", func := "fusee/fuseelaw29.JitterErrors", spec := "jitterErrors", recurses := true, apart := false }
def JitterErrorsSaid : Prop := jitterErrorsRow.holds Try.pinned (OpenSpec.ofChange jitterErrorsSpec)

/-- ITS FALSE NEIGHBOUR: 'it returns false'. Refute it at one input. -/
def jitterErrorsWrong : ChangeSpec := { name := "jitterErrors", fn := fun _ => fun
  | [d1, d2, d3] => { results := [.lit (.bool false)], args := [d1, d2, d3] }
  | _ => none }
def JitterErrorsWrongFalsely : Prop := jitterErrorsRow.holds Try.pinned (OpenSpec.ofChange jitterErrorsWrong)

/-- 'fuseelaw29.JitterNear': WHATEVER THE INPUT: true; the input reads as it did. -/
def jitterNearSpec : ChangeSpec := { name := "jitterNear", fn := fun _ => fun
  | [d1, d2, d3] => { results := [.lit (.bool true)], args := [d1, d2, d3] }
  | _ => none }
def jitterNearRow : OpenClaim := { program := "ytffcpgjegdgliaa", sum := "13431615f37c4f96ec7e7c912c1755d5017f733074cc4bec1e778be622c6099a", func := "fusee/fuseelaw29.JitterNear", spec := "jitterNear", recurses := true, apart := false }
def JitterNearSaid : Prop := jitterNearRow.holds Try.pinned (OpenSpec.ofChange jitterNearSpec)

/-- ITS FALSE NEIGHBOUR: 'it returns false'. Refute it at one input. -/
def jitterNearWrong : ChangeSpec := { name := "jitterNear", fn := fun _ => fun
  | [d1, d2, d3] => { results := [.lit (.bool false)], args := [d1, d2, d3] }
  | _ => none }
def JitterNearWrongFalsely : Prop := jitterNearRow.holds Try.pinned (OpenSpec.ofChange jitterNearWrong)

/-- 'fuseelaw29.JitterGaps': WHATEVER THE INPUT: true; the input reads as it did. -/
def jitterGapsSpec : ChangeSpec := { name := "jitterGaps", fn := fun _ => fun
  | [d] => { results := [.lit (.bool true)], args := [d] }
  | _ => none }
def jitterGapsRow : OpenClaim := { program := "ytffcpgjegdgliaa", sum := "13431615f37c4f96ec7e7c912c1755d5017f733074cc4bec1e778be622c6099a", func := "fusee/fuseelaw29.JitterGaps", spec := "jitterGaps", recurses := true, apart := false }
def JitterGapsSaid : Prop := jitterGapsRow.holds Try.pinned (OpenSpec.ofChange jitterGapsSpec)

/-- ITS FALSE NEIGHBOUR: 'it returns false'. Refute it at one input. -/
def jitterGapsWrong : ChangeSpec := { name := "jitterGaps", fn := fun _ => fun
  | [d] => { results := [.lit (.bool false)], args := [d] }
  | _ => none }
def JitterGapsWrongFalsely : Prop := jitterGapsRow.holds Try.pinned (OpenSpec.ofChange jitterGapsWrong)

/-- 'fuseelaw29.JitterMissed': WHATEVER THE INPUT: true; the input reads as it did. -/
def jitterMissedSpec : ChangeSpec := { name := "jitterMissed", fn := fun _ => fun
  | [d1, d2, d3, d4] => { results := [.lit (.bool true)], args := [d1, d2, d3, d4] }
  | _ => none }
def jitterMissedRow : OpenClaim := { program := "ytffcpgjegdgliaa", sum := "13431615f37c4f96ec7e7c912c1755d5017f733074cc4bec1e778be622c6099a", func := "fusee/fuseelaw29.JitterMissed", spec := "jitterMissed", recurses := true, apart := false }
def JitterMissedSaid : Prop := jitterMissedRow.holds Try.pinned (OpenSpec.ofChange jitterMissedSpec)

/-- ITS FALSE NEIGHBOUR: 'it returns false'. Refute it at one input. -/
def jitterMissedWrong : ChangeSpec := { name := "jitterMissed", fn := fun _ => fun
  | [d1, d2, d3, d4] => { results := [.lit (.bool false)], args := [d1, d2, d3, d4] }
  | _ => none }
def JitterMissedWrongFalsely : Prop := jitterMissedRow.holds Try.pinned (OpenSpec.ofChange jitterMissedWrong)

/- THE SECOND FORM. 'bulk': how many values and letters a reading holds, each counted each time it is reached (what is shared counts as often as it is met; a slice's spare places count too). A statement '..UptoSaid' is the law's where the arguments, and the package variables that the reading takes, are together of bulk at most 1048576: NARROWER than '..Said'. Prove '..Said' where nothing that the law and all that it calls make is longer than what came in: it says more and counts as full. Else prove '..UptoSaid'. A law counts once. -/
mutual
def uptoBulk {H : Type} : DataW H → Nat
  | .lit (.string bytes) => bytes.length + 1
  | .lit _ => 1
  | .nil => 1
  | .ptr d => uptoBulk d + 1
  | .slice elems spare => uptoBulkAll elems + uptoBulkAll spare + 1
  | .agg parts => uptoBulkAll parts + 1
  | .iface _ d => uptoBulk d + 1
  | .map entries => uptoBulkEntries entries + 1
  | .held _ => 1
def uptoBulkAll {H : Type} : List (DataW H) → Nat
  | [] => 0
  | d :: r => uptoBulk d + uptoBulkAll r
def uptoBulkEntries {H : Type} : List (Lit × DataW H) → Nat
  | [] => 0
  | x :: r => uptoBulkEntry x + uptoBulkEntries r
def uptoBulkEntry {H : Type} : Lit × DataW H → Nat
  | (.string bytes, d) => bytes.length + uptoBulk d + 1
  | (_, d) => uptoBulk d + 1
 end
def uptoSmall : (H : Type) → List (DataW H) → Bool := fun _ ds => decide (uptoBulkAll ds ≤ 1048576)
def OpenSpec.upto (s : _root_.Go.ChangeSpec) : _root_.Go.OpenSpec := { _root_.Go.OpenSpec.ofChange s with cond := some uptoSmall }

/-- 'fuseelaw29.JitterErrors', WHERE WHAT IT READS IS OF BULK AT MOST 1048576: true; the input reads as it did. -/
def jitterErrorsUptoRow : OpenClaim := { program := "ytffcpgjegdgliaa", sum := "13431615f37c4f96ec7e7c912c1755d5017f733074cc4bec1e778be622c6099a", func := "fusee/fuseelaw29.JitterErrors", spec := "jitterErrors", recurses := true, apart := false, narrowed := true }
def JitterErrorsUptoSaid : Prop := jitterErrorsUptoRow.holds Try.pinned (OpenSpec.upto jitterErrorsSpec)

/-- 'fuseelaw29.JitterNear', WHERE WHAT IT READS IS OF BULK AT MOST 1048576: true; the input reads as it did. -/
def jitterNearUptoRow : OpenClaim := { program := "ytffcpgjegdgliaa", sum := "13431615f37c4f96ec7e7c912c1755d5017f733074cc4bec1e778be622c6099a", func := "fusee/fuseelaw29.JitterNear", spec := "jitterNear", recurses := true, apart := false, narrowed := true }
def JitterNearUptoSaid : Prop := jitterNearUptoRow.holds Try.pinned (OpenSpec.upto jitterNearSpec)

/-- 'fuseelaw29.JitterGaps', WHERE WHAT IT READS IS OF BULK AT MOST 1048576: true; the input reads as it did. -/
def jitterGapsUptoRow : OpenClaim := { program := "ytffcpgjegdgliaa", sum := "13431615f37c4f96ec7e7c912c1755d5017f733074cc4bec1e778be622c6099a", func := "fusee/fuseelaw29.JitterGaps", spec := "jitterGaps", recurses := true, apart := false, narrowed := true }
def JitterGapsUptoSaid : Prop := jitterGapsUptoRow.holds Try.pinned (OpenSpec.upto jitterGapsSpec)

/-- 'fuseelaw29.JitterMissed', WHERE WHAT IT READS IS OF BULK AT MOST 1048576: true; the input reads as it did. -/
def jitterMissedUptoRow : OpenClaim := { program := "ytffcpgjegdgliaa", sum := "13431615f37c4f96ec7e7c912c1755d5017f733074cc4bec1e778be622c6099a", func := "fusee/fuseelaw29.JitterMissed", spec := "jitterMissed", recurses := true, apart := false, narrowed := true }
def JitterMissedUptoSaid : Prop := jitterMissedUptoRow.holds Try.pinned (OpenSpec.upto jitterMissedSpec)

end Rows
end Go.Proofs.Ytffcpgjegdgliaa
