/-
  No cell of these rows narrows 'for every input' (looked for: loops, veiled, ifaces, maps, wideKeys, modest, calm, conditions, laid).
  DERIVED. THE GIVEN ROWS OF THIS SEAT. 3 by the template 'for every input the law returns true; each argument reads behind the call as it read before'; 0 by the template 'total and deterministic' (their statements: YtkalojiddaeekaaTotals.lean).
  GIVEN WITH THE SEED: the statements are not yours to turn. If you find one false, say at which input.
  Laid BY PROGRAM, IN A SANDBOX (cutbox-rows.mjs): the forced cells as the released guide's own fill.sh prints them over the translation 18aec17a284c07f6… (all of the seat's roots in one cut). By AI agents, Wed Nov 11 2026. No macro, syntax, notation, axiom, sorry.
-/
import Derived.Test.YtkalojiddaeekaaChecked
import GoSem.Claim
import GoSem.ClaimJoined
import GoSem.ClaimMapViews
import Derived.JoinedTies
import Derived.KernelRfl
namespace Go.Proofs.Ytkalojiddaeekaa
/- THE CELL 'sum', in the pinned program and in every row, IS THE sha256 OF THE DUMP (.gsa) THAT YtkalojiddaeekaaProg.lean LOADS. Nothing in Lean hashes anything: it is a label: what it is worth is what the hold of that sum in a sandbox is worth. -/
noncomputable def Try.pinned : Pinned := { name := "ytkalojiddaeekaa", sum := "18aec17a284c07f6782ff38ac09cbfc14b489f73714b52986dc3d35d62245c1b", checked := Try.checked }
namespace Rows
def none {H : Type} : Left H := { results := [], args := [] }

/-- 'fuseelaw27.WeeklyRings': WHATEVER THE INPUT: true; the input reads as it did. -/
def weeklyRingsSpec : ChangeSpec := { name := "weeklyRings", fn := fun _ => fun
  | [d1, d2] => { results := [.lit (.bool true)], args := [d1, d2] }
  | _ => none }
def weeklyRingsRow : OpenClaim := { program := "ytkalojiddaeekaa", sum := "18aec17a284c07f6782ff38ac09cbfc14b489f73714b52986dc3d35d62245c1b", func := "fusee/fuseelaw27.WeeklyRings", spec := "weeklyRings", inPlace := ["slices.overlaps[fusee/weekly.Alarm]"], unfollowed := true, recurses := true, apart := false }
def WeeklyRingsSaid : Prop := weeklyRingsRow.holds Try.pinned (OpenSpec.ofChange weeklyRingsSpec)

/-- ITS FALSE NEIGHBOUR: 'it returns false'. Refute it at one input. -/
def weeklyRingsWrong : ChangeSpec := { name := "weeklyRings", fn := fun _ => fun
  | [d1, d2] => { results := [.lit (.bool false)], args := [d1, d2] }
  | _ => none }
def WeeklyRingsWrongFalsely : Prop := weeklyRingsRow.holds Try.pinned (OpenSpec.ofChange weeklyRingsWrong)

/-- 'fuseelaw27.WeeklyNext': WHATEVER THE INPUT: true; the input reads as it did. -/
def weeklyNextSpec : ChangeSpec := { name := "weeklyNext", fn := fun _ => fun
  | [d1, d2] => { results := [.lit (.bool true)], args := [d1, d2] }
  | _ => none }
def weeklyNextRow : OpenClaim := { program := "ytkalojiddaeekaa", sum := "18aec17a284c07f6782ff38ac09cbfc14b489f73714b52986dc3d35d62245c1b", func := "fusee/fuseelaw27.WeeklyNext", spec := "weeklyNext", inPlace := ["slices.overlaps[fusee/weekly.Alarm]"], unfollowed := true, recurses := true, apart := false }
def WeeklyNextSaid : Prop := weeklyNextRow.holds Try.pinned (OpenSpec.ofChange weeklyNextSpec)

/-- ITS FALSE NEIGHBOUR: 'it returns false'. Refute it at one input. -/
def weeklyNextWrong : ChangeSpec := { name := "weeklyNext", fn := fun _ => fun
  | [d1, d2] => { results := [.lit (.bool false)], args := [d1, d2] }
  | _ => none }
def WeeklyNextWrongFalsely : Prop := weeklyNextRow.holds Try.pinned (OpenSpec.ofChange weeklyNextWrong)

/-- 'fuseelaw27.WeeklyBetween': WHATEVER THE INPUT: true; the input reads as it did. -/
def weeklyBetweenSpec : ChangeSpec := { name := "weeklyBetween", fn := fun _ => fun
  | [d1, d2, d3, d4] => { results := [.lit (.bool true)], args := [d1, d2, d3, d4] }
  | _ => none }
def weeklyBetweenRow : OpenClaim := { program := "ytkalojiddaeekaa", sum := "18aec17a284c07f6782ff38ac09cbfc14b489f73714b52986dc3d35d62245c1b", func := "fusee/fuseelaw27.WeeklyBetween", spec := "weeklyBetween", inPlace := ["slices.overlaps[fusee/weekly.Alarm]"], unfollowed := true, recurses := true, apart := false }
def WeeklyBetweenSaid : Prop := weeklyBetweenRow.holds Try.pinned (OpenSpec.ofChange weeklyBetweenSpec)

/-- ITS FALSE NEIGHBOUR: 'it returns false'. Refute it at one input. -/
def weeklyBetweenWrong : ChangeSpec := { name := "weeklyBetween", fn := fun _ => fun
  | [d1, d2, d3, d4] => { results := [.lit (.bool false)], args := [d1, d2, d3, d4] }
  | _ => none }
def WeeklyBetweenWrongFalsely : Prop := weeklyBetweenRow.holds Try.pinned (OpenSpec.ofChange weeklyBetweenWrong)

/- THE SECOND FORM. 'bulk': how many values and letters a reading holds, each counted each time it is reached (what is shared counts as often as it is met; a slice's spare places count too). A statement '..UptoSaid' is the law's where the arguments, and the package variables that the reading takes, are together of bulk at most 1048576: NARROWER than '..Said'. Prove '..Said' where nothing that the law and all that it calls make is longer than what came in: it says more and counts as full. Else prove '..UptoSaid'. A law counts once. -/
mutual
def uptoBulk {H : Type} : DataW H → Nat
  | .lit (.string bytes) => bytes.length + 1
  | .lit _ => 1
  | .nil => 1
  | .ptr d => uptoBulk d + 1
  | .slice elems spare => uptoBulkAll elems + uptoBulkAll spare + 1
  | .agg parts => uptoBulkAll parts + 1
  | .iface _ d => uptoBulk d + 1
  | .map entries => uptoBulkEntries entries + 1
  | .held _ => 1
def uptoBulkAll {H : Type} : List (DataW H) → Nat
  | [] => 0
  | d :: r => uptoBulk d + uptoBulkAll r
def uptoBulkEntries {H : Type} : List (Lit × DataW H) → Nat
  | [] => 0
  | x :: r => uptoBulkEntry x + uptoBulkEntries r
def uptoBulkEntry {H : Type} : Lit × DataW H → Nat
  | (.string bytes, d) => bytes.length + uptoBulk d + 1
  | (_, d) => uptoBulk d + 1
 end
def uptoSmall : (H : Type) → List (DataW H) → Bool := fun _ ds => decide (uptoBulkAll ds ≤ 1048576)
def OpenSpec.upto (s : _root_.Go.ChangeSpec) : _root_.Go.OpenSpec := { _root_.Go.OpenSpec.ofChange s with cond := some uptoSmall }

/-- 'fuseelaw27.WeeklyRings', WHERE WHAT IT READS IS OF BULK AT MOST 1048576: true; the input reads as it did. -/
def weeklyRingsUptoRow : OpenClaim := { program := "ytkalojiddaeekaa", sum := "18aec17a284c07f6782ff38ac09cbfc14b489f73714b52986dc3d35d62245c1b", func := "fusee/fuseelaw27.WeeklyRings", spec := "weeklyRings", inPlace := ["slices.overlaps[fusee/weekly.Alarm]"], unfollowed := true, recurses := true, apart := false, narrowed := true }
def WeeklyRingsUptoSaid : Prop := weeklyRingsUptoRow.holds Try.pinned (OpenSpec.upto weeklyRingsSpec)

/-- 'fuseelaw27.WeeklyNext', WHERE WHAT IT READS IS OF BULK AT MOST 1048576: true; the input reads as it did. -/
def weeklyNextUptoRow : OpenClaim := { program := "ytkalojiddaeekaa", sum := "18aec17a284c07f6782ff38ac09cbfc14b489f73714b52986dc3d35d62245c1b", func := "fusee/fuseelaw27.WeeklyNext", spec := "weeklyNext", inPlace := ["slices.overlaps[fusee/weekly.Alarm]"], unfollowed := true, recurses := true, apart := false, narrowed := true }
def WeeklyNextUptoSaid : Prop := weeklyNextUptoRow.holds Try.pinned (OpenSpec.upto weeklyNextSpec)

/-- 'fuseelaw27.WeeklyBetween', WHERE WHAT IT READS IS OF BULK AT MOST 1048576: true; the input reads as it did. -/
def weeklyBetweenUptoRow : OpenClaim := { program := "ytkalojiddaeekaa", sum := "18aec17a284c07f6782ff38ac09cbfc14b489f73714b52986dc3d35d62245c1b", func := "fusee/fuseelaw27.WeeklyBetween", spec := "weeklyBetween", inPlace := ["slices.overlaps[fusee/weekly.Alarm]"], unfollowed := true, recurses := true, apart := false, narrowed := true }
def WeeklyBetweenUptoSaid : Prop := weeklyBetweenUptoRow.holds Try.pinned (OpenSpec.upto weeklyBetweenSpec)

end Rows
end Go.Proofs.Ytkalojiddaeekaa
