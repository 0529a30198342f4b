/-
  No cell of these rows narrows 'for every input' (looked for: loops, veiled, ifaces, maps, wideKeys, modest, calm, conditions, laid).
  DERIVED. THE GIVEN ROWS OF THIS SEAT. 5 by the template 'for every input the law returns true; each argument reads behind the call as it read before'; 0 by the template 'total and deterministic' (their statements: YtdjofnipknioiaaTotals.lean).
  GIVEN WITH THE SEED: the statements are not yours to turn. If you find one false, say at which input.
  Laid BY PROGRAM, IN A SANDBOX (cutbox-rows.mjs): the forced cells as the released guide's own fill.sh prints them over the translation a62d2f5af4fb36df… (all of the seat's roots in one cut). By AI agents, Wed Nov 11 2026. No macro, syntax, notation, axiom, sorry.
-/
import Derived.Test.YtdjofnipknioiaaChecked
import GoSem.Claim
import GoSem.ClaimJoined
import GoSem.ClaimMapViews
import Derived.JoinedTies
import Derived.KernelRfl
namespace Go.Proofs.Ytdjofnipknioiaa
/- THE CELL 'sum', in the pinned program and in every row, IS THE sha256 OF THE DUMP (.gsa) THAT YtdjofnipknioiaaProg.lean LOADS. Nothing in Lean hashes anything: it is a label: what it is worth is what the hold of that sum in a sandbox is worth. -/
noncomputable def Try.pinned : Pinned := { name := "ytdjofnipknioiaa", sum := "a62d2f5af4fb36dff6f7d1cbff06bdc1150d63a26dc1ea75620ceff384681ce6", checked := Try.checked }
namespace Rows
def none {H : Type} : Left H := { results := [], args := [] }

/-- 'fuseelaw28.StampPuts': WHATEVER THE INPUT: true; the input reads as it did. -/
def stampPutsSpec : ChangeSpec := { name := "stampPuts", fn := fun _ => fun
  | [d] => { results := [.lit (.bool true)], args := [d] }
  | _ => none }
def stampPutsRow : OpenClaim := { program := "ytdjofnipknioiaa", sum := "a62d2f5af4fb36dff6f7d1cbff06bdc1150d63a26dc1ea75620ceff384681ce6", func := "fusee/fuseelaw28.StampPuts", spec := "stampPuts", recurses := true, apart := false }
def StampPutsSaid : Prop := stampPutsRow.holds Try.pinned (OpenSpec.ofChange stampPutsSpec)

/-- ITS FALSE NEIGHBOUR: 'it returns false'. Refute it at one input. -/
def stampPutsWrong : ChangeSpec := { name := "stampPuts", fn := fun _ => fun
  | [d] => { results := [.lit (.bool false)], args := [d] }
  | _ => none }
def StampPutsWrongFalsely : Prop := stampPutsRow.holds Try.pinned (OpenSpec.ofChange stampPutsWrong)

/-- 'fuseelaw28.StampReads': WHATEVER THE INPUT: true; the input reads as it did. -/
def stampReadsSpec : ChangeSpec := { name := "stampReads", fn := fun _ => fun
  | [d] => { results := [.lit (.bool true)], args := [d] }
  | _ => none }
def stampReadsRow : OpenClaim := { program := "ytdjofnipknioiaa", sum := "a62d2f5af4fb36dff6f7d1cbff06bdc1150d63a26dc1ea75620ceff384681ce6", func := "fusee/fuseelaw28.StampReads", spec := "stampReads", recurses := true, apart := false }
def StampReadsSaid : Prop := stampReadsRow.holds Try.pinned (OpenSpec.ofChange stampReadsSpec)

/-- ITS FALSE NEIGHBOUR: 'it returns false'. Refute it at one input. -/
def stampReadsWrong : ChangeSpec := { name := "stampReads", fn := fun _ => fun
  | [d] => { results := [.lit (.bool false)], args := [d] }
  | _ => none }
def StampReadsWrongFalsely : Prop := stampReadsRow.holds Try.pinned (OpenSpec.ofChange stampReadsWrong)

/-- 'fuseelaw28.StampSeeks': WHATEVER THE INPUT: true; the input reads as it did. -/
def stampSeeksSpec : ChangeSpec := { name := "stampSeeks", fn := fun _ => fun
  | [d1, d2] => { results := [.lit (.bool true)], args := [d1, d2] }
  | _ => none }
def stampSeeksRow : OpenClaim := { program := "ytdjofnipknioiaa", sum := "a62d2f5af4fb36dff6f7d1cbff06bdc1150d63a26dc1ea75620ceff384681ce6", func := "fusee/fuseelaw28.StampSeeks", spec := "stampSeeks", recurses := true, apart := false }
def StampSeeksSaid : Prop := stampSeeksRow.holds Try.pinned (OpenSpec.ofChange stampSeeksSpec)

/-- ITS FALSE NEIGHBOUR: 'it returns false'. Refute it at one input. -/
def stampSeeksWrong : ChangeSpec := { name := "stampSeeks", fn := fun _ => fun
  | [d1, d2] => { results := [.lit (.bool false)], args := [d1, d2] }
  | _ => none }
def StampSeeksWrongFalsely : Prop := stampSeeksRow.holds Try.pinned (OpenSpec.ofChange stampSeeksWrong)

/-- 'fuseelaw28.StampCuts': WHATEVER THE INPUT: true; the input reads as it did. -/
def stampCutsSpec : ChangeSpec := { name := "stampCuts", fn := fun _ => fun
  | [d1, d2, d3] => { results := [.lit (.bool true)], args := [d1, d2, d3] }
  | _ => none }
def stampCutsRow : OpenClaim := { program := "ytdjofnipknioiaa", sum := "a62d2f5af4fb36dff6f7d1cbff06bdc1150d63a26dc1ea75620ceff384681ce6", func := "fusee/fuseelaw28.StampCuts", spec := "stampCuts", recurses := true, apart := false }
def StampCutsSaid : Prop := stampCutsRow.holds Try.pinned (OpenSpec.ofChange stampCutsSpec)

/-- ITS FALSE NEIGHBOUR: 'it returns false'. Refute it at one input. -/
def stampCutsWrong : ChangeSpec := { name := "stampCuts", fn := fun _ => fun
  | [d1, d2, d3] => { results := [.lit (.bool false)], args := [d1, d2, d3] }
  | _ => none }
def StampCutsWrongFalsely : Prop := stampCutsRow.holds Try.pinned (OpenSpec.ofChange stampCutsWrong)

/-- 'fuseelaw28.StampLong': WHATEVER THE INPUT: true; the input reads as it did. -/
def stampLongSpec : ChangeSpec := { name := "stampLong", fn := fun _ => fun
  | [d1, d2] => { results := [.lit (.bool true)], args := [d1, d2] }
  | _ => none }
def stampLongRow : OpenClaim := { program := "ytdjofnipknioiaa", sum := "a62d2f5af4fb36dff6f7d1cbff06bdc1150d63a26dc1ea75620ceff384681ce6", func := "fusee/fuseelaw28.StampLong", spec := "stampLong", apart := false }
def StampLongSaid : Prop := stampLongRow.holds Try.pinned (OpenSpec.ofChange stampLongSpec)

/-- ITS FALSE NEIGHBOUR: 'it returns false'. Refute it at one input. -/
def stampLongWrong : ChangeSpec := { name := "stampLong", fn := fun _ => fun
  | [d1, d2] => { results := [.lit (.bool false)], args := [d1, d2] }
  | _ => none }
def StampLongWrongFalsely : Prop := stampLongRow.holds Try.pinned (OpenSpec.ofChange stampLongWrong)

/- THE SECOND FORM. 'bulk': how many values and letters a reading holds, each counted each time it is reached (what is shared counts as often as it is met; a slice's spare places count too). A statement '..UptoSaid' is the law's where the arguments, and the package variables that the reading takes, are together of bulk at most 1048576: NARROWER than '..Said'. Prove '..Said' where nothing that the law and all that it calls make is longer than what came in: it says more and counts as full. Else prove '..UptoSaid'. A law counts once. -/
mutual
def uptoBulk {H : Type} : DataW H → Nat
  | .lit (.string bytes) => bytes.length + 1
  | .lit _ => 1
  | .nil => 1
  | .ptr d => uptoBulk d + 1
  | .slice elems spare => uptoBulkAll elems + uptoBulkAll spare + 1
  | .agg parts => uptoBulkAll parts + 1
  | .iface _ d => uptoBulk d + 1
  | .map entries => uptoBulkEntries entries + 1
  | .held _ => 1
def uptoBulkAll {H : Type} : List (DataW H) → Nat
  | [] => 0
  | d :: r => uptoBulk d + uptoBulkAll r
def uptoBulkEntries {H : Type} : List (Lit × DataW H) → Nat
  | [] => 0
  | x :: r => uptoBulkEntry x + uptoBulkEntries r
def uptoBulkEntry {H : Type} : Lit × DataW H → Nat
  | (.string bytes, d) => bytes.length + uptoBulk d + 1
  | (_, d) => uptoBulk d + 1
 end
def uptoSmall : (H : Type) → List (DataW H) → Bool := fun _ ds => decide (uptoBulkAll ds ≤ 1048576)
def OpenSpec.upto (s : _root_.Go.ChangeSpec) : _root_.Go.OpenSpec := { _root_.Go.OpenSpec.ofChange s with cond := some uptoSmall }

/-- 'fuseelaw28.StampPuts', WHERE WHAT IT READS IS OF BULK AT MOST 1048576: true; the input reads as it did. -/
def stampPutsUptoRow : OpenClaim := { program := "ytdjofnipknioiaa", sum := "a62d2f5af4fb36dff6f7d1cbff06bdc1150d63a26dc1ea75620ceff384681ce6", func := "fusee/fuseelaw28.StampPuts", spec := "stampPuts", recurses := true, apart := false, narrowed := true }
def StampPutsUptoSaid : Prop := stampPutsUptoRow.holds Try.pinned (OpenSpec.upto stampPutsSpec)

/-- 'fuseelaw28.StampReads', WHERE WHAT IT READS IS OF BULK AT MOST 1048576: true; the input reads as it did. -/
def stampReadsUptoRow : OpenClaim := { program := "ytdjofnipknioiaa", sum := "a62d2f5af4fb36dff6f7d1cbff06bdc1150d63a26dc1ea75620ceff384681ce6", func := "fusee/fuseelaw28.StampReads", spec := "stampReads", recurses := true, apart := false, narrowed := true }
def StampReadsUptoSaid : Prop := stampReadsUptoRow.holds Try.pinned (OpenSpec.upto stampReadsSpec)

/-- 'fuseelaw28.StampSeeks', WHERE WHAT IT READS IS OF BULK AT MOST 1048576: true; the input reads as it did. -/
def stampSeeksUptoRow : OpenClaim := { program := "ytdjofnipknioiaa", sum := "a62d2f5af4fb36dff6f7d1cbff06bdc1150d63a26dc1ea75620ceff384681ce6", func := "fusee/fuseelaw28.StampSeeks", spec := "stampSeeks", recurses := true, apart := false, narrowed := true }
def StampSeeksUptoSaid : Prop := stampSeeksUptoRow.holds Try.pinned (OpenSpec.upto stampSeeksSpec)

/-- 'fuseelaw28.StampCuts', WHERE WHAT IT READS IS OF BULK AT MOST 1048576: true; the input reads as it did. -/
def stampCutsUptoRow : OpenClaim := { program := "ytdjofnipknioiaa", sum := "a62d2f5af4fb36dff6f7d1cbff06bdc1150d63a26dc1ea75620ceff384681ce6", func := "fusee/fuseelaw28.StampCuts", spec := "stampCuts", recurses := true, apart := false, narrowed := true }
def StampCutsUptoSaid : Prop := stampCutsUptoRow.holds Try.pinned (OpenSpec.upto stampCutsSpec)

/-- 'fuseelaw28.StampLong', WHERE WHAT IT READS IS OF BULK AT MOST 1048576: true; the input reads as it did. -/
def stampLongUptoRow : OpenClaim := { program := "ytdjofnipknioiaa", sum := "a62d2f5af4fb36dff6f7d1cbff06bdc1150d63a26dc1ea75620ceff384681ce6", func := "fusee/fuseelaw28.StampLong", spec := "stampLong", apart := false, narrowed := true }
def StampLongUptoSaid : Prop := stampLongUptoRow.holds Try.pinned (OpenSpec.upto stampLongSpec)

end Rows
end Go.Proofs.Ytdjofnipknioiaa
