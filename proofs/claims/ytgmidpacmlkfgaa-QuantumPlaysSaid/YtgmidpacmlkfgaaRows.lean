/-
  No cell of these rows narrows 'for every input' (looked for: loops, veiled, ifaces, maps, wideKeys, modest, calm, conditions, laid).
  DERIVED. THE GIVEN ROWS OF THIS SEAT. 3 by the template 'for every input the law returns true; each argument reads behind the call as it read before'; 0 by the template 'total and deterministic' (their statements: YtgmidpacmlkfgaaTotals.lean).
  GIVEN WITH THE SEED: the statements are not yours to turn. If you find one false, say at which input.
  Laid BY PROGRAM, IN A SANDBOX (cutbox-rows.mjs): the forced cells as the released guide's own fill.sh prints them over the translation 9a2a4515d8613ad9… (all of the seat's roots in one cut). By AI agents, Wed Nov 11 2026. No macro, syntax, notation, axiom, sorry.
-/
import Derived.Test.YtgmidpacmlkfgaaChecked
import GoSem.Claim
import GoSem.ClaimJoined
import GoSem.ClaimMapViews
import Derived.JoinedTies
import Derived.KernelRfl
namespace Go.Proofs.Ytgmidpacmlkfgaa
/- THE CELL 'sum', in the pinned program and in every row, IS THE sha256 OF THE DUMP (.gsa) THAT YtgmidpacmlkfgaaProg.lean LOADS. Nothing in Lean hashes anything: it is a label: what it is worth is what the hold of that sum in a sandbox is worth. -/
noncomputable def Try.pinned : Pinned := { name := "ytgmidpacmlkfgaa", sum := "9a2a4515d8613ad9de732d092c89679a73a5f504b8727fed0416e05d2d009b80", checked := Try.checked }
namespace Rows
def none {H : Type} : Left H := { results := [], args := [] }

/-- 'fuseelaw43.QuantumPlays': WHATEVER THE INPUT: true; the input reads as it did. -/
def quantumPlaysSpec : ChangeSpec := { name := "quantumPlays", fn := fun _ => fun
  | [d1, d2] => { results := [.lit (.bool true)], args := [d1, d2] }
  | _ => none }
def quantumPlaysRow : OpenClaim := { program := "ytgmidpacmlkfgaa", sum := "9a2a4515d8613ad9de732d092c89679a73a5f504b8727fed0416e05d2d009b80", func := "fusee/fuseelaw43.QuantumPlays", spec := "quantumPlays", unfollowed := true, recurses := true, apart := false }
def QuantumPlaysSaid : Prop := quantumPlaysRow.holds Try.pinned (OpenSpec.ofChange quantumPlaysSpec)

/-- ITS FALSE NEIGHBOUR: 'it returns false'. Refute it at one input. -/
def quantumPlaysWrong : ChangeSpec := { name := "quantumPlays", fn := fun _ => fun
  | [d1, d2] => { results := [.lit (.bool false)], args := [d1, d2] }
  | _ => none }
def QuantumPlaysWrongFalsely : Prop := quantumPlaysRow.holds Try.pinned (OpenSpec.ofChange quantumPlaysWrong)

/-- 'fuseelaw43.QuantumFair': WHATEVER THE INPUT: true; the input reads as it did. -/
def quantumFairSpec : ChangeSpec := { name := "quantumFair", fn := fun _ => fun
  | [d1, d2] => { results := [.lit (.bool true)], args := [d1, d2] }
  | _ => none }
def quantumFairRow : OpenClaim := { program := "ytgmidpacmlkfgaa", sum := "9a2a4515d8613ad9de732d092c89679a73a5f504b8727fed0416e05d2d009b80", func := "fusee/fuseelaw43.QuantumFair", spec := "quantumFair", unfollowed := true, recurses := true, apart := false }
def QuantumFairSaid : Prop := quantumFairRow.holds Try.pinned (OpenSpec.ofChange quantumFairSpec)

/-- ITS FALSE NEIGHBOUR: 'it returns false'. Refute it at one input. -/
def quantumFairWrong : ChangeSpec := { name := "quantumFair", fn := fun _ => fun
  | [d1, d2] => { results := [.lit (.bool false)], args := [d1, d2] }
  | _ => none }
def QuantumFairWrongFalsely : Prop := quantumFairRow.holds Try.pinned (OpenSpec.ofChange quantumFairWrong)

/-- 'fuseelaw43.QuantumEnds': WHATEVER THE INPUT: true; the input reads as it did. -/
def quantumEndsSpec : ChangeSpec := { name := "quantumEnds", fn := fun _ => fun
  | [d1, d2] => { results := [.lit (.bool true)], args := [d1, d2] }
  | _ => none }
def quantumEndsRow : OpenClaim := { program := "ytgmidpacmlkfgaa", sum := "9a2a4515d8613ad9de732d092c89679a73a5f504b8727fed0416e05d2d009b80", func := "fusee/fuseelaw43.QuantumEnds", spec := "quantumEnds", unfollowed := true, recurses := true, apart := false }
def QuantumEndsSaid : Prop := quantumEndsRow.holds Try.pinned (OpenSpec.ofChange quantumEndsSpec)

/-- ITS FALSE NEIGHBOUR: 'it returns false'. Refute it at one input. -/
def quantumEndsWrong : ChangeSpec := { name := "quantumEnds", fn := fun _ => fun
  | [d1, d2] => { results := [.lit (.bool false)], args := [d1, d2] }
  | _ => none }
def QuantumEndsWrongFalsely : Prop := quantumEndsRow.holds Try.pinned (OpenSpec.ofChange quantumEndsWrong)

/- THE SECOND FORM. 'bulk': how many values and letters a reading holds, each counted each time it is reached (what is shared counts as often as it is met; a slice's spare places count too). A statement '..UptoSaid' is the law's where the arguments, and the package variables that the reading takes, are together of bulk at most 1048576: NARROWER than '..Said'. Prove '..Said' where nothing that the law and all that it calls make is longer than what came in: it says more and counts as full. Else prove '..UptoSaid'. A law counts once. -/
mutual
def uptoBulk {H : Type} : DataW H → Nat
  | .lit (.string bytes) => bytes.length + 1
  | .lit _ => 1
  | .nil => 1
  | .ptr d => uptoBulk d + 1
  | .slice elems spare => uptoBulkAll elems + uptoBulkAll spare + 1
  | .agg parts => uptoBulkAll parts + 1
  | .iface _ d => uptoBulk d + 1
  | .map entries => uptoBulkEntries entries + 1
  | .held _ => 1
def uptoBulkAll {H : Type} : List (DataW H) → Nat
  | [] => 0
  | d :: r => uptoBulk d + uptoBulkAll r
def uptoBulkEntries {H : Type} : List (Lit × DataW H) → Nat
  | [] => 0
  | x :: r => uptoBulkEntry x + uptoBulkEntries r
def uptoBulkEntry {H : Type} : Lit × DataW H → Nat
  | (.string bytes, d) => bytes.length + uptoBulk d + 1
  | (_, d) => uptoBulk d + 1
 end
def uptoSmall : (H : Type) → List (DataW H) → Bool := fun _ ds => decide (uptoBulkAll ds ≤ 1048576)
def OpenSpec.upto (s : _root_.Go.ChangeSpec) : _root_.Go.OpenSpec := { _root_.Go.OpenSpec.ofChange s with cond := some uptoSmall }

/-- 'fuseelaw43.QuantumPlays', WHERE WHAT IT READS IS OF BULK AT MOST 1048576: true; the input reads as it did. -/
def quantumPlaysUptoRow : OpenClaim := { program := "ytgmidpacmlkfgaa", sum := "9a2a4515d8613ad9de732d092c89679a73a5f504b8727fed0416e05d2d009b80", func := "fusee/fuseelaw43.QuantumPlays", spec := "quantumPlays", unfollowed := true, recurses := true, apart := false, narrowed := true }
def QuantumPlaysUptoSaid : Prop := quantumPlaysUptoRow.holds Try.pinned (OpenSpec.upto quantumPlaysSpec)

/-- 'fuseelaw43.QuantumFair', WHERE WHAT IT READS IS OF BULK AT MOST 1048576: true; the input reads as it did. -/
def quantumFairUptoRow : OpenClaim := { program := "ytgmidpacmlkfgaa", sum := "9a2a4515d8613ad9de732d092c89679a73a5f504b8727fed0416e05d2d009b80", func := "fusee/fuseelaw43.QuantumFair", spec := "quantumFair", unfollowed := true, recurses := true, apart := false, narrowed := true }
def QuantumFairUptoSaid : Prop := quantumFairUptoRow.holds Try.pinned (OpenSpec.upto quantumFairSpec)

/-- 'fuseelaw43.QuantumEnds', WHERE WHAT IT READS IS OF BULK AT MOST 1048576: true; the input reads as it did. -/
def quantumEndsUptoRow : OpenClaim := { program := "ytgmidpacmlkfgaa", sum := "9a2a4515d8613ad9de732d092c89679a73a5f504b8727fed0416e05d2d009b80", func := "fusee/fuseelaw43.QuantumEnds", spec := "quantumEnds", unfollowed := true, recurses := true, apart := false, narrowed := true }
def QuantumEndsUptoSaid : Prop := quantumEndsUptoRow.holds Try.pinned (OpenSpec.upto quantumEndsSpec)

end Rows
end Go.Proofs.Ytgmidpacmlkfgaa
