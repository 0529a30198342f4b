/-
  No cell of these rows narrows 'for every input' (looked for: loops, veiled, ifaces, maps, wideKeys, modest, calm, conditions, laid).
  DERIVED. THE GIVEN ROWS OF THIS SEAT. 3 by the template 'for every input the law returns true; each argument reads behind the call as it read before'; 0 by the template 'total and deterministic' (their statements: YtombcpkfhhlacaaTotals.lean).
  GIVEN WITH THE SEED: the statements are not yours to turn. If you find one false, say at which input.
  Laid BY PROGRAM, IN A SANDBOX (cutbox-rows.mjs): the forced cells as the released guide's own fill.sh prints them over the translation 14de4a306ddafe67… (all of the seat's roots in one cut). By AI agents, Wed Nov 11 2026. No macro, syntax, notation, axiom, sorry.
-/
import Derived.Test.YtombcpkfhhlacaaChecked
import GoSem.Claim
import GoSem.ClaimJoined
import GoSem.ClaimMapViews
import Derived.JoinedTies
import Derived.KernelRfl
namespace Go.Proofs.Ytombcpkfhhlacaa
/- THE CELL 'sum', in the pinned program and in every row, IS THE sha256 OF THE DUMP (.gsa) THAT YtombcpkfhhlacaaProg.lean LOADS. Nothing in Lean hashes anything: it is a label: what it is worth is what the hold of that sum in a sandbox is worth. -/
noncomputable def Try.pinned : Pinned := { name := "ytombcpkfhhlacaa", sum := "14de4a306ddafe67744cc24b40fd2896f8696dc06a175120356f0385acf0c840", checked := Try.checked }
namespace Rows
def none {H : Type} : Left H := { results := [], args := [] }

/-- 'fuseelaw33.LeapTells': WHATEVER THE INPUT: true; the input reads as it did. -/
def leapTellsSpec : ChangeSpec := { name := "leapTells", fn := fun _ => fun
  | [d1, d2, d3] => { results := [.lit (.bool true)], args := [d1, d2, d3] }
  | _ => none }
def leapTellsRow : OpenClaim := { program := "ytombcpkfhhlacaa", sum := "14de4a306ddafe67744cc24b40fd2896f8696dc06a175120356f0385acf0c840", func := "fusee/fuseelaw33.LeapTells", spec := "leapTells", unfollowed := true, recurses := true, apart := false }
def LeapTellsSaid : Prop := leapTellsRow.holds Try.pinned (OpenSpec.ofChange leapTellsSpec)

/-- ITS FALSE NEIGHBOUR: 'it returns false'. Refute it at one input. -/
def leapTellsWrong : ChangeSpec := { name := "leapTells", fn := fun _ => fun
  | [d1, d2, d3] => { results := [.lit (.bool false)], args := [d1, d2, d3] }
  | _ => none }
def LeapTellsWrongFalsely : Prop := leapTellsRow.holds Try.pinned (OpenSpec.ofChange leapTellsWrong)

/-- 'fuseelaw33.LeapPlain': WHATEVER THE INPUT: true; the input reads as it did. -/
def leapPlainSpec : ChangeSpec := { name := "leapPlain", fn := fun _ => fun
  | [d1, d2] => { results := [.lit (.bool true)], args := [d1, d2] }
  | _ => none }
def leapPlainRow : OpenClaim := { program := "ytombcpkfhhlacaa", sum := "14de4a306ddafe67744cc24b40fd2896f8696dc06a175120356f0385acf0c840", func := "fusee/fuseelaw33.LeapPlain", spec := "leapPlain", unfollowed := true, recurses := true, apart := false }
def LeapPlainSaid : Prop := leapPlainRow.holds Try.pinned (OpenSpec.ofChange leapPlainSpec)

/-- ITS FALSE NEIGHBOUR: 'it returns false'. Refute it at one input. -/
def leapPlainWrong : ChangeSpec := { name := "leapPlain", fn := fun _ => fun
  | [d1, d2] => { results := [.lit (.bool false)], args := [d1, d2] }
  | _ => none }
def LeapPlainWrongFalsely : Prop := leapPlainRow.holds Try.pinned (OpenSpec.ofChange leapPlainWrong)

/-- 'fuseelaw33.LeapBack': WHATEVER THE INPUT: true; the input reads as it did. -/
def leapBackSpec : ChangeSpec := { name := "leapBack", fn := fun _ => fun
  | [d1, d2, d3] => { results := [.lit (.bool true)], args := [d1, d2, d3] }
  | _ => none }
def leapBackRow : OpenClaim := { program := "ytombcpkfhhlacaa", sum := "14de4a306ddafe67744cc24b40fd2896f8696dc06a175120356f0385acf0c840", func := "fusee/fuseelaw33.LeapBack", spec := "leapBack", unfollowed := true, recurses := true, apart := false }
def LeapBackSaid : Prop := leapBackRow.holds Try.pinned (OpenSpec.ofChange leapBackSpec)

/-- ITS FALSE NEIGHBOUR: 'it returns false'. Refute it at one input. -/
def leapBackWrong : ChangeSpec := { name := "leapBack", fn := fun _ => fun
  | [d1, d2, d3] => { results := [.lit (.bool false)], args := [d1, d2, d3] }
  | _ => none }
def LeapBackWrongFalsely : Prop := leapBackRow.holds Try.pinned (OpenSpec.ofChange leapBackWrong)

/- THE SECOND FORM. 'bulk': how many values and letters a reading holds, each counted each time it is reached (what is shared counts as often as it is met; a slice's spare places count too). A statement '..UptoSaid' is the law's where the arguments, and the package variables that the reading takes, are together of bulk at most 1048576: NARROWER than '..Said'. Prove '..Said' where nothing that the law and all that it calls make is longer than what came in: it says more and counts as full. Else prove '..UptoSaid'. A law counts once. -/
mutual
def uptoBulk {H : Type} : DataW H → Nat
  | .lit (.string bytes) => bytes.length + 1
  | .lit _ => 1
  | .nil => 1
  | .ptr d => uptoBulk d + 1
  | .slice elems spare => uptoBulkAll elems + uptoBulkAll spare + 1
  | .agg parts => uptoBulkAll parts + 1
  | .iface _ d => uptoBulk d + 1
  | .map entries => uptoBulkEntries entries + 1
  | .held _ => 1
def uptoBulkAll {H : Type} : List (DataW H) → Nat
  | [] => 0
  | d :: r => uptoBulk d + uptoBulkAll r
def uptoBulkEntries {H : Type} : List (Lit × DataW H) → Nat
  | [] => 0
  | x :: r => uptoBulkEntry x + uptoBulkEntries r
def uptoBulkEntry {H : Type} : Lit × DataW H → Nat
  | (.string bytes, d) => bytes.length + uptoBulk d + 1
  | (_, d) => uptoBulk d + 1
 end
def uptoSmall : (H : Type) → List (DataW H) → Bool := fun _ ds => decide (uptoBulkAll ds ≤ 1048576)
def OpenSpec.upto (s : _root_.Go.ChangeSpec) : _root_.Go.OpenSpec := { _root_.Go.OpenSpec.ofChange s with cond := some uptoSmall }

/-- 'fuseelaw33.LeapTells', WHERE WHAT IT READS IS OF BULK AT MOST 1048576: true; the input reads as it did. -/
def leapTellsUptoRow : OpenClaim := { program := "ytombcpkfhhlacaa", sum := "14de4a306ddafe67744cc24b40fd2896f8696dc06a175120356f0385acf0c840", func := "fusee/fuseelaw33.LeapTells", spec := "leapTells", unfollowed := true, recurses := true, apart := false, narrowed := true }
def LeapTellsUptoSaid : Prop := leapTellsUptoRow.holds Try.pinned (OpenSpec.upto leapTellsSpec)

/-- 'fuseelaw33.LeapPlain', WHERE WHAT IT READS IS OF BULK AT MOST 1048576: true; the input reads as it did. -/
def leapPlainUptoRow : OpenClaim := { program := "ytombcpkfhhlacaa", sum := "14de4a306ddafe67744cc24b40fd2896f8696dc06a175120356f0385acf0c840", func := "fusee/fuseelaw33.LeapPlain", spec := "leapPlain", unfollowed := true, recurses := true, apart := false, narrowed := true }
def LeapPlainUptoSaid : Prop := leapPlainUptoRow.holds Try.pinned (OpenSpec.upto leapPlainSpec)

/-- 'fuseelaw33.LeapBack', WHERE WHAT IT READS IS OF BULK AT MOST 1048576: true; the input reads as it did. -/
def leapBackUptoRow : OpenClaim := { program := "ytombcpkfhhlacaa", sum := "14de4a306ddafe67744cc24b40fd2896f8696dc06a175120356f0385acf0c840", func := "fusee/fuseelaw33.LeapBack", spec := "leapBack", unfollowed := true, recurses := true, apart := false, narrowed := true }
def LeapBackUptoSaid : Prop := leapBackUptoRow.holds Try.pinned (OpenSpec.upto leapBackSpec)

end Rows
end Go.Proofs.Ytombcpkfhhlacaa
