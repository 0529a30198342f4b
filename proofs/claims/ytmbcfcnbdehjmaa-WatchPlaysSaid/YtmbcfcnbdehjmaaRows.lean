/-
  No cell of these rows narrows 'for every input' (looked for: loops, veiled, ifaces, maps, wideKeys, modest, calm, conditions, laid).
  DERIVED. THE GIVEN ROWS OF THIS SEAT. 3 by the template 'for every input the law returns true; each argument reads behind the call as it read before'; 0 by the template 'total and deterministic' (their statements: YtmbcfcnbdehjmaaTotals.lean).
  GIVEN WITH THE SEED: the statements are not yours to turn. If you find one false, say at which input.
  Laid BY PROGRAM, IN A SANDBOX (cutbox-rows.mjs): the forced cells as the released guide's own fill.sh prints them over the translation 474a5f4387ccef82… (all of the seat's roots in one cut). By AI agents, Wed Nov 11 2026. No macro, syntax, notation, axiom, sorry.
-/
import Derived.Test.YtmbcfcnbdehjmaaChecked
import GoSem.Claim
import GoSem.ClaimJoined
import GoSem.ClaimMapViews
import Derived.JoinedTies
import Derived.KernelRfl
namespace Go.Proofs.Ytmbcfcnbdehjmaa
/- THE CELL 'sum', in the pinned program and in every row, IS THE sha256 OF THE DUMP (.gsa) THAT YtmbcfcnbdehjmaaProg.lean LOADS. Nothing in Lean hashes anything: it is a label: what it is worth is what the hold of that sum in a sandbox is worth. -/
noncomputable def Try.pinned : Pinned := { name := "ytmbcfcnbdehjmaa", sum := "474a5f4387ccef823e29299c185037248ed2622c8dc3904e1c82ece5e7d90f14", checked := Try.checked }
namespace Rows
def none {H : Type} : Left H := { results := [], args := [] }

/-- 'fuseelaw24.WatchSums': WHATEVER THE INPUT: true; the input reads as it did. -/
def watchSumsSpec : ChangeSpec := { name := "watchSums", fn := fun _ => fun
  | [d1, d2] => { results := [.lit (.bool true)], args := [d1, d2] }
  | _ => none }
def watchSumsRow : OpenClaim := { program := "ytmbcfcnbdehjmaa", sum := "474a5f4387ccef823e29299c185037248ed2622c8dc3904e1c82ece5e7d90f14", func := "fusee/fuseelaw24.WatchSums", spec := "watchSums", apart := false }
def WatchSumsSaid : Prop := watchSumsRow.holds Try.pinned (OpenSpec.ofChange watchSumsSpec)

/-- ITS FALSE NEIGHBOUR: 'it returns false'. Refute it at one input. -/
def watchSumsWrong : ChangeSpec := { name := "watchSums", fn := fun _ => fun
  | [d1, d2] => { results := [.lit (.bool false)], args := [d1, d2] }
  | _ => none }
def WatchSumsWrongFalsely : Prop := watchSumsRow.holds Try.pinned (OpenSpec.ofChange watchSumsWrong)

/-- 'fuseelaw24.WatchLaps': WHATEVER THE INPUT: true; the input reads as it did. -/
def watchLapsSpec : ChangeSpec := { name := "watchLaps", fn := fun _ => fun
  | [d] => { results := [.lit (.bool true)], args := [d] }
  | _ => none }
def watchLapsRow : OpenClaim := { program := "ytmbcfcnbdehjmaa", sum := "474a5f4387ccef823e29299c185037248ed2622c8dc3904e1c82ece5e7d90f14", func := "fusee/fuseelaw24.WatchLaps", spec := "watchLaps", apart := false }
def WatchLapsSaid : Prop := watchLapsRow.holds Try.pinned (OpenSpec.ofChange watchLapsSpec)

/-- ITS FALSE NEIGHBOUR: 'it returns false'. Refute it at one input. -/
def watchLapsWrong : ChangeSpec := { name := "watchLaps", fn := fun _ => fun
  | [d] => { results := [.lit (.bool false)], args := [d] }
  | _ => none }
def WatchLapsWrongFalsely : Prop := watchLapsRow.holds Try.pinned (OpenSpec.ofChange watchLapsWrong)

/-- 'fuseelaw24.WatchPlays': WHATEVER THE INPUT: true; the input reads as it did. -/
def watchPlaysSpec : ChangeSpec := { name := "watchPlays", fn := fun _ => fun
  | [d] => { results := [.lit (.bool true)], args := [d] }
  | _ => none }
def watchPlaysRow : OpenClaim := { program := "ytmbcfcnbdehjmaa", sum := "474a5f4387ccef823e29299c185037248ed2622c8dc3904e1c82ece5e7d90f14", func := "fusee/fuseelaw24.WatchPlays", spec := "watchPlays", apart := false }
def WatchPlaysSaid : Prop := watchPlaysRow.holds Try.pinned (OpenSpec.ofChange watchPlaysSpec)

/-- ITS FALSE NEIGHBOUR: 'it returns false'. Refute it at one input. -/
def watchPlaysWrong : ChangeSpec := { name := "watchPlays", fn := fun _ => fun
  | [d] => { results := [.lit (.bool false)], args := [d] }
  | _ => none }
def WatchPlaysWrongFalsely : Prop := watchPlaysRow.holds Try.pinned (OpenSpec.ofChange watchPlaysWrong)

/- THE SECOND FORM. 'bulk': how many values and letters a reading holds, each counted each time it is reached (what is shared counts as often as it is met; a slice's spare places count too). A statement '..UptoSaid' is the law's where the arguments, and the package variables that the reading takes, are together of bulk at most 1048576: NARROWER than '..Said'. Prove '..Said' where nothing that the law and all that it calls make is longer than what came in: it says more and counts as full. Else prove '..UptoSaid'. A law counts once. -/
mutual
def uptoBulk {H : Type} : DataW H → Nat
  | .lit (.string bytes) => bytes.length + 1
  | .lit _ => 1
  | .nil => 1
  | .ptr d => uptoBulk d + 1
  | .slice elems spare => uptoBulkAll elems + uptoBulkAll spare + 1
  | .agg parts => uptoBulkAll parts + 1
  | .iface _ d => uptoBulk d + 1
  | .map entries => uptoBulkEntries entries + 1
  | .held _ => 1
def uptoBulkAll {H : Type} : List (DataW H) → Nat
  | [] => 0
  | d :: r => uptoBulk d + uptoBulkAll r
def uptoBulkEntries {H : Type} : List (Lit × DataW H) → Nat
  | [] => 0
  | x :: r => uptoBulkEntry x + uptoBulkEntries r
def uptoBulkEntry {H : Type} : Lit × DataW H → Nat
  | (.string bytes, d) => bytes.length + uptoBulk d + 1
  | (_, d) => uptoBulk d + 1
 end
def uptoSmall : (H : Type) → List (DataW H) → Bool := fun _ ds => decide (uptoBulkAll ds ≤ 1048576)
def OpenSpec.upto (s : _root_.Go.ChangeSpec) : _root_.Go.OpenSpec := { _root_.Go.OpenSpec.ofChange s with cond := some uptoSmall }

/-- 'fuseelaw24.WatchSums', WHERE WHAT IT READS IS OF BULK AT MOST 1048576: true; the input reads as it did. -/
def watchSumsUptoRow : OpenClaim := { program := "ytmbcfcnbdehjmaa", sum := "474a5f4387ccef823e29299c185037248ed2622c8dc3904e1c82ece5e7d90f14", func := "fusee/fuseelaw24.WatchSums", spec := "watchSums", apart := false, narrowed := true }
def WatchSumsUptoSaid : Prop := watchSumsUptoRow.holds Try.pinned (OpenSpec.upto watchSumsSpec)

/-- 'fuseelaw24.WatchLaps', WHERE WHAT IT READS IS OF BULK AT MOST 1048576: true; the input reads as it did. -/
def watchLapsUptoRow : OpenClaim := { program := "ytmbcfcnbdehjmaa", sum := "474a5f4387ccef823e29299c185037248ed2622c8dc3904e1c82ece5e7d90f14", func := "fusee/fuseelaw24.WatchLaps", spec := "watchLaps", apart := false, narrowed := true }
def WatchLapsUptoSaid : Prop := watchLapsUptoRow.holds Try.pinned (OpenSpec.upto watchLapsSpec)

/-- 'fuseelaw24.WatchPlays', WHERE WHAT IT READS IS OF BULK AT MOST 1048576: true; the input reads as it did. -/
def watchPlaysUptoRow : OpenClaim := { program := "ytmbcfcnbdehjmaa", sum := "474a5f4387ccef823e29299c185037248ed2622c8dc3904e1c82ece5e7d90f14", func := "fusee/fuseelaw24.WatchPlays", spec := "watchPlays", apart := false, narrowed := true }
def WatchPlaysUptoSaid : Prop := watchPlaysUptoRow.holds Try.pinned (OpenSpec.upto watchPlaysSpec)

end Rows
end Go.Proofs.Ytmbcfcnbdehjmaa
