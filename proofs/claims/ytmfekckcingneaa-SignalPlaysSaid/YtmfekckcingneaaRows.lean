/-
  No cell of these rows narrows 'for every input' (looked for: loops, veiled, ifaces, maps, wideKeys, modest, calm, conditions, laid).
  DERIVED. THE GIVEN ROWS OF THIS SEAT. 3 by the template 'for every input the law returns true; each argument reads behind the call as it read before'; 0 by the template 'total and deterministic' (their statements: YtmfekckcingneaaTotals.lean).
  GIVEN WITH THE SEED: the statements are not yours to turn. If you find one false, say at which input.
  Laid BY PROGRAM, IN A SANDBOX (cutbox-rows.mjs): the forced cells as the released guide's own fill.sh prints them over the translation 697a847d29be726a… (all of the seat's roots in one cut). By AI agents, Wed Nov 11 2026. No macro, syntax, notation, axiom, sorry.
-/
import Derived.Test.YtmfekckcingneaaChecked
import GoSem.Claim
import GoSem.ClaimJoined
import GoSem.ClaimMapViews
import Derived.JoinedTies
import Derived.KernelRfl
namespace Go.Proofs.Ytmfekckcingneaa
/- THE CELL 'sum', in the pinned program and in every row, IS THE sha256 OF THE DUMP (.gsa) THAT YtmfekckcingneaaProg.lean LOADS. Nothing in Lean hashes anything: it is a label: what it is worth is what the hold of that sum in a sandbox is worth. -/
noncomputable def Try.pinned : Pinned := { name := "ytmfekckcingneaa", sum := "697a847d29be726a2c329d058340fdc9b252da491e8b47a94418fb526386e4bf", checked := Try.checked }
namespace Rows
def none {H : Type} : Left H := { results := [], args := [] }

/-- 'fuseelaw16.SignalCounts': WHATEVER THE INPUT: true; the input reads as it did. -/
def signalCountsSpec : ChangeSpec := { name := "signalCounts", fn := fun _ => fun
  | [d1, d2, d3, d4] => { results := [.lit (.bool true)], args := [d1, d2, d3, d4] }
  | _ => none }
def signalCountsRow : OpenClaim := { program := "ytmfekckcingneaa", sum := "697a847d29be726a2c329d058340fdc9b252da491e8b47a94418fb526386e4bf", func := "fusee/fuseelaw16.SignalCounts", spec := "signalCounts", unfollowed := true, recurses := true, apart := false }
def SignalCountsSaid : Prop := signalCountsRow.holds Try.pinned (OpenSpec.ofChange signalCountsSpec)

/-- ITS FALSE NEIGHBOUR: 'it returns false'. Refute it at one input. -/
def signalCountsWrong : ChangeSpec := { name := "signalCounts", fn := fun _ => fun
  | [d1, d2, d3, d4] => { results := [.lit (.bool false)], args := [d1, d2, d3, d4] }
  | _ => none }
def SignalCountsWrongFalsely : Prop := signalCountsRow.holds Try.pinned (OpenSpec.ofChange signalCountsWrong)

/-- 'fuseelaw16.SignalBlocks': WHATEVER THE INPUT: true; the input reads as it did. -/
def signalBlocksSpec : ChangeSpec := { name := "signalBlocks", fn := fun _ => fun
  | [d1, d2] => { results := [.lit (.bool true)], args := [d1, d2] }
  | _ => none }
def signalBlocksRow : OpenClaim := { program := "ytmfekckcingneaa", sum := "697a847d29be726a2c329d058340fdc9b252da491e8b47a94418fb526386e4bf", func := "fusee/fuseelaw16.SignalBlocks", spec := "signalBlocks", unfollowed := true, recurses := true, apart := false }
def SignalBlocksSaid : Prop := signalBlocksRow.holds Try.pinned (OpenSpec.ofChange signalBlocksSpec)

/-- ITS FALSE NEIGHBOUR: 'it returns false'. Refute it at one input. -/
def signalBlocksWrong : ChangeSpec := { name := "signalBlocks", fn := fun _ => fun
  | [d1, d2] => { results := [.lit (.bool false)], args := [d1, d2] }
  | _ => none }
def SignalBlocksWrongFalsely : Prop := signalBlocksRow.holds Try.pinned (OpenSpec.ofChange signalBlocksWrong)

/-- 'fuseelaw16.SignalPlays': WHATEVER THE INPUT: true; the input reads as it did. -/
def signalPlaysSpec : ChangeSpec := { name := "signalPlays", fn := fun _ => fun
  | [d] => { results := [.lit (.bool true)], args := [d] }
  | _ => none }
def signalPlaysRow : OpenClaim := { program := "ytmfekckcingneaa", sum := "697a847d29be726a2c329d058340fdc9b252da491e8b47a94418fb526386e4bf", func := "fusee/fuseelaw16.SignalPlays", spec := "signalPlays", unfollowed := true, recurses := true, apart := false }
def SignalPlaysSaid : Prop := signalPlaysRow.holds Try.pinned (OpenSpec.ofChange signalPlaysSpec)

/-- ITS FALSE NEIGHBOUR: 'it returns false'. Refute it at one input. -/
def signalPlaysWrong : ChangeSpec := { name := "signalPlays", fn := fun _ => fun
  | [d] => { results := [.lit (.bool false)], args := [d] }
  | _ => none }
def SignalPlaysWrongFalsely : Prop := signalPlaysRow.holds Try.pinned (OpenSpec.ofChange signalPlaysWrong)

/- THE SECOND FORM. 'bulk': how many values and letters a reading holds, each counted each time it is reached (what is shared counts as often as it is met; a slice's spare places count too). A statement '..UptoSaid' is the law's where the arguments, and the package variables that the reading takes, are together of bulk at most 1048576: NARROWER than '..Said'. Prove '..Said' where nothing that the law and all that it calls make is longer than what came in: it says more and counts as full. Else prove '..UptoSaid'. A law counts once. -/
mutual
def uptoBulk {H : Type} : DataW H → Nat
  | .lit (.string bytes) => bytes.length + 1
  | .lit _ => 1
  | .nil => 1
  | .ptr d => uptoBulk d + 1
  | .slice elems spare => uptoBulkAll elems + uptoBulkAll spare + 1
  | .agg parts => uptoBulkAll parts + 1
  | .iface _ d => uptoBulk d + 1
  | .map entries => uptoBulkEntries entries + 1
  | .held _ => 1
def uptoBulkAll {H : Type} : List (DataW H) → Nat
  | [] => 0
  | d :: r => uptoBulk d + uptoBulkAll r
def uptoBulkEntries {H : Type} : List (Lit × DataW H) → Nat
  | [] => 0
  | x :: r => uptoBulkEntry x + uptoBulkEntries r
def uptoBulkEntry {H : Type} : Lit × DataW H → Nat
  | (.string bytes, d) => bytes.length + uptoBulk d + 1
  | (_, d) => uptoBulk d + 1
 end
def uptoSmall : (H : Type) → List (DataW H) → Bool := fun _ ds => decide (uptoBulkAll ds ≤ 1048576)
def OpenSpec.upto (s : _root_.Go.ChangeSpec) : _root_.Go.OpenSpec := { _root_.Go.OpenSpec.ofChange s with cond := some uptoSmall }

/-- 'fuseelaw16.SignalCounts', WHERE WHAT IT READS IS OF BULK AT MOST 1048576: true; the input reads as it did. -/
def signalCountsUptoRow : OpenClaim := { program := "ytmfekckcingneaa", sum := "697a847d29be726a2c329d058340fdc9b252da491e8b47a94418fb526386e4bf", func := "fusee/fuseelaw16.SignalCounts", spec := "signalCounts", unfollowed := true, recurses := true, apart := false, narrowed := true }
def SignalCountsUptoSaid : Prop := signalCountsUptoRow.holds Try.pinned (OpenSpec.upto signalCountsSpec)

/-- 'fuseelaw16.SignalBlocks', WHERE WHAT IT READS IS OF BULK AT MOST 1048576: true; the input reads as it did. -/
def signalBlocksUptoRow : OpenClaim := { program := "ytmfekckcingneaa", sum := "697a847d29be726a2c329d058340fdc9b252da491e8b47a94418fb526386e4bf", func := "fusee/fuseelaw16.SignalBlocks", spec := "signalBlocks", unfollowed := true, recurses := true, apart := false, narrowed := true }
def SignalBlocksUptoSaid : Prop := signalBlocksUptoRow.holds Try.pinned (OpenSpec.upto signalBlocksSpec)

/-- 'fuseelaw16.SignalPlays', WHERE WHAT IT READS IS OF BULK AT MOST 1048576: true; the input reads as it did. -/
def signalPlaysUptoRow : OpenClaim := { program := "ytmfekckcingneaa", sum := "697a847d29be726a2c329d058340fdc9b252da491e8b47a94418fb526386e4bf", func := "fusee/fuseelaw16.SignalPlays", spec := "signalPlays", unfollowed := true, recurses := true, apart := false, narrowed := true }
def SignalPlaysUptoSaid : Prop := signalPlaysUptoRow.holds Try.pinned (OpenSpec.upto signalPlaysSpec)

end Rows
end Go.Proofs.Ytmfekckcingneaa
