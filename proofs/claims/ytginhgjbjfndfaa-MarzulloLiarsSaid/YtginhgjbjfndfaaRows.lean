/-
  No cell of these rows narrows 'for every input' (looked for: loops, veiled, ifaces, maps, wideKeys, modest, calm, conditions, laid).
  DERIVED. THE GIVEN ROWS OF THIS SEAT. 4 by the template 'for every input the law returns true; each argument reads behind the call as it read before'; 0 by the template 'total and deterministic' (their statements: YtginhgjbjfndfaaTotals.lean).
  GIVEN WITH THE SEED: the statements are not yours to turn. If you find one false, say at which input.
  Laid BY PROGRAM, IN A SANDBOX (cutbox-rows.mjs): the forced cells as the released guide's own fill.sh prints them over the translation 12ffdbf16fc105f0… (all of the seat's roots in one cut). By AI agents, Wed Nov 11 2026. No macro, syntax, notation, axiom, sorry.
-/
import Derived.Test.YtginhgjbjfndfaaChecked
import GoSem.Claim
import GoSem.ClaimJoined
import GoSem.ClaimMapViews
import Derived.JoinedTies
import Derived.KernelRfl
namespace Go.Proofs.Ytginhgjbjfndfaa
/- THE CELL 'sum', in the pinned program and in every row, IS THE sha256 OF THE DUMP (.gsa) THAT YtginhgjbjfndfaaProg.lean LOADS. Nothing in Lean hashes anything: it is a label: what it is worth is what the hold of that sum in a sandbox is worth. -/
noncomputable def Try.pinned : Pinned := { name := "ytginhgjbjfndfaa", sum := "12ffdbf16fc105f037a45729723edf08eab4ed3a69f660fa76eaed75cd58e4d3", checked := Try.checked }
namespace Rows
def none {H : Type} : Left H := { results := [], args := [] }

/-- 'fuseelaw44.MarzulloAgrees': WHATEVER THE INPUT: true; the input reads as it did. -/
def marzulloAgreesSpec : ChangeSpec := { name := "marzulloAgrees", fn := fun _ => fun
  | [d1, d2] => { results := [.lit (.bool true)], args := [d1, d2] }
  | _ => none }
def marzulloAgreesRow : OpenClaim := { program := "ytginhgjbjfndfaa", sum := "12ffdbf16fc105f037a45729723edf08eab4ed3a69f660fa76eaed75cd58e4d3", func := "fusee/fuseelaw44.MarzulloAgrees", spec := "marzulloAgrees", unfollowed := true, recurses := true, apart := false }
def MarzulloAgreesSaid : Prop := marzulloAgreesRow.holds Try.pinned (OpenSpec.ofChange marzulloAgreesSpec)

/-- ITS FALSE NEIGHBOUR: 'it returns false'. Refute it at one input. -/
def marzulloAgreesWrong : ChangeSpec := { name := "marzulloAgrees", fn := fun _ => fun
  | [d1, d2] => { results := [.lit (.bool false)], args := [d1, d2] }
  | _ => none }
def MarzulloAgreesWrongFalsely : Prop := marzulloAgreesRow.holds Try.pinned (OpenSpec.ofChange marzulloAgreesWrong)

/-- 'fuseelaw44.MarzulloLiars': WHATEVER THE INPUT: true; the input reads as it did. -/
def marzulloLiarsSpec : ChangeSpec := { name := "marzulloLiars", fn := fun _ => fun
  | [d] => { results := [.lit (.bool true)], args := [d] }
  | _ => none }
def marzulloLiarsRow : OpenClaim := { program := "ytginhgjbjfndfaa", sum := "12ffdbf16fc105f037a45729723edf08eab4ed3a69f660fa76eaed75cd58e4d3", func := "fusee/fuseelaw44.MarzulloLiars", spec := "marzulloLiars", unfollowed := true, recurses := true, apart := false }
def MarzulloLiarsSaid : Prop := marzulloLiarsRow.holds Try.pinned (OpenSpec.ofChange marzulloLiarsSpec)

/-- ITS FALSE NEIGHBOUR: 'it returns false'. Refute it at one input. -/
def marzulloLiarsWrong : ChangeSpec := { name := "marzulloLiars", fn := fun _ => fun
  | [d] => { results := [.lit (.bool false)], args := [d] }
  | _ => none }
def MarzulloLiarsWrongFalsely : Prop := marzulloLiarsRow.holds Try.pinned (OpenSpec.ofChange marzulloLiarsWrong)

/-- 'fuseelaw44.MarzulloTrue': WHATEVER THE INPUT: true; the input reads as it did. -/
def marzulloTrueSpec : ChangeSpec := { name := "marzulloTrue", fn := fun _ => fun
  | [d1, d2] => { results := [.lit (.bool true)], args := [d1, d2] }
  | _ => none }
def marzulloTrueRow : OpenClaim := { program := "ytginhgjbjfndfaa", sum := "12ffdbf16fc105f037a45729723edf08eab4ed3a69f660fa76eaed75cd58e4d3", func := "fusee/fuseelaw44.MarzulloTrue", spec := "marzulloTrue", unfollowed := true, recurses := true, apart := false }
def MarzulloTrueSaid : Prop := marzulloTrueRow.holds Try.pinned (OpenSpec.ofChange marzulloTrueSpec)

/-- ITS FALSE NEIGHBOUR: 'it returns false'. Refute it at one input. -/
def marzulloTrueWrong : ChangeSpec := { name := "marzulloTrue", fn := fun _ => fun
  | [d1, d2] => { results := [.lit (.bool false)], args := [d1, d2] }
  | _ => none }
def MarzulloTrueWrongFalsely : Prop := marzulloTrueRow.holds Try.pinned (OpenSpec.ofChange marzulloTrueWrong)

/-- 'fuseelaw44.MarzulloSpans': WHATEVER THE INPUT: true; the input reads as it did. -/
def marzulloSpansSpec : ChangeSpec := { name := "marzulloSpans", fn := fun _ => fun
  | [d1, d2, d3] => { results := [.lit (.bool true)], args := [d1, d2, d3] }
  | _ => none }
def marzulloSpansRow : OpenClaim := { program := "ytginhgjbjfndfaa", sum := "12ffdbf16fc105f037a45729723edf08eab4ed3a69f660fa76eaed75cd58e4d3", func := "fusee/fuseelaw44.MarzulloSpans", spec := "marzulloSpans", unfollowed := true, recurses := true, apart := false }
def MarzulloSpansSaid : Prop := marzulloSpansRow.holds Try.pinned (OpenSpec.ofChange marzulloSpansSpec)

/-- ITS FALSE NEIGHBOUR: 'it returns false'. Refute it at one input. -/
def marzulloSpansWrong : ChangeSpec := { name := "marzulloSpans", fn := fun _ => fun
  | [d1, d2, d3] => { results := [.lit (.bool false)], args := [d1, d2, d3] }
  | _ => none }
def MarzulloSpansWrongFalsely : Prop := marzulloSpansRow.holds Try.pinned (OpenSpec.ofChange marzulloSpansWrong)

/- THE SECOND FORM. 'bulk': how many values and letters a reading holds, each counted each time it is reached (what is shared counts as often as it is met; a slice's spare places count too). A statement '..UptoSaid' is the law's where the arguments, and the package variables that the reading takes, are together of bulk at most 1048576: NARROWER than '..Said'. Prove '..Said' where nothing that the law and all that it calls make is longer than what came in: it says more and counts as full. Else prove '..UptoSaid'. A law counts once. -/
mutual
def uptoBulk {H : Type} : DataW H → Nat
  | .lit (.string bytes) => bytes.length + 1
  | .lit _ => 1
  | .nil => 1
  | .ptr d => uptoBulk d + 1
  | .slice elems spare => uptoBulkAll elems + uptoBulkAll spare + 1
  | .agg parts => uptoBulkAll parts + 1
  | .iface _ d => uptoBulk d + 1
  | .map entries => uptoBulkEntries entries + 1
  | .held _ => 1
def uptoBulkAll {H : Type} : List (DataW H) → Nat
  | [] => 0
  | d :: r => uptoBulk d + uptoBulkAll r
def uptoBulkEntries {H : Type} : List (Lit × DataW H) → Nat
  | [] => 0
  | x :: r => uptoBulkEntry x + uptoBulkEntries r
def uptoBulkEntry {H : Type} : Lit × DataW H → Nat
  | (.string bytes, d) => bytes.length + uptoBulk d + 1
  | (_, d) => uptoBulk d + 1
 end
def uptoSmall : (H : Type) → List (DataW H) → Bool := fun _ ds => decide (uptoBulkAll ds ≤ 1048576)
def OpenSpec.upto (s : _root_.Go.ChangeSpec) : _root_.Go.OpenSpec := { _root_.Go.OpenSpec.ofChange s with cond := some uptoSmall }

/-- 'fuseelaw44.MarzulloAgrees', WHERE WHAT IT READS IS OF BULK AT MOST 1048576: true; the input reads as it did. -/
def marzulloAgreesUptoRow : OpenClaim := { program := "ytginhgjbjfndfaa", sum := "12ffdbf16fc105f037a45729723edf08eab4ed3a69f660fa76eaed75cd58e4d3", func := "fusee/fuseelaw44.MarzulloAgrees", spec := "marzulloAgrees", unfollowed := true, recurses := true, apart := false, narrowed := true }
def MarzulloAgreesUptoSaid : Prop := marzulloAgreesUptoRow.holds Try.pinned (OpenSpec.upto marzulloAgreesSpec)

/-- 'fuseelaw44.MarzulloLiars', WHERE WHAT IT READS IS OF BULK AT MOST 1048576: true; the input reads as it did. -/
def marzulloLiarsUptoRow : OpenClaim := { program := "ytginhgjbjfndfaa", sum := "12ffdbf16fc105f037a45729723edf08eab4ed3a69f660fa76eaed75cd58e4d3", func := "fusee/fuseelaw44.MarzulloLiars", spec := "marzulloLiars", unfollowed := true, recurses := true, apart := false, narrowed := true }
def MarzulloLiarsUptoSaid : Prop := marzulloLiarsUptoRow.holds Try.pinned (OpenSpec.upto marzulloLiarsSpec)

/-- 'fuseelaw44.MarzulloTrue', WHERE WHAT IT READS IS OF BULK AT MOST 1048576: true; the input reads as it did. -/
def marzulloTrueUptoRow : OpenClaim := { program := "ytginhgjbjfndfaa", sum := "12ffdbf16fc105f037a45729723edf08eab4ed3a69f660fa76eaed75cd58e4d3", func := "fusee/fuseelaw44.MarzulloTrue", spec := "marzulloTrue", unfollowed := true, recurses := true, apart := false, narrowed := true }
def MarzulloTrueUptoSaid : Prop := marzulloTrueUptoRow.holds Try.pinned (OpenSpec.upto marzulloTrueSpec)

/-- 'fuseelaw44.MarzulloSpans', WHERE WHAT IT READS IS OF BULK AT MOST 1048576: true; the input reads as it did. -/
def marzulloSpansUptoRow : OpenClaim := { program := "ytginhgjbjfndfaa", sum := "12ffdbf16fc105f037a45729723edf08eab4ed3a69f660fa76eaed75cd58e4d3", func := "fusee/fuseelaw44.MarzulloSpans", spec := "marzulloSpans", unfollowed := true, recurses := true, apart := false, narrowed := true }
def MarzulloSpansUptoSaid : Prop := marzulloSpansUptoRow.holds Try.pinned (OpenSpec.upto marzulloSpansSpec)

end Rows
end Go.Proofs.Ytginhgjbjfndfaa
