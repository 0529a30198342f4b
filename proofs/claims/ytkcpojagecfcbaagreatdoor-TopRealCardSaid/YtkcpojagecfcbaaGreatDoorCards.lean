/-
  DERIVED. GIVEN WITH THE SEED: THE CARDS: each row of YtkcpojagecfcbaaGreatDoorRows.lean that lists a variable, with what it lists TIED to the program's text (the seventh form; the later family's looks); each row that meets fmt, with fmt's text TOLD by the authors' own Lean function (tested against real Go, not proved from fmt's source: count such statements apart). THE CARD IS WHAT COUNTS. Prove the row's statement (the work); the ties are given (YtkcpojagecfcbaaGreatDoorTie.lean); close each card by the builder's one call (the guide's Derived/Test/ToyasCard.lean, 'card_holds'). Laid BY PROGRAM, IN A SANDBOX (cutbox-door.mjs). By AI agents, Wed Nov 11 2026. No macro, syntax, notation, axiom, sorry.
-/
import Derived.Test.YtkcpojagecfcbaaGreatDoorRows
import GoSem.ClaimSeven
namespace Go.Proofs.YtkcpojagecfcbaaGreatDoor
namespace Rows

/-- THE TIED CARD OF 'fuseetop.TopPermitted'. -/
def topPermittedCard : Claim7 := { stood := { row := topPermittedRow, standIns := [], harness := (true, "1732717a50775105193c2903bebc378f94e266f29252f096d37684d0037dead7"), looks := false }, kinds := [], alts := [], laidByText := true, laidKinds := [.data], laidTests := true, laidLooks := .later }
def TopPermittedCardSaid : Prop := Claim7.holds Tryz.pinned (.plain (OpenSpec.ofChange topPermittedSpec)) topPermittedCard

/-- THE TIED CARD OF 'fuseetop.TopSoon'. -/
def topSoonCard : Claim7 := { stood := { row := topSoonRow, standIns := [], harness := (true, "1732717a50775105193c2903bebc378f94e266f29252f096d37684d0037dead7"), looks := false }, kinds := [], alts := [], laidByText := true, laidKinds := [.data], laidTests := true, laidLooks := .later }
def TopSoonCardSaid : Prop := Claim7.holds Tryz.pinned (.plain (OpenSpec.ofChange topSoonSpec)) topSoonCard

/-- THE TIED CARD OF 'fuseetop.TopReal'. -/
def topRealCard : Claim7 := { stood := { row := topRealRow, standIns := [], harness := (true, "1732717a50775105193c2903bebc378f94e266f29252f096d37684d0037dead7"), looks := false }, kinds := [], alts := [], laidByText := true, laidKinds := [.data], laidTests := true, laidLooks := .later }
def TopRealCardSaid : Prop := Claim7.holds Tryz.pinned (.plain (OpenSpec.ofChange topRealSpec)) topRealCard

/-- THE TIED CARD OF 'fuseetop.TopOnce'. -/
def topOnceCard : Claim7 := { stood := { row := topOnceRow, standIns := [], harness := (true, "1732717a50775105193c2903bebc378f94e266f29252f096d37684d0037dead7"), looks := false }, kinds := [], alts := [], laidByText := true, laidKinds := [.data], laidTests := true, laidLooks := .later }
def TopOnceCardSaid : Prop := Claim7.holds Tryz.pinned (.plain (OpenSpec.ofChange topOnceSpec)) topOnceCard

/-- THE SECOND FORM's CARD OF 'fuseetop.TopPermitted'. -/
def topPermittedUptoCard : Claim7 := { stood := { row := topPermittedUptoRow, standIns := [], harness := (true, "1732717a50775105193c2903bebc378f94e266f29252f096d37684d0037dead7"), looks := false }, kinds := [], alts := [], laidByText := true, laidKinds := [.data], laidTests := true, laidLooks := .later }
def TopPermittedUptoCardSaid : Prop := Claim7.holds Tryz.pinned (.plain (OpenSpec.upto topPermittedSpec)) topPermittedUptoCard

/-- THE SECOND FORM's CARD OF 'fuseetop.TopSoon'. -/
def topSoonUptoCard : Claim7 := { stood := { row := topSoonUptoRow, standIns := [], harness := (true, "1732717a50775105193c2903bebc378f94e266f29252f096d37684d0037dead7"), looks := false }, kinds := [], alts := [], laidByText := true, laidKinds := [.data], laidTests := true, laidLooks := .later }
def TopSoonUptoCardSaid : Prop := Claim7.holds Tryz.pinned (.plain (OpenSpec.upto topSoonSpec)) topSoonUptoCard

/-- THE SECOND FORM's CARD OF 'fuseetop.TopReal'. -/
def topRealUptoCard : Claim7 := { stood := { row := topRealUptoRow, standIns := [], harness := (true, "1732717a50775105193c2903bebc378f94e266f29252f096d37684d0037dead7"), looks := false }, kinds := [], alts := [], laidByText := true, laidKinds := [.data], laidTests := true, laidLooks := .later }
def TopRealUptoCardSaid : Prop := Claim7.holds Tryz.pinned (.plain (OpenSpec.upto topRealSpec)) topRealUptoCard

/-- THE SECOND FORM's CARD OF 'fuseetop.TopOnce'. -/
def topOnceUptoCard : Claim7 := { stood := { row := topOnceUptoRow, standIns := [], harness := (true, "1732717a50775105193c2903bebc378f94e266f29252f096d37684d0037dead7"), looks := false }, kinds := [], alts := [], laidByText := true, laidKinds := [.data], laidTests := true, laidLooks := .later }
def TopOnceUptoCardSaid : Prop := Claim7.holds Tryz.pinned (.plain (OpenSpec.upto topOnceSpec)) topOnceUptoCard
end Rows
end Go.Proofs.YtkcpojagecfcbaaGreatDoor
