/-
  DERIVED. GIVEN WITH THE SEED: THE CARDS: each row of YtbbajekecppioaaGreatDoorRows.lean that lists a variable, with what it lists TIED to the program's text (the seventh form; the later family's looks); each row that meets fmt, with fmt's text TOLD by the authors' own Lean function (tested against real Go, not proved from fmt's source: count such statements apart). THE CARD IS WHAT COUNTS. Prove the row's statement (the work); the ties are given (YtbbajekecppioaaGreatDoorTie.lean); close each card by the builder's one call (the guide's Derived/Test/ToyasCard.lean, 'card_holds'). Laid BY PROGRAM, IN A SANDBOX (cutbox-door.mjs). By AI agents, Wed Nov 11 2026. No macro, syntax, notation, axiom, sorry.
-/
import Derived.Test.YtbbajekecppioaaGreatDoorRows
import GoSem.ClaimSeven
namespace Go.Proofs.YtbbajekecppioaaGreatDoor
namespace Rows

/-- THE TIED CARD OF 'skualaw10.TermEvals'. -/
def termEvalsCard : Claim7 := { stood := { row := termEvalsRow, standIns := [], harness := (true, "dac2123cbaccca6bec369a42aa62d804c6dbe04e9b4aed25ffd9771be442cea3"), looks := false }, kinds := [], alts := [], laidByText := true, laidKinds := [.data, .data, .data, .data], laidTests := true, laidLooks := .later }
def TermEvalsCardSaid : Prop := Claim7.holds Tryz.pinned (.plain (OpenSpec.ofChange termEvalsSpec)) termEvalsCard

/-- THE TIED CARD OF 'skualaw10.TermCasts'. -/
def termCastsCard : Claim7 := { stood := { row := termCastsRow, standIns := [], harness := (true, "dac2123cbaccca6bec369a42aa62d804c6dbe04e9b4aed25ffd9771be442cea3"), looks := false }, kinds := [], alts := [], laidByText := true, laidKinds := [.data, .data, .data, .data], laidTests := true, laidLooks := .later }
def TermCastsCardSaid : Prop := Claim7.holds Tryz.pinned (.plain (OpenSpec.ofChange termCastsSpec)) termCastsCard

/-- THE TIED CARD OF 'skualaw10.TermAll'. -/
def termAllCard : Claim7 := { stood := { row := termAllRow, standIns := [], harness := (true, "dac2123cbaccca6bec369a42aa62d804c6dbe04e9b4aed25ffd9771be442cea3"), looks := false }, kinds := [], alts := [], laidByText := true, laidKinds := [.data, .data, .data, .data], laidTests := true, laidLooks := .later }
def TermAllCardSaid : Prop := Claim7.holds Tryz.pinned (.plain (OpenSpec.ofChange termAllSpec)) termAllCard

/-- THE SECOND FORM's CARD OF 'skualaw10.TermEvals'. -/
def termEvalsUptoCard : Claim7 := { stood := { row := termEvalsUptoRow, standIns := [], harness := (true, "dac2123cbaccca6bec369a42aa62d804c6dbe04e9b4aed25ffd9771be442cea3"), looks := false }, kinds := [], alts := [], laidByText := true, laidKinds := [.data, .data, .data, .data], laidTests := true, laidLooks := .later }
def TermEvalsUptoCardSaid : Prop := Claim7.holds Tryz.pinned (.plain (OpenSpec.upto termEvalsSpec)) termEvalsUptoCard

/-- THE SECOND FORM's CARD OF 'skualaw10.TermCasts'. -/
def termCastsUptoCard : Claim7 := { stood := { row := termCastsUptoRow, standIns := [], harness := (true, "dac2123cbaccca6bec369a42aa62d804c6dbe04e9b4aed25ffd9771be442cea3"), looks := false }, kinds := [], alts := [], laidByText := true, laidKinds := [.data, .data, .data, .data], laidTests := true, laidLooks := .later }
def TermCastsUptoCardSaid : Prop := Claim7.holds Tryz.pinned (.plain (OpenSpec.upto termCastsSpec)) termCastsUptoCard

/-- THE SECOND FORM's CARD OF 'skualaw10.TermAll'. -/
def termAllUptoCard : Claim7 := { stood := { row := termAllUptoRow, standIns := [], harness := (true, "dac2123cbaccca6bec369a42aa62d804c6dbe04e9b4aed25ffd9771be442cea3"), looks := false }, kinds := [], alts := [], laidByText := true, laidKinds := [.data, .data, .data, .data], laidTests := true, laidLooks := .later }
def TermAllUptoCardSaid : Prop := Claim7.holds Tryz.pinned (.plain (OpenSpec.upto termAllSpec)) termAllUptoCard
end Rows
end Go.Proofs.YtbbajekecppioaaGreatDoor
