/-
  DERIVED. GIVEN WITH THE SEED: THE CARDS: each row of YtdlcooplllimeaaGreatDoorRows.lean that lists a variable, with what it lists TIED to the program's text (the seventh form; the later family's looks); each row that meets fmt, with fmt's text TOLD by the authors' own Lean function (tested against real Go, not proved from fmt's source: count such statements apart). THE CARD IS WHAT COUNTS. Prove the row's statement (the work); the ties are given (YtdlcooplllimeaaGreatDoorTie.lean); close each card by the builder's one call (the guide's Derived/Test/ToyasCard.lean, 'card_holds'). Laid BY PROGRAM, IN A SANDBOX (cutbox-door.mjs). By AI agents, Wed Nov 11 2026. No macro, syntax, notation, axiom, sorry.
-/
import Derived.Test.YtdlcooplllimeaaGreatDoorRows
import GoSem.ClaimSeven
namespace Go.Proofs.YtdlcooplllimeaaGreatDoor
namespace Rows

/-- THE TIED CARD OF 'backstitchtop.TopKept'. -/
def topKeptCard : Claim7 := { stood := { row := topKeptRow, standIns := [], harness := (true, "4d887e7c6e89917508475b52f4e2e0eb4377419d781b666581862aa5e2c7df87"), looks := false }, kinds := [], alts := [], laidByText := true, laidKinds := [.listed, .data], laidTests := true, laidLooks := .later }
def TopKeptCardSaid : Prop := Claim7.holds Tryz.pinned (.plain (OpenSpec.ofChange topKeptSpec)) topKeptCard

/-- THE TIED CARD OF 'backstitchtop.TopMoved'. -/
def topMovedCard : Claim7 := { stood := { row := topMovedRow, standIns := [], harness := (true, "4d887e7c6e89917508475b52f4e2e0eb4377419d781b666581862aa5e2c7df87"), looks := false }, kinds := [], alts := [], laidByText := true, laidKinds := [.listed, .data], laidTests := true, laidLooks := .later }
def TopMovedCardSaid : Prop := Claim7.holds Tryz.pinned (.plain (OpenSpec.ofChange topMovedSpec)) topMovedCard

/-- THE TIED CARD OF 'backstitchtop.TopWords'. -/
def topWordsCard : Claim7 := { stood := { row := topWordsRow, standIns := [], harness := (true, "4d887e7c6e89917508475b52f4e2e0eb4377419d781b666581862aa5e2c7df87"), looks := false }, kinds := [], alts := [], laidByText := true, laidKinds := [.listed, .data], laidTests := true, laidLooks := .later }
def TopWordsCardSaid : Prop := Claim7.holds Tryz.pinned (.plain (OpenSpec.ofChange topWordsSpec)) topWordsCard

/-- THE SECOND FORM's CARD OF 'backstitchtop.TopKept'. -/
def topKeptUptoCard : Claim7 := { stood := { row := topKeptUptoRow, standIns := [], harness := (true, "4d887e7c6e89917508475b52f4e2e0eb4377419d781b666581862aa5e2c7df87"), looks := false }, kinds := [], alts := [], laidByText := true, laidKinds := [.listed, .data], laidTests := true, laidLooks := .later }
def TopKeptUptoCardSaid : Prop := Claim7.holds Tryz.pinned (.plain (OpenSpec.upto topKeptSpec)) topKeptUptoCard

/-- THE SECOND FORM's CARD OF 'backstitchtop.TopMoved'. -/
def topMovedUptoCard : Claim7 := { stood := { row := topMovedUptoRow, standIns := [], harness := (true, "4d887e7c6e89917508475b52f4e2e0eb4377419d781b666581862aa5e2c7df87"), looks := false }, kinds := [], alts := [], laidByText := true, laidKinds := [.listed, .data], laidTests := true, laidLooks := .later }
def TopMovedUptoCardSaid : Prop := Claim7.holds Tryz.pinned (.plain (OpenSpec.upto topMovedSpec)) topMovedUptoCard

/-- THE SECOND FORM's CARD OF 'backstitchtop.TopWords'. -/
def topWordsUptoCard : Claim7 := { stood := { row := topWordsUptoRow, standIns := [], harness := (true, "4d887e7c6e89917508475b52f4e2e0eb4377419d781b666581862aa5e2c7df87"), looks := false }, kinds := [], alts := [], laidByText := true, laidKinds := [.listed, .data], laidTests := true, laidLooks := .later }
def TopWordsUptoCardSaid : Prop := Claim7.holds Tryz.pinned (.plain (OpenSpec.upto topWordsSpec)) topWordsUptoCard
end Rows
end Go.Proofs.YtdlcooplllimeaaGreatDoor
