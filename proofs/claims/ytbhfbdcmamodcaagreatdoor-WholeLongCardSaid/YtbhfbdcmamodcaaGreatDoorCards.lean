/-
  DERIVED. GIVEN WITH THE SEED: THE CARDS: each row of YtbhfbdcmamodcaaGreatDoorRows.lean that lists a variable, with what it lists TIED to the program's text (the seventh form; the later family's looks); each row that meets fmt, with fmt's text TOLD by the authors' own Lean function (tested against real Go, not proved from fmt's source: count such statements apart). THE CARD IS WHAT COUNTS. Prove the row's statement (the work); the ties are given (YtbhfbdcmamodcaaGreatDoorTie.lean); close each card by the builder's one call (the guide's Derived/Test/ToyasCard.lean, 'card_holds'). Laid BY PROGRAM, IN A SANDBOX (cutbox-door.mjs). By AI agents, Wed Nov 11 2026. No macro, syntax, notation, axiom, sorry.
-/
import Derived.Test.YtbhfbdcmamodcaaGreatDoorRows
import GoSem.ClaimSeven
namespace Go.Proofs.YtbhfbdcmamodcaaGreatDoor
namespace Rows

/-- THE TIED CARD OF 'pedigreetop.WholeRoads'. -/
def wholeRoadsCard : Claim7 := { stood := { row := wholeRoadsRow, standIns := [], harness := (true, "fa42036bb3dcd10b89f3b06505bf1e68ae23182a86f095fa1e272fbc2bb1d527"), looks := true }, kinds := [], alts := [], laidByText := true, laidKinds := [.data, .data, .data, .sentinel, .sentinel], laidTests := true, laidLooks := .later }
def WholeRoadsCardSaid : Prop := Claim7.holds Tryz.pinned (.plain (OpenSpec.ofChange wholeRoadsSpec)) wholeRoadsCard

/-- THE TIED CARD OF 'pedigreetop.WholeLong'. -/
def wholeLongCard : Claim7 := { stood := { row := wholeLongRow, standIns := [], harness := (true, "fa42036bb3dcd10b89f3b06505bf1e68ae23182a86f095fa1e272fbc2bb1d527"), looks := true }, kinds := [], alts := [], laidByText := true, laidKinds := [.data, .data, .data, .sentinel, .sentinel], laidTests := true, laidLooks := .later }
def WholeLongCardSaid : Prop := Claim7.holds Tryz.pinned (.plain (OpenSpec.ofChange wholeLongSpec)) wholeLongCard

/-- THE SECOND FORM's CARD OF 'pedigreetop.WholeRoads'. -/
def wholeRoadsUptoCard : Claim7 := { stood := { row := wholeRoadsUptoRow, standIns := [], harness := (true, "fa42036bb3dcd10b89f3b06505bf1e68ae23182a86f095fa1e272fbc2bb1d527"), looks := true }, kinds := [], alts := [], laidByText := true, laidKinds := [.data, .data, .data, .sentinel, .sentinel], laidTests := true, laidLooks := .later }
def WholeRoadsUptoCardSaid : Prop := Claim7.holds Tryz.pinned (.plain (OpenSpec.upto wholeRoadsSpec)) wholeRoadsUptoCard

/-- THE SECOND FORM's CARD OF 'pedigreetop.WholeLong'. -/
def wholeLongUptoCard : Claim7 := { stood := { row := wholeLongUptoRow, standIns := [], harness := (true, "fa42036bb3dcd10b89f3b06505bf1e68ae23182a86f095fa1e272fbc2bb1d527"), looks := true }, kinds := [], alts := [], laidByText := true, laidKinds := [.data, .data, .data, .sentinel, .sentinel], laidTests := true, laidLooks := .later }
def WholeLongUptoCardSaid : Prop := Claim7.holds Tryz.pinned (.plain (OpenSpec.upto wholeLongSpec)) wholeLongUptoCard
end Rows
end Go.Proofs.YtbhfbdcmamodcaaGreatDoor
