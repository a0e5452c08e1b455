/-
  DERIVED. GIVEN WITH THE SEED: THE CARDS: each row of YtneheimdonlbbaaGreatDoorRows.lean that lists a variable, with what it lists TIED to the program's text (the seventh form; the later family's looks); each row that meets fmt, with fmt's text TOLD by the authors' own Lean function (tested against real Go, not proved from fmt's source: count such statements apart). THE CARD IS WHAT COUNTS. Prove the row's statement (the work); the ties are given (YtneheimdonlbbaaGreatDoorTie.lean); close each card by the builder's one call (the guide's Derived/Test/ToyasCard.lean, 'card_holds'). Laid BY PROGRAM, IN A SANDBOX (cutbox-door.mjs). By AI agents, Wed Nov 11 2026. No macro, syntax, notation, axiom, sorry.
-/
import Derived.Test.YtneheimdonlbbaaGreatDoorRows
import GoSem.ClaimSeven
namespace Go.Proofs.YtneheimdonlbbaaGreatDoor
namespace Rows

/-- THE TIED CARD OF 'pedigreetop.WholeRoads'. -/
def wholeRoadsCard : Claim7 := { stood := { row := wholeRoadsRow, standIns := [], harness := (true, "e9daa6cdc8d6e7378be3a78f273cf6625e11afd13854c3dbdf1654b83fce6e75"), looks := true }, kinds := [], alts := [], laidByText := true, laidKinds := [.data, .data, .data, .sentinel, .sentinel], laidTests := true, laidLooks := .later }
def WholeRoadsCardSaid : Prop := Claim7.holds Tryz.pinned (.plain (OpenSpec.ofChange wholeRoadsSpec)) wholeRoadsCard

/-- THE TIED CARD OF 'pedigreetop.WholeGenerations'. -/
def wholeGenerationsCard : Claim7 := { stood := { row := wholeGenerationsRow, standIns := [], harness := (true, "e9daa6cdc8d6e7378be3a78f273cf6625e11afd13854c3dbdf1654b83fce6e75"), looks := true }, kinds := [], alts := [], laidByText := true, laidKinds := [.data, .data, .data, .sentinel, .sentinel], laidTests := true, laidLooks := .later }
def WholeGenerationsCardSaid : Prop := Claim7.holds Tryz.pinned (.plain (OpenSpec.ofChange wholeGenerationsSpec)) wholeGenerationsCard

/-- THE SECOND FORM's CARD OF 'pedigreetop.WholeRoads'. -/
def wholeRoadsUptoCard : Claim7 := { stood := { row := wholeRoadsUptoRow, standIns := [], harness := (true, "e9daa6cdc8d6e7378be3a78f273cf6625e11afd13854c3dbdf1654b83fce6e75"), looks := true }, kinds := [], alts := [], laidByText := true, laidKinds := [.data, .data, .data, .sentinel, .sentinel], laidTests := true, laidLooks := .later }
def WholeRoadsUptoCardSaid : Prop := Claim7.holds Tryz.pinned (.plain (OpenSpec.upto wholeRoadsSpec)) wholeRoadsUptoCard

/-- THE SECOND FORM's CARD OF 'pedigreetop.WholeGenerations'. -/
def wholeGenerationsUptoCard : Claim7 := { stood := { row := wholeGenerationsUptoRow, standIns := [], harness := (true, "e9daa6cdc8d6e7378be3a78f273cf6625e11afd13854c3dbdf1654b83fce6e75"), looks := true }, kinds := [], alts := [], laidByText := true, laidKinds := [.data, .data, .data, .sentinel, .sentinel], laidTests := true, laidLooks := .later }
def WholeGenerationsUptoCardSaid : Prop := Claim7.holds Tryz.pinned (.plain (OpenSpec.upto wholeGenerationsSpec)) wholeGenerationsUptoCard
end Rows
end Go.Proofs.YtneheimdonlbbaaGreatDoor
