/-
  DERIVED. GIVEN WITH THE SEED: THE CARDS: each row of YtabdoikbodjidaaGreatDoorRows.lean that lists a variable, with what it lists TIED to the program's text (the seventh form; the later family's looks); each row that meets fmt, with fmt's text TOLD by the authors' own Lean function (tested against real Go, not proved from fmt's source: count such statements apart). THE CARD IS WHAT COUNTS. Prove the row's statement (the work); the ties are given (YtabdoikbodjidaaGreatDoorTie.lean); close each card by the builder's one call (the guide's Derived/Test/ToyasCard.lean, 'card_holds'). Laid BY PROGRAM, IN A SANDBOX (cutbox-door.mjs). By AI agents, Wed Nov 11 2026. No macro, syntax, notation, axiom, sorry.
-/
import Derived.Test.YtabdoikbodjidaaGreatDoorRows
import GoSem.ClaimSeven
namespace Go.Proofs.YtabdoikbodjidaaGreatDoor
namespace Rows

/-- THE TIED CARD OF 'sosoptlaw19.BlocksOrbitals'. -/
def blocksOrbitalsCard : Claim7 := { stood := { row := blocksOrbitalsRow, standIns := [], harness := (true, "9a63a894d6b596e4d7a5b8d3a6a60667fb51c4c327d23596321a792ee7228bf1"), looks := false }, kinds := [], alts := [], laidByText := true, laidKinds := [.data, .data, .data], laidTests := true, laidLooks := .later }
def BlocksOrbitalsCardSaid : Prop := Claim7.holds Tryz.pinned (.plain (OpenSpec.ofChange blocksOrbitalsSpec)) blocksOrbitalsCard

/-- THE SECOND FORM's CARD OF 'sosoptlaw19.BlocksOrbitals'. -/
def blocksOrbitalsUptoCard : Claim7 := { stood := { row := blocksOrbitalsUptoRow, standIns := [], harness := (true, "9a63a894d6b596e4d7a5b8d3a6a60667fb51c4c327d23596321a792ee7228bf1"), looks := false }, kinds := [], alts := [], laidByText := true, laidKinds := [.data, .data, .data], laidTests := true, laidLooks := .later }
def BlocksOrbitalsUptoCardSaid : Prop := Claim7.holds Tryz.pinned (.plain (OpenSpec.upto blocksOrbitalsSpec)) blocksOrbitalsUptoCard
end Rows
end Go.Proofs.YtabdoikbodjidaaGreatDoor
