/-
  DERIVED. GIVEN WITH THE SEED: THE CARDS: each row of YtodjofbneeejpaaGreatDoorRows.lean that lists a variable, with what it lists TIED to the program's text (the seventh form; the later family's looks); each row that meets fmt, with fmt's text TOLD by the authors' own Lean function (tested against real Go, not proved from fmt's source: count such statements apart). THE CARD IS WHAT COUNTS. Prove the row's statement (the work); the ties are given (YtodjofbneeejpaaGreatDoorTie.lean); close each card by the builder's one call (the guide's Derived/Test/ToyasCard.lean, 'card_holds'). Laid BY PROGRAM, IN A SANDBOX (cutbox-door.mjs). By AI agents, Wed Nov 11 2026. No macro, syntax, notation, axiom, sorry.
-/
import Derived.Test.YtodjofbneeejpaaGreatDoorRows
import GoSem.ClaimSeven
namespace Go.Proofs.YtodjofbneeejpaaGreatDoor
namespace Rows

/-- THE TIED CARD OF 'sosoptlaw19.BlocksAdapted'. -/
def blocksAdaptedCard : Claim7 := { stood := { row := blocksAdaptedRow, standIns := [], harness := (true, "e640ae2f7964e8862603ae4b58980248aa18a8b34c21e65b89ba8d5068e0d3fc"), looks := false }, kinds := [], alts := [], laidByText := true, laidKinds := [.data, .data, .data], laidTests := true, laidLooks := .later }
def BlocksAdaptedCardSaid : Prop := Claim7.holds Tryz.pinned (.plain (OpenSpec.ofChange blocksAdaptedSpec)) blocksAdaptedCard

/-- THE TIED CARD OF 'sosoptlaw19.BlocksInvolutions'. -/
def blocksInvolutionsCard : Claim7 := { stood := { row := blocksInvolutionsRow, standIns := [], harness := (true, "e640ae2f7964e8862603ae4b58980248aa18a8b34c21e65b89ba8d5068e0d3fc"), looks := false }, kinds := [], alts := [], laidByText := true, laidKinds := [.data, .data, .data], laidTests := true, laidLooks := .later }
def BlocksInvolutionsCardSaid : Prop := Claim7.holds Tryz.pinned (.plain (OpenSpec.ofChange blocksInvolutionsSpec)) blocksInvolutionsCard

/-- THE TIED CARD OF 'sosoptlaw19.BlocksAction'. -/
def blocksActionCard : Claim7 := { stood := { row := blocksActionRow, standIns := [], harness := (true, "e640ae2f7964e8862603ae4b58980248aa18a8b34c21e65b89ba8d5068e0d3fc"), looks := false }, kinds := [], alts := [], laidByText := true, laidKinds := [.data, .data, .data], laidTests := true, laidLooks := .later }
def BlocksActionCardSaid : Prop := Claim7.holds Tryz.pinned (.plain (OpenSpec.ofChange blocksActionSpec)) blocksActionCard

/-- THE SECOND FORM's CARD OF 'sosoptlaw19.BlocksAdapted'. -/
def blocksAdaptedUptoCard : Claim7 := { stood := { row := blocksAdaptedUptoRow, standIns := [], harness := (true, "e640ae2f7964e8862603ae4b58980248aa18a8b34c21e65b89ba8d5068e0d3fc"), looks := false }, kinds := [], alts := [], laidByText := true, laidKinds := [.data, .data, .data], laidTests := true, laidLooks := .later }
def BlocksAdaptedUptoCardSaid : Prop := Claim7.holds Tryz.pinned (.plain (OpenSpec.upto blocksAdaptedSpec)) blocksAdaptedUptoCard

/-- THE SECOND FORM's CARD OF 'sosoptlaw19.BlocksInvolutions'. -/
def blocksInvolutionsUptoCard : Claim7 := { stood := { row := blocksInvolutionsUptoRow, standIns := [], harness := (true, "e640ae2f7964e8862603ae4b58980248aa18a8b34c21e65b89ba8d5068e0d3fc"), looks := false }, kinds := [], alts := [], laidByText := true, laidKinds := [.data, .data, .data], laidTests := true, laidLooks := .later }
def BlocksInvolutionsUptoCardSaid : Prop := Claim7.holds Tryz.pinned (.plain (OpenSpec.upto blocksInvolutionsSpec)) blocksInvolutionsUptoCard

/-- THE SECOND FORM's CARD OF 'sosoptlaw19.BlocksAction'. -/
def blocksActionUptoCard : Claim7 := { stood := { row := blocksActionUptoRow, standIns := [], harness := (true, "e640ae2f7964e8862603ae4b58980248aa18a8b34c21e65b89ba8d5068e0d3fc"), looks := false }, kinds := [], alts := [], laidByText := true, laidKinds := [.data, .data, .data], laidTests := true, laidLooks := .later }
def BlocksActionUptoCardSaid : Prop := Claim7.holds Tryz.pinned (.plain (OpenSpec.upto blocksActionSpec)) blocksActionUptoCard
end Rows
end Go.Proofs.YtodjofbneeejpaaGreatDoor
