/-
  DERIVED. GIVEN WITH THE SEED: THE CARDS: each row of YtodapfjmgnekkaaGreatDoorRows.lean that lists a variable, with what it lists TIED to the program's text (the seventh form; the later family's looks); each row that meets fmt, with fmt's text TOLD by the authors' own Lean function (tested against real Go, not proved from fmt's source: count such statements apart). THE CARD IS WHAT COUNTS. Prove the row's statement (the work); the ties are given (YtodapfjmgnekkaaGreatDoorTie.lean); close each card by the builder's one call (the guide's Derived/Test/ToyasCard.lean, 'card_holds'). Laid BY PROGRAM, IN A SANDBOX (cutbox-door.mjs). By AI agents, Wed Nov 11 2026. No macro, syntax, notation, axiom, sorry.
-/
import Derived.Test.YtodapfjmgnekkaaGreatDoorRows
import GoSem.ClaimSeven
namespace Go.Proofs.YtodapfjmgnekkaaGreatDoor
namespace Rows

/-- THE TIED CARD OF 'sosoptlaw16.SparsityRounds'. -/
def sparsityRoundsCard : Claim7 := { stood := { row := sparsityRoundsRow, standIns := [], harness := (true, "019187e1d7d7f7cdf19f6549d1b173f99e34944ea203c2c6a19f54797d71f545"), looks := false }, kinds := [], alts := [], laidByText := true, laidKinds := [.data], laidTests := true, laidLooks := .later }
def SparsityRoundsCardSaid : Prop := Claim7.holds Tryz.pinned (.plain (OpenSpec.ofChange sparsityRoundsSpec)) sparsityRoundsCard

/-- THE TIED CARD OF 'sosoptlaw16.SparsityGraph'. -/
def sparsityGraphCard : Claim7 := { stood := { row := sparsityGraphRow, standIns := [], harness := (true, "019187e1d7d7f7cdf19f6549d1b173f99e34944ea203c2c6a19f54797d71f545"), looks := false }, kinds := [], alts := [], laidByText := true, laidKinds := [.data], laidTests := true, laidLooks := .later }
def SparsityGraphCardSaid : Prop := Claim7.holds Tryz.pinned (.plain (OpenSpec.ofChange sparsityGraphSpec)) sparsityGraphCard

/-- THE TIED CARD OF 'sosoptlaw16.SparsityBlocks'. -/
def sparsityBlocksCard : Claim7 := { stood := { row := sparsityBlocksRow, standIns := [], harness := (true, "019187e1d7d7f7cdf19f6549d1b173f99e34944ea203c2c6a19f54797d71f545"), looks := false }, kinds := [], alts := [], laidByText := true, laidKinds := [.data], laidTests := true, laidLooks := .later }
def SparsityBlocksCardSaid : Prop := Claim7.holds Tryz.pinned (.plain (OpenSpec.ofChange sparsityBlocksSpec)) sparsityBlocksCard

/-- THE TIED CARD OF 'sosoptlaw16.SparsityFirst'. -/
def sparsityFirstCard : Claim7 := { stood := { row := sparsityFirstRow, standIns := [], harness := (true, "019187e1d7d7f7cdf19f6549d1b173f99e34944ea203c2c6a19f54797d71f545"), looks := false }, kinds := [], alts := [], laidByText := true, laidKinds := [.data], laidTests := true, laidLooks := .later }
def SparsityFirstCardSaid : Prop := Claim7.holds Tryz.pinned (.plain (OpenSpec.ofChange sparsityFirstSpec)) sparsityFirstCard

/-- THE TIED CARD OF 'sosoptlaw16.SparsityVariables'. -/
def sparsityVariablesCard : Claim7 := { stood := { row := sparsityVariablesRow, standIns := [], harness := (true, "019187e1d7d7f7cdf19f6549d1b173f99e34944ea203c2c6a19f54797d71f545"), looks := false }, kinds := [], alts := [], laidByText := true, laidKinds := [.data], laidTests := true, laidLooks := .later }
def SparsityVariablesCardSaid : Prop := Claim7.holds Tryz.pinned (.plain (OpenSpec.ofChange sparsityVariablesSpec)) sparsityVariablesCard

/-- THE TIED CARD OF 'sosoptlaw16.SparsityCliques'. -/
def sparsityCliquesCard : Claim7 := { stood := { row := sparsityCliquesRow, standIns := [], harness := (true, "019187e1d7d7f7cdf19f6549d1b173f99e34944ea203c2c6a19f54797d71f545"), looks := false }, kinds := [], alts := [], laidByText := true, laidKinds := [.data], laidTests := true, laidLooks := .later }
def SparsityCliquesCardSaid : Prop := Claim7.holds Tryz.pinned (.plain (OpenSpec.ofChange sparsityCliquesSpec)) sparsityCliquesCard

/-- THE SECOND FORM's CARD OF 'sosoptlaw16.SparsityRounds'. -/
def sparsityRoundsUptoCard : Claim7 := { stood := { row := sparsityRoundsUptoRow, standIns := [], harness := (true, "019187e1d7d7f7cdf19f6549d1b173f99e34944ea203c2c6a19f54797d71f545"), looks := false }, kinds := [], alts := [], laidByText := true, laidKinds := [.data], laidTests := true, laidLooks := .later }
def SparsityRoundsUptoCardSaid : Prop := Claim7.holds Tryz.pinned (.plain (OpenSpec.upto sparsityRoundsSpec)) sparsityRoundsUptoCard

/-- THE SECOND FORM's CARD OF 'sosoptlaw16.SparsityGraph'. -/
def sparsityGraphUptoCard : Claim7 := { stood := { row := sparsityGraphUptoRow, standIns := [], harness := (true, "019187e1d7d7f7cdf19f6549d1b173f99e34944ea203c2c6a19f54797d71f545"), looks := false }, kinds := [], alts := [], laidByText := true, laidKinds := [.data], laidTests := true, laidLooks := .later }
def SparsityGraphUptoCardSaid : Prop := Claim7.holds Tryz.pinned (.plain (OpenSpec.upto sparsityGraphSpec)) sparsityGraphUptoCard

/-- THE SECOND FORM's CARD OF 'sosoptlaw16.SparsityBlocks'. -/
def sparsityBlocksUptoCard : Claim7 := { stood := { row := sparsityBlocksUptoRow, standIns := [], harness := (true, "019187e1d7d7f7cdf19f6549d1b173f99e34944ea203c2c6a19f54797d71f545"), looks := false }, kinds := [], alts := [], laidByText := true, laidKinds := [.data], laidTests := true, laidLooks := .later }
def SparsityBlocksUptoCardSaid : Prop := Claim7.holds Tryz.pinned (.plain (OpenSpec.upto sparsityBlocksSpec)) sparsityBlocksUptoCard

/-- THE SECOND FORM's CARD OF 'sosoptlaw16.SparsityFirst'. -/
def sparsityFirstUptoCard : Claim7 := { stood := { row := sparsityFirstUptoRow, standIns := [], harness := (true, "019187e1d7d7f7cdf19f6549d1b173f99e34944ea203c2c6a19f54797d71f545"), looks := false }, kinds := [], alts := [], laidByText := true, laidKinds := [.data], laidTests := true, laidLooks := .later }
def SparsityFirstUptoCardSaid : Prop := Claim7.holds Tryz.pinned (.plain (OpenSpec.upto sparsityFirstSpec)) sparsityFirstUptoCard

/-- THE SECOND FORM's CARD OF 'sosoptlaw16.SparsityVariables'. -/
def sparsityVariablesUptoCard : Claim7 := { stood := { row := sparsityVariablesUptoRow, standIns := [], harness := (true, "019187e1d7d7f7cdf19f6549d1b173f99e34944ea203c2c6a19f54797d71f545"), looks := false }, kinds := [], alts := [], laidByText := true, laidKinds := [.data], laidTests := true, laidLooks := .later }
def SparsityVariablesUptoCardSaid : Prop := Claim7.holds Tryz.pinned (.plain (OpenSpec.upto sparsityVariablesSpec)) sparsityVariablesUptoCard

/-- THE SECOND FORM's CARD OF 'sosoptlaw16.SparsityCliques'. -/
def sparsityCliquesUptoCard : Claim7 := { stood := { row := sparsityCliquesUptoRow, standIns := [], harness := (true, "019187e1d7d7f7cdf19f6549d1b173f99e34944ea203c2c6a19f54797d71f545"), looks := false }, kinds := [], alts := [], laidByText := true, laidKinds := [.data], laidTests := true, laidLooks := .later }
def SparsityCliquesUptoCardSaid : Prop := Claim7.holds Tryz.pinned (.plain (OpenSpec.upto sparsityCliquesSpec)) sparsityCliquesUptoCard
end Rows
end Go.Proofs.YtodapfjmgnekkaaGreatDoor
