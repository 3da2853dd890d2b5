/-
  DERIVED. GIVEN WITH THE SEED: THE CARDS: each row of YtapkdofmcchdcaaGreatDoorRows.lean that lists a variable, with what it lists TIED to the program's text (the seventh form; the later family's looks); each row that meets fmt, with fmt's text TOLD by the authors' own Lean function (tested against real Go, not proved from fmt's source: count such statements apart). THE CARD IS WHAT COUNTS. Prove the row's statement (the work); the ties are given (YtapkdofmcchdcaaGreatDoorTie.lean); close each card by the builder's one call (the guide's Derived/Test/ToyasCard.lean, 'card_holds'). Laid BY PROGRAM, IN A SANDBOX (cutbox-door.mjs). By AI agents, Wed Nov 11 2026. No macro, syntax, notation, axiom, sorry.
-/
import Derived.Test.YtapkdofmcchdcaaGreatDoorRows
import GoSem.ClaimSeven
namespace Go.Proofs.YtapkdofmcchdcaaGreatDoor
namespace Rows

/-- THE TIED CARD OF 'sosoptlaw17.ParitySigns'. -/
def paritySignsCard : Claim7 := { stood := { row := paritySignsRow, standIns := [], harness := (true, "d9a5cc59187946964a41bc03a04001c9bd3161aa8a5837d6dbb3597856a6bde1"), looks := false }, kinds := [], alts := [], laidByText := true, laidKinds := [.data], laidTests := true, laidLooks := .later }
def ParitySignsCardSaid : Prop := Claim7.holds Tryz.pinned (.plain (OpenSpec.ofChange paritySignsSpec)) paritySignsCard

/-- THE TIED CARD OF 'sosoptlaw17.ParityClasses'. -/
def parityClassesCard : Claim7 := { stood := { row := parityClassesRow, standIns := [], harness := (true, "d9a5cc59187946964a41bc03a04001c9bd3161aa8a5837d6dbb3597856a6bde1"), looks := false }, kinds := [], alts := [], laidByText := true, laidKinds := [.data], laidTests := true, laidLooks := .later }
def ParityClassesCardSaid : Prop := Claim7.holds Tryz.pinned (.plain (OpenSpec.ofChange parityClassesSpec)) parityClassesCard

/-- THE TIED CARD OF 'sosoptlaw16.SparsityRounds'. -/
def sparsityRoundsCard : Claim7 := { stood := { row := sparsityRoundsRow, standIns := [], harness := (true, "d9a5cc59187946964a41bc03a04001c9bd3161aa8a5837d6dbb3597856a6bde1"), looks := false }, kinds := [], alts := [], laidByText := true, laidKinds := [.data], laidTests := true, laidLooks := .later }
def SparsityRoundsCardSaid : Prop := Claim7.holds Tryz.pinned (.plain (OpenSpec.ofChange sparsityRoundsSpec)) sparsityRoundsCard

/-- THE TIED CARD OF 'sosoptlaw16.SparsityGraph'. -/
def sparsityGraphCard : Claim7 := { stood := { row := sparsityGraphRow, standIns := [], harness := (true, "d9a5cc59187946964a41bc03a04001c9bd3161aa8a5837d6dbb3597856a6bde1"), looks := false }, kinds := [], alts := [], laidByText := true, laidKinds := [.data], laidTests := true, laidLooks := .later }
def SparsityGraphCardSaid : Prop := Claim7.holds Tryz.pinned (.plain (OpenSpec.ofChange sparsityGraphSpec)) sparsityGraphCard

/-- THE TIED CARD OF 'sosoptlaw16.SparsityBlocks'. -/
def sparsityBlocksCard : Claim7 := { stood := { row := sparsityBlocksRow, standIns := [], harness := (true, "d9a5cc59187946964a41bc03a04001c9bd3161aa8a5837d6dbb3597856a6bde1"), looks := false }, kinds := [], alts := [], laidByText := true, laidKinds := [.data], laidTests := true, laidLooks := .later }
def SparsityBlocksCardSaid : Prop := Claim7.holds Tryz.pinned (.plain (OpenSpec.ofChange sparsityBlocksSpec)) sparsityBlocksCard

/-- THE TIED CARD OF 'sosoptlaw17.ParityProducts'. -/
def parityProductsCard : Claim7 := { stood := { row := parityProductsRow, standIns := [], harness := (true, "d9a5cc59187946964a41bc03a04001c9bd3161aa8a5837d6dbb3597856a6bde1"), looks := false }, kinds := [], alts := [], laidByText := true, laidKinds := [.data], laidTests := true, laidLooks := .later }
def ParityProductsCardSaid : Prop := Claim7.holds Tryz.pinned (.plain (OpenSpec.ofChange parityProductsSpec)) parityProductsCard

/-- THE TIED CARD OF 'sosoptlaw16.SparsityFirst'. -/
def sparsityFirstCard : Claim7 := { stood := { row := sparsityFirstRow, standIns := [], harness := (true, "d9a5cc59187946964a41bc03a04001c9bd3161aa8a5837d6dbb3597856a6bde1"), looks := false }, kinds := [], alts := [], laidByText := true, laidKinds := [.data], laidTests := true, laidLooks := .later }
def SparsityFirstCardSaid : Prop := Claim7.holds Tryz.pinned (.plain (OpenSpec.ofChange sparsityFirstSpec)) sparsityFirstCard

/-- THE TIED CARD OF 'sosoptlaw17.ParityApply'. -/
def parityApplyCard : Claim7 := { stood := { row := parityApplyRow, standIns := [], harness := (true, "d9a5cc59187946964a41bc03a04001c9bd3161aa8a5837d6dbb3597856a6bde1"), looks := false }, kinds := [], alts := [], laidByText := true, laidKinds := [.data], laidTests := true, laidLooks := .later }
def ParityApplyCardSaid : Prop := Claim7.holds Tryz.pinned (.plain (OpenSpec.ofChange parityApplySpec)) parityApplyCard

/-- THE TIED CARD OF 'sosoptlaw17.ParityInvariant'. -/
def parityInvariantCard : Claim7 := { stood := { row := parityInvariantRow, standIns := [], harness := (true, "d9a5cc59187946964a41bc03a04001c9bd3161aa8a5837d6dbb3597856a6bde1"), looks := false }, kinds := [], alts := [], laidByText := true, laidKinds := [.data], laidTests := true, laidLooks := .later }
def ParityInvariantCardSaid : Prop := Claim7.holds Tryz.pinned (.plain (OpenSpec.ofChange parityInvariantSpec)) parityInvariantCard

/-- THE TIED CARD OF 'sosoptlaw17.ParityComplete'. -/
def parityCompleteCard : Claim7 := { stood := { row := parityCompleteRow, standIns := [], harness := (true, "d9a5cc59187946964a41bc03a04001c9bd3161aa8a5837d6dbb3597856a6bde1"), looks := false }, kinds := [], alts := [], laidByText := true, laidKinds := [.data], laidTests := true, laidLooks := .later }
def ParityCompleteCardSaid : Prop := Claim7.holds Tryz.pinned (.plain (OpenSpec.ofChange parityCompleteSpec)) parityCompleteCard

/-- THE TIED CARD OF 'sosoptlaw16.SparsityVariables'. -/
def sparsityVariablesCard : Claim7 := { stood := { row := sparsityVariablesRow, standIns := [], harness := (true, "d9a5cc59187946964a41bc03a04001c9bd3161aa8a5837d6dbb3597856a6bde1"), looks := false }, kinds := [], alts := [], laidByText := true, laidKinds := [.data], laidTests := true, laidLooks := .later }
def SparsityVariablesCardSaid : Prop := Claim7.holds Tryz.pinned (.plain (OpenSpec.ofChange sparsityVariablesSpec)) sparsityVariablesCard

/-- THE TIED CARD OF 'sosoptlaw16.SparsityCliques'. -/
def sparsityCliquesCard : Claim7 := { stood := { row := sparsityCliquesRow, standIns := [], harness := (true, "d9a5cc59187946964a41bc03a04001c9bd3161aa8a5837d6dbb3597856a6bde1"), looks := false }, kinds := [], alts := [], laidByText := true, laidKinds := [.data], laidTests := true, laidLooks := .later }
def SparsityCliquesCardSaid : Prop := Claim7.holds Tryz.pinned (.plain (OpenSpec.ofChange sparsityCliquesSpec)) sparsityCliquesCard

/-- THE SECOND FORM's CARD OF 'sosoptlaw17.ParitySigns'. -/
def paritySignsUptoCard : Claim7 := { stood := { row := paritySignsUptoRow, standIns := [], harness := (true, "d9a5cc59187946964a41bc03a04001c9bd3161aa8a5837d6dbb3597856a6bde1"), looks := false }, kinds := [], alts := [], laidByText := true, laidKinds := [.data], laidTests := true, laidLooks := .later }
def ParitySignsUptoCardSaid : Prop := Claim7.holds Tryz.pinned (.plain (OpenSpec.upto paritySignsSpec)) paritySignsUptoCard

/-- THE SECOND FORM's CARD OF 'sosoptlaw17.ParityClasses'. -/
def parityClassesUptoCard : Claim7 := { stood := { row := parityClassesUptoRow, standIns := [], harness := (true, "d9a5cc59187946964a41bc03a04001c9bd3161aa8a5837d6dbb3597856a6bde1"), looks := false }, kinds := [], alts := [], laidByText := true, laidKinds := [.data], laidTests := true, laidLooks := .later }
def ParityClassesUptoCardSaid : Prop := Claim7.holds Tryz.pinned (.plain (OpenSpec.upto parityClassesSpec)) parityClassesUptoCard

/-- THE SECOND FORM's CARD OF 'sosoptlaw16.SparsityRounds'. -/
def sparsityRoundsUptoCard : Claim7 := { stood := { row := sparsityRoundsUptoRow, standIns := [], harness := (true, "d9a5cc59187946964a41bc03a04001c9bd3161aa8a5837d6dbb3597856a6bde1"), looks := false }, kinds := [], alts := [], laidByText := true, laidKinds := [.data], laidTests := true, laidLooks := .later }
def SparsityRoundsUptoCardSaid : Prop := Claim7.holds Tryz.pinned (.plain (OpenSpec.upto sparsityRoundsSpec)) sparsityRoundsUptoCard

/-- THE SECOND FORM's CARD OF 'sosoptlaw16.SparsityGraph'. -/
def sparsityGraphUptoCard : Claim7 := { stood := { row := sparsityGraphUptoRow, standIns := [], harness := (true, "d9a5cc59187946964a41bc03a04001c9bd3161aa8a5837d6dbb3597856a6bde1"), looks := false }, kinds := [], alts := [], laidByText := true, laidKinds := [.data], laidTests := true, laidLooks := .later }
def SparsityGraphUptoCardSaid : Prop := Claim7.holds Tryz.pinned (.plain (OpenSpec.upto sparsityGraphSpec)) sparsityGraphUptoCard

/-- THE SECOND FORM's CARD OF 'sosoptlaw16.SparsityBlocks'. -/
def sparsityBlocksUptoCard : Claim7 := { stood := { row := sparsityBlocksUptoRow, standIns := [], harness := (true, "d9a5cc59187946964a41bc03a04001c9bd3161aa8a5837d6dbb3597856a6bde1"), looks := false }, kinds := [], alts := [], laidByText := true, laidKinds := [.data], laidTests := true, laidLooks := .later }
def SparsityBlocksUptoCardSaid : Prop := Claim7.holds Tryz.pinned (.plain (OpenSpec.upto sparsityBlocksSpec)) sparsityBlocksUptoCard

/-- THE SECOND FORM's CARD OF 'sosoptlaw17.ParityProducts'. -/
def parityProductsUptoCard : Claim7 := { stood := { row := parityProductsUptoRow, standIns := [], harness := (true, "d9a5cc59187946964a41bc03a04001c9bd3161aa8a5837d6dbb3597856a6bde1"), looks := false }, kinds := [], alts := [], laidByText := true, laidKinds := [.data], laidTests := true, laidLooks := .later }
def ParityProductsUptoCardSaid : Prop := Claim7.holds Tryz.pinned (.plain (OpenSpec.upto parityProductsSpec)) parityProductsUptoCard

/-- THE SECOND FORM's CARD OF 'sosoptlaw16.SparsityFirst'. -/
def sparsityFirstUptoCard : Claim7 := { stood := { row := sparsityFirstUptoRow, standIns := [], harness := (true, "d9a5cc59187946964a41bc03a04001c9bd3161aa8a5837d6dbb3597856a6bde1"), looks := false }, kinds := [], alts := [], laidByText := true, laidKinds := [.data], laidTests := true, laidLooks := .later }
def SparsityFirstUptoCardSaid : Prop := Claim7.holds Tryz.pinned (.plain (OpenSpec.upto sparsityFirstSpec)) sparsityFirstUptoCard

/-- THE SECOND FORM's CARD OF 'sosoptlaw17.ParityApply'. -/
def parityApplyUptoCard : Claim7 := { stood := { row := parityApplyUptoRow, standIns := [], harness := (true, "d9a5cc59187946964a41bc03a04001c9bd3161aa8a5837d6dbb3597856a6bde1"), looks := false }, kinds := [], alts := [], laidByText := true, laidKinds := [.data], laidTests := true, laidLooks := .later }
def ParityApplyUptoCardSaid : Prop := Claim7.holds Tryz.pinned (.plain (OpenSpec.upto parityApplySpec)) parityApplyUptoCard

/-- THE SECOND FORM's CARD OF 'sosoptlaw17.ParityInvariant'. -/
def parityInvariantUptoCard : Claim7 := { stood := { row := parityInvariantUptoRow, standIns := [], harness := (true, "d9a5cc59187946964a41bc03a04001c9bd3161aa8a5837d6dbb3597856a6bde1"), looks := false }, kinds := [], alts := [], laidByText := true, laidKinds := [.data], laidTests := true, laidLooks := .later }
def ParityInvariantUptoCardSaid : Prop := Claim7.holds Tryz.pinned (.plain (OpenSpec.upto parityInvariantSpec)) parityInvariantUptoCard

/-- THE SECOND FORM's CARD OF 'sosoptlaw17.ParityComplete'. -/
def parityCompleteUptoCard : Claim7 := { stood := { row := parityCompleteUptoRow, standIns := [], harness := (true, "d9a5cc59187946964a41bc03a04001c9bd3161aa8a5837d6dbb3597856a6bde1"), looks := false }, kinds := [], alts := [], laidByText := true, laidKinds := [.data], laidTests := true, laidLooks := .later }
def ParityCompleteUptoCardSaid : Prop := Claim7.holds Tryz.pinned (.plain (OpenSpec.upto parityCompleteSpec)) parityCompleteUptoCard

/-- THE SECOND FORM's CARD OF 'sosoptlaw16.SparsityVariables'. -/
def sparsityVariablesUptoCard : Claim7 := { stood := { row := sparsityVariablesUptoRow, standIns := [], harness := (true, "d9a5cc59187946964a41bc03a04001c9bd3161aa8a5837d6dbb3597856a6bde1"), looks := false }, kinds := [], alts := [], laidByText := true, laidKinds := [.data], laidTests := true, laidLooks := .later }
def SparsityVariablesUptoCardSaid : Prop := Claim7.holds Tryz.pinned (.plain (OpenSpec.upto sparsityVariablesSpec)) sparsityVariablesUptoCard

/-- THE SECOND FORM's CARD OF 'sosoptlaw16.SparsityCliques'. -/
def sparsityCliquesUptoCard : Claim7 := { stood := { row := sparsityCliquesUptoRow, standIns := [], harness := (true, "d9a5cc59187946964a41bc03a04001c9bd3161aa8a5837d6dbb3597856a6bde1"), looks := false }, kinds := [], alts := [], laidByText := true, laidKinds := [.data], laidTests := true, laidLooks := .later }
def SparsityCliquesUptoCardSaid : Prop := Claim7.holds Tryz.pinned (.plain (OpenSpec.upto sparsityCliquesSpec)) sparsityCliquesUptoCard
end Rows
end Go.Proofs.YtapkdofmcchdcaaGreatDoor
