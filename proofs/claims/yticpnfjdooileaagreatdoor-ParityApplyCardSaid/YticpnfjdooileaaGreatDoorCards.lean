/-
  DERIVED. GIVEN WITH THE SEED: THE CARDS: each row of YticpnfjdooileaaGreatDoorRows.lean that lists a variable, with what it lists TIED to the program's text (the seventh form; the later family's looks); each row that meets fmt, with fmt's text TOLD by the authors' own Lean function (tested against real Go, not proved from fmt's source: count such statements apart). THE CARD IS WHAT COUNTS. Prove the row's statement (the work); the ties are given (YticpnfjdooileaaGreatDoorTie.lean); close each card by the builder's one call (the guide's Derived/Test/ToyasCard.lean, 'card_holds'). Laid BY PROGRAM, IN A SANDBOX (cutbox-door.mjs). By AI agents, Wed Nov 11 2026. No macro, syntax, notation, axiom, sorry.
-/
import Derived.Test.YticpnfjdooileaaGreatDoorRows
import GoSem.ClaimSeven
namespace Go.Proofs.YticpnfjdooileaaGreatDoor
namespace Rows

/-- THE TIED CARD OF 'sosoptlaw17.ParitySigns'. -/
def paritySignsCard : Claim7 := { stood := { row := paritySignsRow, standIns := [], harness := (true, "7e5aa3ba81ef43b1d3a314e2b09b0e2b194658f71327ae89b54997b931de1a8d"), looks := false }, kinds := [], alts := [], laidByText := true, laidKinds := [.data], laidTests := true, laidLooks := .later }
def ParitySignsCardSaid : Prop := Claim7.holds Tryz.pinned (.plain (OpenSpec.ofChange paritySignsSpec)) paritySignsCard

/-- THE TIED CARD OF 'sosoptlaw17.ParityProducts'. -/
def parityProductsCard : Claim7 := { stood := { row := parityProductsRow, standIns := [], harness := (true, "7e5aa3ba81ef43b1d3a314e2b09b0e2b194658f71327ae89b54997b931de1a8d"), looks := false }, kinds := [], alts := [], laidByText := true, laidKinds := [.data], laidTests := true, laidLooks := .later }
def ParityProductsCardSaid : Prop := Claim7.holds Tryz.pinned (.plain (OpenSpec.ofChange parityProductsSpec)) parityProductsCard

/-- THE TIED CARD OF 'sosoptlaw17.ParityApply'. -/
def parityApplyCard : Claim7 := { stood := { row := parityApplyRow, standIns := [], harness := (true, "7e5aa3ba81ef43b1d3a314e2b09b0e2b194658f71327ae89b54997b931de1a8d"), looks := false }, kinds := [], alts := [], laidByText := true, laidKinds := [.data], laidTests := true, laidLooks := .later }
def ParityApplyCardSaid : Prop := Claim7.holds Tryz.pinned (.plain (OpenSpec.ofChange parityApplySpec)) parityApplyCard

/-- THE TIED CARD OF 'sosoptlaw17.ParityInvariant'. -/
def parityInvariantCard : Claim7 := { stood := { row := parityInvariantRow, standIns := [], harness := (true, "7e5aa3ba81ef43b1d3a314e2b09b0e2b194658f71327ae89b54997b931de1a8d"), looks := false }, kinds := [], alts := [], laidByText := true, laidKinds := [.data], laidTests := true, laidLooks := .later }
def ParityInvariantCardSaid : Prop := Claim7.holds Tryz.pinned (.plain (OpenSpec.ofChange parityInvariantSpec)) parityInvariantCard

/-- THE TIED CARD OF 'sosoptlaw17.ParityComplete'. -/
def parityCompleteCard : Claim7 := { stood := { row := parityCompleteRow, standIns := [], harness := (true, "7e5aa3ba81ef43b1d3a314e2b09b0e2b194658f71327ae89b54997b931de1a8d"), looks := false }, kinds := [], alts := [], laidByText := true, laidKinds := [.data], laidTests := true, laidLooks := .later }
def ParityCompleteCardSaid : Prop := Claim7.holds Tryz.pinned (.plain (OpenSpec.ofChange parityCompleteSpec)) parityCompleteCard

/-- THE SECOND FORM's CARD OF 'sosoptlaw17.ParitySigns'. -/
def paritySignsUptoCard : Claim7 := { stood := { row := paritySignsUptoRow, standIns := [], harness := (true, "7e5aa3ba81ef43b1d3a314e2b09b0e2b194658f71327ae89b54997b931de1a8d"), looks := false }, kinds := [], alts := [], laidByText := true, laidKinds := [.data], laidTests := true, laidLooks := .later }
def ParitySignsUptoCardSaid : Prop := Claim7.holds Tryz.pinned (.plain (OpenSpec.upto paritySignsSpec)) paritySignsUptoCard

/-- THE SECOND FORM's CARD OF 'sosoptlaw17.ParityProducts'. -/
def parityProductsUptoCard : Claim7 := { stood := { row := parityProductsUptoRow, standIns := [], harness := (true, "7e5aa3ba81ef43b1d3a314e2b09b0e2b194658f71327ae89b54997b931de1a8d"), looks := false }, kinds := [], alts := [], laidByText := true, laidKinds := [.data], laidTests := true, laidLooks := .later }
def ParityProductsUptoCardSaid : Prop := Claim7.holds Tryz.pinned (.plain (OpenSpec.upto parityProductsSpec)) parityProductsUptoCard

/-- THE SECOND FORM's CARD OF 'sosoptlaw17.ParityApply'. -/
def parityApplyUptoCard : Claim7 := { stood := { row := parityApplyUptoRow, standIns := [], harness := (true, "7e5aa3ba81ef43b1d3a314e2b09b0e2b194658f71327ae89b54997b931de1a8d"), looks := false }, kinds := [], alts := [], laidByText := true, laidKinds := [.data], laidTests := true, laidLooks := .later }
def ParityApplyUptoCardSaid : Prop := Claim7.holds Tryz.pinned (.plain (OpenSpec.upto parityApplySpec)) parityApplyUptoCard

/-- THE SECOND FORM's CARD OF 'sosoptlaw17.ParityInvariant'. -/
def parityInvariantUptoCard : Claim7 := { stood := { row := parityInvariantUptoRow, standIns := [], harness := (true, "7e5aa3ba81ef43b1d3a314e2b09b0e2b194658f71327ae89b54997b931de1a8d"), looks := false }, kinds := [], alts := [], laidByText := true, laidKinds := [.data], laidTests := true, laidLooks := .later }
def ParityInvariantUptoCardSaid : Prop := Claim7.holds Tryz.pinned (.plain (OpenSpec.upto parityInvariantSpec)) parityInvariantUptoCard

/-- THE SECOND FORM's CARD OF 'sosoptlaw17.ParityComplete'. -/
def parityCompleteUptoCard : Claim7 := { stood := { row := parityCompleteUptoRow, standIns := [], harness := (true, "7e5aa3ba81ef43b1d3a314e2b09b0e2b194658f71327ae89b54997b931de1a8d"), looks := false }, kinds := [], alts := [], laidByText := true, laidKinds := [.data], laidTests := true, laidLooks := .later }
def ParityCompleteUptoCardSaid : Prop := Claim7.holds Tryz.pinned (.plain (OpenSpec.upto parityCompleteSpec)) parityCompleteUptoCard
end Rows
end Go.Proofs.YticpnfjdooileaaGreatDoor
