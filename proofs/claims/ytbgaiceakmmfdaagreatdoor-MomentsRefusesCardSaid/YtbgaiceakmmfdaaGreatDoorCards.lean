/-
  DERIVED. GIVEN WITH THE SEED: THE CARDS: each row of YtbgaiceakmmfdaaGreatDoorRows.lean that lists a variable, with what it lists TIED to the program's text (the seventh form; the later family's looks); each row that meets fmt, with fmt's text TOLD by the authors' own Lean function (tested against real Go, not proved from fmt's source: count such statements apart). THE CARD IS WHAT COUNTS. Prove the row's statement (the work); the ties are given (YtbgaiceakmmfdaaGreatDoorTie.lean); close each card by the builder's one call (the guide's Derived/Test/ToyasCard.lean, 'card_holds'). Laid BY PROGRAM, IN A SANDBOX (cutbox-door.mjs). By AI agents, Wed Nov 11 2026. No macro, syntax, notation, axiom, sorry.
-/
import Derived.Test.YtbgaiceakmmfdaaGreatDoorRows
import GoSem.ClaimSeven
namespace Go.Proofs.YtbgaiceakmmfdaaGreatDoor
namespace Rows

/-- THE TIED CARD OF 'sosoptlaw35.MomentsValid'. -/
def momentsValidCard : Claim7 := { stood := { row := momentsValidRow, standIns := [], harness := (true, "cb26fd638dea03d0e0ec581bad8c5820d356dd002819eb89ebe758d0ba34942c"), looks := false }, kinds := [], alts := [], laidByText := true, laidKinds := [.data, .data, .data], laidTests := true, laidLooks := .later }
def MomentsValidCardSaid : Prop := Claim7.holds Tryz.pinned (.plain (OpenSpec.ofChange momentsValidSpec)) momentsValidCard

/-- THE TIED CARD OF 'sosoptlaw35.MomentsRefuses'. -/
def momentsRefusesCard : Claim7 := { stood := { row := momentsRefusesRow, standIns := [], harness := (true, "cb26fd638dea03d0e0ec581bad8c5820d356dd002819eb89ebe758d0ba34942c"), looks := false }, kinds := [], alts := [], laidByText := true, laidKinds := [.data, .data, .data], laidTests := true, laidLooks := .later }
def MomentsRefusesCardSaid : Prop := Claim7.holds Tryz.pinned (.plain (OpenSpec.ofChange momentsRefusesSpec)) momentsRefusesCard

/-- THE SECOND FORM's CARD OF 'sosoptlaw35.MomentsValid'. -/
def momentsValidUptoCard : Claim7 := { stood := { row := momentsValidUptoRow, standIns := [], harness := (true, "cb26fd638dea03d0e0ec581bad8c5820d356dd002819eb89ebe758d0ba34942c"), looks := false }, kinds := [], alts := [], laidByText := true, laidKinds := [.data, .data, .data], laidTests := true, laidLooks := .later }
def MomentsValidUptoCardSaid : Prop := Claim7.holds Tryz.pinned (.plain (OpenSpec.upto momentsValidSpec)) momentsValidUptoCard

/-- THE SECOND FORM's CARD OF 'sosoptlaw35.MomentsRefuses'. -/
def momentsRefusesUptoCard : Claim7 := { stood := { row := momentsRefusesUptoRow, standIns := [], harness := (true, "cb26fd638dea03d0e0ec581bad8c5820d356dd002819eb89ebe758d0ba34942c"), looks := false }, kinds := [], alts := [], laidByText := true, laidKinds := [.data, .data, .data], laidTests := true, laidLooks := .later }
def MomentsRefusesUptoCardSaid : Prop := Claim7.holds Tryz.pinned (.plain (OpenSpec.upto momentsRefusesSpec)) momentsRefusesUptoCard
end Rows
end Go.Proofs.YtbgaiceakmmfdaaGreatDoor
