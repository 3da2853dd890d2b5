/-
  DERIVED. GIVEN WITH THE SEED: THE CARDS: each row of YtpkompfkhoceoaaGreatDoorRows.lean that lists a variable, with what it lists TIED to the program's text (the seventh form; the later family's looks); each row that meets fmt, with fmt's text TOLD by the authors' own Lean function (tested against real Go, not proved from fmt's source: count such statements apart). THE CARD IS WHAT COUNTS. Prove the row's statement (the work); the ties are given (YtpkompfkhoceoaaGreatDoorTie.lean); close each card by the builder's one call (the guide's Derived/Test/ToyasCard.lean, 'card_holds'). Laid BY PROGRAM, IN A SANDBOX (cutbox-door.mjs). By AI agents, Wed Nov 11 2026. No macro, syntax, notation, axiom, sorry.
-/
import Derived.Test.YtpkompfkhoceoaaGreatDoorRows
import GoSem.ClaimSeven
namespace Go.Proofs.YtpkompfkhoceoaaGreatDoor
namespace Rows

/-- THE TIED CARD OF 'sosoptlaw35.MomentsValid'. -/
def momentsValidCard : Claim7 := { stood := { row := momentsValidRow, standIns := [], harness := (true, "36c57bd9040e5f9bcb755248892707e98de1de6aba8790bde242eeb908c3e740"), looks := false }, kinds := [], alts := [], laidByText := true, laidKinds := [.data, .data, .data], laidTests := true, laidLooks := .later }
def MomentsValidCardSaid : Prop := Claim7.holds Tryz.pinned (.plain (OpenSpec.ofChange momentsValidSpec)) momentsValidCard

/-- THE TIED CARD OF 'sosoptlaw35.MomentsRefuses'. -/
def momentsRefusesCard : Claim7 := { stood := { row := momentsRefusesRow, standIns := [], harness := (true, "36c57bd9040e5f9bcb755248892707e98de1de6aba8790bde242eeb908c3e740"), looks := false }, kinds := [], alts := [], laidByText := true, laidKinds := [.data, .data, .data], laidTests := true, laidLooks := .later }
def MomentsRefusesCardSaid : Prop := Claim7.holds Tryz.pinned (.plain (OpenSpec.ofChange momentsRefusesSpec)) momentsRefusesCard

/-- THE TIED CARD OF 'sosoptlaw35.MomentsOf'. -/
def momentsOfCard : Claim7 := { stood := { row := momentsOfRow, standIns := [], harness := (true, "36c57bd9040e5f9bcb755248892707e98de1de6aba8790bde242eeb908c3e740"), looks := false }, kinds := [], alts := [], laidByText := true, laidKinds := [.data, .data, .data], laidTests := true, laidLooks := .later }
def MomentsOfCardSaid : Prop := Claim7.holds Tryz.pinned (.plain (OpenSpec.ofChange momentsOfSpec)) momentsOfCard

/-- THE TIED CARD OF 'sosoptlaw35.MomentsValues'. -/
def momentsValuesCard : Claim7 := { stood := { row := momentsValuesRow, standIns := [], harness := (true, "36c57bd9040e5f9bcb755248892707e98de1de6aba8790bde242eeb908c3e740"), looks := false }, kinds := [], alts := [], laidByText := true, laidKinds := [.data, .data, .data], laidTests := true, laidLooks := .later }
def MomentsValuesCardSaid : Prop := Claim7.holds Tryz.pinned (.plain (OpenSpec.ofChange momentsValuesSpec)) momentsValuesCard

/-- THE TIED CARD OF 'sosoptlaw35.MomentsTimes'. -/
def momentsTimesCard : Claim7 := { stood := { row := momentsTimesRow, standIns := [], harness := (true, "36c57bd9040e5f9bcb755248892707e98de1de6aba8790bde242eeb908c3e740"), looks := false }, kinds := [], alts := [], laidByText := true, laidKinds := [.data, .data, .data], laidTests := true, laidLooks := .later }
def MomentsTimesCardSaid : Prop := Claim7.holds Tryz.pinned (.plain (OpenSpec.ofChange momentsTimesSpec)) momentsTimesCard

/-- THE SECOND FORM's CARD OF 'sosoptlaw35.MomentsValid'. -/
def momentsValidUptoCard : Claim7 := { stood := { row := momentsValidUptoRow, standIns := [], harness := (true, "36c57bd9040e5f9bcb755248892707e98de1de6aba8790bde242eeb908c3e740"), looks := false }, kinds := [], alts := [], laidByText := true, laidKinds := [.data, .data, .data], laidTests := true, laidLooks := .later }
def MomentsValidUptoCardSaid : Prop := Claim7.holds Tryz.pinned (.plain (OpenSpec.upto momentsValidSpec)) momentsValidUptoCard

/-- THE SECOND FORM's CARD OF 'sosoptlaw35.MomentsRefuses'. -/
def momentsRefusesUptoCard : Claim7 := { stood := { row := momentsRefusesUptoRow, standIns := [], harness := (true, "36c57bd9040e5f9bcb755248892707e98de1de6aba8790bde242eeb908c3e740"), looks := false }, kinds := [], alts := [], laidByText := true, laidKinds := [.data, .data, .data], laidTests := true, laidLooks := .later }
def MomentsRefusesUptoCardSaid : Prop := Claim7.holds Tryz.pinned (.plain (OpenSpec.upto momentsRefusesSpec)) momentsRefusesUptoCard

/-- THE SECOND FORM's CARD OF 'sosoptlaw35.MomentsOf'. -/
def momentsOfUptoCard : Claim7 := { stood := { row := momentsOfUptoRow, standIns := [], harness := (true, "36c57bd9040e5f9bcb755248892707e98de1de6aba8790bde242eeb908c3e740"), looks := false }, kinds := [], alts := [], laidByText := true, laidKinds := [.data, .data, .data], laidTests := true, laidLooks := .later }
def MomentsOfUptoCardSaid : Prop := Claim7.holds Tryz.pinned (.plain (OpenSpec.upto momentsOfSpec)) momentsOfUptoCard

/-- THE SECOND FORM's CARD OF 'sosoptlaw35.MomentsValues'. -/
def momentsValuesUptoCard : Claim7 := { stood := { row := momentsValuesUptoRow, standIns := [], harness := (true, "36c57bd9040e5f9bcb755248892707e98de1de6aba8790bde242eeb908c3e740"), looks := false }, kinds := [], alts := [], laidByText := true, laidKinds := [.data, .data, .data], laidTests := true, laidLooks := .later }
def MomentsValuesUptoCardSaid : Prop := Claim7.holds Tryz.pinned (.plain (OpenSpec.upto momentsValuesSpec)) momentsValuesUptoCard

/-- THE SECOND FORM's CARD OF 'sosoptlaw35.MomentsTimes'. -/
def momentsTimesUptoCard : Claim7 := { stood := { row := momentsTimesUptoRow, standIns := [], harness := (true, "36c57bd9040e5f9bcb755248892707e98de1de6aba8790bde242eeb908c3e740"), looks := false }, kinds := [], alts := [], laidByText := true, laidKinds := [.data, .data, .data], laidTests := true, laidLooks := .later }
def MomentsTimesUptoCardSaid : Prop := Claim7.holds Tryz.pinned (.plain (OpenSpec.upto momentsTimesSpec)) momentsTimesUptoCard
end Rows
end Go.Proofs.YtpkompfkhoceoaaGreatDoor
