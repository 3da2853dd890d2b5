/-
  DERIVED. GIVEN WITH THE SEED: THE CARDS: each row of YtpiedheafppnhaaGreatDoorRows.lean that lists a variable, with what it lists TIED to the program's text (the seventh form; the later family's looks); each row that meets fmt, with fmt's text TOLD by the authors' own Lean function (tested against real Go, not proved from fmt's source: count such statements apart). THE CARD IS WHAT COUNTS. Prove the row's statement (the work); the ties are given (YtpiedheafppnhaaGreatDoorTie.lean); close each card by the builder's one call (the guide's Derived/Test/ToyasCard.lean, 'card_holds'). Laid BY PROGRAM, IN A SANDBOX (cutbox-door.mjs). By AI agents, Wed Nov 11 2026. No macro, syntax, notation, axiom, sorry.
-/
import Derived.Test.YtpiedheafppnhaaGreatDoorRows
import GoSem.ClaimSeven
namespace Go.Proofs.YtpiedheafppnhaaGreatDoor
namespace Rows

/-- THE TIED CARD OF 'sosoptlaw16.SparsityFirst'. -/
def sparsityFirstCard : Claim7 := { stood := { row := sparsityFirstRow, standIns := [], harness := (true, "4fc88ca776e2150256de91669b48fb53055e76d3b1eb469d23add65826fdfd95"), looks := false }, kinds := [], alts := [], laidByText := true, laidKinds := [.data], laidTests := true, laidLooks := .later }
def SparsityFirstCardSaid : Prop := Claim7.holds Tryz.pinned (.plain (OpenSpec.ofChange sparsityFirstSpec)) sparsityFirstCard

/-- THE SECOND FORM's CARD OF 'sosoptlaw16.SparsityFirst'. -/
def sparsityFirstUptoCard : Claim7 := { stood := { row := sparsityFirstUptoRow, standIns := [], harness := (true, "4fc88ca776e2150256de91669b48fb53055e76d3b1eb469d23add65826fdfd95"), looks := false }, kinds := [], alts := [], laidByText := true, laidKinds := [.data], laidTests := true, laidLooks := .later }
def SparsityFirstUptoCardSaid : Prop := Claim7.holds Tryz.pinned (.plain (OpenSpec.upto sparsityFirstSpec)) sparsityFirstUptoCard
end Rows
end Go.Proofs.YtpiedheafppnhaaGreatDoor
