/-
  NARROWER THAN 'FOR EVERY INPUT', by the rows' own cells (each row's printed sentence says how): ParitySigns: laid · ParityClasses: laid · SparsityRounds: laid · SparsityGraph: laid · SparsityBlocks: laid · ParityProducts: laid · SparsityFirst: laid · ParityApply: laid · ParityInvariant: laid · ParityComplete: laid · SparsityVariables: laid · SparsityCliques: laid.
  DERIVED. THE GIVEN ROWS OF THIS SEAT. 12 by the template 'for every input the law returns true; each argument reads behind the call as it read before'; 0 by the template 'total and deterministic' (their statements: YtapkdofmcchdcaaGreatDoorTotals.lean).
  GIVEN WITH THE SEED: the statements are not yours to turn. If you find one false, say at which input.
  Laid BY PROGRAM, IN A SANDBOX (cutbox-rows.mjs): the forced cells as the released guide's own fill.sh prints them over the translation 3803bc5474b74ff7… (all of the seat's roots in one cut). By AI agents, Wed Nov 11 2026. No macro, syntax, notation, axiom, sorry.
-/
import Derived.Test.YtapkdofmcchdcaaGreatDoorChecked
import GoSem.Claim
import GoSem.ClaimJoined
import GoSem.ClaimMapViews
import Derived.JoinedTies
import Derived.KernelRfl
namespace Go.Proofs.YtapkdofmcchdcaaGreatDoor
/- THE CELL 'sum', in the pinned program and in every row, IS THE sha256 OF THE DUMP (.gsa) THAT YtapkdofmcchdcaaGreatDoorProg.lean LOADS. Nothing in Lean hashes anything: it is a label: what it is worth is what the hold of that sum in a sandbox is worth. -/
noncomputable def Tryz.pinned : Pinned := { name := "ytapkdofmcchdcaagreatdoor", sum := "3803bc5474b74ff7590dd9a4cd21051ebeb3bda71a8e405e6f583b44131bfa14", checked := Tryz.checked }
namespace Rows
def none {H : Type} : Left H := { results := [], args := [] }

/- WHAT THE LISTED PACKAGE-LEVEL VARIABLES READ AS WHEN THE CALL BEGINS. Each datum BY PROGRAM (the guide's laid-datum.mjs) off the statement by which the dump's own 'gosem.cut.vars' lays the variable. In a bare row this is a premise. The card (YtapkdofmcchdcaaGreatDoorCards.lean) ties it to the program's text. -/
def laid_math_bits_deBruijn64tab {H : Type} : DataW H := .agg [.lit (.int .u8 0), .lit (.int .u8 1), .lit (.int .u8 56), .lit (.int .u8 2), .lit (.int .u8 57), .lit (.int .u8 49), .lit (.int .u8 28), .lit (.int .u8 3), .lit (.int .u8 61), .lit (.int .u8 58), .lit (.int .u8 42), .lit (.int .u8 50), .lit (.int .u8 38), .lit (.int .u8 29), .lit (.int .u8 17), .lit (.int .u8 4), .lit (.int .u8 62), .lit (.int .u8 47), .lit (.int .u8 59), .lit (.int .u8 36), .lit (.int .u8 45), .lit (.int .u8 43), .lit (.int .u8 51), .lit (.int .u8 22), .lit (.int .u8 53), .lit (.int .u8 39), .lit (.int .u8 33), .lit (.int .u8 30), .lit (.int .u8 24), .lit (.int .u8 18), .lit (.int .u8 12), .lit (.int .u8 5), .lit (.int .u8 63), .lit (.int .u8 55), .lit (.int .u8 48), .lit (.int .u8 27), .lit (.int .u8 60), .lit (.int .u8 41), .lit (.int .u8 37), .lit (.int .u8 16), .lit (.int .u8 46), .lit (.int .u8 35), .lit (.int .u8 44), .lit (.int .u8 21), .lit (.int .u8 52), .lit (.int .u8 32), .lit (.int .u8 23), .lit (.int .u8 11), .lit (.int .u8 54), .lit (.int .u8 26), .lit (.int .u8 40), .lit (.int .u8 15), .lit (.int .u8 34), .lit (.int .u8 20), .lit (.int .u8 31), .lit (.int .u8 10), .lit (.int .u8 25), .lit (.int .u8 14), .lit (.int .u8 19), .lit (.int .u8 9), .lit (.int .u8 13), .lit (.int .u8 8), .lit (.int .u8 7), .lit (.int .u8 6)]

/-- 'sosoptlaw17.ParitySigns': WHATEVER THE INPUT: true; the input reads as it did. -/
def paritySignsSpec : ChangeSpec := { name := "paritySigns", fn := fun _ => fun
  | [d] => { results := [.lit (.bool true)], args := [d] }
  | _ => none }
def paritySignsRow : OpenClaim := { program := "ytapkdofmcchdcaagreatdoor", sum := "3803bc5474b74ff7590dd9a4cd21051ebeb3bda71a8e405e6f583b44131bfa14", func := "sosopt/sosoptlaw17.ParitySigns", spec := "paritySigns", inPlace := ["math/bits.Add64", "math/bits.Sub64"], recurses := true, named := ["math/bits.divideError", "math/bits.overflowError", "math/bits.deBruijn64tab"], plainKeys := false, apart := false, laid := [("math/bits.deBruijn64tab", laid_math_bits_deBruijn64tab)] }
def ParitySignsSaid : Prop := paritySignsRow.holds Tryz.pinned (OpenSpec.ofChange paritySignsSpec)

/-- ITS FALSE NEIGHBOUR: 'it returns false'. Refute it at one input. -/
def paritySignsWrong : ChangeSpec := { name := "paritySigns", fn := fun _ => fun
  | [d] => { results := [.lit (.bool false)], args := [d] }
  | _ => none }
def ParitySignsWrongFalsely : Prop := paritySignsRow.holds Tryz.pinned (OpenSpec.ofChange paritySignsWrong)

/-- 'sosoptlaw17.ParityClasses': WHATEVER THE INPUT: true; the input reads as it did. -/
def parityClassesSpec : ChangeSpec := { name := "parityClasses", fn := fun _ => fun
  | [d1, d2, d3] => { results := [.lit (.bool true)], args := [d1, d2, d3] }
  | _ => none }
def parityClassesRow : OpenClaim := { program := "ytapkdofmcchdcaagreatdoor", sum := "3803bc5474b74ff7590dd9a4cd21051ebeb3bda71a8e405e6f583b44131bfa14", func := "sosopt/sosoptlaw17.ParityClasses", spec := "parityClasses", inPlace := ["math/bits.Add64", "math/bits.Sub64"], recurses := true, named := ["math/bits.divideError", "math/bits.overflowError", "math/bits.deBruijn64tab"], plainKeys := false, apart := false, laid := [("math/bits.deBruijn64tab", laid_math_bits_deBruijn64tab)] }
def ParityClassesSaid : Prop := parityClassesRow.holds Tryz.pinned (OpenSpec.ofChange parityClassesSpec)

/-- ITS FALSE NEIGHBOUR: 'it returns false'. Refute it at one input. -/
def parityClassesWrong : ChangeSpec := { name := "parityClasses", fn := fun _ => fun
  | [d1, d2, d3] => { results := [.lit (.bool false)], args := [d1, d2, d3] }
  | _ => none }
def ParityClassesWrongFalsely : Prop := parityClassesRow.holds Tryz.pinned (OpenSpec.ofChange parityClassesWrong)

/-- 'sosoptlaw16.SparsityRounds': WHATEVER THE INPUT: true; the input reads as it did. -/
def sparsityRoundsSpec : ChangeSpec := { name := "sparsityRounds", fn := fun _ => fun
  | [d1, d2, d3] => { results := [.lit (.bool true)], args := [d1, d2, d3] }
  | _ => none }
def sparsityRoundsRow : OpenClaim := { program := "ytapkdofmcchdcaagreatdoor", sum := "3803bc5474b74ff7590dd9a4cd21051ebeb3bda71a8e405e6f583b44131bfa14", func := "sosopt/sosoptlaw16.SparsityRounds", spec := "sparsityRounds", inPlace := ["math/bits.Add64", "math/bits.Sub64"], recurses := true, named := ["math/bits.divideError", "math/bits.overflowError", "math/bits.deBruijn64tab"], plainKeys := false, apart := false, laid := [("math/bits.deBruijn64tab", laid_math_bits_deBruijn64tab)] }
def SparsityRoundsSaid : Prop := sparsityRoundsRow.holds Tryz.pinned (OpenSpec.ofChange sparsityRoundsSpec)

/-- ITS FALSE NEIGHBOUR: 'it returns false'. Refute it at one input. -/
def sparsityRoundsWrong : ChangeSpec := { name := "sparsityRounds", fn := fun _ => fun
  | [d1, d2, d3] => { results := [.lit (.bool false)], args := [d1, d2, d3] }
  | _ => none }
def SparsityRoundsWrongFalsely : Prop := sparsityRoundsRow.holds Tryz.pinned (OpenSpec.ofChange sparsityRoundsWrong)

/-- 'sosoptlaw16.SparsityGraph': WHATEVER THE INPUT: true; the input reads as it did. -/
def sparsityGraphSpec : ChangeSpec := { name := "sparsityGraph", fn := fun _ => fun
  | [d1, d2] => { results := [.lit (.bool true)], args := [d1, d2] }
  | _ => none }
def sparsityGraphRow : OpenClaim := { program := "ytapkdofmcchdcaagreatdoor", sum := "3803bc5474b74ff7590dd9a4cd21051ebeb3bda71a8e405e6f583b44131bfa14", func := "sosopt/sosoptlaw16.SparsityGraph", spec := "sparsityGraph", inPlace := ["math/bits.Add64", "math/bits.Sub64"], recurses := true, named := ["math/bits.divideError", "math/bits.overflowError", "math/bits.deBruijn64tab"], plainKeys := false, apart := false, laid := [("math/bits.deBruijn64tab", laid_math_bits_deBruijn64tab)] }
def SparsityGraphSaid : Prop := sparsityGraphRow.holds Tryz.pinned (OpenSpec.ofChange sparsityGraphSpec)

/-- ITS FALSE NEIGHBOUR: 'it returns false'. Refute it at one input. -/
def sparsityGraphWrong : ChangeSpec := { name := "sparsityGraph", fn := fun _ => fun
  | [d1, d2] => { results := [.lit (.bool false)], args := [d1, d2] }
  | _ => none }
def SparsityGraphWrongFalsely : Prop := sparsityGraphRow.holds Tryz.pinned (OpenSpec.ofChange sparsityGraphWrong)

/-- 'sosoptlaw16.SparsityBlocks': WHATEVER THE INPUT: true; the input reads as it did. -/
def sparsityBlocksSpec : ChangeSpec := { name := "sparsityBlocks", fn := fun _ => fun
  | [d1, d2, d3] => { results := [.lit (.bool true)], args := [d1, d2, d3] }
  | _ => none }
def sparsityBlocksRow : OpenClaim := { program := "ytapkdofmcchdcaagreatdoor", sum := "3803bc5474b74ff7590dd9a4cd21051ebeb3bda71a8e405e6f583b44131bfa14", func := "sosopt/sosoptlaw16.SparsityBlocks", spec := "sparsityBlocks", inPlace := ["math/bits.Add64", "math/bits.Sub64"], recurses := true, named := ["math/bits.divideError", "math/bits.overflowError", "math/bits.deBruijn64tab"], plainKeys := false, apart := false, laid := [("math/bits.deBruijn64tab", laid_math_bits_deBruijn64tab)] }
def SparsityBlocksSaid : Prop := sparsityBlocksRow.holds Tryz.pinned (OpenSpec.ofChange sparsityBlocksSpec)

/-- ITS FALSE NEIGHBOUR: 'it returns false'. Refute it at one input. -/
def sparsityBlocksWrong : ChangeSpec := { name := "sparsityBlocks", fn := fun _ => fun
  | [d1, d2, d3] => { results := [.lit (.bool false)], args := [d1, d2, d3] }
  | _ => none }
def SparsityBlocksWrongFalsely : Prop := sparsityBlocksRow.holds Tryz.pinned (OpenSpec.ofChange sparsityBlocksWrong)

/-- 'sosoptlaw17.ParityProducts': WHATEVER THE INPUT: true; the input reads as it did. -/
def parityProductsSpec : ChangeSpec := { name := "parityProducts", fn := fun _ => fun
  | [d1, d2] => { results := [.lit (.bool true)], args := [d1, d2] }
  | _ => none }
def parityProductsRow : OpenClaim := { program := "ytapkdofmcchdcaagreatdoor", sum := "3803bc5474b74ff7590dd9a4cd21051ebeb3bda71a8e405e6f583b44131bfa14", func := "sosopt/sosoptlaw17.ParityProducts", spec := "parityProducts", inPlace := ["math/bits.Add64", "math/bits.Sub64"], unfollowed := true, recurses := true, named := ["math/bits.divideError", "math/bits.overflowError", "math/bits.deBruijn64tab"], plainKeys := false, apart := false, laid := [("math/bits.deBruijn64tab", laid_math_bits_deBruijn64tab)] }
def ParityProductsSaid : Prop := parityProductsRow.holds Tryz.pinned (OpenSpec.ofChange parityProductsSpec)

/-- ITS FALSE NEIGHBOUR: 'it returns false'. Refute it at one input. -/
def parityProductsWrong : ChangeSpec := { name := "parityProducts", fn := fun _ => fun
  | [d1, d2] => { results := [.lit (.bool false)], args := [d1, d2] }
  | _ => none }
def ParityProductsWrongFalsely : Prop := parityProductsRow.holds Tryz.pinned (OpenSpec.ofChange parityProductsWrong)

/-- 'sosoptlaw16.SparsityFirst': WHATEVER THE INPUT: true; the input reads as it did. -/
def sparsityFirstSpec : ChangeSpec := { name := "sparsityFirst", fn := fun _ => fun
  | [d1, d2] => { results := [.lit (.bool true)], args := [d1, d2] }
  | _ => none }
def sparsityFirstRow : OpenClaim := { program := "ytapkdofmcchdcaagreatdoor", sum := "3803bc5474b74ff7590dd9a4cd21051ebeb3bda71a8e405e6f583b44131bfa14", func := "sosopt/sosoptlaw16.SparsityFirst", spec := "sparsityFirst", inPlace := ["math/bits.Add64", "math/bits.Sub64"], recurses := true, named := ["math/bits.divideError", "math/bits.overflowError", "math/bits.deBruijn64tab"], plainKeys := false, apart := false, laid := [("math/bits.deBruijn64tab", laid_math_bits_deBruijn64tab)] }
def SparsityFirstSaid : Prop := sparsityFirstRow.holds Tryz.pinned (OpenSpec.ofChange sparsityFirstSpec)

/-- ITS FALSE NEIGHBOUR: 'it returns false'. Refute it at one input. -/
def sparsityFirstWrong : ChangeSpec := { name := "sparsityFirst", fn := fun _ => fun
  | [d1, d2] => { results := [.lit (.bool false)], args := [d1, d2] }
  | _ => none }
def SparsityFirstWrongFalsely : Prop := sparsityFirstRow.holds Tryz.pinned (OpenSpec.ofChange sparsityFirstWrong)

/-- 'sosoptlaw17.ParityApply': WHATEVER THE INPUT: true; the input reads as it did. -/
def parityApplySpec : ChangeSpec := { name := "parityApply", fn := fun _ => fun
  | [d1, d2] => { results := [.lit (.bool true)], args := [d1, d2] }
  | _ => none }
def parityApplyRow : OpenClaim := { program := "ytapkdofmcchdcaagreatdoor", sum := "3803bc5474b74ff7590dd9a4cd21051ebeb3bda71a8e405e6f583b44131bfa14", func := "sosopt/sosoptlaw17.ParityApply", spec := "parityApply", inPlace := ["math/bits.Add64", "math/bits.Sub64"], recurses := true, named := ["math/bits.divideError", "math/bits.overflowError", "math/bits.deBruijn64tab"], plainKeys := false, apart := false, laid := [("math/bits.deBruijn64tab", laid_math_bits_deBruijn64tab)] }
def ParityApplySaid : Prop := parityApplyRow.holds Tryz.pinned (OpenSpec.ofChange parityApplySpec)

/-- ITS FALSE NEIGHBOUR: 'it returns false'. Refute it at one input. -/
def parityApplyWrong : ChangeSpec := { name := "parityApply", fn := fun _ => fun
  | [d1, d2] => { results := [.lit (.bool false)], args := [d1, d2] }
  | _ => none }
def ParityApplyWrongFalsely : Prop := parityApplyRow.holds Tryz.pinned (OpenSpec.ofChange parityApplyWrong)

/-- 'sosoptlaw17.ParityInvariant': WHATEVER THE INPUT: true; the input reads as it did. -/
def parityInvariantSpec : ChangeSpec := { name := "parityInvariant", fn := fun _ => fun
  | [d1, d2, d3] => { results := [.lit (.bool true)], args := [d1, d2, d3] }
  | _ => none }
def parityInvariantRow : OpenClaim := { program := "ytapkdofmcchdcaagreatdoor", sum := "3803bc5474b74ff7590dd9a4cd21051ebeb3bda71a8e405e6f583b44131bfa14", func := "sosopt/sosoptlaw17.ParityInvariant", spec := "parityInvariant", inPlace := ["math/bits.Add64", "math/bits.Sub64"], recurses := true, named := ["math/bits.divideError", "math/bits.overflowError", "math/bits.deBruijn64tab"], plainKeys := false, apart := false, laid := [("math/bits.deBruijn64tab", laid_math_bits_deBruijn64tab)] }
def ParityInvariantSaid : Prop := parityInvariantRow.holds Tryz.pinned (OpenSpec.ofChange parityInvariantSpec)

/-- ITS FALSE NEIGHBOUR: 'it returns false'. Refute it at one input. -/
def parityInvariantWrong : ChangeSpec := { name := "parityInvariant", fn := fun _ => fun
  | [d1, d2, d3] => { results := [.lit (.bool false)], args := [d1, d2, d3] }
  | _ => none }
def ParityInvariantWrongFalsely : Prop := parityInvariantRow.holds Tryz.pinned (OpenSpec.ofChange parityInvariantWrong)

/-- 'sosoptlaw17.ParityComplete': WHATEVER THE INPUT: true; the input reads as it did. -/
def parityCompleteSpec : ChangeSpec := { name := "parityComplete", fn := fun _ => fun
  | [d1, d2] => { results := [.lit (.bool true)], args := [d1, d2] }
  | _ => none }
def parityCompleteRow : OpenClaim := { program := "ytapkdofmcchdcaagreatdoor", sum := "3803bc5474b74ff7590dd9a4cd21051ebeb3bda71a8e405e6f583b44131bfa14", func := "sosopt/sosoptlaw17.ParityComplete", spec := "parityComplete", inPlace := ["math/bits.Add64", "math/bits.Sub64"], recurses := true, named := ["math/bits.divideError", "math/bits.overflowError", "math/bits.deBruijn64tab"], plainKeys := false, apart := false, laid := [("math/bits.deBruijn64tab", laid_math_bits_deBruijn64tab)] }
def ParityCompleteSaid : Prop := parityCompleteRow.holds Tryz.pinned (OpenSpec.ofChange parityCompleteSpec)

/-- ITS FALSE NEIGHBOUR: 'it returns false'. Refute it at one input. -/
def parityCompleteWrong : ChangeSpec := { name := "parityComplete", fn := fun _ => fun
  | [d1, d2] => { results := [.lit (.bool false)], args := [d1, d2] }
  | _ => none }
def ParityCompleteWrongFalsely : Prop := parityCompleteRow.holds Tryz.pinned (OpenSpec.ofChange parityCompleteWrong)

/-- 'sosoptlaw16.SparsityVariables': WHATEVER THE INPUT: true; the input reads as it did. -/
def sparsityVariablesSpec : ChangeSpec := { name := "sparsityVariables", fn := fun _ => fun
  | [d1, d2] => { results := [.lit (.bool true)], args := [d1, d2] }
  | _ => none }
def sparsityVariablesRow : OpenClaim := { program := "ytapkdofmcchdcaagreatdoor", sum := "3803bc5474b74ff7590dd9a4cd21051ebeb3bda71a8e405e6f583b44131bfa14", func := "sosopt/sosoptlaw16.SparsityVariables", spec := "sparsityVariables", inPlace := ["math/bits.Add64", "math/bits.Sub64"], unfollowed := true, recurses := true, named := ["math/bits.divideError", "math/bits.overflowError", "math/bits.deBruijn64tab"], plainKeys := false, apart := false, laid := [("math/bits.deBruijn64tab", laid_math_bits_deBruijn64tab)] }
def SparsityVariablesSaid : Prop := sparsityVariablesRow.holds Tryz.pinned (OpenSpec.ofChange sparsityVariablesSpec)

/-- ITS FALSE NEIGHBOUR: 'it returns false'. Refute it at one input. -/
def sparsityVariablesWrong : ChangeSpec := { name := "sparsityVariables", fn := fun _ => fun
  | [d1, d2] => { results := [.lit (.bool false)], args := [d1, d2] }
  | _ => none }
def SparsityVariablesWrongFalsely : Prop := sparsityVariablesRow.holds Tryz.pinned (OpenSpec.ofChange sparsityVariablesWrong)

/-- 'sosoptlaw16.SparsityCliques': WHATEVER THE INPUT: true; the input reads as it did. -/
def sparsityCliquesSpec : ChangeSpec := { name := "sparsityCliques", fn := fun _ => fun
  | [d1, d2] => { results := [.lit (.bool true)], args := [d1, d2] }
  | _ => none }
def sparsityCliquesRow : OpenClaim := { program := "ytapkdofmcchdcaagreatdoor", sum := "3803bc5474b74ff7590dd9a4cd21051ebeb3bda71a8e405e6f583b44131bfa14", func := "sosopt/sosoptlaw16.SparsityCliques", spec := "sparsityCliques", inPlace := ["math/bits.Add64", "math/bits.Sub64"], unfollowed := true, recurses := true, named := ["math/bits.divideError", "math/bits.overflowError", "math/bits.deBruijn64tab"], plainKeys := false, apart := false, laid := [("math/bits.deBruijn64tab", laid_math_bits_deBruijn64tab)] }
def SparsityCliquesSaid : Prop := sparsityCliquesRow.holds Tryz.pinned (OpenSpec.ofChange sparsityCliquesSpec)

/-- ITS FALSE NEIGHBOUR: 'it returns false'. Refute it at one input. -/
def sparsityCliquesWrong : ChangeSpec := { name := "sparsityCliques", fn := fun _ => fun
  | [d1, d2] => { results := [.lit (.bool false)], args := [d1, d2] }
  | _ => none }
def SparsityCliquesWrongFalsely : Prop := sparsityCliquesRow.holds Tryz.pinned (OpenSpec.ofChange sparsityCliquesWrong)

/- THE SECOND FORM. 'bulk': how many values and letters a reading holds, each counted each time it is reached (what is shared counts as often as it is met; a slice's spare places count too). A statement '..UptoSaid' is the law's where the arguments, and the package variables that the reading takes, are together of bulk at most 1048576: NARROWER than '..Said'. Prove '..Said' where nothing that the law and all that it calls make is longer than what came in: it says more and counts as full. Else prove '..UptoSaid'. A law counts once. -/
mutual
def uptoBulk {H : Type} : DataW H → Nat
  | .lit (.string bytes) => bytes.length + 1
  | .lit _ => 1
  | .nil => 1
  | .ptr d => uptoBulk d + 1
  | .slice elems spare => uptoBulkAll elems + uptoBulkAll spare + 1
  | .agg parts => uptoBulkAll parts + 1
  | .iface _ d => uptoBulk d + 1
  | .map entries => uptoBulkEntries entries + 1
  | .held _ => 1
def uptoBulkAll {H : Type} : List (DataW H) → Nat
  | [] => 0
  | d :: r => uptoBulk d + uptoBulkAll r
def uptoBulkEntries {H : Type} : List (Lit × DataW H) → Nat
  | [] => 0
  | x :: r => uptoBulkEntry x + uptoBulkEntries r
def uptoBulkEntry {H : Type} : Lit × DataW H → Nat
  | (.string bytes, d) => bytes.length + uptoBulk d + 1
  | (_, d) => uptoBulk d + 1
 end
def uptoSmall : (H : Type) → List (DataW H) → Bool := fun _ ds => decide (uptoBulkAll ds ≤ 1048576)
def OpenSpec.upto (s : _root_.Go.ChangeSpec) : _root_.Go.OpenSpec := { _root_.Go.OpenSpec.ofChange s with cond := some uptoSmall }

/-- 'sosoptlaw17.ParitySigns', WHERE WHAT IT READS IS OF BULK AT MOST 1048576: true; the input reads as it did. -/
def paritySignsUptoRow : OpenClaim := { program := "ytapkdofmcchdcaagreatdoor", sum := "3803bc5474b74ff7590dd9a4cd21051ebeb3bda71a8e405e6f583b44131bfa14", func := "sosopt/sosoptlaw17.ParitySigns", spec := "paritySigns", inPlace := ["math/bits.Add64", "math/bits.Sub64"], recurses := true, named := ["math/bits.divideError", "math/bits.overflowError", "math/bits.deBruijn64tab"], plainKeys := false, apart := false, laid := [("math/bits.deBruijn64tab", laid_math_bits_deBruijn64tab)], narrowed := true }
def ParitySignsUptoSaid : Prop := paritySignsUptoRow.holds Tryz.pinned (OpenSpec.upto paritySignsSpec)

/-- 'sosoptlaw17.ParityClasses', WHERE WHAT IT READS IS OF BULK AT MOST 1048576: true; the input reads as it did. -/
def parityClassesUptoRow : OpenClaim := { program := "ytapkdofmcchdcaagreatdoor", sum := "3803bc5474b74ff7590dd9a4cd21051ebeb3bda71a8e405e6f583b44131bfa14", func := "sosopt/sosoptlaw17.ParityClasses", spec := "parityClasses", inPlace := ["math/bits.Add64", "math/bits.Sub64"], recurses := true, named := ["math/bits.divideError", "math/bits.overflowError", "math/bits.deBruijn64tab"], plainKeys := false, apart := false, laid := [("math/bits.deBruijn64tab", laid_math_bits_deBruijn64tab)], narrowed := true }
def ParityClassesUptoSaid : Prop := parityClassesUptoRow.holds Tryz.pinned (OpenSpec.upto parityClassesSpec)

/-- 'sosoptlaw16.SparsityRounds', WHERE WHAT IT READS IS OF BULK AT MOST 1048576: true; the input reads as it did. -/
def sparsityRoundsUptoRow : OpenClaim := { program := "ytapkdofmcchdcaagreatdoor", sum := "3803bc5474b74ff7590dd9a4cd21051ebeb3bda71a8e405e6f583b44131bfa14", func := "sosopt/sosoptlaw16.SparsityRounds", spec := "sparsityRounds", inPlace := ["math/bits.Add64", "math/bits.Sub64"], recurses := true, named := ["math/bits.divideError", "math/bits.overflowError", "math/bits.deBruijn64tab"], plainKeys := false, apart := false, laid := [("math/bits.deBruijn64tab", laid_math_bits_deBruijn64tab)], narrowed := true }
def SparsityRoundsUptoSaid : Prop := sparsityRoundsUptoRow.holds Tryz.pinned (OpenSpec.upto sparsityRoundsSpec)

/-- 'sosoptlaw16.SparsityGraph', WHERE WHAT IT READS IS OF BULK AT MOST 1048576: true; the input reads as it did. -/
def sparsityGraphUptoRow : OpenClaim := { program := "ytapkdofmcchdcaagreatdoor", sum := "3803bc5474b74ff7590dd9a4cd21051ebeb3bda71a8e405e6f583b44131bfa14", func := "sosopt/sosoptlaw16.SparsityGraph", spec := "sparsityGraph", inPlace := ["math/bits.Add64", "math/bits.Sub64"], recurses := true, named := ["math/bits.divideError", "math/bits.overflowError", "math/bits.deBruijn64tab"], plainKeys := false, apart := false, laid := [("math/bits.deBruijn64tab", laid_math_bits_deBruijn64tab)], narrowed := true }
def SparsityGraphUptoSaid : Prop := sparsityGraphUptoRow.holds Tryz.pinned (OpenSpec.upto sparsityGraphSpec)

/-- 'sosoptlaw16.SparsityBlocks', WHERE WHAT IT READS IS OF BULK AT MOST 1048576: true; the input reads as it did. -/
def sparsityBlocksUptoRow : OpenClaim := { program := "ytapkdofmcchdcaagreatdoor", sum := "3803bc5474b74ff7590dd9a4cd21051ebeb3bda71a8e405e6f583b44131bfa14", func := "sosopt/sosoptlaw16.SparsityBlocks", spec := "sparsityBlocks", inPlace := ["math/bits.Add64", "math/bits.Sub64"], recurses := true, named := ["math/bits.divideError", "math/bits.overflowError", "math/bits.deBruijn64tab"], plainKeys := false, apart := false, laid := [("math/bits.deBruijn64tab", laid_math_bits_deBruijn64tab)], narrowed := true }
def SparsityBlocksUptoSaid : Prop := sparsityBlocksUptoRow.holds Tryz.pinned (OpenSpec.upto sparsityBlocksSpec)

/-- 'sosoptlaw17.ParityProducts', WHERE WHAT IT READS IS OF BULK AT MOST 1048576: true; the input reads as it did. -/
def parityProductsUptoRow : OpenClaim := { program := "ytapkdofmcchdcaagreatdoor", sum := "3803bc5474b74ff7590dd9a4cd21051ebeb3bda71a8e405e6f583b44131bfa14", func := "sosopt/sosoptlaw17.ParityProducts", spec := "parityProducts", inPlace := ["math/bits.Add64", "math/bits.Sub64"], unfollowed := true, recurses := true, named := ["math/bits.divideError", "math/bits.overflowError", "math/bits.deBruijn64tab"], plainKeys := false, apart := false, laid := [("math/bits.deBruijn64tab", laid_math_bits_deBruijn64tab)], narrowed := true }
def ParityProductsUptoSaid : Prop := parityProductsUptoRow.holds Tryz.pinned (OpenSpec.upto parityProductsSpec)

/-- 'sosoptlaw16.SparsityFirst', WHERE WHAT IT READS IS OF BULK AT MOST 1048576: true; the input reads as it did. -/
def sparsityFirstUptoRow : OpenClaim := { program := "ytapkdofmcchdcaagreatdoor", sum := "3803bc5474b74ff7590dd9a4cd21051ebeb3bda71a8e405e6f583b44131bfa14", func := "sosopt/sosoptlaw16.SparsityFirst", spec := "sparsityFirst", inPlace := ["math/bits.Add64", "math/bits.Sub64"], recurses := true, named := ["math/bits.divideError", "math/bits.overflowError", "math/bits.deBruijn64tab"], plainKeys := false, apart := false, laid := [("math/bits.deBruijn64tab", laid_math_bits_deBruijn64tab)], narrowed := true }
def SparsityFirstUptoSaid : Prop := sparsityFirstUptoRow.holds Tryz.pinned (OpenSpec.upto sparsityFirstSpec)

/-- 'sosoptlaw17.ParityApply', WHERE WHAT IT READS IS OF BULK AT MOST 1048576: true; the input reads as it did. -/
def parityApplyUptoRow : OpenClaim := { program := "ytapkdofmcchdcaagreatdoor", sum := "3803bc5474b74ff7590dd9a4cd21051ebeb3bda71a8e405e6f583b44131bfa14", func := "sosopt/sosoptlaw17.ParityApply", spec := "parityApply", inPlace := ["math/bits.Add64", "math/bits.Sub64"], recurses := true, named := ["math/bits.divideError", "math/bits.overflowError", "math/bits.deBruijn64tab"], plainKeys := false, apart := false, laid := [("math/bits.deBruijn64tab", laid_math_bits_deBruijn64tab)], narrowed := true }
def ParityApplyUptoSaid : Prop := parityApplyUptoRow.holds Tryz.pinned (OpenSpec.upto parityApplySpec)

/-- 'sosoptlaw17.ParityInvariant', WHERE WHAT IT READS IS OF BULK AT MOST 1048576: true; the input reads as it did. -/
def parityInvariantUptoRow : OpenClaim := { program := "ytapkdofmcchdcaagreatdoor", sum := "3803bc5474b74ff7590dd9a4cd21051ebeb3bda71a8e405e6f583b44131bfa14", func := "sosopt/sosoptlaw17.ParityInvariant", spec := "parityInvariant", inPlace := ["math/bits.Add64", "math/bits.Sub64"], recurses := true, named := ["math/bits.divideError", "math/bits.overflowError", "math/bits.deBruijn64tab"], plainKeys := false, apart := false, laid := [("math/bits.deBruijn64tab", laid_math_bits_deBruijn64tab)], narrowed := true }
def ParityInvariantUptoSaid : Prop := parityInvariantUptoRow.holds Tryz.pinned (OpenSpec.upto parityInvariantSpec)

/-- 'sosoptlaw17.ParityComplete', WHERE WHAT IT READS IS OF BULK AT MOST 1048576: true; the input reads as it did. -/
def parityCompleteUptoRow : OpenClaim := { program := "ytapkdofmcchdcaagreatdoor", sum := "3803bc5474b74ff7590dd9a4cd21051ebeb3bda71a8e405e6f583b44131bfa14", func := "sosopt/sosoptlaw17.ParityComplete", spec := "parityComplete", inPlace := ["math/bits.Add64", "math/bits.Sub64"], recurses := true, named := ["math/bits.divideError", "math/bits.overflowError", "math/bits.deBruijn64tab"], plainKeys := false, apart := false, laid := [("math/bits.deBruijn64tab", laid_math_bits_deBruijn64tab)], narrowed := true }
def ParityCompleteUptoSaid : Prop := parityCompleteUptoRow.holds Tryz.pinned (OpenSpec.upto parityCompleteSpec)

/-- 'sosoptlaw16.SparsityVariables', WHERE WHAT IT READS IS OF BULK AT MOST 1048576: true; the input reads as it did. -/
def sparsityVariablesUptoRow : OpenClaim := { program := "ytapkdofmcchdcaagreatdoor", sum := "3803bc5474b74ff7590dd9a4cd21051ebeb3bda71a8e405e6f583b44131bfa14", func := "sosopt/sosoptlaw16.SparsityVariables", spec := "sparsityVariables", inPlace := ["math/bits.Add64", "math/bits.Sub64"], unfollowed := true, recurses := true, named := ["math/bits.divideError", "math/bits.overflowError", "math/bits.deBruijn64tab"], plainKeys := false, apart := false, laid := [("math/bits.deBruijn64tab", laid_math_bits_deBruijn64tab)], narrowed := true }
def SparsityVariablesUptoSaid : Prop := sparsityVariablesUptoRow.holds Tryz.pinned (OpenSpec.upto sparsityVariablesSpec)

/-- 'sosoptlaw16.SparsityCliques', WHERE WHAT IT READS IS OF BULK AT MOST 1048576: true; the input reads as it did. -/
def sparsityCliquesUptoRow : OpenClaim := { program := "ytapkdofmcchdcaagreatdoor", sum := "3803bc5474b74ff7590dd9a4cd21051ebeb3bda71a8e405e6f583b44131bfa14", func := "sosopt/sosoptlaw16.SparsityCliques", spec := "sparsityCliques", inPlace := ["math/bits.Add64", "math/bits.Sub64"], unfollowed := true, recurses := true, named := ["math/bits.divideError", "math/bits.overflowError", "math/bits.deBruijn64tab"], plainKeys := false, apart := false, laid := [("math/bits.deBruijn64tab", laid_math_bits_deBruijn64tab)], narrowed := true }
def SparsityCliquesUptoSaid : Prop := sparsityCliquesUptoRow.holds Tryz.pinned (OpenSpec.upto sparsityCliquesSpec)

end Rows
end Go.Proofs.YtapkdofmcchdcaaGreatDoor
