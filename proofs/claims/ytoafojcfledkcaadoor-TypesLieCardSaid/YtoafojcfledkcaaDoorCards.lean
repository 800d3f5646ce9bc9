/-
  DERIVED. GIVEN WITH THE SEED: THE CARDS: each row of YtoafojcfledkcaaDoorRows.lean that lists a variable, with what it lists TIED to the program's text (the seventh form; the later family's looks); each row that meets fmt, with fmt's text TOLD by the authors' own Lean function (tested against real Go, not proved from fmt's source: count such statements apart). THE CARD IS WHAT COUNTS. Prove the row's statement (the work); the ties are given (YtoafojcfledkcaaDoorTie.lean); close each card by the builder's one call (the guide's Derived/Test/ToyasCard.lean, 'card_holds'). Laid BY PROGRAM, IN A SANDBOX (cutbox-door.mjs). By AI agents, Wed Nov 11 2026. No macro, syntax, notation, axiom, sorry.
-/
import Derived.Test.YtoafojcfledkcaaDoorRows
import GoSem.ClaimSeven
namespace Go.Proofs.YtoafojcfledkcaaDoor
namespace Rows

/-- THE TIED CARD OF 'swagelaw11.TypesTell'. -/
def typesTellCard : Claim7 := { stood := { row := typesTellRow, standIns := [], harness := (true, "5bce13f3a5a6d66ceb8c08c05fe420fbccbae6f76f5d594f383bc5536b764a27"), looks := false }, kinds := [], alts := [], laidByText := true, laidKinds := [.data, .data, .data], laidTests := true, laidLooks := .later }
def TypesTellCardSaid : Prop := Claim7.holds Tryd.pinned (.plain (OpenSpec.ofChange typesTellSpec)) typesTellCard

/-- THE TIED CARD OF 'swagelaw11.TypesOf'. -/
def typesOfCard : Claim7 := { stood := { row := typesOfRow, standIns := [], harness := (true, "5bce13f3a5a6d66ceb8c08c05fe420fbccbae6f76f5d594f383bc5536b764a27"), looks := false }, kinds := [], alts := [], laidByText := true, laidKinds := [.data, .data, .data], laidTests := true, laidLooks := .later }
def TypesOfCardSaid : Prop := Claim7.holds Tryd.pinned (.plain (OpenSpec.ofChange typesOfSpec)) typesOfCard

/-- THE TIED CARD OF 'swagelaw11.TypesLie'. -/
def typesLieCard : Claim7 := { stood := { row := typesLieRow, standIns := [], harness := (true, "5bce13f3a5a6d66ceb8c08c05fe420fbccbae6f76f5d594f383bc5536b764a27"), looks := false }, kinds := [], alts := [], laidByText := true, laidKinds := [.data, .data, .data], laidTests := true, laidLooks := .later }
def TypesLieCardSaid : Prop := Claim7.holds Tryd.pinned (.plain (OpenSpec.ofChange typesLieSpec)) typesLieCard

/-- THE TIED CARD OF 'swagelaw11.TypesPoint'. -/
def typesPointCard : Claim7 := { stood := { row := typesPointRow, standIns := [], harness := (true, "5bce13f3a5a6d66ceb8c08c05fe420fbccbae6f76f5d594f383bc5536b764a27"), looks := false }, kinds := [], alts := [], laidByText := true, laidKinds := [.data, .data, .data], laidTests := true, laidLooks := .later }
def TypesPointCardSaid : Prop := Claim7.holds Tryd.pinned (.plain (OpenSpec.ofChange typesPointSpec)) typesPointCard

/-- THE TIED CARD OF 'swagelaw14.CodeCopies'. -/
def codeCopiesCard : Claim7 := { stood := { row := codeCopiesRow, standIns := [], harness := (true, "5bce13f3a5a6d66ceb8c08c05fe420fbccbae6f76f5d594f383bc5536b764a27"), looks := false }, kinds := [], alts := [], laidByText := true, laidKinds := [.data, .data, .data], laidTests := true, laidLooks := .later }
def CodeCopiesCardSaid : Prop := Claim7.holds Tryd.pinned (.plain (OpenSpec.ofChange codeCopiesSpec)) codeCopiesCard

/-- THE TIED CARD OF 'swagelaw14.CodeParts'. -/
def codePartsCard : Claim7 := { stood := { row := codePartsRow, standIns := [], harness := (true, "5bce13f3a5a6d66ceb8c08c05fe420fbccbae6f76f5d594f383bc5536b764a27"), looks := false }, kinds := [], alts := [], laidByText := true, laidKinds := [.data, .data, .data], laidTests := true, laidLooks := .later }
def CodePartsCardSaid : Prop := Claim7.holds Tryd.pinned (.plain (OpenSpec.ofChange codePartsSpec)) codePartsCard

/-- THE TIED CARD OF 'swagelaw14.CodeTells'. -/
def codeTellsCard : Claim7 := { stood := { row := codeTellsRow, standIns := [], harness := (true, "5bce13f3a5a6d66ceb8c08c05fe420fbccbae6f76f5d594f383bc5536b764a27"), looks := false }, kinds := [], alts := [], laidByText := true, laidKinds := [.data, .data, .data], laidTests := true, laidLooks := .later }
def CodeTellsCardSaid : Prop := Claim7.holds Tryd.pinned (.plain (OpenSpec.ofChange codeTellsSpec)) codeTellsCard

/-- THE TIED CARD OF 'swagelaw14.CodeTexts'. -/
def codeTextsCard : Claim7 := { stood := { row := codeTextsRow, standIns := [], harness := (true, "5bce13f3a5a6d66ceb8c08c05fe420fbccbae6f76f5d594f383bc5536b764a27"), looks := false }, kinds := [], alts := [], laidByText := true, laidKinds := [.data, .data, .data], laidTests := true, laidLooks := .later }
def CodeTextsCardSaid : Prop := Claim7.holds Tryd.pinned (.plain (OpenSpec.ofChange codeTextsSpec)) codeTextsCard

/-- THE SECOND FORM's CARD OF 'swagelaw11.TypesTell'. -/
def typesTellUptoCard : Claim7 := { stood := { row := typesTellUptoRow, standIns := [], harness := (true, "5bce13f3a5a6d66ceb8c08c05fe420fbccbae6f76f5d594f383bc5536b764a27"), looks := false }, kinds := [], alts := [], laidByText := true, laidKinds := [.data, .data, .data], laidTests := true, laidLooks := .later }
def TypesTellUptoCardSaid : Prop := Claim7.holds Tryd.pinned (.plain (OpenSpec.upto typesTellSpec)) typesTellUptoCard

/-- THE SECOND FORM's CARD OF 'swagelaw11.TypesOf'. -/
def typesOfUptoCard : Claim7 := { stood := { row := typesOfUptoRow, standIns := [], harness := (true, "5bce13f3a5a6d66ceb8c08c05fe420fbccbae6f76f5d594f383bc5536b764a27"), looks := false }, kinds := [], alts := [], laidByText := true, laidKinds := [.data, .data, .data], laidTests := true, laidLooks := .later }
def TypesOfUptoCardSaid : Prop := Claim7.holds Tryd.pinned (.plain (OpenSpec.upto typesOfSpec)) typesOfUptoCard

/-- THE SECOND FORM's CARD OF 'swagelaw11.TypesLie'. -/
def typesLieUptoCard : Claim7 := { stood := { row := typesLieUptoRow, standIns := [], harness := (true, "5bce13f3a5a6d66ceb8c08c05fe420fbccbae6f76f5d594f383bc5536b764a27"), looks := false }, kinds := [], alts := [], laidByText := true, laidKinds := [.data, .data, .data], laidTests := true, laidLooks := .later }
def TypesLieUptoCardSaid : Prop := Claim7.holds Tryd.pinned (.plain (OpenSpec.upto typesLieSpec)) typesLieUptoCard

/-- THE SECOND FORM's CARD OF 'swagelaw11.TypesPoint'. -/
def typesPointUptoCard : Claim7 := { stood := { row := typesPointUptoRow, standIns := [], harness := (true, "5bce13f3a5a6d66ceb8c08c05fe420fbccbae6f76f5d594f383bc5536b764a27"), looks := false }, kinds := [], alts := [], laidByText := true, laidKinds := [.data, .data, .data], laidTests := true, laidLooks := .later }
def TypesPointUptoCardSaid : Prop := Claim7.holds Tryd.pinned (.plain (OpenSpec.upto typesPointSpec)) typesPointUptoCard

/-- THE SECOND FORM's CARD OF 'swagelaw14.CodeCopies'. -/
def codeCopiesUptoCard : Claim7 := { stood := { row := codeCopiesUptoRow, standIns := [], harness := (true, "5bce13f3a5a6d66ceb8c08c05fe420fbccbae6f76f5d594f383bc5536b764a27"), looks := false }, kinds := [], alts := [], laidByText := true, laidKinds := [.data, .data, .data], laidTests := true, laidLooks := .later }
def CodeCopiesUptoCardSaid : Prop := Claim7.holds Tryd.pinned (.plain (OpenSpec.upto codeCopiesSpec)) codeCopiesUptoCard

/-- THE SECOND FORM's CARD OF 'swagelaw14.CodeParts'. -/
def codePartsUptoCard : Claim7 := { stood := { row := codePartsUptoRow, standIns := [], harness := (true, "5bce13f3a5a6d66ceb8c08c05fe420fbccbae6f76f5d594f383bc5536b764a27"), looks := false }, kinds := [], alts := [], laidByText := true, laidKinds := [.data, .data, .data], laidTests := true, laidLooks := .later }
def CodePartsUptoCardSaid : Prop := Claim7.holds Tryd.pinned (.plain (OpenSpec.upto codePartsSpec)) codePartsUptoCard

/-- THE SECOND FORM's CARD OF 'swagelaw14.CodeTells'. -/
def codeTellsUptoCard : Claim7 := { stood := { row := codeTellsUptoRow, standIns := [], harness := (true, "5bce13f3a5a6d66ceb8c08c05fe420fbccbae6f76f5d594f383bc5536b764a27"), looks := false }, kinds := [], alts := [], laidByText := true, laidKinds := [.data, .data, .data], laidTests := true, laidLooks := .later }
def CodeTellsUptoCardSaid : Prop := Claim7.holds Tryd.pinned (.plain (OpenSpec.upto codeTellsSpec)) codeTellsUptoCard

/-- THE SECOND FORM's CARD OF 'swagelaw14.CodeTexts'. -/
def codeTextsUptoCard : Claim7 := { stood := { row := codeTextsUptoRow, standIns := [], harness := (true, "5bce13f3a5a6d66ceb8c08c05fe420fbccbae6f76f5d594f383bc5536b764a27"), looks := false }, kinds := [], alts := [], laidByText := true, laidKinds := [.data, .data, .data], laidTests := true, laidLooks := .later }
def CodeTextsUptoCardSaid : Prop := Claim7.holds Tryd.pinned (.plain (OpenSpec.upto codeTextsSpec)) codeTextsUptoCard
end Rows
end Go.Proofs.YtoafojcfledkcaaDoor
