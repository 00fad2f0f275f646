/-
  DERIVED. GIVEN WITH THE SEED: THE CARDS: each row of YtgjbehfdjnekdaaGreatDoorRows.lean that lists a variable, with what it lists TIED to the program's text (the seventh form; the later family's looks); each row that meets fmt, with fmt's text TOLD by the authors' own Lean function (tested against real Go, not proved from fmt's source: count such statements apart). THE CARD IS WHAT COUNTS. Prove the row's statement (the work); the ties are given (YtgjbehfdjnekdaaGreatDoorTie.lean); close each card by the builder's one call (the guide's Derived/Test/ToyasCard.lean, 'card_holds'). Laid BY PROGRAM, IN A SANDBOX (cutbox-door.mjs). By AI agents, Wed Nov 11 2026. No macro, syntax, notation, axiom, sorry.
-/
import Derived.Test.YtgjbehfdjnekdaaGreatDoorRows
import GoSem.ClaimSeven
namespace Go.Proofs.YtgjbehfdjnekdaaGreatDoor
namespace Rows

/-- THE TIED CARD OF 'modcertlaw38.ExplainTexts'. -/
def explainTextsCard : Claim7 := { stood := { row := explainTextsRow, standIns := [], harness := (true, "e996109cf046950cb0186539b1b8d7f854ff5474b25701291f53cfc0ddeec800"), looks := true }, kinds := [], alts := [], laidByText := true, laidKinds := [.data, .data, .data, .data, .pinned], laidTests := true, laidLooks := .later }
def ExplainTextsCardSaid : Prop := Claim7.holds Tryz.pinned (.plain (OpenSpec.ofChange explainTextsSpec)) explainTextsCard

/-- THE TIED CARD OF 'modcertlaw38.ExplainTrims'. -/
def explainTrimsCard : Claim7 := { stood := { row := explainTrimsRow, standIns := [], harness := (true, "e996109cf046950cb0186539b1b8d7f854ff5474b25701291f53cfc0ddeec800"), looks := true }, kinds := [], alts := [], laidByText := true, laidKinds := [.data, .data, .data, .data, .pinned], laidTests := true, laidLooks := .later }
def ExplainTrimsCardSaid : Prop := Claim7.holds Tryz.pinned (.plain (OpenSpec.ofChange explainTrimsSpec)) explainTrimsCard

/-- THE TIED CARD OF 'modcertlaw38.ExplainLines'. -/
def explainLinesCard : Claim7 := { stood := { row := explainLinesRow, standIns := [], harness := (true, "e996109cf046950cb0186539b1b8d7f854ff5474b25701291f53cfc0ddeec800"), looks := true }, kinds := [], alts := [], laidByText := true, laidKinds := [.data, .data, .data, .data, .pinned], laidTests := true, laidLooks := .later }
def ExplainLinesCardSaid : Prop := Claim7.holds Tryz.pinned (.plain (OpenSpec.ofChange explainLinesSpec)) explainLinesCard

/-- THE TIED CARD OF 'modcertlaw38.ExplainKeeps'. -/
def explainKeepsCard : Claim7 := { stood := { row := explainKeepsRow, standIns := [], harness := (true, "e996109cf046950cb0186539b1b8d7f854ff5474b25701291f53cfc0ddeec800"), looks := true }, kinds := [], alts := [], laidByText := true, laidKinds := [.data, .data, .data, .data, .pinned], laidTests := true, laidLooks := .later }
def ExplainKeepsCardSaid : Prop := Claim7.holds Tryz.pinned (.plain (OpenSpec.ofChange explainKeepsSpec)) explainKeepsCard

/-- THE TIED CARD OF 'modcertlaw38.ExplainDistinct'. -/
def explainDistinctCard : Claim7 := { stood := { row := explainDistinctRow, standIns := [], harness := (true, "e996109cf046950cb0186539b1b8d7f854ff5474b25701291f53cfc0ddeec800"), looks := true }, kinds := [], alts := [], laidByText := true, laidKinds := [.data, .data, .data, .data, .pinned], laidTests := true, laidLooks := .later }
def ExplainDistinctCardSaid : Prop := Claim7.holds Tryz.pinned (.plain (OpenSpec.ofChange explainDistinctSpec)) explainDistinctCard

/-- THE TIED CARD OF 'modcertlaw38.ExplainAnswers'. -/
def explainAnswersCard : Claim7 := { stood := { row := explainAnswersRow, standIns := [], harness := (true, "e996109cf046950cb0186539b1b8d7f854ff5474b25701291f53cfc0ddeec800"), looks := true }, kinds := [], alts := [], laidByText := true, laidKinds := [.data, .data, .data, .data, .pinned], laidTests := true, laidLooks := .later }
def ExplainAnswersCardSaid : Prop := Claim7.holds Tryz.pinned (.plain (OpenSpec.ofChange explainAnswersSpec)) explainAnswersCard

/-- THE TIED CARD OF 'modcertlaw38.ExplainSteps'. -/
def explainStepsCard : Claim7 := { stood := { row := explainStepsRow, standIns := [], harness := (true, "e996109cf046950cb0186539b1b8d7f854ff5474b25701291f53cfc0ddeec800"), looks := true }, kinds := [], alts := [], laidByText := true, laidKinds := [.data, .data, .data, .data, .pinned], laidTests := true, laidLooks := .later }
def ExplainStepsCardSaid : Prop := Claim7.holds Tryz.pinned (.plain (OpenSpec.ofChange explainStepsSpec)) explainStepsCard

/-- THE TIED CARD OF 'modcertlaw38.ExplainNumbers'. -/
def explainNumbersCard : Claim7 := { stood := { row := explainNumbersRow, standIns := [], harness := (true, "e996109cf046950cb0186539b1b8d7f854ff5474b25701291f53cfc0ddeec800"), looks := true }, kinds := [], alts := [], laidByText := true, laidKinds := [.data, .data, .data, .data, .sentinel, .sentinel, .pinned], laidTests := true, laidLooks := .later }
def ExplainNumbersCardSaid : Prop := Claim7.holds Tryz.pinned (.plain (OpenSpec.ofChange explainNumbersSpec)) explainNumbersCard

/-- THE SECOND FORM's CARD OF 'modcertlaw38.ExplainTexts'. -/
def explainTextsUptoCard : Claim7 := { stood := { row := explainTextsUptoRow, standIns := [], harness := (true, "e996109cf046950cb0186539b1b8d7f854ff5474b25701291f53cfc0ddeec800"), looks := true }, kinds := [], alts := [], laidByText := true, laidKinds := [.data, .data, .data, .data, .pinned], laidTests := true, laidLooks := .later }
def ExplainTextsUptoCardSaid : Prop := Claim7.holds Tryz.pinned (.plain (OpenSpec.upto explainTextsSpec)) explainTextsUptoCard

/-- THE SECOND FORM's CARD OF 'modcertlaw38.ExplainTrims'. -/
def explainTrimsUptoCard : Claim7 := { stood := { row := explainTrimsUptoRow, standIns := [], harness := (true, "e996109cf046950cb0186539b1b8d7f854ff5474b25701291f53cfc0ddeec800"), looks := true }, kinds := [], alts := [], laidByText := true, laidKinds := [.data, .data, .data, .data, .pinned], laidTests := true, laidLooks := .later }
def ExplainTrimsUptoCardSaid : Prop := Claim7.holds Tryz.pinned (.plain (OpenSpec.upto explainTrimsSpec)) explainTrimsUptoCard

/-- THE SECOND FORM's CARD OF 'modcertlaw38.ExplainLines'. -/
def explainLinesUptoCard : Claim7 := { stood := { row := explainLinesUptoRow, standIns := [], harness := (true, "e996109cf046950cb0186539b1b8d7f854ff5474b25701291f53cfc0ddeec800"), looks := true }, kinds := [], alts := [], laidByText := true, laidKinds := [.data, .data, .data, .data, .pinned], laidTests := true, laidLooks := .later }
def ExplainLinesUptoCardSaid : Prop := Claim7.holds Tryz.pinned (.plain (OpenSpec.upto explainLinesSpec)) explainLinesUptoCard

/-- THE SECOND FORM's CARD OF 'modcertlaw38.ExplainKeeps'. -/
def explainKeepsUptoCard : Claim7 := { stood := { row := explainKeepsUptoRow, standIns := [], harness := (true, "e996109cf046950cb0186539b1b8d7f854ff5474b25701291f53cfc0ddeec800"), looks := true }, kinds := [], alts := [], laidByText := true, laidKinds := [.data, .data, .data, .data, .pinned], laidTests := true, laidLooks := .later }
def ExplainKeepsUptoCardSaid : Prop := Claim7.holds Tryz.pinned (.plain (OpenSpec.upto explainKeepsSpec)) explainKeepsUptoCard

/-- THE SECOND FORM's CARD OF 'modcertlaw38.ExplainDistinct'. -/
def explainDistinctUptoCard : Claim7 := { stood := { row := explainDistinctUptoRow, standIns := [], harness := (true, "e996109cf046950cb0186539b1b8d7f854ff5474b25701291f53cfc0ddeec800"), looks := true }, kinds := [], alts := [], laidByText := true, laidKinds := [.data, .data, .data, .data, .pinned], laidTests := true, laidLooks := .later }
def ExplainDistinctUptoCardSaid : Prop := Claim7.holds Tryz.pinned (.plain (OpenSpec.upto explainDistinctSpec)) explainDistinctUptoCard

/-- THE SECOND FORM's CARD OF 'modcertlaw38.ExplainAnswers'. -/
def explainAnswersUptoCard : Claim7 := { stood := { row := explainAnswersUptoRow, standIns := [], harness := (true, "e996109cf046950cb0186539b1b8d7f854ff5474b25701291f53cfc0ddeec800"), looks := true }, kinds := [], alts := [], laidByText := true, laidKinds := [.data, .data, .data, .data, .pinned], laidTests := true, laidLooks := .later }
def ExplainAnswersUptoCardSaid : Prop := Claim7.holds Tryz.pinned (.plain (OpenSpec.upto explainAnswersSpec)) explainAnswersUptoCard

/-- THE SECOND FORM's CARD OF 'modcertlaw38.ExplainSteps'. -/
def explainStepsUptoCard : Claim7 := { stood := { row := explainStepsUptoRow, standIns := [], harness := (true, "e996109cf046950cb0186539b1b8d7f854ff5474b25701291f53cfc0ddeec800"), looks := true }, kinds := [], alts := [], laidByText := true, laidKinds := [.data, .data, .data, .data, .pinned], laidTests := true, laidLooks := .later }
def ExplainStepsUptoCardSaid : Prop := Claim7.holds Tryz.pinned (.plain (OpenSpec.upto explainStepsSpec)) explainStepsUptoCard

/-- THE SECOND FORM's CARD OF 'modcertlaw38.ExplainNumbers'. -/
def explainNumbersUptoCard : Claim7 := { stood := { row := explainNumbersUptoRow, standIns := [], harness := (true, "e996109cf046950cb0186539b1b8d7f854ff5474b25701291f53cfc0ddeec800"), looks := true }, kinds := [], alts := [], laidByText := true, laidKinds := [.data, .data, .data, .data, .sentinel, .sentinel, .pinned], laidTests := true, laidLooks := .later }
def ExplainNumbersUptoCardSaid : Prop := Claim7.holds Tryz.pinned (.plain (OpenSpec.upto explainNumbersSpec)) explainNumbersUptoCard
end Rows
end Go.Proofs.YtgjbehfdjnekdaaGreatDoor
