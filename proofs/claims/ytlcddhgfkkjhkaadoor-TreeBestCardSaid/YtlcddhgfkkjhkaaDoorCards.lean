/-
  DERIVED. GIVEN WITH THE SEED: THE CARDS: each row of YtlcddhgfkkjhkaaDoorRows.lean that lists a variable, with what it lists TIED to the program's text (the seventh form; the later family's looks); each row that meets fmt, with fmt's text TOLD by the authors' own Lean function (tested against real Go, not proved from fmt's source: count such statements apart). THE CARD IS WHAT COUNTS. Prove the row's statement (the work); the ties are given (YtlcddhgfkkjhkaaDoorTie.lean); close each card by the builder's one call (the guide's Derived/Test/ToyasCard.lean, 'card_holds'). Laid BY PROGRAM, IN A SANDBOX (cutbox-door.mjs). By AI agents, Wed Nov 11 2026. No macro, syntax, notation, axiom, sorry.
-/
import Derived.Test.YtlcddhgfkkjhkaaDoorRows
import GoSem.ClaimSeven
namespace Go.Proofs.YtlcddhgfkkjhkaaDoor
namespace Rows

/-- THE TIED CARD OF 'secateurlaw14.StateSteps'. -/
def stateStepsCard : Claim7 := { stood := { row := stateStepsRow, standIns := [], harness := (true, "f3664d5998197e692913f3ec2986b940b3ce844bdc8fa992f21272628b489ee5"), looks := false }, kinds := [], alts := [], laidByText := true, laidKinds := [.data], laidTests := true, laidLooks := .later }
def StateStepsCardSaid : Prop := Claim7.holds Tryd.pinned (.plain (OpenSpec.ofChange stateStepsSpec)) stateStepsCard

/-- THE TIED CARD OF 'secateurlaw14.StateReplays'. -/
def stateReplaysCard : Claim7 := { stood := { row := stateReplaysRow, standIns := [], harness := (true, "f3664d5998197e692913f3ec2986b940b3ce844bdc8fa992f21272628b489ee5"), looks := false }, kinds := [], alts := [], laidByText := true, laidKinds := [.data], laidTests := true, laidLooks := .later }
def StateReplaysCardSaid : Prop := Claim7.holds Tryd.pinned (.plain (OpenSpec.ofChange stateReplaysSpec)) stateReplaysCard

/-- THE TIED CARD OF 'secateurlaw15.TreeSizes'. -/
def treeSizesCard : Claim7 := { stood := { row := treeSizesRow, standIns := [], harness := (true, "f3664d5998197e692913f3ec2986b940b3ce844bdc8fa992f21272628b489ee5"), looks := false }, kinds := [], alts := [], laidByText := true, laidKinds := [.data], laidTests := true, laidLooks := .later }
def TreeSizesCardSaid : Prop := Claim7.holds Tryd.pinned (.plain (OpenSpec.ofChange treeSizesSpec)) treeSizesCard

/-- THE TIED CARD OF 'secateurlaw14.StateAnswers'. -/
def stateAnswersCard : Claim7 := { stood := { row := stateAnswersRow, standIns := [], harness := (true, "f3664d5998197e692913f3ec2986b940b3ce844bdc8fa992f21272628b489ee5"), looks := false }, kinds := [], alts := [], laidByText := true, laidKinds := [.data], laidTests := true, laidLooks := .later }
def StateAnswersCardSaid : Prop := Claim7.holds Tryd.pinned (.plain (OpenSpec.ofChange stateAnswersSpec)) stateAnswersCard

/-- THE TIED CARD OF 'secateurlaw15.TreeLevels'. -/
def treeLevelsCard : Claim7 := { stood := { row := treeLevelsRow, standIns := [], harness := (true, "f3664d5998197e692913f3ec2986b940b3ce844bdc8fa992f21272628b489ee5"), looks := false }, kinds := [], alts := [], laidByText := true, laidKinds := [.data], laidTests := true, laidLooks := .later }
def TreeLevelsCardSaid : Prop := Claim7.holds Tryd.pinned (.plain (OpenSpec.ofChange treeLevelsSpec)) treeLevelsCard

/-- THE TIED CARD OF 'secateurlaw15.TreeBest'. -/
def treeBestCard : Claim7 := { stood := { row := treeBestRow, standIns := [], harness := (true, "f3664d5998197e692913f3ec2986b940b3ce844bdc8fa992f21272628b489ee5"), looks := false }, kinds := [], alts := [], laidByText := true, laidKinds := [.data], laidTests := true, laidLooks := .later }
def TreeBestCardSaid : Prop := Claim7.holds Tryd.pinned (.plain (OpenSpec.ofChange treeBestSpec)) treeBestCard

/-- THE SECOND FORM's CARD OF 'secateurlaw14.StateSteps'. -/
def stateStepsUptoCard : Claim7 := { stood := { row := stateStepsUptoRow, standIns := [], harness := (true, "f3664d5998197e692913f3ec2986b940b3ce844bdc8fa992f21272628b489ee5"), looks := false }, kinds := [], alts := [], laidByText := true, laidKinds := [.data], laidTests := true, laidLooks := .later }
def StateStepsUptoCardSaid : Prop := Claim7.holds Tryd.pinned (.plain (OpenSpec.upto stateStepsSpec)) stateStepsUptoCard

/-- THE SECOND FORM's CARD OF 'secateurlaw14.StateReplays'. -/
def stateReplaysUptoCard : Claim7 := { stood := { row := stateReplaysUptoRow, standIns := [], harness := (true, "f3664d5998197e692913f3ec2986b940b3ce844bdc8fa992f21272628b489ee5"), looks := false }, kinds := [], alts := [], laidByText := true, laidKinds := [.data], laidTests := true, laidLooks := .later }
def StateReplaysUptoCardSaid : Prop := Claim7.holds Tryd.pinned (.plain (OpenSpec.upto stateReplaysSpec)) stateReplaysUptoCard

/-- THE SECOND FORM's CARD OF 'secateurlaw15.TreeSizes'. -/
def treeSizesUptoCard : Claim7 := { stood := { row := treeSizesUptoRow, standIns := [], harness := (true, "f3664d5998197e692913f3ec2986b940b3ce844bdc8fa992f21272628b489ee5"), looks := false }, kinds := [], alts := [], laidByText := true, laidKinds := [.data], laidTests := true, laidLooks := .later }
def TreeSizesUptoCardSaid : Prop := Claim7.holds Tryd.pinned (.plain (OpenSpec.upto treeSizesSpec)) treeSizesUptoCard

/-- THE SECOND FORM's CARD OF 'secateurlaw14.StateAnswers'. -/
def stateAnswersUptoCard : Claim7 := { stood := { row := stateAnswersUptoRow, standIns := [], harness := (true, "f3664d5998197e692913f3ec2986b940b3ce844bdc8fa992f21272628b489ee5"), looks := false }, kinds := [], alts := [], laidByText := true, laidKinds := [.data], laidTests := true, laidLooks := .later }
def StateAnswersUptoCardSaid : Prop := Claim7.holds Tryd.pinned (.plain (OpenSpec.upto stateAnswersSpec)) stateAnswersUptoCard

/-- THE SECOND FORM's CARD OF 'secateurlaw15.TreeLevels'. -/
def treeLevelsUptoCard : Claim7 := { stood := { row := treeLevelsUptoRow, standIns := [], harness := (true, "f3664d5998197e692913f3ec2986b940b3ce844bdc8fa992f21272628b489ee5"), looks := false }, kinds := [], alts := [], laidByText := true, laidKinds := [.data], laidTests := true, laidLooks := .later }
def TreeLevelsUptoCardSaid : Prop := Claim7.holds Tryd.pinned (.plain (OpenSpec.upto treeLevelsSpec)) treeLevelsUptoCard

/-- THE SECOND FORM's CARD OF 'secateurlaw15.TreeBest'. -/
def treeBestUptoCard : Claim7 := { stood := { row := treeBestUptoRow, standIns := [], harness := (true, "f3664d5998197e692913f3ec2986b940b3ce844bdc8fa992f21272628b489ee5"), looks := false }, kinds := [], alts := [], laidByText := true, laidKinds := [.data], laidTests := true, laidLooks := .later }
def TreeBestUptoCardSaid : Prop := Claim7.holds Tryd.pinned (.plain (OpenSpec.upto treeBestSpec)) treeBestUptoCard
end Rows
end Go.Proofs.YtlcddhgfkkjhkaaDoor
