/-
  DERIVED. GIVEN WITH THE SEED: THE CARDS: each row of YtejifalflkbekaaGreatDoorRows.lean that lists a variable, with what it lists TIED to the program's text (the seventh form; the later family's looks); each row that meets fmt, with fmt's text TOLD by the authors' own Lean function (tested against real Go, not proved from fmt's source: count such statements apart). THE CARD IS WHAT COUNTS. Prove the row's statement (the work); the ties are given (YtejifalflkbekaaGreatDoorTie.lean); close each card by the builder's one call (the guide's Derived/Test/ToyasCard.lean, 'card_holds'). Laid BY PROGRAM, IN A SANDBOX (cutbox-door.mjs). By AI agents, Wed Nov 11 2026. No macro, syntax, notation, axiom, sorry.
-/
import Derived.Test.YtejifalflkbekaaGreatDoorRows
import GoSem.ClaimSeven
namespace Go.Proofs.YtejifalflkbekaaGreatDoor
namespace Rows

/-- THE TIED CARD OF 'secateurlaw18.DualNeeds'. -/
def dualNeedsCard : Claim7 := { stood := { row := dualNeedsRow, standIns := [], harness := (true, "2a6d778f94bba67ea87c0313f3dfe4e31771e06a934049c3ed76e3484f69b8b3"), looks := false }, kinds := [], alts := [], laidByText := true, laidKinds := [.data], laidTests := true, laidLooks := .later }
def DualNeedsCardSaid : Prop := Claim7.holds Tryz.pinned (.plain (OpenSpec.ofChange dualNeedsSpec)) dualNeedsCard

/-- THE SECOND FORM's CARD OF 'secateurlaw18.DualNeeds'. -/
def dualNeedsUptoCard : Claim7 := { stood := { row := dualNeedsUptoRow, standIns := [], harness := (true, "2a6d778f94bba67ea87c0313f3dfe4e31771e06a934049c3ed76e3484f69b8b3"), looks := false }, kinds := [], alts := [], laidByText := true, laidKinds := [.data], laidTests := true, laidLooks := .later }
def DualNeedsUptoCardSaid : Prop := Claim7.holds Tryz.pinned (.plain (OpenSpec.upto dualNeedsSpec)) dualNeedsUptoCard
end Rows
end Go.Proofs.YtejifalflkbekaaGreatDoor
