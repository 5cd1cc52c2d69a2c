/-
  DERIVED. GIVEN WITH THE SEED: THE CARDS: each row of YtejifalflkbekaaDoorRows.lean that lists a variable, with what it lists TIED to the program's text (the seventh form; the later family's looks); each row that meets fmt, with fmt's text TOLD by the authors' own Lean function (tested against real Go, not proved from fmt's source: count such statements apart). THE CARD IS WHAT COUNTS. Prove the row's statement (the work); the ties are given (YtejifalflkbekaaDoorTie.lean); close each card by the builder's one call (the guide's Derived/Test/ToyasCard.lean, 'card_holds'). Laid BY PROGRAM, IN A SANDBOX (cutbox-door.mjs). By AI agents, Wed Nov 11 2026. No macro, syntax, notation, axiom, sorry.
-/
import Derived.Test.YtejifalflkbekaaDoorRows
import GoSem.ClaimSeven
namespace Go.Proofs.YtejifalflkbekaaDoor
namespace Rows

/-- THE TIED CARD OF 'secateurlaw18.DualPrices'. -/
def dualPricesCard : Claim7 := { stood := { row := dualPricesRow, standIns := [], harness := (true, "db3005a52d0a8e8ca1fb39d0094cb3f6467636a9e69ec929a8c919469b1ceddc"), looks := false }, kinds := [], alts := [], laidByText := true, laidKinds := [.data], laidTests := true, laidLooks := .later }
def DualPricesCardSaid : Prop := Claim7.holds Tryd.pinned (.plain (OpenSpec.ofChange dualPricesSpec)) dualPricesCard

/-- THE TIED CARD OF 'secateurlaw18.DualBounds'. -/
def dualBoundsCard : Claim7 := { stood := { row := dualBoundsRow, standIns := [], harness := (true, "db3005a52d0a8e8ca1fb39d0094cb3f6467636a9e69ec929a8c919469b1ceddc"), looks := false }, kinds := [], alts := [], laidByText := true, laidKinds := [.data], laidTests := true, laidLooks := .later }
def DualBoundsCardSaid : Prop := Claim7.holds Tryd.pinned (.plain (OpenSpec.ofChange dualBoundsSpec)) dualBoundsCard

/-- THE TIED CARD OF 'secateurlaw18.DualGreedy'. -/
def dualGreedyCard : Claim7 := { stood := { row := dualGreedyRow, standIns := [], harness := (true, "db3005a52d0a8e8ca1fb39d0094cb3f6467636a9e69ec929a8c919469b1ceddc"), looks := false }, kinds := [], alts := [], laidByText := true, laidKinds := [.data], laidTests := true, laidLooks := .later }
def DualGreedyCardSaid : Prop := Claim7.holds Tryd.pinned (.plain (OpenSpec.ofChange dualGreedySpec)) dualGreedyCard

/-- THE TIED CARD OF 'secateurlaw18.DualLeast'. -/
def dualLeastCard : Claim7 := { stood := { row := dualLeastRow, standIns := [], harness := (true, "db3005a52d0a8e8ca1fb39d0094cb3f6467636a9e69ec929a8c919469b1ceddc"), looks := false }, kinds := [], alts := [], laidByText := true, laidKinds := [.data], laidTests := true, laidLooks := .later }
def DualLeastCardSaid : Prop := Claim7.holds Tryd.pinned (.plain (OpenSpec.ofChange dualLeastSpec)) dualLeastCard

/-- THE TIED CARD OF 'secateurlaw18.DualLess'. -/
def dualLessCard : Claim7 := { stood := { row := dualLessRow, standIns := [], harness := (true, "db3005a52d0a8e8ca1fb39d0094cb3f6467636a9e69ec929a8c919469b1ceddc"), looks := false }, kinds := [], alts := [], laidByText := true, laidKinds := [.data], laidTests := true, laidLooks := .later }
def DualLessCardSaid : Prop := Claim7.holds Tryd.pinned (.plain (OpenSpec.ofChange dualLessSpec)) dualLessCard

/-- THE SECOND FORM's CARD OF 'secateurlaw18.DualPrices'. -/
def dualPricesUptoCard : Claim7 := { stood := { row := dualPricesUptoRow, standIns := [], harness := (true, "db3005a52d0a8e8ca1fb39d0094cb3f6467636a9e69ec929a8c919469b1ceddc"), looks := false }, kinds := [], alts := [], laidByText := true, laidKinds := [.data], laidTests := true, laidLooks := .later }
def DualPricesUptoCardSaid : Prop := Claim7.holds Tryd.pinned (.plain (OpenSpec.upto dualPricesSpec)) dualPricesUptoCard

/-- THE SECOND FORM's CARD OF 'secateurlaw18.DualBounds'. -/
def dualBoundsUptoCard : Claim7 := { stood := { row := dualBoundsUptoRow, standIns := [], harness := (true, "db3005a52d0a8e8ca1fb39d0094cb3f6467636a9e69ec929a8c919469b1ceddc"), looks := false }, kinds := [], alts := [], laidByText := true, laidKinds := [.data], laidTests := true, laidLooks := .later }
def DualBoundsUptoCardSaid : Prop := Claim7.holds Tryd.pinned (.plain (OpenSpec.upto dualBoundsSpec)) dualBoundsUptoCard

/-- THE SECOND FORM's CARD OF 'secateurlaw18.DualGreedy'. -/
def dualGreedyUptoCard : Claim7 := { stood := { row := dualGreedyUptoRow, standIns := [], harness := (true, "db3005a52d0a8e8ca1fb39d0094cb3f6467636a9e69ec929a8c919469b1ceddc"), looks := false }, kinds := [], alts := [], laidByText := true, laidKinds := [.data], laidTests := true, laidLooks := .later }
def DualGreedyUptoCardSaid : Prop := Claim7.holds Tryd.pinned (.plain (OpenSpec.upto dualGreedySpec)) dualGreedyUptoCard

/-- THE SECOND FORM's CARD OF 'secateurlaw18.DualLeast'. -/
def dualLeastUptoCard : Claim7 := { stood := { row := dualLeastUptoRow, standIns := [], harness := (true, "db3005a52d0a8e8ca1fb39d0094cb3f6467636a9e69ec929a8c919469b1ceddc"), looks := false }, kinds := [], alts := [], laidByText := true, laidKinds := [.data], laidTests := true, laidLooks := .later }
def DualLeastUptoCardSaid : Prop := Claim7.holds Tryd.pinned (.plain (OpenSpec.upto dualLeastSpec)) dualLeastUptoCard

/-- THE SECOND FORM's CARD OF 'secateurlaw18.DualLess'. -/
def dualLessUptoCard : Claim7 := { stood := { row := dualLessUptoRow, standIns := [], harness := (true, "db3005a52d0a8e8ca1fb39d0094cb3f6467636a9e69ec929a8c919469b1ceddc"), looks := false }, kinds := [], alts := [], laidByText := true, laidKinds := [.data], laidTests := true, laidLooks := .later }
def DualLessUptoCardSaid : Prop := Claim7.holds Tryd.pinned (.plain (OpenSpec.upto dualLessSpec)) dualLessUptoCard
end Rows
end Go.Proofs.YtejifalflkbekaaDoor
