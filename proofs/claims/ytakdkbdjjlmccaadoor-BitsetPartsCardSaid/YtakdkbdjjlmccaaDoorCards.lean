/-
  DERIVED. GIVEN WITH THE SEED: THE CARDS: each row of YtakdkbdjjlmccaaDoorRows.lean that lists a variable, with what it lists TIED to the program's text (the seventh form; the later family's looks); each row that meets fmt, with fmt's text TOLD by the authors' own Lean function (tested against real Go, not proved from fmt's source: count such statements apart). THE CARD IS WHAT COUNTS. Prove the row's statement (the work); the ties are given (YtakdkbdjjlmccaaDoorTie.lean); close each card by the builder's one call (the guide's Derived/Test/ToyasCard.lean, 'card_holds'). Laid BY PROGRAM, IN A SANDBOX (cutbox-door.mjs). By AI agents, Wed Nov 11 2026. No macro, syntax, notation, axiom, sorry.
-/
import Derived.Test.YtakdkbdjjlmccaaDoorRows
import GoSem.ClaimSeven
namespace Go.Proofs.YtakdkbdjjlmccaaDoor
namespace Rows

/-- THE TIED CARD OF 'secateurlaw03.BitsetMakes'. -/
def bitsetMakesCard : Claim7 := { stood := { row := bitsetMakesRow, standIns := [], harness := (true, "7ad23ca9c378701d238b82e46906f622eb7dbd5c5c303420fb1ef408c99b7af0"), looks := false }, kinds := [], alts := [], laidByText := true, laidKinds := [.data], laidTests := true, laidLooks := .later }
def BitsetMakesCardSaid : Prop := Claim7.holds Tryd.pinned (.plain (OpenSpec.ofChange bitsetMakesSpec)) bitsetMakesCard

/-- THE TIED CARD OF 'secateurlaw03.BitsetHolds'. -/
def bitsetHoldsCard : Claim7 := { stood := { row := bitsetHoldsRow, standIns := [], harness := (true, "7ad23ca9c378701d238b82e46906f622eb7dbd5c5c303420fb1ef408c99b7af0"), looks := false }, kinds := [], alts := [], laidByText := true, laidKinds := [.data], laidTests := true, laidLooks := .later }
def BitsetHoldsCardSaid : Prop := Claim7.holds Tryd.pinned (.plain (OpenSpec.ofChange bitsetHoldsSpec)) bitsetHoldsCard

/-- THE TIED CARD OF 'secateurlaw03.BitsetParts'. -/
def bitsetPartsCard : Claim7 := { stood := { row := bitsetPartsRow, standIns := [], harness := (true, "7ad23ca9c378701d238b82e46906f622eb7dbd5c5c303420fb1ef408c99b7af0"), looks := false }, kinds := [], alts := [], laidByText := true, laidKinds := [.data], laidTests := true, laidLooks := .later }
def BitsetPartsCardSaid : Prop := Claim7.holds Tryd.pinned (.plain (OpenSpec.ofChange bitsetPartsSpec)) bitsetPartsCard

/-- THE TIED CARD OF 'secateurlaw03.BitsetJoins'. -/
def bitsetJoinsCard : Claim7 := { stood := { row := bitsetJoinsRow, standIns := [], harness := (true, "7ad23ca9c378701d238b82e46906f622eb7dbd5c5c303420fb1ef408c99b7af0"), looks := false }, kinds := [], alts := [], laidByText := true, laidKinds := [.data], laidTests := true, laidLooks := .later }
def BitsetJoinsCardSaid : Prop := Claim7.holds Tryd.pinned (.plain (OpenSpec.ofChange bitsetJoinsSpec)) bitsetJoinsCard

/-- THE TIED CARD OF 'secateurlaw03.BitsetOrders'. -/
def bitsetOrdersCard : Claim7 := { stood := { row := bitsetOrdersRow, standIns := [], harness := (true, "7ad23ca9c378701d238b82e46906f622eb7dbd5c5c303420fb1ef408c99b7af0"), looks := false }, kinds := [], alts := [], laidByText := true, laidKinds := [.data], laidTests := true, laidLooks := .later }
def BitsetOrdersCardSaid : Prop := Claim7.holds Tryd.pinned (.plain (OpenSpec.ofChange bitsetOrdersSpec)) bitsetOrdersCard

/-- THE SECOND FORM's CARD OF 'secateurlaw03.BitsetMakes'. -/
def bitsetMakesUptoCard : Claim7 := { stood := { row := bitsetMakesUptoRow, standIns := [], harness := (true, "7ad23ca9c378701d238b82e46906f622eb7dbd5c5c303420fb1ef408c99b7af0"), looks := false }, kinds := [], alts := [], laidByText := true, laidKinds := [.data], laidTests := true, laidLooks := .later }
def BitsetMakesUptoCardSaid : Prop := Claim7.holds Tryd.pinned (.plain (OpenSpec.upto bitsetMakesSpec)) bitsetMakesUptoCard

/-- THE SECOND FORM's CARD OF 'secateurlaw03.BitsetHolds'. -/
def bitsetHoldsUptoCard : Claim7 := { stood := { row := bitsetHoldsUptoRow, standIns := [], harness := (true, "7ad23ca9c378701d238b82e46906f622eb7dbd5c5c303420fb1ef408c99b7af0"), looks := false }, kinds := [], alts := [], laidByText := true, laidKinds := [.data], laidTests := true, laidLooks := .later }
def BitsetHoldsUptoCardSaid : Prop := Claim7.holds Tryd.pinned (.plain (OpenSpec.upto bitsetHoldsSpec)) bitsetHoldsUptoCard

/-- THE SECOND FORM's CARD OF 'secateurlaw03.BitsetParts'. -/
def bitsetPartsUptoCard : Claim7 := { stood := { row := bitsetPartsUptoRow, standIns := [], harness := (true, "7ad23ca9c378701d238b82e46906f622eb7dbd5c5c303420fb1ef408c99b7af0"), looks := false }, kinds := [], alts := [], laidByText := true, laidKinds := [.data], laidTests := true, laidLooks := .later }
def BitsetPartsUptoCardSaid : Prop := Claim7.holds Tryd.pinned (.plain (OpenSpec.upto bitsetPartsSpec)) bitsetPartsUptoCard

/-- THE SECOND FORM's CARD OF 'secateurlaw03.BitsetJoins'. -/
def bitsetJoinsUptoCard : Claim7 := { stood := { row := bitsetJoinsUptoRow, standIns := [], harness := (true, "7ad23ca9c378701d238b82e46906f622eb7dbd5c5c303420fb1ef408c99b7af0"), looks := false }, kinds := [], alts := [], laidByText := true, laidKinds := [.data], laidTests := true, laidLooks := .later }
def BitsetJoinsUptoCardSaid : Prop := Claim7.holds Tryd.pinned (.plain (OpenSpec.upto bitsetJoinsSpec)) bitsetJoinsUptoCard

/-- THE SECOND FORM's CARD OF 'secateurlaw03.BitsetOrders'. -/
def bitsetOrdersUptoCard : Claim7 := { stood := { row := bitsetOrdersUptoRow, standIns := [], harness := (true, "7ad23ca9c378701d238b82e46906f622eb7dbd5c5c303420fb1ef408c99b7af0"), looks := false }, kinds := [], alts := [], laidByText := true, laidKinds := [.data], laidTests := true, laidLooks := .later }
def BitsetOrdersUptoCardSaid : Prop := Claim7.holds Tryd.pinned (.plain (OpenSpec.upto bitsetOrdersSpec)) bitsetOrdersUptoCard
end Rows
end Go.Proofs.YtakdkbdjjlmccaaDoor
