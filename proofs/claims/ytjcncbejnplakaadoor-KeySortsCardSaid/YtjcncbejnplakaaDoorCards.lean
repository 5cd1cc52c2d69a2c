/-
  DERIVED. GIVEN WITH THE SEED: THE CARDS: each row of YtjcncbejnplakaaDoorRows.lean that lists a variable, with what it lists TIED to the program's text (the seventh form; the later family's looks); each row that meets fmt, with fmt's text TOLD by the authors' own Lean function (tested against real Go, not proved from fmt's source: count such statements apart). THE CARD IS WHAT COUNTS. Prove the row's statement (the work); the ties are given (YtjcncbejnplakaaDoorTie.lean); close each card by the builder's one call (the guide's Derived/Test/ToyasCard.lean, 'card_holds'). Laid BY PROGRAM, IN A SANDBOX (cutbox-door.mjs). By AI agents, Wed Nov 11 2026. No macro, syntax, notation, axiom, sorry.
-/
import Derived.Test.YtjcncbejnplakaaDoorRows
import GoSem.ClaimSeven
namespace Go.Proofs.YtjcncbejnplakaaDoor
namespace Rows

/-- THE TIED CARD OF 'secateurlaw04.KeyOrders'. -/
def keyOrdersCard : Claim7 := { stood := { row := keyOrdersRow, standIns := [], harness := (true, "8d2449f12b2f779bb2ff15576f20d267a23f17f0c0d941401bb496ace23e0c44"), looks := false }, kinds := [], alts := [], laidByText := true, laidKinds := [.data, .data, .data], laidTests := true, laidLooks := .later }
def KeyOrdersCardSaid : Prop := Claim7.holds Tryd.pinned (.plain (OpenSpec.ofChange keyOrdersSpec)) keyOrdersCard

/-- THE TIED CARD OF 'secateurlaw04.KeyChain'. -/
def keyChainCard : Claim7 := { stood := { row := keyChainRow, standIns := [], harness := (true, "8d2449f12b2f779bb2ff15576f20d267a23f17f0c0d941401bb496ace23e0c44"), looks := false }, kinds := [], alts := [], laidByText := true, laidKinds := [.data, .data, .data], laidTests := true, laidLooks := .later }
def KeyChainCardSaid : Prop := Claim7.holds Tryd.pinned (.plain (OpenSpec.ofChange keyChainSpec)) keyChainCard

/-- THE TIED CARD OF 'secateurlaw04.KeySorts'. -/
def keySortsCard : Claim7 := { stood := { row := keySortsRow, standIns := [], harness := (true, "8d2449f12b2f779bb2ff15576f20d267a23f17f0c0d941401bb496ace23e0c44"), looks := false }, kinds := [], alts := [], laidByText := true, laidKinds := [.data, .data, .data], laidTests := true, laidLooks := .later }
def KeySortsCardSaid : Prop := Claim7.holds Tryd.pinned (.plain (OpenSpec.ofChange keySortsSpec)) keySortsCard

/-- THE SECOND FORM's CARD OF 'secateurlaw04.KeyOrders'. -/
def keyOrdersUptoCard : Claim7 := { stood := { row := keyOrdersUptoRow, standIns := [], harness := (true, "8d2449f12b2f779bb2ff15576f20d267a23f17f0c0d941401bb496ace23e0c44"), looks := false }, kinds := [], alts := [], laidByText := true, laidKinds := [.data, .data, .data], laidTests := true, laidLooks := .later }
def KeyOrdersUptoCardSaid : Prop := Claim7.holds Tryd.pinned (.plain (OpenSpec.upto keyOrdersSpec)) keyOrdersUptoCard

/-- THE SECOND FORM's CARD OF 'secateurlaw04.KeyChain'. -/
def keyChainUptoCard : Claim7 := { stood := { row := keyChainUptoRow, standIns := [], harness := (true, "8d2449f12b2f779bb2ff15576f20d267a23f17f0c0d941401bb496ace23e0c44"), looks := false }, kinds := [], alts := [], laidByText := true, laidKinds := [.data, .data, .data], laidTests := true, laidLooks := .later }
def KeyChainUptoCardSaid : Prop := Claim7.holds Tryd.pinned (.plain (OpenSpec.upto keyChainSpec)) keyChainUptoCard

/-- THE SECOND FORM's CARD OF 'secateurlaw04.KeySorts'. -/
def keySortsUptoCard : Claim7 := { stood := { row := keySortsUptoRow, standIns := [], harness := (true, "8d2449f12b2f779bb2ff15576f20d267a23f17f0c0d941401bb496ace23e0c44"), looks := false }, kinds := [], alts := [], laidByText := true, laidKinds := [.data, .data, .data], laidTests := true, laidLooks := .later }
def KeySortsUptoCardSaid : Prop := Claim7.holds Tryd.pinned (.plain (OpenSpec.upto keySortsSpec)) keySortsUptoCard
end Rows
end Go.Proofs.YtjcncbejnplakaaDoor
