/-
  NARROWER THAN 'FOR EVERY INPUT', by the rows' own cells (each row's printed sentence says how): DualPrices: laid · DualBounds: laid · DualGreedy: laid · DualLeast: laid · DualLess: laid.
  DERIVED. THE GIVEN ROWS OF THIS SEAT. 5 by the template 'for every input the law returns true; each argument reads behind the call as it read before'; 0 by the template 'total and deterministic' (their statements: YtejifalflkbekaaDoorTotals.lean).
  GIVEN WITH THE SEED: the statements are not yours to turn. If you find one false, say at which input.
  Laid BY PROGRAM, IN A SANDBOX (cutbox-rows.mjs): the forced cells as the released guide's own fill.sh prints them over the translation 16f4aa54e4fde6e8… (all of the seat's roots in one cut). By AI agents, Wed Nov 11 2026. No macro, syntax, notation, axiom, sorry.
-/
import Derived.Test.YtejifalflkbekaaDoorChecked
import GoSem.Claim
import GoSem.ClaimJoined
import GoSem.ClaimMapViews
import Derived.JoinedTies
import Derived.KernelRfl
namespace Go.Proofs.YtejifalflkbekaaDoor
/- THE CELL 'sum', in the pinned program and in every row, IS THE sha256 OF THE DUMP (.gsa) THAT YtejifalflkbekaaDoorProg.lean LOADS. Nothing in Lean hashes anything: it is a label: what it is worth is what the hold of that sum in a sandbox is worth. -/
noncomputable def Tryd.pinned : Pinned := { name := "ytejifalflkbekaadoor", sum := "16f4aa54e4fde6e8a645b7b1a624cb69345e4a6354c6cd8954ab855b55da39cf", checked := Tryd.checked }
namespace Rows
def none {H : Type} : Left H := { results := [], args := [] }

/- WHAT THE LISTED PACKAGE-LEVEL VARIABLES READ AS WHEN THE CALL BEGINS. Each datum BY PROGRAM (the guide's laid-datum.mjs) off the statement by which the dump's own 'gosem.cut.vars' lays the variable. In a bare row this is a premise. The card (YtejifalflkbekaaDoorCards.lean) ties it to the program's text. -/
def laid_math_bits_deBruijn64tab {H : Type} : DataW H := .agg [.lit (.int .u8 0), .lit (.int .u8 1), .lit (.int .u8 56), .lit (.int .u8 2), .lit (.int .u8 57), .lit (.int .u8 49), .lit (.int .u8 28), .lit (.int .u8 3), .lit (.int .u8 61), .lit (.int .u8 58), .lit (.int .u8 42), .lit (.int .u8 50), .lit (.int .u8 38), .lit (.int .u8 29), .lit (.int .u8 17), .lit (.int .u8 4), .lit (.int .u8 62), .lit (.int .u8 47), .lit (.int .u8 59), .lit (.int .u8 36), .lit (.int .u8 45), .lit (.int .u8 43), .lit (.int .u8 51), .lit (.int .u8 22), .lit (.int .u8 53), .lit (.int .u8 39), .lit (.int .u8 33), .lit (.int .u8 30), .lit (.int .u8 24), .lit (.int .u8 18), .lit (.int .u8 12), .lit (.int .u8 5), .lit (.int .u8 63), .lit (.int .u8 55), .lit (.int .u8 48), .lit (.int .u8 27), .lit (.int .u8 60), .lit (.int .u8 41), .lit (.int .u8 37), .lit (.int .u8 16), .lit (.int .u8 46), .lit (.int .u8 35), .lit (.int .u8 44), .lit (.int .u8 21), .lit (.int .u8 52), .lit (.int .u8 32), .lit (.int .u8 23), .lit (.int .u8 11), .lit (.int .u8 54), .lit (.int .u8 26), .lit (.int .u8 40), .lit (.int .u8 15), .lit (.int .u8 34), .lit (.int .u8 20), .lit (.int .u8 31), .lit (.int .u8 10), .lit (.int .u8 25), .lit (.int .u8 14), .lit (.int .u8 19), .lit (.int .u8 9), .lit (.int .u8 13), .lit (.int .u8 8), .lit (.int .u8 7), .lit (.int .u8 6)]

/-- 'secateurlaw18.DualPrices': WHATEVER THE INPUT: true; the input reads as it did. -/
def dualPricesSpec : ChangeSpec := { name := "dualPrices", fn := fun _ => fun
  | [d1, d2] => { results := [.lit (.bool true)], args := [d1, d2] }
  | _ => none }
def dualPricesRow : OpenClaim := { program := "ytejifalflkbekaadoor", sum := "16f4aa54e4fde6e8a645b7b1a624cb69345e4a6354c6cd8954ab855b55da39cf", func := "secateur/secateurlaw18.DualPrices", spec := "dualPrices", inPlace := ["math/bits.Add64", "math/bits.Sub64"], unfollowed := true, recurses := true, named := ["math/bits.deBruijn64tab"], apart := false, laid := [("math/bits.deBruijn64tab", laid_math_bits_deBruijn64tab)] }
def DualPricesSaid : Prop := dualPricesRow.holds Tryd.pinned (OpenSpec.ofChange dualPricesSpec)

/-- ITS FALSE NEIGHBOUR: 'it returns false'. Refute it at one input. -/
def dualPricesWrong : ChangeSpec := { name := "dualPrices", fn := fun _ => fun
  | [d1, d2] => { results := [.lit (.bool false)], args := [d1, d2] }
  | _ => none }
def DualPricesWrongFalsely : Prop := dualPricesRow.holds Tryd.pinned (OpenSpec.ofChange dualPricesWrong)

/-- 'secateurlaw18.DualBounds': WHATEVER THE INPUT: true; the input reads as it did. -/
def dualBoundsSpec : ChangeSpec := { name := "dualBounds", fn := fun _ => fun
  | [d1, d2, d3] => { results := [.lit (.bool true)], args := [d1, d2, d3] }
  | _ => none }
def dualBoundsRow : OpenClaim := { program := "ytejifalflkbekaadoor", sum := "16f4aa54e4fde6e8a645b7b1a624cb69345e4a6354c6cd8954ab855b55da39cf", func := "secateur/secateurlaw18.DualBounds", spec := "dualBounds", inPlace := ["math/bits.Add64", "math/bits.Sub64"], unfollowed := true, recurses := true, named := ["math/bits.deBruijn64tab"], apart := false, laid := [("math/bits.deBruijn64tab", laid_math_bits_deBruijn64tab)] }
def DualBoundsSaid : Prop := dualBoundsRow.holds Tryd.pinned (OpenSpec.ofChange dualBoundsSpec)

/-- ITS FALSE NEIGHBOUR: 'it returns false'. Refute it at one input. -/
def dualBoundsWrong : ChangeSpec := { name := "dualBounds", fn := fun _ => fun
  | [d1, d2, d3] => { results := [.lit (.bool false)], args := [d1, d2, d3] }
  | _ => none }
def DualBoundsWrongFalsely : Prop := dualBoundsRow.holds Tryd.pinned (OpenSpec.ofChange dualBoundsWrong)

/-- 'secateurlaw18.DualGreedy': WHATEVER THE INPUT: true; the input reads as it did. -/
def dualGreedySpec : ChangeSpec := { name := "dualGreedy", fn := fun _ => fun
  | [d1, d2] => { results := [.lit (.bool true)], args := [d1, d2] }
  | _ => none }
def dualGreedyRow : OpenClaim := { program := "ytejifalflkbekaadoor", sum := "16f4aa54e4fde6e8a645b7b1a624cb69345e4a6354c6cd8954ab855b55da39cf", func := "secateur/secateurlaw18.DualGreedy", spec := "dualGreedy", inPlace := ["math/bits.Add64", "math/bits.Sub64"], unfollowed := true, recurses := true, named := ["math/bits.deBruijn64tab"], apart := false, laid := [("math/bits.deBruijn64tab", laid_math_bits_deBruijn64tab)] }
def DualGreedySaid : Prop := dualGreedyRow.holds Tryd.pinned (OpenSpec.ofChange dualGreedySpec)

/-- ITS FALSE NEIGHBOUR: 'it returns false'. Refute it at one input. -/
def dualGreedyWrong : ChangeSpec := { name := "dualGreedy", fn := fun _ => fun
  | [d1, d2] => { results := [.lit (.bool false)], args := [d1, d2] }
  | _ => none }
def DualGreedyWrongFalsely : Prop := dualGreedyRow.holds Tryd.pinned (OpenSpec.ofChange dualGreedyWrong)

/-- 'secateurlaw18.DualLeast': WHATEVER THE INPUT: true; the input reads as it did. -/
def dualLeastSpec : ChangeSpec := { name := "dualLeast", fn := fun _ => fun
  | [d1, d2] => { results := [.lit (.bool true)], args := [d1, d2] }
  | _ => none }
def dualLeastRow : OpenClaim := { program := "ytejifalflkbekaadoor", sum := "16f4aa54e4fde6e8a645b7b1a624cb69345e4a6354c6cd8954ab855b55da39cf", func := "secateur/secateurlaw18.DualLeast", spec := "dualLeast", inPlace := ["math/bits.Add64", "math/bits.Sub64"], unfollowed := true, recurses := true, named := ["math/bits.deBruijn64tab"], apart := false, laid := [("math/bits.deBruijn64tab", laid_math_bits_deBruijn64tab)] }
def DualLeastSaid : Prop := dualLeastRow.holds Tryd.pinned (OpenSpec.ofChange dualLeastSpec)

/-- ITS FALSE NEIGHBOUR: 'it returns false'. Refute it at one input. -/
def dualLeastWrong : ChangeSpec := { name := "dualLeast", fn := fun _ => fun
  | [d1, d2] => { results := [.lit (.bool false)], args := [d1, d2] }
  | _ => none }
def DualLeastWrongFalsely : Prop := dualLeastRow.holds Tryd.pinned (OpenSpec.ofChange dualLeastWrong)

/-- 'secateurlaw18.DualLess': WHATEVER THE INPUT: true; the input reads as it did. -/
def dualLessSpec : ChangeSpec := { name := "dualLess", fn := fun _ => fun
  | [d1, d2] => { results := [.lit (.bool true)], args := [d1, d2] }
  | _ => none }
def dualLessRow : OpenClaim := { program := "ytejifalflkbekaadoor", sum := "16f4aa54e4fde6e8a645b7b1a624cb69345e4a6354c6cd8954ab855b55da39cf", func := "secateur/secateurlaw18.DualLess", spec := "dualLess", inPlace := ["math/bits.Add64", "math/bits.Sub64"], unfollowed := true, recurses := true, named := ["math/bits.deBruijn64tab"], apart := false, laid := [("math/bits.deBruijn64tab", laid_math_bits_deBruijn64tab)] }
def DualLessSaid : Prop := dualLessRow.holds Tryd.pinned (OpenSpec.ofChange dualLessSpec)

/-- ITS FALSE NEIGHBOUR: 'it returns false'. Refute it at one input. -/
def dualLessWrong : ChangeSpec := { name := "dualLess", fn := fun _ => fun
  | [d1, d2] => { results := [.lit (.bool false)], args := [d1, d2] }
  | _ => none }
def DualLessWrongFalsely : Prop := dualLessRow.holds Tryd.pinned (OpenSpec.ofChange dualLessWrong)

/- THE SECOND FORM. 'bulk': how many values and letters a reading holds, each counted each time it is reached (what is shared counts as often as it is met; a slice's spare places count too). A statement '..UptoSaid' is the law's where the arguments, and the package variables that the reading takes, are together of bulk at most 1048576: NARROWER than '..Said'. Prove '..Said' where nothing that the law and all that it calls make is longer than what came in: it says more and counts as full. Else prove '..UptoSaid'. A law counts once. -/
mutual
def uptoBulk {H : Type} : DataW H → Nat
  | .lit (.string bytes) => bytes.length + 1
  | .lit _ => 1
  | .nil => 1
  | .ptr d => uptoBulk d + 1
  | .slice elems spare => uptoBulkAll elems + uptoBulkAll spare + 1
  | .agg parts => uptoBulkAll parts + 1
  | .iface _ d => uptoBulk d + 1
  | .map entries => uptoBulkEntries entries + 1
  | .held _ => 1
def uptoBulkAll {H : Type} : List (DataW H) → Nat
  | [] => 0
  | d :: r => uptoBulk d + uptoBulkAll r
def uptoBulkEntries {H : Type} : List (Lit × DataW H) → Nat
  | [] => 0
  | x :: r => uptoBulkEntry x + uptoBulkEntries r
def uptoBulkEntry {H : Type} : Lit × DataW H → Nat
  | (.string bytes, d) => bytes.length + uptoBulk d + 1
  | (_, d) => uptoBulk d + 1
 end
def uptoSmall : (H : Type) → List (DataW H) → Bool := fun _ ds => decide (uptoBulkAll ds ≤ 1048576)
def OpenSpec.upto (s : _root_.Go.ChangeSpec) : _root_.Go.OpenSpec := { _root_.Go.OpenSpec.ofChange s with cond := some uptoSmall }

/-- 'secateurlaw18.DualPrices', WHERE WHAT IT READS IS OF BULK AT MOST 1048576: true; the input reads as it did. -/
def dualPricesUptoRow : OpenClaim := { program := "ytejifalflkbekaadoor", sum := "16f4aa54e4fde6e8a645b7b1a624cb69345e4a6354c6cd8954ab855b55da39cf", func := "secateur/secateurlaw18.DualPrices", spec := "dualPrices", inPlace := ["math/bits.Add64", "math/bits.Sub64"], unfollowed := true, recurses := true, named := ["math/bits.deBruijn64tab"], apart := false, laid := [("math/bits.deBruijn64tab", laid_math_bits_deBruijn64tab)], narrowed := true }
def DualPricesUptoSaid : Prop := dualPricesUptoRow.holds Tryd.pinned (OpenSpec.upto dualPricesSpec)

/-- 'secateurlaw18.DualBounds', WHERE WHAT IT READS IS OF BULK AT MOST 1048576: true; the input reads as it did. -/
def dualBoundsUptoRow : OpenClaim := { program := "ytejifalflkbekaadoor", sum := "16f4aa54e4fde6e8a645b7b1a624cb69345e4a6354c6cd8954ab855b55da39cf", func := "secateur/secateurlaw18.DualBounds", spec := "dualBounds", inPlace := ["math/bits.Add64", "math/bits.Sub64"], unfollowed := true, recurses := true, named := ["math/bits.deBruijn64tab"], apart := false, laid := [("math/bits.deBruijn64tab", laid_math_bits_deBruijn64tab)], narrowed := true }
def DualBoundsUptoSaid : Prop := dualBoundsUptoRow.holds Tryd.pinned (OpenSpec.upto dualBoundsSpec)

/-- 'secateurlaw18.DualGreedy', WHERE WHAT IT READS IS OF BULK AT MOST 1048576: true; the input reads as it did. -/
def dualGreedyUptoRow : OpenClaim := { program := "ytejifalflkbekaadoor", sum := "16f4aa54e4fde6e8a645b7b1a624cb69345e4a6354c6cd8954ab855b55da39cf", func := "secateur/secateurlaw18.DualGreedy", spec := "dualGreedy", inPlace := ["math/bits.Add64", "math/bits.Sub64"], unfollowed := true, recurses := true, named := ["math/bits.deBruijn64tab"], apart := false, laid := [("math/bits.deBruijn64tab", laid_math_bits_deBruijn64tab)], narrowed := true }
def DualGreedyUptoSaid : Prop := dualGreedyUptoRow.holds Tryd.pinned (OpenSpec.upto dualGreedySpec)

/-- 'secateurlaw18.DualLeast', WHERE WHAT IT READS IS OF BULK AT MOST 1048576: true; the input reads as it did. -/
def dualLeastUptoRow : OpenClaim := { program := "ytejifalflkbekaadoor", sum := "16f4aa54e4fde6e8a645b7b1a624cb69345e4a6354c6cd8954ab855b55da39cf", func := "secateur/secateurlaw18.DualLeast", spec := "dualLeast", inPlace := ["math/bits.Add64", "math/bits.Sub64"], unfollowed := true, recurses := true, named := ["math/bits.deBruijn64tab"], apart := false, laid := [("math/bits.deBruijn64tab", laid_math_bits_deBruijn64tab)], narrowed := true }
def DualLeastUptoSaid : Prop := dualLeastUptoRow.holds Tryd.pinned (OpenSpec.upto dualLeastSpec)

/-- 'secateurlaw18.DualLess', WHERE WHAT IT READS IS OF BULK AT MOST 1048576: true; the input reads as it did. -/
def dualLessUptoRow : OpenClaim := { program := "ytejifalflkbekaadoor", sum := "16f4aa54e4fde6e8a645b7b1a624cb69345e4a6354c6cd8954ab855b55da39cf", func := "secateur/secateurlaw18.DualLess", spec := "dualLess", inPlace := ["math/bits.Add64", "math/bits.Sub64"], unfollowed := true, recurses := true, named := ["math/bits.deBruijn64tab"], apart := false, laid := [("math/bits.deBruijn64tab", laid_math_bits_deBruijn64tab)], narrowed := true }
def DualLessUptoSaid : Prop := dualLessUptoRow.holds Tryd.pinned (OpenSpec.upto dualLessSpec)

end Rows
end Go.Proofs.YtejifalflkbekaaDoor
