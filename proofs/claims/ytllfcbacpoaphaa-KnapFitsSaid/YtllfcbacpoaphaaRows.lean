/-
  No cell of these rows narrows 'for every input' (looked for: loops, veiled, ifaces, maps, wideKeys, modest, calm, conditions, laid).
  DERIVED. THE GIVEN ROWS OF THIS SEAT. 7 by the template 'for every input the law returns true; each argument reads behind the call as it read before'; 0 by the template 'total and deterministic' (their statements: YtllfcbacpoaphaaTotals.lean).
  GIVEN WITH THE SEED: the statements are not yours to turn. If you find one false, say at which input.
  Laid BY PROGRAM, IN A SANDBOX (cutbox-rows.mjs): the forced cells as the released guide's own fill.sh prints them over the translation 85ced9acc2ad7d61… (all of the seat's roots in one cut). By AI agents, Wed Nov 11 2026. No macro, syntax, notation, axiom, sorry.
-/
import Derived.Test.YtllfcbacpoaphaaChecked
import GoSem.Claim
import GoSem.ClaimJoined
import GoSem.ClaimMapViews
import Derived.JoinedTies
import Derived.KernelRfl
namespace Go.Proofs.Ytllfcbacpoaphaa
/- THE CELL 'sum', in the pinned program and in every row, IS THE sha256 OF THE DUMP (.gsa) THAT YtllfcbacpoaphaaProg.lean LOADS. Nothing in Lean hashes anything: it is a label: what it is worth is what the hold of that sum in a sandbox is worth. -/
noncomputable def Try.pinned : Pinned := { name := "ytllfcbacpoaphaa", sum := "85ced9acc2ad7d61ab8b33414de05992ee56c54e58ebe81ab930b979b3ca1d67", checked := Try.checked }
namespace Rows
def none {H : Type} : Left H := { results := [], args := [] }

/-- 'secateurlaw16.KnapRelaxes': WHATEVER THE INPUT: true; the input reads as it did. -/
def knapRelaxesSpec : ChangeSpec := { name := "knapRelaxes", fn := fun _ => fun
  | [d1, d2] => { results := [.lit (.bool true)], args := [d1, d2] }
  | _ => none }
def knapRelaxesRow : OpenClaim := { program := "ytllfcbacpoaphaa", sum := "85ced9acc2ad7d61ab8b33414de05992ee56c54e58ebe81ab930b979b3ca1d67", func := "secateur/secateurlaw16.KnapRelaxes", spec := "knapRelaxes", inPlace := ["math/bits.Add64", "math/bits.Sub64"], unfollowed := true, recurses := true, apart := false }
def KnapRelaxesSaid : Prop := knapRelaxesRow.holds Try.pinned (OpenSpec.ofChange knapRelaxesSpec)

/-- ITS FALSE NEIGHBOUR: 'it returns false'. Refute it at one input. -/
def knapRelaxesWrong : ChangeSpec := { name := "knapRelaxes", fn := fun _ => fun
  | [d1, d2] => { results := [.lit (.bool false)], args := [d1, d2] }
  | _ => none }
def KnapRelaxesWrongFalsely : Prop := knapRelaxesRow.holds Try.pinned (OpenSpec.ofChange knapRelaxesWrong)

/-- 'secateurlaw16.KnapGreedy': WHATEVER THE INPUT: true; the input reads as it did. -/
def knapGreedySpec : ChangeSpec := { name := "knapGreedy", fn := fun _ => fun
  | [d1, d2] => { results := [.lit (.bool true)], args := [d1, d2] }
  | _ => none }
def knapGreedyRow : OpenClaim := { program := "ytllfcbacpoaphaa", sum := "85ced9acc2ad7d61ab8b33414de05992ee56c54e58ebe81ab930b979b3ca1d67", func := "secateur/secateurlaw16.KnapGreedy", spec := "knapGreedy", inPlace := ["math/bits.Add64", "math/bits.Sub64"], unfollowed := true, recurses := true, apart := false }
def KnapGreedySaid : Prop := knapGreedyRow.holds Try.pinned (OpenSpec.ofChange knapGreedySpec)

/-- ITS FALSE NEIGHBOUR: 'it returns false'. Refute it at one input. -/
def knapGreedyWrong : ChangeSpec := { name := "knapGreedy", fn := fun _ => fun
  | [d1, d2] => { results := [.lit (.bool false)], args := [d1, d2] }
  | _ => none }
def KnapGreedyWrongFalsely : Prop := knapGreedyRow.holds Try.pinned (OpenSpec.ofChange knapGreedyWrong)

/-- 'secateurlaw16.KnapFits': WHATEVER THE INPUT: true; the input reads as it did. -/
def knapFitsSpec : ChangeSpec := { name := "knapFits", fn := fun _ => fun
  | [d1, d2] => { results := [.lit (.bool true)], args := [d1, d2] }
  | _ => none }
def knapFitsRow : OpenClaim := { program := "ytllfcbacpoaphaa", sum := "85ced9acc2ad7d61ab8b33414de05992ee56c54e58ebe81ab930b979b3ca1d67", func := "secateur/secateurlaw16.KnapFits", spec := "knapFits", inPlace := ["math/bits.Add64", "math/bits.Sub64"], unfollowed := true, recurses := true, apart := false }
def KnapFitsSaid : Prop := knapFitsRow.holds Try.pinned (OpenSpec.ofChange knapFitsSpec)

/-- ITS FALSE NEIGHBOUR: 'it returns false'. Refute it at one input. -/
def knapFitsWrong : ChangeSpec := { name := "knapFits", fn := fun _ => fun
  | [d1, d2] => { results := [.lit (.bool false)], args := [d1, d2] }
  | _ => none }
def KnapFitsWrongFalsely : Prop := knapFitsRow.holds Try.pinned (OpenSpec.ofChange knapFitsWrong)

/-- 'secateurlaw16.KnapFixes': WHATEVER THE INPUT: true; the input reads as it did. -/
def knapFixesSpec : ChangeSpec := { name := "knapFixes", fn := fun _ => fun
  | [d1, d2, d3] => { results := [.lit (.bool true)], args := [d1, d2, d3] }
  | _ => none }
def knapFixesRow : OpenClaim := { program := "ytllfcbacpoaphaa", sum := "85ced9acc2ad7d61ab8b33414de05992ee56c54e58ebe81ab930b979b3ca1d67", func := "secateur/secateurlaw16.KnapFixes", spec := "knapFixes", inPlace := ["math/bits.Add64", "math/bits.Sub64"], unfollowed := true, recurses := true, apart := false }
def KnapFixesSaid : Prop := knapFixesRow.holds Try.pinned (OpenSpec.ofChange knapFixesSpec)

/-- ITS FALSE NEIGHBOUR: 'it returns false'. Refute it at one input. -/
def knapFixesWrong : ChangeSpec := { name := "knapFixes", fn := fun _ => fun
  | [d1, d2, d3] => { results := [.lit (.bool false)], args := [d1, d2, d3] }
  | _ => none }
def KnapFixesWrongFalsely : Prop := knapFixesRow.holds Try.pinned (OpenSpec.ofChange knapFixesWrong)

/-- 'secateurlaw16.KnapSure': WHATEVER THE INPUT: true; the input reads as it did. -/
def knapSureSpec : ChangeSpec := { name := "knapSure", fn := fun _ => fun
  | [d1, d2, d3] => { results := [.lit (.bool true)], args := [d1, d2, d3] }
  | _ => none }
def knapSureRow : OpenClaim := { program := "ytllfcbacpoaphaa", sum := "85ced9acc2ad7d61ab8b33414de05992ee56c54e58ebe81ab930b979b3ca1d67", func := "secateur/secateurlaw16.KnapSure", spec := "knapSure", inPlace := ["math/bits.Add64", "math/bits.Sub64"], unfollowed := true, recurses := true, apart := false }
def KnapSureSaid : Prop := knapSureRow.holds Try.pinned (OpenSpec.ofChange knapSureSpec)

/-- ITS FALSE NEIGHBOUR: 'it returns false'. Refute it at one input. -/
def knapSureWrong : ChangeSpec := { name := "knapSure", fn := fun _ => fun
  | [d1, d2, d3] => { results := [.lit (.bool false)], args := [d1, d2, d3] }
  | _ => none }
def KnapSureWrongFalsely : Prop := knapSureRow.holds Try.pinned (OpenSpec.ofChange knapSureWrong)

/-- 'secateurlaw16.KnapPrices': WHATEVER THE INPUT: true; the input reads as it did. -/
def knapPricesSpec : ChangeSpec := { name := "knapPrices", fn := fun _ => fun
  | [d1, d2, d3] => { results := [.lit (.bool true)], args := [d1, d2, d3] }
  | _ => none }
def knapPricesRow : OpenClaim := { program := "ytllfcbacpoaphaa", sum := "85ced9acc2ad7d61ab8b33414de05992ee56c54e58ebe81ab930b979b3ca1d67", func := "secateur/secateurlaw16.KnapPrices", spec := "knapPrices", inPlace := ["math/bits.Add64", "math/bits.Sub64"], unfollowed := true, recurses := true, named := ["math/bits.divideError", "math/bits.overflowError"], apart := false }
def KnapPricesSaid : Prop := knapPricesRow.holds Try.pinned (OpenSpec.ofChange knapPricesSpec)

/-- ITS FALSE NEIGHBOUR: 'it returns false'. Refute it at one input. -/
def knapPricesWrong : ChangeSpec := { name := "knapPrices", fn := fun _ => fun
  | [d1, d2, d3] => { results := [.lit (.bool false)], args := [d1, d2, d3] }
  | _ => none }
def KnapPricesWrongFalsely : Prop := knapPricesRow.holds Try.pinned (OpenSpec.ofChange knapPricesWrong)

/-- 'secateurlaw16.KnapBounds': WHATEVER THE INPUT: true; the input reads as it did. -/
def knapBoundsSpec : ChangeSpec := { name := "knapBounds", fn := fun _ => fun
  | [d1, d2, d3] => { results := [.lit (.bool true)], args := [d1, d2, d3] }
  | _ => none }
def knapBoundsRow : OpenClaim := { program := "ytllfcbacpoaphaa", sum := "85ced9acc2ad7d61ab8b33414de05992ee56c54e58ebe81ab930b979b3ca1d67", func := "secateur/secateurlaw16.KnapBounds", spec := "knapBounds", inPlace := ["math/bits.Add64", "math/bits.Sub64"], unfollowed := true, recurses := true, named := ["math/bits.divideError", "math/bits.overflowError"], apart := false }
def KnapBoundsSaid : Prop := knapBoundsRow.holds Try.pinned (OpenSpec.ofChange knapBoundsSpec)

/-- ITS FALSE NEIGHBOUR: 'it returns false'. Refute it at one input. -/
def knapBoundsWrong : ChangeSpec := { name := "knapBounds", fn := fun _ => fun
  | [d1, d2, d3] => { results := [.lit (.bool false)], args := [d1, d2, d3] }
  | _ => none }
def KnapBoundsWrongFalsely : Prop := knapBoundsRow.holds Try.pinned (OpenSpec.ofChange knapBoundsWrong)

/- THE SECOND FORM. 'bulk': how many values and letters a reading holds, each counted each time it is reached (what is shared counts as often as it is met; a slice's spare places count too). A statement '..UptoSaid' is the law's where the arguments, and the package variables that the reading takes, are together of bulk at most 1048576: NARROWER than '..Said'. Prove '..Said' where nothing that the law and all that it calls make is longer than what came in: it says more and counts as full. Else prove '..UptoSaid'. A law counts once. -/
mutual
def uptoBulk {H : Type} : DataW H → Nat
  | .lit (.string bytes) => bytes.length + 1
  | .lit _ => 1
  | .nil => 1
  | .ptr d => uptoBulk d + 1
  | .slice elems spare => uptoBulkAll elems + uptoBulkAll spare + 1
  | .agg parts => uptoBulkAll parts + 1
  | .iface _ d => uptoBulk d + 1
  | .map entries => uptoBulkEntries entries + 1
  | .held _ => 1
def uptoBulkAll {H : Type} : List (DataW H) → Nat
  | [] => 0
  | d :: r => uptoBulk d + uptoBulkAll r
def uptoBulkEntries {H : Type} : List (Lit × DataW H) → Nat
  | [] => 0
  | x :: r => uptoBulkEntry x + uptoBulkEntries r
def uptoBulkEntry {H : Type} : Lit × DataW H → Nat
  | (.string bytes, d) => bytes.length + uptoBulk d + 1
  | (_, d) => uptoBulk d + 1
 end
def uptoSmall : (H : Type) → List (DataW H) → Bool := fun _ ds => decide (uptoBulkAll ds ≤ 1048576)
def OpenSpec.upto (s : _root_.Go.ChangeSpec) : _root_.Go.OpenSpec := { _root_.Go.OpenSpec.ofChange s with cond := some uptoSmall }

/-- 'secateurlaw16.KnapRelaxes', WHERE WHAT IT READS IS OF BULK AT MOST 1048576: true; the input reads as it did. -/
def knapRelaxesUptoRow : OpenClaim := { program := "ytllfcbacpoaphaa", sum := "85ced9acc2ad7d61ab8b33414de05992ee56c54e58ebe81ab930b979b3ca1d67", func := "secateur/secateurlaw16.KnapRelaxes", spec := "knapRelaxes", inPlace := ["math/bits.Add64", "math/bits.Sub64"], unfollowed := true, recurses := true, apart := false, narrowed := true }
def KnapRelaxesUptoSaid : Prop := knapRelaxesUptoRow.holds Try.pinned (OpenSpec.upto knapRelaxesSpec)

/-- 'secateurlaw16.KnapGreedy', WHERE WHAT IT READS IS OF BULK AT MOST 1048576: true; the input reads as it did. -/
def knapGreedyUptoRow : OpenClaim := { program := "ytllfcbacpoaphaa", sum := "85ced9acc2ad7d61ab8b33414de05992ee56c54e58ebe81ab930b979b3ca1d67", func := "secateur/secateurlaw16.KnapGreedy", spec := "knapGreedy", inPlace := ["math/bits.Add64", "math/bits.Sub64"], unfollowed := true, recurses := true, apart := false, narrowed := true }
def KnapGreedyUptoSaid : Prop := knapGreedyUptoRow.holds Try.pinned (OpenSpec.upto knapGreedySpec)

/-- 'secateurlaw16.KnapFits', WHERE WHAT IT READS IS OF BULK AT MOST 1048576: true; the input reads as it did. -/
def knapFitsUptoRow : OpenClaim := { program := "ytllfcbacpoaphaa", sum := "85ced9acc2ad7d61ab8b33414de05992ee56c54e58ebe81ab930b979b3ca1d67", func := "secateur/secateurlaw16.KnapFits", spec := "knapFits", inPlace := ["math/bits.Add64", "math/bits.Sub64"], unfollowed := true, recurses := true, apart := false, narrowed := true }
def KnapFitsUptoSaid : Prop := knapFitsUptoRow.holds Try.pinned (OpenSpec.upto knapFitsSpec)

/-- 'secateurlaw16.KnapFixes', WHERE WHAT IT READS IS OF BULK AT MOST 1048576: true; the input reads as it did. -/
def knapFixesUptoRow : OpenClaim := { program := "ytllfcbacpoaphaa", sum := "85ced9acc2ad7d61ab8b33414de05992ee56c54e58ebe81ab930b979b3ca1d67", func := "secateur/secateurlaw16.KnapFixes", spec := "knapFixes", inPlace := ["math/bits.Add64", "math/bits.Sub64"], unfollowed := true, recurses := true, apart := false, narrowed := true }
def KnapFixesUptoSaid : Prop := knapFixesUptoRow.holds Try.pinned (OpenSpec.upto knapFixesSpec)

/-- 'secateurlaw16.KnapSure', WHERE WHAT IT READS IS OF BULK AT MOST 1048576: true; the input reads as it did. -/
def knapSureUptoRow : OpenClaim := { program := "ytllfcbacpoaphaa", sum := "85ced9acc2ad7d61ab8b33414de05992ee56c54e58ebe81ab930b979b3ca1d67", func := "secateur/secateurlaw16.KnapSure", spec := "knapSure", inPlace := ["math/bits.Add64", "math/bits.Sub64"], unfollowed := true, recurses := true, apart := false, narrowed := true }
def KnapSureUptoSaid : Prop := knapSureUptoRow.holds Try.pinned (OpenSpec.upto knapSureSpec)

/-- 'secateurlaw16.KnapPrices', WHERE WHAT IT READS IS OF BULK AT MOST 1048576: true; the input reads as it did. -/
def knapPricesUptoRow : OpenClaim := { program := "ytllfcbacpoaphaa", sum := "85ced9acc2ad7d61ab8b33414de05992ee56c54e58ebe81ab930b979b3ca1d67", func := "secateur/secateurlaw16.KnapPrices", spec := "knapPrices", inPlace := ["math/bits.Add64", "math/bits.Sub64"], unfollowed := true, recurses := true, named := ["math/bits.divideError", "math/bits.overflowError"], apart := false, narrowed := true }
def KnapPricesUptoSaid : Prop := knapPricesUptoRow.holds Try.pinned (OpenSpec.upto knapPricesSpec)

/-- 'secateurlaw16.KnapBounds', WHERE WHAT IT READS IS OF BULK AT MOST 1048576: true; the input reads as it did. -/
def knapBoundsUptoRow : OpenClaim := { program := "ytllfcbacpoaphaa", sum := "85ced9acc2ad7d61ab8b33414de05992ee56c54e58ebe81ab930b979b3ca1d67", func := "secateur/secateurlaw16.KnapBounds", spec := "knapBounds", inPlace := ["math/bits.Add64", "math/bits.Sub64"], unfollowed := true, recurses := true, named := ["math/bits.divideError", "math/bits.overflowError"], apart := false, narrowed := true }
def KnapBoundsUptoSaid : Prop := knapBoundsUptoRow.holds Try.pinned (OpenSpec.upto knapBoundsSpec)

end Rows
end Go.Proofs.Ytllfcbacpoaphaa
