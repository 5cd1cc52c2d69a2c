/-
  NARROWER THAN 'FOR EVERY INPUT', by the rows' own cells (each row's printed sentence says how): StateSteps: laid · StateReplays: laid · TreeSizes: laid · StateAnswers: laid · TreeLevels: laid · TreeBest: laid.
  DERIVED. THE GIVEN ROWS OF THIS SEAT. 6 by the template 'for every input the law returns true; each argument reads behind the call as it read before'; 0 by the template 'total and deterministic' (their statements: YtlcddhgfkkjhkaaDoorTotals.lean).
  GIVEN WITH THE SEED: the statements are not yours to turn. If you find one false, say at which input.
  Laid BY PROGRAM, IN A SANDBOX (cutbox-rows.mjs): the forced cells as the released guide's own fill.sh prints them over the translation 42dada535120b23b… (all of the seat's roots in one cut). By AI agents, Wed Nov 11 2026. No macro, syntax, notation, axiom, sorry.
-/
import Derived.Test.YtlcddhgfkkjhkaaDoorChecked
import GoSem.Claim
import GoSem.ClaimJoined
import GoSem.ClaimMapViews
import Derived.JoinedTies
import Derived.KernelRfl
namespace Go.Proofs.YtlcddhgfkkjhkaaDoor
/- THE CELL 'sum', in the pinned program and in every row, IS THE sha256 OF THE DUMP (.gsa) THAT YtlcddhgfkkjhkaaDoorProg.lean LOADS. Nothing in Lean hashes anything: it is a label: what it is worth is what the hold of that sum in a sandbox is worth. -/
noncomputable def Tryd.pinned : Pinned := { name := "ytlcddhgfkkjhkaadoor", sum := "42dada535120b23bfb1a5a6b3f638028a6864120fb7ddbaece780468915317f3", checked := Tryd.checked }
namespace Rows
def none {H : Type} : Left H := { results := [], args := [] }

/- WHAT THE LISTED PACKAGE-LEVEL VARIABLES READ AS WHEN THE CALL BEGINS. Each datum BY PROGRAM (the guide's laid-datum.mjs) off the statement by which the dump's own 'gosem.cut.vars' lays the variable. In a bare row this is a premise. The card (YtlcddhgfkkjhkaaDoorCards.lean) ties it to the program's text. -/
def laid_math_bits_deBruijn64tab {H : Type} : DataW H := .agg [.lit (.int .u8 0), .lit (.int .u8 1), .lit (.int .u8 56), .lit (.int .u8 2), .lit (.int .u8 57), .lit (.int .u8 49), .lit (.int .u8 28), .lit (.int .u8 3), .lit (.int .u8 61), .lit (.int .u8 58), .lit (.int .u8 42), .lit (.int .u8 50), .lit (.int .u8 38), .lit (.int .u8 29), .lit (.int .u8 17), .lit (.int .u8 4), .lit (.int .u8 62), .lit (.int .u8 47), .lit (.int .u8 59), .lit (.int .u8 36), .lit (.int .u8 45), .lit (.int .u8 43), .lit (.int .u8 51), .lit (.int .u8 22), .lit (.int .u8 53), .lit (.int .u8 39), .lit (.int .u8 33), .lit (.int .u8 30), .lit (.int .u8 24), .lit (.int .u8 18), .lit (.int .u8 12), .lit (.int .u8 5), .lit (.int .u8 63), .lit (.int .u8 55), .lit (.int .u8 48), .lit (.int .u8 27), .lit (.int .u8 60), .lit (.int .u8 41), .lit (.int .u8 37), .lit (.int .u8 16), .lit (.int .u8 46), .lit (.int .u8 35), .lit (.int .u8 44), .lit (.int .u8 21), .lit (.int .u8 52), .lit (.int .u8 32), .lit (.int .u8 23), .lit (.int .u8 11), .lit (.int .u8 54), .lit (.int .u8 26), .lit (.int .u8 40), .lit (.int .u8 15), .lit (.int .u8 34), .lit (.int .u8 20), .lit (.int .u8 31), .lit (.int .u8 10), .lit (.int .u8 25), .lit (.int .u8 14), .lit (.int .u8 19), .lit (.int .u8 9), .lit (.int .u8 13), .lit (.int .u8 8), .lit (.int .u8 7), .lit (.int .u8 6)]

/-- 'secateurlaw14.StateSteps': WHATEVER THE INPUT: true; the input reads as it did. -/
def stateStepsSpec : ChangeSpec := { name := "stateSteps", fn := fun _ => fun
  | [d1, d2, d3] => { results := [.lit (.bool true)], args := [d1, d2, d3] }
  | _ => none }
def stateStepsRow : OpenClaim := { program := "ytlcddhgfkkjhkaadoor", sum := "42dada535120b23bfb1a5a6b3f638028a6864120fb7ddbaece780468915317f3", func := "secateur/secateurlaw14.StateSteps", spec := "stateSteps", unfollowed := true, recurses := true, named := ["math/bits.deBruijn64tab"], apart := false, laid := [("math/bits.deBruijn64tab", laid_math_bits_deBruijn64tab)] }
def StateStepsSaid : Prop := stateStepsRow.holds Tryd.pinned (OpenSpec.ofChange stateStepsSpec)

/-- ITS FALSE NEIGHBOUR: 'it returns false'. Refute it at one input. -/
def stateStepsWrong : ChangeSpec := { name := "stateSteps", fn := fun _ => fun
  | [d1, d2, d3] => { results := [.lit (.bool false)], args := [d1, d2, d3] }
  | _ => none }
def StateStepsWrongFalsely : Prop := stateStepsRow.holds Tryd.pinned (OpenSpec.ofChange stateStepsWrong)

/-- 'secateurlaw14.StateReplays': WHATEVER THE INPUT: true; the input reads as it did. -/
def stateReplaysSpec : ChangeSpec := { name := "stateReplays", fn := fun _ => fun
  | [d1, d2, d3] => { results := [.lit (.bool true)], args := [d1, d2, d3] }
  | _ => none }
def stateReplaysRow : OpenClaim := { program := "ytlcddhgfkkjhkaadoor", sum := "42dada535120b23bfb1a5a6b3f638028a6864120fb7ddbaece780468915317f3", func := "secateur/secateurlaw14.StateReplays", spec := "stateReplays", unfollowed := true, recurses := true, named := ["math/bits.deBruijn64tab"], apart := false, laid := [("math/bits.deBruijn64tab", laid_math_bits_deBruijn64tab)] }
def StateReplaysSaid : Prop := stateReplaysRow.holds Tryd.pinned (OpenSpec.ofChange stateReplaysSpec)

/-- ITS FALSE NEIGHBOUR: 'it returns false'. Refute it at one input. -/
def stateReplaysWrong : ChangeSpec := { name := "stateReplays", fn := fun _ => fun
  | [d1, d2, d3] => { results := [.lit (.bool false)], args := [d1, d2, d3] }
  | _ => none }
def StateReplaysWrongFalsely : Prop := stateReplaysRow.holds Tryd.pinned (OpenSpec.ofChange stateReplaysWrong)

/-- 'secateurlaw15.TreeSizes': WHATEVER THE INPUT: true; the input reads as it did. -/
def treeSizesSpec : ChangeSpec := { name := "treeSizes", fn := fun _ => fun
  | [d1, d2] => { results := [.lit (.bool true)], args := [d1, d2] }
  | _ => none }
def treeSizesRow : OpenClaim := { program := "ytlcddhgfkkjhkaadoor", sum := "42dada535120b23bfb1a5a6b3f638028a6864120fb7ddbaece780468915317f3", func := "secateur/secateurlaw15.TreeSizes", spec := "treeSizes", inPlace := ["math/bits.Add64", "math/bits.Sub64"], unfollowed := true, recurses := true, named := ["math/bits.deBruijn64tab"], apart := false, laid := [("math/bits.deBruijn64tab", laid_math_bits_deBruijn64tab)] }
def TreeSizesSaid : Prop := treeSizesRow.holds Tryd.pinned (OpenSpec.ofChange treeSizesSpec)

/-- ITS FALSE NEIGHBOUR: 'it returns false'. Refute it at one input. -/
def treeSizesWrong : ChangeSpec := { name := "treeSizes", fn := fun _ => fun
  | [d1, d2] => { results := [.lit (.bool false)], args := [d1, d2] }
  | _ => none }
def TreeSizesWrongFalsely : Prop := treeSizesRow.holds Tryd.pinned (OpenSpec.ofChange treeSizesWrong)

/-- 'secateurlaw14.StateAnswers': WHATEVER THE INPUT: true; the input reads as it did. -/
def stateAnswersSpec : ChangeSpec := { name := "stateAnswers", fn := fun _ => fun
  | [d1, d2] => { results := [.lit (.bool true)], args := [d1, d2] }
  | _ => none }
def stateAnswersRow : OpenClaim := { program := "ytlcddhgfkkjhkaadoor", sum := "42dada535120b23bfb1a5a6b3f638028a6864120fb7ddbaece780468915317f3", func := "secateur/secateurlaw14.StateAnswers", spec := "stateAnswers", inPlace := ["math/bits.Add64", "math/bits.Sub64"], unfollowed := true, recurses := true, named := ["math/bits.deBruijn64tab"], apart := false, laid := [("math/bits.deBruijn64tab", laid_math_bits_deBruijn64tab)] }
def StateAnswersSaid : Prop := stateAnswersRow.holds Tryd.pinned (OpenSpec.ofChange stateAnswersSpec)

/-- ITS FALSE NEIGHBOUR: 'it returns false'. Refute it at one input. -/
def stateAnswersWrong : ChangeSpec := { name := "stateAnswers", fn := fun _ => fun
  | [d1, d2] => { results := [.lit (.bool false)], args := [d1, d2] }
  | _ => none }
def StateAnswersWrongFalsely : Prop := stateAnswersRow.holds Tryd.pinned (OpenSpec.ofChange stateAnswersWrong)

/-- 'secateurlaw15.TreeLevels': WHATEVER THE INPUT: true; the input reads as it did. -/
def treeLevelsSpec : ChangeSpec := { name := "treeLevels", fn := fun _ => fun
  | [d1, d2] => { results := [.lit (.bool true)], args := [d1, d2] }
  | _ => none }
def treeLevelsRow : OpenClaim := { program := "ytlcddhgfkkjhkaadoor", sum := "42dada535120b23bfb1a5a6b3f638028a6864120fb7ddbaece780468915317f3", func := "secateur/secateurlaw15.TreeLevels", spec := "treeLevels", inPlace := ["math/bits.Add64", "math/bits.Sub64"], unfollowed := true, recurses := true, named := ["math/bits.deBruijn64tab"], apart := false, laid := [("math/bits.deBruijn64tab", laid_math_bits_deBruijn64tab)] }
def TreeLevelsSaid : Prop := treeLevelsRow.holds Tryd.pinned (OpenSpec.ofChange treeLevelsSpec)

/-- ITS FALSE NEIGHBOUR: 'it returns false'. Refute it at one input. -/
def treeLevelsWrong : ChangeSpec := { name := "treeLevels", fn := fun _ => fun
  | [d1, d2] => { results := [.lit (.bool false)], args := [d1, d2] }
  | _ => none }
def TreeLevelsWrongFalsely : Prop := treeLevelsRow.holds Tryd.pinned (OpenSpec.ofChange treeLevelsWrong)

/-- 'secateurlaw15.TreeBest': WHATEVER THE INPUT: true; the input reads as it did. -/
def treeBestSpec : ChangeSpec := { name := "treeBest", fn := fun _ => fun
  | [d] => { results := [.lit (.bool true)], args := [d] }
  | _ => none }
def treeBestRow : OpenClaim := { program := "ytlcddhgfkkjhkaadoor", sum := "42dada535120b23bfb1a5a6b3f638028a6864120fb7ddbaece780468915317f3", func := "secateur/secateurlaw15.TreeBest", spec := "treeBest", inPlace := ["math/bits.Add64", "math/bits.Sub64"], unfollowed := true, recurses := true, named := ["math/bits.deBruijn64tab"], apart := false, laid := [("math/bits.deBruijn64tab", laid_math_bits_deBruijn64tab)] }
def TreeBestSaid : Prop := treeBestRow.holds Tryd.pinned (OpenSpec.ofChange treeBestSpec)

/-- ITS FALSE NEIGHBOUR: 'it returns false'. Refute it at one input. -/
def treeBestWrong : ChangeSpec := { name := "treeBest", fn := fun _ => fun
  | [d] => { results := [.lit (.bool false)], args := [d] }
  | _ => none }
def TreeBestWrongFalsely : Prop := treeBestRow.holds Tryd.pinned (OpenSpec.ofChange treeBestWrong)

/- THE SECOND FORM. 'bulk': how many values and letters a reading holds, each counted each time it is reached (what is shared counts as often as it is met; a slice's spare places count too). A statement '..UptoSaid' is the law's where the arguments, and the package variables that the reading takes, are together of bulk at most 1048576: NARROWER than '..Said'. Prove '..Said' where nothing that the law and all that it calls make is longer than what came in: it says more and counts as full. Else prove '..UptoSaid'. A law counts once. -/
mutual
def uptoBulk {H : Type} : DataW H → Nat
  | .lit (.string bytes) => bytes.length + 1
  | .lit _ => 1
  | .nil => 1
  | .ptr d => uptoBulk d + 1
  | .slice elems spare => uptoBulkAll elems + uptoBulkAll spare + 1
  | .agg parts => uptoBulkAll parts + 1
  | .iface _ d => uptoBulk d + 1
  | .map entries => uptoBulkEntries entries + 1
  | .held _ => 1
def uptoBulkAll {H : Type} : List (DataW H) → Nat
  | [] => 0
  | d :: r => uptoBulk d + uptoBulkAll r
def uptoBulkEntries {H : Type} : List (Lit × DataW H) → Nat
  | [] => 0
  | x :: r => uptoBulkEntry x + uptoBulkEntries r
def uptoBulkEntry {H : Type} : Lit × DataW H → Nat
  | (.string bytes, d) => bytes.length + uptoBulk d + 1
  | (_, d) => uptoBulk d + 1
 end
def uptoSmall : (H : Type) → List (DataW H) → Bool := fun _ ds => decide (uptoBulkAll ds ≤ 1048576)
def OpenSpec.upto (s : _root_.Go.ChangeSpec) : _root_.Go.OpenSpec := { _root_.Go.OpenSpec.ofChange s with cond := some uptoSmall }

/-- 'secateurlaw14.StateSteps', WHERE WHAT IT READS IS OF BULK AT MOST 1048576: true; the input reads as it did. -/
def stateStepsUptoRow : OpenClaim := { program := "ytlcddhgfkkjhkaadoor", sum := "42dada535120b23bfb1a5a6b3f638028a6864120fb7ddbaece780468915317f3", func := "secateur/secateurlaw14.StateSteps", spec := "stateSteps", unfollowed := true, recurses := true, named := ["math/bits.deBruijn64tab"], apart := false, laid := [("math/bits.deBruijn64tab", laid_math_bits_deBruijn64tab)], narrowed := true }
def StateStepsUptoSaid : Prop := stateStepsUptoRow.holds Tryd.pinned (OpenSpec.upto stateStepsSpec)

/-- 'secateurlaw14.StateReplays', WHERE WHAT IT READS IS OF BULK AT MOST 1048576: true; the input reads as it did. -/
def stateReplaysUptoRow : OpenClaim := { program := "ytlcddhgfkkjhkaadoor", sum := "42dada535120b23bfb1a5a6b3f638028a6864120fb7ddbaece780468915317f3", func := "secateur/secateurlaw14.StateReplays", spec := "stateReplays", unfollowed := true, recurses := true, named := ["math/bits.deBruijn64tab"], apart := false, laid := [("math/bits.deBruijn64tab", laid_math_bits_deBruijn64tab)], narrowed := true }
def StateReplaysUptoSaid : Prop := stateReplaysUptoRow.holds Tryd.pinned (OpenSpec.upto stateReplaysSpec)

/-- 'secateurlaw15.TreeSizes', WHERE WHAT IT READS IS OF BULK AT MOST 1048576: true; the input reads as it did. -/
def treeSizesUptoRow : OpenClaim := { program := "ytlcddhgfkkjhkaadoor", sum := "42dada535120b23bfb1a5a6b3f638028a6864120fb7ddbaece780468915317f3", func := "secateur/secateurlaw15.TreeSizes", spec := "treeSizes", inPlace := ["math/bits.Add64", "math/bits.Sub64"], unfollowed := true, recurses := true, named := ["math/bits.deBruijn64tab"], apart := false, laid := [("math/bits.deBruijn64tab", laid_math_bits_deBruijn64tab)], narrowed := true }
def TreeSizesUptoSaid : Prop := treeSizesUptoRow.holds Tryd.pinned (OpenSpec.upto treeSizesSpec)

/-- 'secateurlaw14.StateAnswers', WHERE WHAT IT READS IS OF BULK AT MOST 1048576: true; the input reads as it did. -/
def stateAnswersUptoRow : OpenClaim := { program := "ytlcddhgfkkjhkaadoor", sum := "42dada535120b23bfb1a5a6b3f638028a6864120fb7ddbaece780468915317f3", func := "secateur/secateurlaw14.StateAnswers", spec := "stateAnswers", inPlace := ["math/bits.Add64", "math/bits.Sub64"], unfollowed := true, recurses := true, named := ["math/bits.deBruijn64tab"], apart := false, laid := [("math/bits.deBruijn64tab", laid_math_bits_deBruijn64tab)], narrowed := true }
def StateAnswersUptoSaid : Prop := stateAnswersUptoRow.holds Tryd.pinned (OpenSpec.upto stateAnswersSpec)

/-- 'secateurlaw15.TreeLevels', WHERE WHAT IT READS IS OF BULK AT MOST 1048576: true; the input reads as it did. -/
def treeLevelsUptoRow : OpenClaim := { program := "ytlcddhgfkkjhkaadoor", sum := "42dada535120b23bfb1a5a6b3f638028a6864120fb7ddbaece780468915317f3", func := "secateur/secateurlaw15.TreeLevels", spec := "treeLevels", inPlace := ["math/bits.Add64", "math/bits.Sub64"], unfollowed := true, recurses := true, named := ["math/bits.deBruijn64tab"], apart := false, laid := [("math/bits.deBruijn64tab", laid_math_bits_deBruijn64tab)], narrowed := true }
def TreeLevelsUptoSaid : Prop := treeLevelsUptoRow.holds Tryd.pinned (OpenSpec.upto treeLevelsSpec)

/-- 'secateurlaw15.TreeBest', WHERE WHAT IT READS IS OF BULK AT MOST 1048576: true; the input reads as it did. -/
def treeBestUptoRow : OpenClaim := { program := "ytlcddhgfkkjhkaadoor", sum := "42dada535120b23bfb1a5a6b3f638028a6864120fb7ddbaece780468915317f3", func := "secateur/secateurlaw15.TreeBest", spec := "treeBest", inPlace := ["math/bits.Add64", "math/bits.Sub64"], unfollowed := true, recurses := true, named := ["math/bits.deBruijn64tab"], apart := false, laid := [("math/bits.deBruijn64tab", laid_math_bits_deBruijn64tab)], narrowed := true }
def TreeBestUptoSaid : Prop := treeBestUptoRow.holds Tryd.pinned (OpenSpec.upto treeBestSpec)

end Rows
end Go.Proofs.YtlcddhgfkkjhkaaDoor
