/-
  No cell of these rows narrows 'for every input' (looked for: loops, veiled, ifaces, maps, wideKeys, modest, calm, conditions, laid).
  DERIVED. THE GIVEN ROWS OF THIS SEAT. 4 by the template 'for every input the law returns true; each argument reads behind the call as it read before'; 0 by the template 'total and deterministic' (their statements: YtgecnmjohhmfjaaTotals.lean).
  GIVEN WITH THE SEED: the statements are not yours to turn. If you find one false, say at which input.
  Laid BY PROGRAM, IN A SANDBOX (cutbox-rows.mjs): the forced cells as the released guide's own fill.sh prints them over the translation ff5e14718cc34f11… (all of the seat's roots in one cut). By AI agents, Wed Nov 11 2026. No macro, syntax, notation, axiom, sorry.
-/
import Derived.Test.YtgecnmjohhmfjaaChecked
import GoSem.Claim
import GoSem.ClaimJoined
import GoSem.ClaimMapViews
import Derived.JoinedTies
import Derived.KernelRfl
namespace Go.Proofs.Ytgecnmjohhmfjaa
/- THE CELL 'sum', in the pinned program and in every row, IS THE sha256 OF THE DUMP (.gsa) THAT YtgecnmjohhmfjaaProg.lean LOADS. Nothing in Lean hashes anything: it is a label: what it is worth is what the hold of that sum in a sandbox is worth. -/
noncomputable def Try.pinned : Pinned := { name := "ytgecnmjohhmfjaa", sum := "ff5e14718cc34f115fb40bb43f8e43f3c214c115b5754f9eb7b2337014174a6f", checked := Try.checked }
namespace Rows
def none {H : Type} : Left H := { results := [], args := [] }

/-- 'secateurlaw07.DeheapCuts': WHATEVER THE INPUT: true; the input reads as it did. -/
def deheapCutsSpec : ChangeSpec := { name := "deheapCuts", fn := fun _ => fun
  | [d1, d2, d3] => { results := [.lit (.bool true)], args := [d1, d2, d3] }
  | _ => none }
def deheapCutsRow : OpenClaim := { program := "ytgecnmjohhmfjaa", sum := "ff5e14718cc34f115fb40bb43f8e43f3c214c115b5754f9eb7b2337014174a6f", func := "secateur/secateurlaw07.DeheapCuts", spec := "deheapCuts", unfollowed := true, recurses := true, apart := false }
def DeheapCutsSaid : Prop := deheapCutsRow.holds Try.pinned (OpenSpec.ofChange deheapCutsSpec)

/-- ITS FALSE NEIGHBOUR: 'it returns false'. Refute it at one input. -/
def deheapCutsWrong : ChangeSpec := { name := "deheapCuts", fn := fun _ => fun
  | [d1, d2, d3] => { results := [.lit (.bool false)], args := [d1, d2, d3] }
  | _ => none }
def DeheapCutsWrongFalsely : Prop := deheapCutsRow.holds Try.pinned (OpenSpec.ofChange deheapCutsWrong)

/-- 'secateurlaw07.DeheapMakes': WHATEVER THE INPUT: true; the input reads as it did. -/
def deheapMakesSpec : ChangeSpec := { name := "deheapMakes", fn := fun _ => fun
  | [d1, d2, d3] => { results := [.lit (.bool true)], args := [d1, d2, d3] }
  | _ => none }
def deheapMakesRow : OpenClaim := { program := "ytgecnmjohhmfjaa", sum := "ff5e14718cc34f115fb40bb43f8e43f3c214c115b5754f9eb7b2337014174a6f", func := "secateur/secateurlaw07.DeheapMakes", spec := "deheapMakes", unfollowed := true, recurses := true, apart := false }
def DeheapMakesSaid : Prop := deheapMakesRow.holds Try.pinned (OpenSpec.ofChange deheapMakesSpec)

/-- ITS FALSE NEIGHBOUR: 'it returns false'. Refute it at one input. -/
def deheapMakesWrong : ChangeSpec := { name := "deheapMakes", fn := fun _ => fun
  | [d1, d2, d3] => { results := [.lit (.bool false)], args := [d1, d2, d3] }
  | _ => none }
def DeheapMakesWrongFalsely : Prop := deheapMakesRow.holds Try.pinned (OpenSpec.ofChange deheapMakesWrong)

/-- 'secateurlaw07.DeheapAlike': WHATEVER THE INPUT: true; the input reads as it did. -/
def deheapAlikeSpec : ChangeSpec := { name := "deheapAlike", fn := fun _ => fun
  | [d1, d2] => { results := [.lit (.bool true)], args := [d1, d2] }
  | _ => none }
def deheapAlikeRow : OpenClaim := { program := "ytgecnmjohhmfjaa", sum := "ff5e14718cc34f115fb40bb43f8e43f3c214c115b5754f9eb7b2337014174a6f", func := "secateur/secateurlaw07.DeheapAlike", spec := "deheapAlike", unfollowed := true, recurses := true, apart := false }
def DeheapAlikeSaid : Prop := deheapAlikeRow.holds Try.pinned (OpenSpec.ofChange deheapAlikeSpec)

/-- ITS FALSE NEIGHBOUR: 'it returns false'. Refute it at one input. -/
def deheapAlikeWrong : ChangeSpec := { name := "deheapAlike", fn := fun _ => fun
  | [d1, d2] => { results := [.lit (.bool false)], args := [d1, d2] }
  | _ => none }
def DeheapAlikeWrongFalsely : Prop := deheapAlikeRow.holds Try.pinned (OpenSpec.ofChange deheapAlikeWrong)

/-- 'secateurlaw07.DeheapPlays': WHATEVER THE INPUT: true; the input reads as it did. -/
def deheapPlaysSpec : ChangeSpec := { name := "deheapPlays", fn := fun _ => fun
  | [d1, d2, d3] => { results := [.lit (.bool true)], args := [d1, d2, d3] }
  | _ => none }
def deheapPlaysRow : OpenClaim := { program := "ytgecnmjohhmfjaa", sum := "ff5e14718cc34f115fb40bb43f8e43f3c214c115b5754f9eb7b2337014174a6f", func := "secateur/secateurlaw07.DeheapPlays", spec := "deheapPlays", unfollowed := true, recurses := true, apart := false }
def DeheapPlaysSaid : Prop := deheapPlaysRow.holds Try.pinned (OpenSpec.ofChange deheapPlaysSpec)

/-- ITS FALSE NEIGHBOUR: 'it returns false'. Refute it at one input. -/
def deheapPlaysWrong : ChangeSpec := { name := "deheapPlays", fn := fun _ => fun
  | [d1, d2, d3] => { results := [.lit (.bool false)], args := [d1, d2, d3] }
  | _ => none }
def DeheapPlaysWrongFalsely : Prop := deheapPlaysRow.holds Try.pinned (OpenSpec.ofChange deheapPlaysWrong)

/- THE SECOND FORM. 'bulk': how many values and letters a reading holds, each counted each time it is reached (what is shared counts as often as it is met; a slice's spare places count too). A statement '..UptoSaid' is the law's where the arguments, and the package variables that the reading takes, are together of bulk at most 1048576: NARROWER than '..Said'. Prove '..Said' where nothing that the law and all that it calls make is longer than what came in: it says more and counts as full. Else prove '..UptoSaid'. A law counts once. -/
mutual
def uptoBulk {H : Type} : DataW H → Nat
  | .lit (.string bytes) => bytes.length + 1
  | .lit _ => 1
  | .nil => 1
  | .ptr d => uptoBulk d + 1
  | .slice elems spare => uptoBulkAll elems + uptoBulkAll spare + 1
  | .agg parts => uptoBulkAll parts + 1
  | .iface _ d => uptoBulk d + 1
  | .map entries => uptoBulkEntries entries + 1
  | .held _ => 1
def uptoBulkAll {H : Type} : List (DataW H) → Nat
  | [] => 0
  | d :: r => uptoBulk d + uptoBulkAll r
def uptoBulkEntries {H : Type} : List (Lit × DataW H) → Nat
  | [] => 0
  | x :: r => uptoBulkEntry x + uptoBulkEntries r
def uptoBulkEntry {H : Type} : Lit × DataW H → Nat
  | (.string bytes, d) => bytes.length + uptoBulk d + 1
  | (_, d) => uptoBulk d + 1
 end
def uptoSmall : (H : Type) → List (DataW H) → Bool := fun _ ds => decide (uptoBulkAll ds ≤ 1048576)
def OpenSpec.upto (s : _root_.Go.ChangeSpec) : _root_.Go.OpenSpec := { _root_.Go.OpenSpec.ofChange s with cond := some uptoSmall }

/-- 'secateurlaw07.DeheapCuts', WHERE WHAT IT READS IS OF BULK AT MOST 1048576: true; the input reads as it did. -/
def deheapCutsUptoRow : OpenClaim := { program := "ytgecnmjohhmfjaa", sum := "ff5e14718cc34f115fb40bb43f8e43f3c214c115b5754f9eb7b2337014174a6f", func := "secateur/secateurlaw07.DeheapCuts", spec := "deheapCuts", unfollowed := true, recurses := true, apart := false, narrowed := true }
def DeheapCutsUptoSaid : Prop := deheapCutsUptoRow.holds Try.pinned (OpenSpec.upto deheapCutsSpec)

/-- 'secateurlaw07.DeheapMakes', WHERE WHAT IT READS IS OF BULK AT MOST 1048576: true; the input reads as it did. -/
def deheapMakesUptoRow : OpenClaim := { program := "ytgecnmjohhmfjaa", sum := "ff5e14718cc34f115fb40bb43f8e43f3c214c115b5754f9eb7b2337014174a6f", func := "secateur/secateurlaw07.DeheapMakes", spec := "deheapMakes", unfollowed := true, recurses := true, apart := false, narrowed := true }
def DeheapMakesUptoSaid : Prop := deheapMakesUptoRow.holds Try.pinned (OpenSpec.upto deheapMakesSpec)

/-- 'secateurlaw07.DeheapAlike', WHERE WHAT IT READS IS OF BULK AT MOST 1048576: true; the input reads as it did. -/
def deheapAlikeUptoRow : OpenClaim := { program := "ytgecnmjohhmfjaa", sum := "ff5e14718cc34f115fb40bb43f8e43f3c214c115b5754f9eb7b2337014174a6f", func := "secateur/secateurlaw07.DeheapAlike", spec := "deheapAlike", unfollowed := true, recurses := true, apart := false, narrowed := true }
def DeheapAlikeUptoSaid : Prop := deheapAlikeUptoRow.holds Try.pinned (OpenSpec.upto deheapAlikeSpec)

/-- 'secateurlaw07.DeheapPlays', WHERE WHAT IT READS IS OF BULK AT MOST 1048576: true; the input reads as it did. -/
def deheapPlaysUptoRow : OpenClaim := { program := "ytgecnmjohhmfjaa", sum := "ff5e14718cc34f115fb40bb43f8e43f3c214c115b5754f9eb7b2337014174a6f", func := "secateur/secateurlaw07.DeheapPlays", spec := "deheapPlays", unfollowed := true, recurses := true, apart := false, narrowed := true }
def DeheapPlaysUptoSaid : Prop := deheapPlaysUptoRow.holds Try.pinned (OpenSpec.upto deheapPlaysSpec)

end Rows
end Go.Proofs.Ytgecnmjohhmfjaa
