/-
  No cell of these rows narrows 'for every input' (looked for: loops, veiled, ifaces, maps, wideKeys, modest, calm, conditions, laid).
  DERIVED. THE GIVEN ROWS OF THIS SEAT. 6 by the template 'for every input the law returns true; each argument reads behind the call as it read before'; 0 by the template 'total and deterministic' (their statements: YtlcddhgfkkjhkaaTotals.lean).
  GIVEN WITH THE SEED: the statements are not yours to turn. If you find one false, say at which input.
  Laid BY PROGRAM, IN A SANDBOX (cutbox-rows.mjs): the forced cells as the released guide's own fill.sh prints them over the translation a5b12cdcbf5340f1… (all of the seat's roots in one cut). By AI agents, Wed Nov 11 2026. No macro, syntax, notation, axiom, sorry.
-/
import Derived.Test.YtlcddhgfkkjhkaaChecked
import GoSem.Claim
import GoSem.ClaimJoined
import GoSem.ClaimMapViews
import Derived.JoinedTies
import Derived.KernelRfl
namespace Go.Proofs.Ytlcddhgfkkjhkaa
/- THE CELL 'sum', in the pinned program and in every row, IS THE sha256 OF THE DUMP (.gsa) THAT YtlcddhgfkkjhkaaProg.lean LOADS. Nothing in Lean hashes anything: it is a label: what it is worth is what the hold of that sum in a sandbox is worth. -/
noncomputable def Try.pinned : Pinned := { name := "ytlcddhgfkkjhkaa", sum := "a5b12cdcbf5340f1664a84847292a96734dc568c9c8de42630e193ca28a8bdc7", checked := Try.checked }
namespace Rows
def none {H : Type} : Left H := { results := [], args := [] }

/-- 'secateurlaw13.BruteLists': WHATEVER THE INPUT: true; the input reads as it did. -/
def bruteListsSpec : ChangeSpec := { name := "bruteLists", fn := fun _ => fun
  | [d] => { results := [.lit (.bool true)], args := [d] }
  | _ => none }
def bruteListsRow : OpenClaim := { program := "ytlcddhgfkkjhkaa", sum := "a5b12cdcbf5340f1664a84847292a96734dc568c9c8de42630e193ca28a8bdc7", func := "secateur/secateurlaw13.BruteLists", spec := "bruteLists", inPlace := ["math/bits.Add64", "math/bits.Sub64"], unfollowed := true, recurses := true, apart := false }
def BruteListsSaid : Prop := bruteListsRow.holds Try.pinned (OpenSpec.ofChange bruteListsSpec)

/-- ITS FALSE NEIGHBOUR: 'it returns false'. Refute it at one input. -/
def bruteListsWrong : ChangeSpec := { name := "bruteLists", fn := fun _ => fun
  | [d] => { results := [.lit (.bool false)], args := [d] }
  | _ => none }
def BruteListsWrongFalsely : Prop := bruteListsRow.holds Try.pinned (OpenSpec.ofChange bruteListsWrong)

/-- 'secateurlaw13.BruteBest': WHATEVER THE INPUT: true; the input reads as it did. -/
def bruteBestSpec : ChangeSpec := { name := "bruteBest", fn := fun _ => fun
  | [d] => { results := [.lit (.bool true)], args := [d] }
  | _ => none }
def bruteBestRow : OpenClaim := { program := "ytlcddhgfkkjhkaa", sum := "a5b12cdcbf5340f1664a84847292a96734dc568c9c8de42630e193ca28a8bdc7", func := "secateur/secateurlaw13.BruteBest", spec := "bruteBest", inPlace := ["math/bits.Add64", "math/bits.Sub64"], unfollowed := true, recurses := true, apart := false }
def BruteBestSaid : Prop := bruteBestRow.holds Try.pinned (OpenSpec.ofChange bruteBestSpec)

/-- ITS FALSE NEIGHBOUR: 'it returns false'. Refute it at one input. -/
def bruteBestWrong : ChangeSpec := { name := "bruteBest", fn := fun _ => fun
  | [d] => { results := [.lit (.bool false)], args := [d] }
  | _ => none }
def BruteBestWrongFalsely : Prop := bruteBestRow.holds Try.pinned (OpenSpec.ofChange bruteBestWrong)

/-- 'secateurlaw13.BruteLeast': WHATEVER THE INPUT: true; the input reads as it did. -/
def bruteLeastSpec : ChangeSpec := { name := "bruteLeast", fn := fun _ => fun
  | [d1, d2] => { results := [.lit (.bool true)], args := [d1, d2] }
  | _ => none }
def bruteLeastRow : OpenClaim := { program := "ytlcddhgfkkjhkaa", sum := "a5b12cdcbf5340f1664a84847292a96734dc568c9c8de42630e193ca28a8bdc7", func := "secateur/secateurlaw13.BruteLeast", spec := "bruteLeast", inPlace := ["math/bits.Add64", "math/bits.Sub64"], unfollowed := true, recurses := true, apart := false }
def BruteLeastSaid : Prop := bruteLeastRow.holds Try.pinned (OpenSpec.ofChange bruteLeastSpec)

/-- ITS FALSE NEIGHBOUR: 'it returns false'. Refute it at one input. -/
def bruteLeastWrong : ChangeSpec := { name := "bruteLeast", fn := fun _ => fun
  | [d1, d2] => { results := [.lit (.bool false)], args := [d1, d2] }
  | _ => none }
def BruteLeastWrongFalsely : Prop := bruteLeastRow.holds Try.pinned (OpenSpec.ofChange bruteLeastWrong)

/-- 'secateurlaw13.BruteOver': WHATEVER THE INPUT: true; the input reads as it did. -/
def bruteOverSpec : ChangeSpec := { name := "bruteOver", fn := fun _ => fun
  | [d1, d2] => { results := [.lit (.bool true)], args := [d1, d2] }
  | _ => none }
def bruteOverRow : OpenClaim := { program := "ytlcddhgfkkjhkaa", sum := "a5b12cdcbf5340f1664a84847292a96734dc568c9c8de42630e193ca28a8bdc7", func := "secateur/secateurlaw13.BruteOver", spec := "bruteOver", inPlace := ["math/bits.Add64", "math/bits.Sub64"], unfollowed := true, recurses := true, apart := false }
def BruteOverSaid : Prop := bruteOverRow.holds Try.pinned (OpenSpec.ofChange bruteOverSpec)

/-- ITS FALSE NEIGHBOUR: 'it returns false'. Refute it at one input. -/
def bruteOverWrong : ChangeSpec := { name := "bruteOver", fn := fun _ => fun
  | [d1, d2] => { results := [.lit (.bool false)], args := [d1, d2] }
  | _ => none }
def BruteOverWrongFalsely : Prop := bruteOverRow.holds Try.pinned (OpenSpec.ofChange bruteOverWrong)

/-- 'secateurlaw13.BruteRanks': WHATEVER THE INPUT: true; the input reads as it did. -/
def bruteRanksSpec : ChangeSpec := { name := "bruteRanks", fn := fun _ => fun
  | [d1, d2, d3] => { results := [.lit (.bool true)], args := [d1, d2, d3] }
  | _ => none }
def bruteRanksRow : OpenClaim := { program := "ytlcddhgfkkjhkaa", sum := "a5b12cdcbf5340f1664a84847292a96734dc568c9c8de42630e193ca28a8bdc7", func := "secateur/secateurlaw13.BruteRanks", spec := "bruteRanks", inPlace := ["math/bits.Add64", "math/bits.Sub64"], unfollowed := true, recurses := true, apart := false }
def BruteRanksSaid : Prop := bruteRanksRow.holds Try.pinned (OpenSpec.ofChange bruteRanksSpec)

/-- ITS FALSE NEIGHBOUR: 'it returns false'. Refute it at one input. -/
def bruteRanksWrong : ChangeSpec := { name := "bruteRanks", fn := fun _ => fun
  | [d1, d2, d3] => { results := [.lit (.bool false)], args := [d1, d2, d3] }
  | _ => none }
def BruteRanksWrongFalsely : Prop := bruteRanksRow.holds Try.pinned (OpenSpec.ofChange bruteRanksWrong)

/-- 'secateurlaw13.BruteFar': WHATEVER THE INPUT: true; the input reads as it did. -/
def bruteFarSpec : ChangeSpec := { name := "bruteFar", fn := fun _ => fun
  | [d1, d2] => { results := [.lit (.bool true)], args := [d1, d2] }
  | _ => none }
def bruteFarRow : OpenClaim := { program := "ytlcddhgfkkjhkaa", sum := "a5b12cdcbf5340f1664a84847292a96734dc568c9c8de42630e193ca28a8bdc7", func := "secateur/secateurlaw13.BruteFar", spec := "bruteFar", inPlace := ["math/bits.Add64", "math/bits.Sub64"], unfollowed := true, recurses := true, apart := false }
def BruteFarSaid : Prop := bruteFarRow.holds Try.pinned (OpenSpec.ofChange bruteFarSpec)

/-- ITS FALSE NEIGHBOUR: 'it returns false'. Refute it at one input. -/
def bruteFarWrong : ChangeSpec := { name := "bruteFar", fn := fun _ => fun
  | [d1, d2] => { results := [.lit (.bool false)], args := [d1, d2] }
  | _ => none }
def BruteFarWrongFalsely : Prop := bruteFarRow.holds Try.pinned (OpenSpec.ofChange bruteFarWrong)

/- THE SECOND FORM. 'bulk': how many values and letters a reading holds, each counted each time it is reached (what is shared counts as often as it is met; a slice's spare places count too). A statement '..UptoSaid' is the law's where the arguments, and the package variables that the reading takes, are together of bulk at most 1048576: NARROWER than '..Said'. Prove '..Said' where nothing that the law and all that it calls make is longer than what came in: it says more and counts as full. Else prove '..UptoSaid'. A law counts once. -/
mutual
def uptoBulk {H : Type} : DataW H → Nat
  | .lit (.string bytes) => bytes.length + 1
  | .lit _ => 1
  | .nil => 1
  | .ptr d => uptoBulk d + 1
  | .slice elems spare => uptoBulkAll elems + uptoBulkAll spare + 1
  | .agg parts => uptoBulkAll parts + 1
  | .iface _ d => uptoBulk d + 1
  | .map entries => uptoBulkEntries entries + 1
  | .held _ => 1
def uptoBulkAll {H : Type} : List (DataW H) → Nat
  | [] => 0
  | d :: r => uptoBulk d + uptoBulkAll r
def uptoBulkEntries {H : Type} : List (Lit × DataW H) → Nat
  | [] => 0
  | x :: r => uptoBulkEntry x + uptoBulkEntries r
def uptoBulkEntry {H : Type} : Lit × DataW H → Nat
  | (.string bytes, d) => bytes.length + uptoBulk d + 1
  | (_, d) => uptoBulk d + 1
 end
def uptoSmall : (H : Type) → List (DataW H) → Bool := fun _ ds => decide (uptoBulkAll ds ≤ 1048576)
def OpenSpec.upto (s : _root_.Go.ChangeSpec) : _root_.Go.OpenSpec := { _root_.Go.OpenSpec.ofChange s with cond := some uptoSmall }

/-- 'secateurlaw13.BruteLists', WHERE WHAT IT READS IS OF BULK AT MOST 1048576: true; the input reads as it did. -/
def bruteListsUptoRow : OpenClaim := { program := "ytlcddhgfkkjhkaa", sum := "a5b12cdcbf5340f1664a84847292a96734dc568c9c8de42630e193ca28a8bdc7", func := "secateur/secateurlaw13.BruteLists", spec := "bruteLists", inPlace := ["math/bits.Add64", "math/bits.Sub64"], unfollowed := true, recurses := true, apart := false, narrowed := true }
def BruteListsUptoSaid : Prop := bruteListsUptoRow.holds Try.pinned (OpenSpec.upto bruteListsSpec)

/-- 'secateurlaw13.BruteBest', WHERE WHAT IT READS IS OF BULK AT MOST 1048576: true; the input reads as it did. -/
def bruteBestUptoRow : OpenClaim := { program := "ytlcddhgfkkjhkaa", sum := "a5b12cdcbf5340f1664a84847292a96734dc568c9c8de42630e193ca28a8bdc7", func := "secateur/secateurlaw13.BruteBest", spec := "bruteBest", inPlace := ["math/bits.Add64", "math/bits.Sub64"], unfollowed := true, recurses := true, apart := false, narrowed := true }
def BruteBestUptoSaid : Prop := bruteBestUptoRow.holds Try.pinned (OpenSpec.upto bruteBestSpec)

/-- 'secateurlaw13.BruteLeast', WHERE WHAT IT READS IS OF BULK AT MOST 1048576: true; the input reads as it did. -/
def bruteLeastUptoRow : OpenClaim := { program := "ytlcddhgfkkjhkaa", sum := "a5b12cdcbf5340f1664a84847292a96734dc568c9c8de42630e193ca28a8bdc7", func := "secateur/secateurlaw13.BruteLeast", spec := "bruteLeast", inPlace := ["math/bits.Add64", "math/bits.Sub64"], unfollowed := true, recurses := true, apart := false, narrowed := true }
def BruteLeastUptoSaid : Prop := bruteLeastUptoRow.holds Try.pinned (OpenSpec.upto bruteLeastSpec)

/-- 'secateurlaw13.BruteOver', WHERE WHAT IT READS IS OF BULK AT MOST 1048576: true; the input reads as it did. -/
def bruteOverUptoRow : OpenClaim := { program := "ytlcddhgfkkjhkaa", sum := "a5b12cdcbf5340f1664a84847292a96734dc568c9c8de42630e193ca28a8bdc7", func := "secateur/secateurlaw13.BruteOver", spec := "bruteOver", inPlace := ["math/bits.Add64", "math/bits.Sub64"], unfollowed := true, recurses := true, apart := false, narrowed := true }
def BruteOverUptoSaid : Prop := bruteOverUptoRow.holds Try.pinned (OpenSpec.upto bruteOverSpec)

/-- 'secateurlaw13.BruteRanks', WHERE WHAT IT READS IS OF BULK AT MOST 1048576: true; the input reads as it did. -/
def bruteRanksUptoRow : OpenClaim := { program := "ytlcddhgfkkjhkaa", sum := "a5b12cdcbf5340f1664a84847292a96734dc568c9c8de42630e193ca28a8bdc7", func := "secateur/secateurlaw13.BruteRanks", spec := "bruteRanks", inPlace := ["math/bits.Add64", "math/bits.Sub64"], unfollowed := true, recurses := true, apart := false, narrowed := true }
def BruteRanksUptoSaid : Prop := bruteRanksUptoRow.holds Try.pinned (OpenSpec.upto bruteRanksSpec)

/-- 'secateurlaw13.BruteFar', WHERE WHAT IT READS IS OF BULK AT MOST 1048576: true; the input reads as it did. -/
def bruteFarUptoRow : OpenClaim := { program := "ytlcddhgfkkjhkaa", sum := "a5b12cdcbf5340f1664a84847292a96734dc568c9c8de42630e193ca28a8bdc7", func := "secateur/secateurlaw13.BruteFar", spec := "bruteFar", inPlace := ["math/bits.Add64", "math/bits.Sub64"], unfollowed := true, recurses := true, apart := false, narrowed := true }
def BruteFarUptoSaid : Prop := bruteFarUptoRow.holds Try.pinned (OpenSpec.upto bruteFarSpec)

end Rows
end Go.Proofs.Ytlcddhgfkkjhkaa
