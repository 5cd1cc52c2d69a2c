/-
  No cell of these rows narrows 'for every input' (looked for: loops, veiled, ifaces, maps, wideKeys, modest, calm, conditions, laid).
  DERIVED. THE GIVEN ROWS OF THIS SEAT. 8 by the template 'for every input the law returns true; each argument reads behind the call as it read before'; 0 by the template 'total and deterministic' (their statements: YtjcncbejnplakaaTotals.lean).
  GIVEN WITH THE SEED: the statements are not yours to turn. If you find one false, say at which input.
  Laid BY PROGRAM, IN A SANDBOX (cutbox-rows.mjs): the forced cells as the released guide's own fill.sh prints them over the translation 99f56ae7573fb789… (all of the seat's roots in one cut). By AI agents, Wed Nov 11 2026. No macro, syntax, notation, axiom, sorry.
-/
import Derived.Test.YtjcncbejnplakaaChecked
import GoSem.Claim
import GoSem.ClaimJoined
import GoSem.ClaimMapViews
import Derived.JoinedTies
import Derived.KernelRfl
namespace Go.Proofs.Ytjcncbejnplakaa
/- THE CELL 'sum', in the pinned program and in every row, IS THE sha256 OF THE DUMP (.gsa) THAT YtjcncbejnplakaaProg.lean LOADS. Nothing in Lean hashes anything: it is a label: what it is worth is what the hold of that sum in a sandbox is worth. -/
noncomputable def Try.pinned : Pinned := { name := "ytjcncbejnplakaa", sum := "99f56ae7573fb789ea58be23ac25b792dcaff3a25d150843da5595097902a1c6", checked := Try.checked }
namespace Rows
def none {H : Type} : Left H := { results := [], args := [] }

/-- 'secateurlaw06.IheapLists': WHATEVER THE INPUT: true; the input reads as it did. -/
def iheapListsSpec : ChangeSpec := { name := "iheapLists", fn := fun _ => fun
  | [d] => { results := [.lit (.bool true)], args := [d] }
  | _ => none }
def iheapListsRow : OpenClaim := { program := "ytjcncbejnplakaa", sum := "99f56ae7573fb789ea58be23ac25b792dcaff3a25d150843da5595097902a1c6", func := "secateur/secateurlaw06.IheapLists", spec := "iheapLists", apart := false }
def IheapListsSaid : Prop := iheapListsRow.holds Try.pinned (OpenSpec.ofChange iheapListsSpec)

/-- ITS FALSE NEIGHBOUR: 'it returns false'. Refute it at one input. -/
def iheapListsWrong : ChangeSpec := { name := "iheapLists", fn := fun _ => fun
  | [d] => { results := [.lit (.bool false)], args := [d] }
  | _ => none }
def IheapListsWrongFalsely : Prop := iheapListsRow.holds Try.pinned (OpenSpec.ofChange iheapListsWrong)

/-- 'secateurlaw06.IheapPlays': WHATEVER THE INPUT: true; the input reads as it did. -/
def iheapPlaysSpec : ChangeSpec := { name := "iheapPlays", fn := fun _ => fun
  | [d1, d2] => { results := [.lit (.bool true)], args := [d1, d2] }
  | _ => none }
def iheapPlaysRow : OpenClaim := { program := "ytjcncbejnplakaa", sum := "99f56ae7573fb789ea58be23ac25b792dcaff3a25d150843da5595097902a1c6", func := "secateur/secateurlaw06.IheapPlays", spec := "iheapPlays", apart := false }
def IheapPlaysSaid : Prop := iheapPlaysRow.holds Try.pinned (OpenSpec.ofChange iheapPlaysSpec)

/-- ITS FALSE NEIGHBOUR: 'it returns false'. Refute it at one input. -/
def iheapPlaysWrong : ChangeSpec := { name := "iheapPlays", fn := fun _ => fun
  | [d1, d2] => { results := [.lit (.bool false)], args := [d1, d2] }
  | _ => none }
def IheapPlaysWrongFalsely : Prop := iheapPlaysRow.holds Try.pinned (OpenSpec.ofChange iheapPlaysWrong)

/-- 'secateurlaw06.IheapNone': WHATEVER THE INPUT: true; the input reads as it did. -/
def iheapNoneSpec : ChangeSpec := { name := "iheapNone", fn := fun _ => fun
  | [d] => { results := [.lit (.bool true)], args := [d] }
  | _ => none }
def iheapNoneRow : OpenClaim := { program := "ytjcncbejnplakaa", sum := "99f56ae7573fb789ea58be23ac25b792dcaff3a25d150843da5595097902a1c6", func := "secateur/secateurlaw06.IheapNone", spec := "iheapNone", apart := false }
def IheapNoneSaid : Prop := iheapNoneRow.holds Try.pinned (OpenSpec.ofChange iheapNoneSpec)

/-- ITS FALSE NEIGHBOUR: 'it returns false'. Refute it at one input. -/
def iheapNoneWrong : ChangeSpec := { name := "iheapNone", fn := fun _ => fun
  | [d] => { results := [.lit (.bool false)], args := [d] }
  | _ => none }
def IheapNoneWrongFalsely : Prop := iheapNoneRow.holds Try.pinned (OpenSpec.ofChange iheapNoneWrong)

/-- 'secateurlaw05.MmheapLists': WHATEVER THE INPUT: true; the input reads as it did. -/
def mmheapListsSpec : ChangeSpec := { name := "mmheapLists", fn := fun _ => fun
  | [d] => { results := [.lit (.bool true)], args := [d] }
  | _ => none }
def mmheapListsRow : OpenClaim := { program := "ytjcncbejnplakaa", sum := "99f56ae7573fb789ea58be23ac25b792dcaff3a25d150843da5595097902a1c6", func := "secateur/secateurlaw05.MmheapLists", spec := "mmheapLists", apart := false }
def MmheapListsSaid : Prop := mmheapListsRow.holds Try.pinned (OpenSpec.ofChange mmheapListsSpec)

/-- ITS FALSE NEIGHBOUR: 'it returns false'. Refute it at one input. -/
def mmheapListsWrong : ChangeSpec := { name := "mmheapLists", fn := fun _ => fun
  | [d] => { results := [.lit (.bool false)], args := [d] }
  | _ => none }
def MmheapListsWrongFalsely : Prop := mmheapListsRow.holds Try.pinned (OpenSpec.ofChange mmheapListsWrong)

/-- 'secateurlaw05.MmheapPlays': WHATEVER THE INPUT: true; the input reads as it did. -/
def mmheapPlaysSpec : ChangeSpec := { name := "mmheapPlays", fn := fun _ => fun
  | [d1, d2] => { results := [.lit (.bool true)], args := [d1, d2] }
  | _ => none }
def mmheapPlaysRow : OpenClaim := { program := "ytjcncbejnplakaa", sum := "99f56ae7573fb789ea58be23ac25b792dcaff3a25d150843da5595097902a1c6", func := "secateur/secateurlaw05.MmheapPlays", spec := "mmheapPlays", apart := false }
def MmheapPlaysSaid : Prop := mmheapPlaysRow.holds Try.pinned (OpenSpec.ofChange mmheapPlaysSpec)

/-- ITS FALSE NEIGHBOUR: 'it returns false'. Refute it at one input. -/
def mmheapPlaysWrong : ChangeSpec := { name := "mmheapPlays", fn := fun _ => fun
  | [d1, d2] => { results := [.lit (.bool false)], args := [d1, d2] }
  | _ => none }
def MmheapPlaysWrongFalsely : Prop := mmheapPlaysRow.holds Try.pinned (OpenSpec.ofChange mmheapPlaysWrong)

/-- 'secateurlaw05.MmheapNone': WHATEVER THE INPUT: true; the input reads as it did. -/
def mmheapNoneSpec : ChangeSpec := { name := "mmheapNone", fn := fun _ => fun
  | [d] => { results := [.lit (.bool true)], args := [d] }
  | _ => none }
def mmheapNoneRow : OpenClaim := { program := "ytjcncbejnplakaa", sum := "99f56ae7573fb789ea58be23ac25b792dcaff3a25d150843da5595097902a1c6", func := "secateur/secateurlaw05.MmheapNone", spec := "mmheapNone", apart := false }
def MmheapNoneSaid : Prop := mmheapNoneRow.holds Try.pinned (OpenSpec.ofChange mmheapNoneSpec)

/-- ITS FALSE NEIGHBOUR: 'it returns false'. Refute it at one input. -/
def mmheapNoneWrong : ChangeSpec := { name := "mmheapNone", fn := fun _ => fun
  | [d] => { results := [.lit (.bool false)], args := [d] }
  | _ => none }
def MmheapNoneWrongFalsely : Prop := mmheapNoneRow.holds Try.pinned (OpenSpec.ofChange mmheapNoneWrong)

/-- 'secateurlaw06.IheapSorts': WHATEVER THE INPUT: true; the input reads as it did. -/
def iheapSortsSpec : ChangeSpec := { name := "iheapSorts", fn := fun _ => fun
  | [d1, d2] => { results := [.lit (.bool true)], args := [d1, d2] }
  | _ => none }
def iheapSortsRow : OpenClaim := { program := "ytjcncbejnplakaa", sum := "99f56ae7573fb789ea58be23ac25b792dcaff3a25d150843da5595097902a1c6", func := "secateur/secateurlaw06.IheapSorts", spec := "iheapSorts", unfollowed := true, recurses := true, apart := false }
def IheapSortsSaid : Prop := iheapSortsRow.holds Try.pinned (OpenSpec.ofChange iheapSortsSpec)

/-- ITS FALSE NEIGHBOUR: 'it returns false'. Refute it at one input. -/
def iheapSortsWrong : ChangeSpec := { name := "iheapSorts", fn := fun _ => fun
  | [d1, d2] => { results := [.lit (.bool false)], args := [d1, d2] }
  | _ => none }
def IheapSortsWrongFalsely : Prop := iheapSortsRow.holds Try.pinned (OpenSpec.ofChange iheapSortsWrong)

/-- 'secateurlaw05.MmheapSorts': WHATEVER THE INPUT: true; the input reads as it did. -/
def mmheapSortsSpec : ChangeSpec := { name := "mmheapSorts", fn := fun _ => fun
  | [d1, d2] => { results := [.lit (.bool true)], args := [d1, d2] }
  | _ => none }
def mmheapSortsRow : OpenClaim := { program := "ytjcncbejnplakaa", sum := "99f56ae7573fb789ea58be23ac25b792dcaff3a25d150843da5595097902a1c6", func := "secateur/secateurlaw05.MmheapSorts", spec := "mmheapSorts", unfollowed := true, recurses := true, apart := false }
def MmheapSortsSaid : Prop := mmheapSortsRow.holds Try.pinned (OpenSpec.ofChange mmheapSortsSpec)

/-- ITS FALSE NEIGHBOUR: 'it returns false'. Refute it at one input. -/
def mmheapSortsWrong : ChangeSpec := { name := "mmheapSorts", fn := fun _ => fun
  | [d1, d2] => { results := [.lit (.bool false)], args := [d1, d2] }
  | _ => none }
def MmheapSortsWrongFalsely : Prop := mmheapSortsRow.holds Try.pinned (OpenSpec.ofChange mmheapSortsWrong)

/- THE SECOND FORM. 'bulk': how many values and letters a reading holds, each counted each time it is reached (what is shared counts as often as it is met; a slice's spare places count too). A statement '..UptoSaid' is the law's where the arguments, and the package variables that the reading takes, are together of bulk at most 1048576: NARROWER than '..Said'. Prove '..Said' where nothing that the law and all that it calls make is longer than what came in: it says more and counts as full. Else prove '..UptoSaid'. A law counts once. -/
mutual
def uptoBulk {H : Type} : DataW H → Nat
  | .lit (.string bytes) => bytes.length + 1
  | .lit _ => 1
  | .nil => 1
  | .ptr d => uptoBulk d + 1
  | .slice elems spare => uptoBulkAll elems + uptoBulkAll spare + 1
  | .agg parts => uptoBulkAll parts + 1
  | .iface _ d => uptoBulk d + 1
  | .map entries => uptoBulkEntries entries + 1
  | .held _ => 1
def uptoBulkAll {H : Type} : List (DataW H) → Nat
  | [] => 0
  | d :: r => uptoBulk d + uptoBulkAll r
def uptoBulkEntries {H : Type} : List (Lit × DataW H) → Nat
  | [] => 0
  | x :: r => uptoBulkEntry x + uptoBulkEntries r
def uptoBulkEntry {H : Type} : Lit × DataW H → Nat
  | (.string bytes, d) => bytes.length + uptoBulk d + 1
  | (_, d) => uptoBulk d + 1
 end
def uptoSmall : (H : Type) → List (DataW H) → Bool := fun _ ds => decide (uptoBulkAll ds ≤ 1048576)
def OpenSpec.upto (s : _root_.Go.ChangeSpec) : _root_.Go.OpenSpec := { _root_.Go.OpenSpec.ofChange s with cond := some uptoSmall }

/-- 'secateurlaw06.IheapLists', WHERE WHAT IT READS IS OF BULK AT MOST 1048576: true; the input reads as it did. -/
def iheapListsUptoRow : OpenClaim := { program := "ytjcncbejnplakaa", sum := "99f56ae7573fb789ea58be23ac25b792dcaff3a25d150843da5595097902a1c6", func := "secateur/secateurlaw06.IheapLists", spec := "iheapLists", apart := false, narrowed := true }
def IheapListsUptoSaid : Prop := iheapListsUptoRow.holds Try.pinned (OpenSpec.upto iheapListsSpec)

/-- 'secateurlaw06.IheapPlays', WHERE WHAT IT READS IS OF BULK AT MOST 1048576: true; the input reads as it did. -/
def iheapPlaysUptoRow : OpenClaim := { program := "ytjcncbejnplakaa", sum := "99f56ae7573fb789ea58be23ac25b792dcaff3a25d150843da5595097902a1c6", func := "secateur/secateurlaw06.IheapPlays", spec := "iheapPlays", apart := false, narrowed := true }
def IheapPlaysUptoSaid : Prop := iheapPlaysUptoRow.holds Try.pinned (OpenSpec.upto iheapPlaysSpec)

/-- 'secateurlaw06.IheapNone', WHERE WHAT IT READS IS OF BULK AT MOST 1048576: true; the input reads as it did. -/
def iheapNoneUptoRow : OpenClaim := { program := "ytjcncbejnplakaa", sum := "99f56ae7573fb789ea58be23ac25b792dcaff3a25d150843da5595097902a1c6", func := "secateur/secateurlaw06.IheapNone", spec := "iheapNone", apart := false, narrowed := true }
def IheapNoneUptoSaid : Prop := iheapNoneUptoRow.holds Try.pinned (OpenSpec.upto iheapNoneSpec)

/-- 'secateurlaw05.MmheapLists', WHERE WHAT IT READS IS OF BULK AT MOST 1048576: true; the input reads as it did. -/
def mmheapListsUptoRow : OpenClaim := { program := "ytjcncbejnplakaa", sum := "99f56ae7573fb789ea58be23ac25b792dcaff3a25d150843da5595097902a1c6", func := "secateur/secateurlaw05.MmheapLists", spec := "mmheapLists", apart := false, narrowed := true }
def MmheapListsUptoSaid : Prop := mmheapListsUptoRow.holds Try.pinned (OpenSpec.upto mmheapListsSpec)

/-- 'secateurlaw05.MmheapPlays', WHERE WHAT IT READS IS OF BULK AT MOST 1048576: true; the input reads as it did. -/
def mmheapPlaysUptoRow : OpenClaim := { program := "ytjcncbejnplakaa", sum := "99f56ae7573fb789ea58be23ac25b792dcaff3a25d150843da5595097902a1c6", func := "secateur/secateurlaw05.MmheapPlays", spec := "mmheapPlays", apart := false, narrowed := true }
def MmheapPlaysUptoSaid : Prop := mmheapPlaysUptoRow.holds Try.pinned (OpenSpec.upto mmheapPlaysSpec)

/-- 'secateurlaw05.MmheapNone', WHERE WHAT IT READS IS OF BULK AT MOST 1048576: true; the input reads as it did. -/
def mmheapNoneUptoRow : OpenClaim := { program := "ytjcncbejnplakaa", sum := "99f56ae7573fb789ea58be23ac25b792dcaff3a25d150843da5595097902a1c6", func := "secateur/secateurlaw05.MmheapNone", spec := "mmheapNone", apart := false, narrowed := true }
def MmheapNoneUptoSaid : Prop := mmheapNoneUptoRow.holds Try.pinned (OpenSpec.upto mmheapNoneSpec)

/-- 'secateurlaw06.IheapSorts', WHERE WHAT IT READS IS OF BULK AT MOST 1048576: true; the input reads as it did. -/
def iheapSortsUptoRow : OpenClaim := { program := "ytjcncbejnplakaa", sum := "99f56ae7573fb789ea58be23ac25b792dcaff3a25d150843da5595097902a1c6", func := "secateur/secateurlaw06.IheapSorts", spec := "iheapSorts", unfollowed := true, recurses := true, apart := false, narrowed := true }
def IheapSortsUptoSaid : Prop := iheapSortsUptoRow.holds Try.pinned (OpenSpec.upto iheapSortsSpec)

/-- 'secateurlaw05.MmheapSorts', WHERE WHAT IT READS IS OF BULK AT MOST 1048576: true; the input reads as it did. -/
def mmheapSortsUptoRow : OpenClaim := { program := "ytjcncbejnplakaa", sum := "99f56ae7573fb789ea58be23ac25b792dcaff3a25d150843da5595097902a1c6", func := "secateur/secateurlaw05.MmheapSorts", spec := "mmheapSorts", unfollowed := true, recurses := true, apart := false, narrowed := true }
def MmheapSortsUptoSaid : Prop := mmheapSortsUptoRow.holds Try.pinned (OpenSpec.upto mmheapSortsSpec)

end Rows
end Go.Proofs.Ytjcncbejnplakaa
