/-
  No cell of these rows narrows 'for every input' (looked for: loops, veiled, ifaces, maps, wideKeys, modest, calm, conditions, laid).
  DERIVED. THE GIVEN ROWS OF THIS SEAT. 7 by the template 'for every input the law returns true; each argument reads behind the call as it read before'; 0 by the template 'total and deterministic' (their statements: YtecbphbnacbepaaTotals.lean).
  GIVEN WITH THE SEED: the statements are not yours to turn. If you find one false, say at which input.
  Laid BY PROGRAM, IN A SANDBOX (cutbox-rows.mjs): the forced cells as the released guide's own fill.sh prints them over the translation 5b5056badd35bad4… (all of the seat's roots in one cut). By AI agents, Wed Nov 11 2026. No macro, syntax, notation, axiom, sorry.
-/
import Derived.Test.YtecbphbnacbepaaChecked
import GoSem.Claim
import GoSem.ClaimJoined
import GoSem.ClaimMapViews
import Derived.JoinedTies
import Derived.KernelRfl
namespace Go.Proofs.Ytecbphbnacbepaa
/- THE CELL 'sum', in the pinned program and in every row, IS THE sha256 OF THE DUMP (.gsa) THAT YtecbphbnacbepaaProg.lean LOADS. Nothing in Lean hashes anything: it is a label: what it is worth is what the hold of that sum in a sandbox is worth. -/
noncomputable def Try.pinned : Pinned := { name := "ytecbphbnacbepaa", sum := "5b5056badd35bad47cd700815b1985f5b87fb01560936fc85ecea91ab875b8ea", checked := Try.checked }
namespace Rows
def none {H : Type} : Left H := { results := [], args := [] }

/-- 'cretulalaw09.ElementTags': WHATEVER THE INPUT: true; the input reads as it did. -/
def elementTagsSpec : ChangeSpec := { name := "elementTags", fn := fun _ => fun
  | [d1, d2, d3] => { results := [.lit (.bool true)], args := [d1, d2, d3] }
  | _ => none }
def elementTagsRow : OpenClaim := { program := "ytecbphbnacbepaa", sum := "5b5056badd35bad47cd700815b1985f5b87fb01560936fc85ecea91ab875b8ea", func := "cretula/cretulalaw09.ElementTags", spec := "elementTags", inPlace := ["internal/abi.NoEscape", "internal/bytealg.MakeNoZero"], unfollowed := true, recurses := true, apart := false }
def ElementTagsSaid : Prop := elementTagsRow.holds Try.pinned (OpenSpec.ofChange elementTagsSpec)

/-- ITS FALSE NEIGHBOUR: 'it returns false'. Refute it at one input. -/
def elementTagsWrong : ChangeSpec := { name := "elementTags", fn := fun _ => fun
  | [d1, d2, d3] => { results := [.lit (.bool false)], args := [d1, d2, d3] }
  | _ => none }
def ElementTagsWrongFalsely : Prop := elementTagsRow.holds Try.pinned (OpenSpec.ofChange elementTagsWrong)

/-- 'cretulalaw09.ElementOne': WHATEVER THE INPUT: true; the input reads as it did. -/
def elementOneSpec : ChangeSpec := { name := "elementOne", fn := fun _ => fun
  | [d] => { results := [.lit (.bool true)], args := [d] }
  | _ => none }
def elementOneRow : OpenClaim := { program := "ytecbphbnacbepaa", sum := "5b5056badd35bad47cd700815b1985f5b87fb01560936fc85ecea91ab875b8ea", func := "cretula/cretulalaw09.ElementOne", spec := "elementOne", inPlace := ["internal/abi.NoEscape", "internal/bytealg.MakeNoZero"], unfollowed := true, recurses := true, apart := false }
def ElementOneSaid : Prop := elementOneRow.holds Try.pinned (OpenSpec.ofChange elementOneSpec)

/-- ITS FALSE NEIGHBOUR: 'it returns false'. Refute it at one input. -/
def elementOneWrong : ChangeSpec := { name := "elementOne", fn := fun _ => fun
  | [d] => { results := [.lit (.bool false)], args := [d] }
  | _ => none }
def ElementOneWrongFalsely : Prop := elementOneRow.holds Try.pinned (OpenSpec.ofChange elementOneWrong)

/-- 'cretulalaw09.ElementWraps': WHATEVER THE INPUT: true; the input reads as it did. -/
def elementWrapsSpec : ChangeSpec := { name := "elementWraps", fn := fun _ => fun
  | [d1, d2, d3] => { results := [.lit (.bool true)], args := [d1, d2, d3] }
  | _ => none }
def elementWrapsRow : OpenClaim := { program := "ytecbphbnacbepaa", sum := "5b5056badd35bad47cd700815b1985f5b87fb01560936fc85ecea91ab875b8ea", func := "cretula/cretulalaw09.ElementWraps", spec := "elementWraps", inPlace := ["internal/abi.NoEscape", "internal/bytealg.MakeNoZero"], unfollowed := true, recurses := true, apart := false }
def ElementWrapsSaid : Prop := elementWrapsRow.holds Try.pinned (OpenSpec.ofChange elementWrapsSpec)

/-- ITS FALSE NEIGHBOUR: 'it returns false'. Refute it at one input. -/
def elementWrapsWrong : ChangeSpec := { name := "elementWraps", fn := fun _ => fun
  | [d1, d2, d3] => { results := [.lit (.bool false)], args := [d1, d2, d3] }
  | _ => none }
def ElementWrapsWrongFalsely : Prop := elementWrapsRow.holds Try.pinned (OpenSpec.ofChange elementWrapsWrong)

/-- 'cretulalaw09.ElementLists': WHATEVER THE INPUT: true; the input reads as it did. -/
def elementListsSpec : ChangeSpec := { name := "elementLists", fn := fun _ => fun
  | [d1, d2, d3] => { results := [.lit (.bool true)], args := [d1, d2, d3] }
  | _ => none }
def elementListsRow : OpenClaim := { program := "ytecbphbnacbepaa", sum := "5b5056badd35bad47cd700815b1985f5b87fb01560936fc85ecea91ab875b8ea", func := "cretula/cretulalaw09.ElementLists", spec := "elementLists", inPlace := ["internal/abi.NoEscape", "internal/bytealg.MakeNoZero"], unfollowed := true, recurses := true, apart := false }
def ElementListsSaid : Prop := elementListsRow.holds Try.pinned (OpenSpec.ofChange elementListsSpec)

/-- ITS FALSE NEIGHBOUR: 'it returns false'. Refute it at one input. -/
def elementListsWrong : ChangeSpec := { name := "elementLists", fn := fun _ => fun
  | [d1, d2, d3] => { results := [.lit (.bool false)], args := [d1, d2, d3] }
  | _ => none }
def ElementListsWrongFalsely : Prop := elementListsRow.holds Try.pinned (OpenSpec.ofChange elementListsWrong)

/-- 'cretulalaw09.ElementParts': WHATEVER THE INPUT: true; the input reads as it did. -/
def elementPartsSpec : ChangeSpec := { name := "elementParts", fn := fun _ => fun
  | [d1, d2, d3] => { results := [.lit (.bool true)], args := [d1, d2, d3] }
  | _ => none }
def elementPartsRow : OpenClaim := { program := "ytecbphbnacbepaa", sum := "5b5056badd35bad47cd700815b1985f5b87fb01560936fc85ecea91ab875b8ea", func := "cretula/cretulalaw09.ElementParts", spec := "elementParts", inPlace := ["internal/abi.NoEscape", "internal/bytealg.MakeNoZero"], unfollowed := true, recurses := true, apart := false }
def ElementPartsSaid : Prop := elementPartsRow.holds Try.pinned (OpenSpec.ofChange elementPartsSpec)

/-- ITS FALSE NEIGHBOUR: 'it returns false'. Refute it at one input. -/
def elementPartsWrong : ChangeSpec := { name := "elementParts", fn := fun _ => fun
  | [d1, d2, d3] => { results := [.lit (.bool false)], args := [d1, d2, d3] }
  | _ => none }
def ElementPartsWrongFalsely : Prop := elementPartsRow.holds Try.pinned (OpenSpec.ofChange elementPartsWrong)

/-- 'cretulalaw09.ElementCopies': WHATEVER THE INPUT: true; the input reads as it did. -/
def elementCopiesSpec : ChangeSpec := { name := "elementCopies", fn := fun _ => fun
  | [d] => { results := [.lit (.bool true)], args := [d] }
  | _ => none }
def elementCopiesRow : OpenClaim := { program := "ytecbphbnacbepaa", sum := "5b5056badd35bad47cd700815b1985f5b87fb01560936fc85ecea91ab875b8ea", func := "cretula/cretulalaw09.ElementCopies", spec := "elementCopies", inPlace := ["internal/abi.NoEscape", "internal/bytealg.MakeNoZero"], unfollowed := true, recurses := true, apart := false }
def ElementCopiesSaid : Prop := elementCopiesRow.holds Try.pinned (OpenSpec.ofChange elementCopiesSpec)

/-- ITS FALSE NEIGHBOUR: 'it returns false'. Refute it at one input. -/
def elementCopiesWrong : ChangeSpec := { name := "elementCopies", fn := fun _ => fun
  | [d] => { results := [.lit (.bool false)], args := [d] }
  | _ => none }
def ElementCopiesWrongFalsely : Prop := elementCopiesRow.holds Try.pinned (OpenSpec.ofChange elementCopiesWrong)

/-- 'cretulalaw09.ElementSorts': WHATEVER THE INPUT: true; the input reads as it did. -/
def elementSortsSpec : ChangeSpec := { name := "elementSorts", fn := fun _ => fun
  | [d1, d2] => { results := [.lit (.bool true)], args := [d1, d2] }
  | _ => none }
def elementSortsRow : OpenClaim := { program := "ytecbphbnacbepaa", sum := "5b5056badd35bad47cd700815b1985f5b87fb01560936fc85ecea91ab875b8ea", func := "cretula/cretulalaw09.ElementSorts", spec := "elementSorts", inPlace := ["internal/abi.NoEscape", "internal/bytealg.MakeNoZero"], unfollowed := true, recurses := true, apart := false }
def ElementSortsSaid : Prop := elementSortsRow.holds Try.pinned (OpenSpec.ofChange elementSortsSpec)

/-- ITS FALSE NEIGHBOUR: 'it returns false'. Refute it at one input. -/
def elementSortsWrong : ChangeSpec := { name := "elementSorts", fn := fun _ => fun
  | [d1, d2] => { results := [.lit (.bool false)], args := [d1, d2] }
  | _ => none }
def ElementSortsWrongFalsely : Prop := elementSortsRow.holds Try.pinned (OpenSpec.ofChange elementSortsWrong)

/- THE SECOND FORM. 'bulk': how many values and letters a reading holds, each counted each time it is reached (what is shared counts as often as it is met; a slice's spare places count too). A statement '..UptoSaid' is the law's where the arguments, and the package variables that the reading takes, are together of bulk at most 1048576: NARROWER than '..Said'. Prove '..Said' where nothing that the law and all that it calls make is longer than what came in: it says more and counts as full. Else prove '..UptoSaid'. A law counts once. -/
mutual
def uptoBulk {H : Type} : DataW H → Nat
  | .lit (.string bytes) => bytes.length + 1
  | .lit _ => 1
  | .nil => 1
  | .ptr d => uptoBulk d + 1
  | .slice elems spare => uptoBulkAll elems + uptoBulkAll spare + 1
  | .agg parts => uptoBulkAll parts + 1
  | .iface _ d => uptoBulk d + 1
  | .map entries => uptoBulkEntries entries + 1
  | .held _ => 1
def uptoBulkAll {H : Type} : List (DataW H) → Nat
  | [] => 0
  | d :: r => uptoBulk d + uptoBulkAll r
def uptoBulkEntries {H : Type} : List (Lit × DataW H) → Nat
  | [] => 0
  | x :: r => uptoBulkEntry x + uptoBulkEntries r
def uptoBulkEntry {H : Type} : Lit × DataW H → Nat
  | (.string bytes, d) => bytes.length + uptoBulk d + 1
  | (_, d) => uptoBulk d + 1
 end
def uptoSmall : (H : Type) → List (DataW H) → Bool := fun _ ds => decide (uptoBulkAll ds ≤ 1048576)
def OpenSpec.upto (s : _root_.Go.ChangeSpec) : _root_.Go.OpenSpec := { _root_.Go.OpenSpec.ofChange s with cond := some uptoSmall }

/-- 'cretulalaw09.ElementTags', WHERE WHAT IT READS IS OF BULK AT MOST 1048576: true; the input reads as it did. -/
def elementTagsUptoRow : OpenClaim := { program := "ytecbphbnacbepaa", sum := "5b5056badd35bad47cd700815b1985f5b87fb01560936fc85ecea91ab875b8ea", func := "cretula/cretulalaw09.ElementTags", spec := "elementTags", inPlace := ["internal/abi.NoEscape", "internal/bytealg.MakeNoZero"], unfollowed := true, recurses := true, apart := false, narrowed := true }
def ElementTagsUptoSaid : Prop := elementTagsUptoRow.holds Try.pinned (OpenSpec.upto elementTagsSpec)

/-- 'cretulalaw09.ElementOne', WHERE WHAT IT READS IS OF BULK AT MOST 1048576: true; the input reads as it did. -/
def elementOneUptoRow : OpenClaim := { program := "ytecbphbnacbepaa", sum := "5b5056badd35bad47cd700815b1985f5b87fb01560936fc85ecea91ab875b8ea", func := "cretula/cretulalaw09.ElementOne", spec := "elementOne", inPlace := ["internal/abi.NoEscape", "internal/bytealg.MakeNoZero"], unfollowed := true, recurses := true, apart := false, narrowed := true }
def ElementOneUptoSaid : Prop := elementOneUptoRow.holds Try.pinned (OpenSpec.upto elementOneSpec)

/-- 'cretulalaw09.ElementWraps', WHERE WHAT IT READS IS OF BULK AT MOST 1048576: true; the input reads as it did. -/
def elementWrapsUptoRow : OpenClaim := { program := "ytecbphbnacbepaa", sum := "5b5056badd35bad47cd700815b1985f5b87fb01560936fc85ecea91ab875b8ea", func := "cretula/cretulalaw09.ElementWraps", spec := "elementWraps", inPlace := ["internal/abi.NoEscape", "internal/bytealg.MakeNoZero"], unfollowed := true, recurses := true, apart := false, narrowed := true }
def ElementWrapsUptoSaid : Prop := elementWrapsUptoRow.holds Try.pinned (OpenSpec.upto elementWrapsSpec)

/-- 'cretulalaw09.ElementLists', WHERE WHAT IT READS IS OF BULK AT MOST 1048576: true; the input reads as it did. -/
def elementListsUptoRow : OpenClaim := { program := "ytecbphbnacbepaa", sum := "5b5056badd35bad47cd700815b1985f5b87fb01560936fc85ecea91ab875b8ea", func := "cretula/cretulalaw09.ElementLists", spec := "elementLists", inPlace := ["internal/abi.NoEscape", "internal/bytealg.MakeNoZero"], unfollowed := true, recurses := true, apart := false, narrowed := true }
def ElementListsUptoSaid : Prop := elementListsUptoRow.holds Try.pinned (OpenSpec.upto elementListsSpec)

/-- 'cretulalaw09.ElementParts', WHERE WHAT IT READS IS OF BULK AT MOST 1048576: true; the input reads as it did. -/
def elementPartsUptoRow : OpenClaim := { program := "ytecbphbnacbepaa", sum := "5b5056badd35bad47cd700815b1985f5b87fb01560936fc85ecea91ab875b8ea", func := "cretula/cretulalaw09.ElementParts", spec := "elementParts", inPlace := ["internal/abi.NoEscape", "internal/bytealg.MakeNoZero"], unfollowed := true, recurses := true, apart := false, narrowed := true }
def ElementPartsUptoSaid : Prop := elementPartsUptoRow.holds Try.pinned (OpenSpec.upto elementPartsSpec)

/-- 'cretulalaw09.ElementCopies', WHERE WHAT IT READS IS OF BULK AT MOST 1048576: true; the input reads as it did. -/
def elementCopiesUptoRow : OpenClaim := { program := "ytecbphbnacbepaa", sum := "5b5056badd35bad47cd700815b1985f5b87fb01560936fc85ecea91ab875b8ea", func := "cretula/cretulalaw09.ElementCopies", spec := "elementCopies", inPlace := ["internal/abi.NoEscape", "internal/bytealg.MakeNoZero"], unfollowed := true, recurses := true, apart := false, narrowed := true }
def ElementCopiesUptoSaid : Prop := elementCopiesUptoRow.holds Try.pinned (OpenSpec.upto elementCopiesSpec)

/-- 'cretulalaw09.ElementSorts', WHERE WHAT IT READS IS OF BULK AT MOST 1048576: true; the input reads as it did. -/
def elementSortsUptoRow : OpenClaim := { program := "ytecbphbnacbepaa", sum := "5b5056badd35bad47cd700815b1985f5b87fb01560936fc85ecea91ab875b8ea", func := "cretula/cretulalaw09.ElementSorts", spec := "elementSorts", inPlace := ["internal/abi.NoEscape", "internal/bytealg.MakeNoZero"], unfollowed := true, recurses := true, apart := false, narrowed := true }
def ElementSortsUptoSaid : Prop := elementSortsUptoRow.holds Try.pinned (OpenSpec.upto elementSortsSpec)

end Rows
end Go.Proofs.Ytecbphbnacbepaa
