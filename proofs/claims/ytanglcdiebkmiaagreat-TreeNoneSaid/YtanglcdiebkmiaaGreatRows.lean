/-
  No cell of these rows narrows 'for every input' (looked for: loops, veiled, ifaces, maps, wideKeys, modest, calm, conditions, laid).
  DERIVED. THE GIVEN ROWS OF THIS SEAT. 6 by the template 'for every input the law returns true; each argument reads behind the call as it read before'; 0 by the template 'total and deterministic' (their statements: YtanglcdiebkmiaaGreatTotals.lean).
  GIVEN WITH THE SEED: the statements are not yours to turn. If you find one false, say at which input.
  Laid BY PROGRAM, IN A SANDBOX (cutbox-rows.mjs): the forced cells as the released guide's own fill.sh prints them over the translation 2a7aa76a2306d03e… (all of the seat's roots in one cut). By AI agents, Wed Nov 11 2026. No macro, syntax, notation, axiom, sorry.
-/
import Derived.Test.YtanglcdiebkmiaaGreatChecked
import GoSem.Claim
import GoSem.ClaimJoined
import GoSem.ClaimMapViews
import Derived.JoinedTies
import Derived.KernelRfl
namespace Go.Proofs.YtanglcdiebkmiaaGreat
/- THE CELL 'sum', in the pinned program and in every row, IS THE sha256 OF THE DUMP (.gsa) THAT YtanglcdiebkmiaaGreatProg.lean LOADS. Nothing in Lean hashes anything: it is a label: what it is worth is what the hold of that sum in a sandbox is worth. -/
noncomputable def Tryz.pinned : Pinned := { name := "ytanglcdiebkmiaagreat", sum := "2a7aa76a2306d03eb07f91cf86a61631086ae49eda446ab0bf195e5b03d9aa34", checked := Tryz.checked }
namespace Rows
def none {H : Type} : Left H := { results := [], args := [] }

/-- 'tripwirelaw06.TreeShapes': WHATEVER THE INPUT: true; the input reads as it did. -/
def treeShapesSpec : ChangeSpec := { name := "treeShapes", fn := fun _ => fun
  | [d] => { results := [.lit (.bool true)], args := [d] }
  | _ => none }
def treeShapesRow : OpenClaim := { program := "ytanglcdiebkmiaagreat", sum := "2a7aa76a2306d03eb07f91cf86a61631086ae49eda446ab0bf195e5b03d9aa34", func := "tripwire/tripwirelaw06.TreeShapes", spec := "treeShapes", inPlace := ["slices.overlaps[string]", "slices.overlaps[int]"], unfollowed := true, recurses := true, apart := false }
def TreeShapesSaid : Prop := treeShapesRow.holds Tryz.pinned (OpenSpec.ofChange treeShapesSpec)

/-- ITS FALSE NEIGHBOUR: 'it returns false'. Refute it at one input. -/
def treeShapesWrong : ChangeSpec := { name := "treeShapes", fn := fun _ => fun
  | [d] => { results := [.lit (.bool false)], args := [d] }
  | _ => none }
def TreeShapesWrongFalsely : Prop := treeShapesRow.holds Tryz.pinned (OpenSpec.ofChange treeShapesWrong)

/-- 'tripwirelaw06.TreeQuota': WHATEVER THE INPUT: true; the input reads as it did. -/
def treeQuotaSpec : ChangeSpec := { name := "treeQuota", fn := fun _ => fun
  | [d1, d2, d3] => { results := [.lit (.bool true)], args := [d1, d2, d3] }
  | _ => none }
def treeQuotaRow : OpenClaim := { program := "ytanglcdiebkmiaagreat", sum := "2a7aa76a2306d03eb07f91cf86a61631086ae49eda446ab0bf195e5b03d9aa34", func := "tripwire/tripwirelaw06.TreeQuota", spec := "treeQuota", inPlace := ["slices.overlaps[string]", "slices.overlaps[int]"], unfollowed := true, recurses := true, apart := false }
def TreeQuotaSaid : Prop := treeQuotaRow.holds Tryz.pinned (OpenSpec.ofChange treeQuotaSpec)

/-- ITS FALSE NEIGHBOUR: 'it returns false'. Refute it at one input. -/
def treeQuotaWrong : ChangeSpec := { name := "treeQuota", fn := fun _ => fun
  | [d1, d2, d3] => { results := [.lit (.bool false)], args := [d1, d2, d3] }
  | _ => none }
def TreeQuotaWrongFalsely : Prop := treeQuotaRow.holds Tryz.pinned (OpenSpec.ofChange treeQuotaWrong)

/-- 'tripwirelaw06.TreeNone': WHATEVER THE INPUT: true; the input reads as it did. -/
def treeNoneSpec : ChangeSpec := { name := "treeNone", fn := fun _ => fun
  | [d] => { results := [.lit (.bool true)], args := [d] }
  | _ => none }
def treeNoneRow : OpenClaim := { program := "ytanglcdiebkmiaagreat", sum := "2a7aa76a2306d03eb07f91cf86a61631086ae49eda446ab0bf195e5b03d9aa34", func := "tripwire/tripwirelaw06.TreeNone", spec := "treeNone", inPlace := ["slices.overlaps[string]", "slices.overlaps[int]"], unfollowed := true, recurses := true, apart := false }
def TreeNoneSaid : Prop := treeNoneRow.holds Tryz.pinned (OpenSpec.ofChange treeNoneSpec)

/-- ITS FALSE NEIGHBOUR: 'it returns false'. Refute it at one input. -/
def treeNoneWrong : ChangeSpec := { name := "treeNone", fn := fun _ => fun
  | [d] => { results := [.lit (.bool false)], args := [d] }
  | _ => none }
def TreeNoneWrongFalsely : Prop := treeNoneRow.holds Tryz.pinned (OpenSpec.ofChange treeNoneWrong)

/-- 'tripwirelaw06.TreeTwo': WHATEVER THE INPUT: true; the input reads as it did. -/
def treeTwoSpec : ChangeSpec := { name := "treeTwo", fn := fun _ => fun
  | [d1, d2, d3] => { results := [.lit (.bool true)], args := [d1, d2, d3] }
  | _ => none }
def treeTwoRow : OpenClaim := { program := "ytanglcdiebkmiaagreat", sum := "2a7aa76a2306d03eb07f91cf86a61631086ae49eda446ab0bf195e5b03d9aa34", func := "tripwire/tripwirelaw06.TreeTwo", spec := "treeTwo", inPlace := ["slices.overlaps[string]", "slices.overlaps[int]"], unfollowed := true, recurses := true, apart := false }
def TreeTwoSaid : Prop := treeTwoRow.holds Tryz.pinned (OpenSpec.ofChange treeTwoSpec)

/-- ITS FALSE NEIGHBOUR: 'it returns false'. Refute it at one input. -/
def treeTwoWrong : ChangeSpec := { name := "treeTwo", fn := fun _ => fun
  | [d1, d2, d3] => { results := [.lit (.bool false)], args := [d1, d2, d3] }
  | _ => none }
def TreeTwoWrongFalsely : Prop := treeTwoRow.holds Tryz.pinned (OpenSpec.ofChange treeTwoWrong)

/-- 'tripwirelaw06.TreeTurns': WHATEVER THE INPUT: true; the input reads as it did. -/
def treeTurnsSpec : ChangeSpec := { name := "treeTurns", fn := fun _ => fun
  | [d1, d2] => { results := [.lit (.bool true)], args := [d1, d2] }
  | _ => none }
def treeTurnsRow : OpenClaim := { program := "ytanglcdiebkmiaagreat", sum := "2a7aa76a2306d03eb07f91cf86a61631086ae49eda446ab0bf195e5b03d9aa34", func := "tripwire/tripwirelaw06.TreeTurns", spec := "treeTurns", inPlace := ["slices.overlaps[string]", "slices.overlaps[int]"], unfollowed := true, recurses := true, apart := false }
def TreeTurnsSaid : Prop := treeTurnsRow.holds Tryz.pinned (OpenSpec.ofChange treeTurnsSpec)

/-- ITS FALSE NEIGHBOUR: 'it returns false'. Refute it at one input. -/
def treeTurnsWrong : ChangeSpec := { name := "treeTurns", fn := fun _ => fun
  | [d1, d2] => { results := [.lit (.bool false)], args := [d1, d2] }
  | _ => none }
def TreeTurnsWrongFalsely : Prop := treeTurnsRow.holds Tryz.pinned (OpenSpec.ofChange treeTurnsWrong)

/-- 'tripwirelaw06.TreeOpens': WHATEVER THE INPUT: true; the input reads as it did. -/
def treeOpensSpec : ChangeSpec := { name := "treeOpens", fn := fun _ => fun
  | [d1, d2, d3] => { results := [.lit (.bool true)], args := [d1, d2, d3] }
  | _ => none }
def treeOpensRow : OpenClaim := { program := "ytanglcdiebkmiaagreat", sum := "2a7aa76a2306d03eb07f91cf86a61631086ae49eda446ab0bf195e5b03d9aa34", func := "tripwire/tripwirelaw06.TreeOpens", spec := "treeOpens", inPlace := ["slices.overlaps[string]", "slices.overlaps[int]"], unfollowed := true, recurses := true, apart := false }
def TreeOpensSaid : Prop := treeOpensRow.holds Tryz.pinned (OpenSpec.ofChange treeOpensSpec)

/-- ITS FALSE NEIGHBOUR: 'it returns false'. Refute it at one input. -/
def treeOpensWrong : ChangeSpec := { name := "treeOpens", fn := fun _ => fun
  | [d1, d2, d3] => { results := [.lit (.bool false)], args := [d1, d2, d3] }
  | _ => none }
def TreeOpensWrongFalsely : Prop := treeOpensRow.holds Tryz.pinned (OpenSpec.ofChange treeOpensWrong)

/- THE SECOND FORM. 'bulk': how many values and letters a reading holds, each counted each time it is reached (what is shared counts as often as it is met; a slice's spare places count too). A statement '..UptoSaid' is the law's where the arguments, and the package variables that the reading takes, are together of bulk at most 1048576: NARROWER than '..Said'. Prove '..Said' where nothing that the law and all that it calls make is longer than what came in: it says more and counts as full. Else prove '..UptoSaid'. A law counts once. -/
mutual
def uptoBulk {H : Type} : DataW H → Nat
  | .lit (.string bytes) => bytes.length + 1
  | .lit _ => 1
  | .nil => 1
  | .ptr d => uptoBulk d + 1
  | .slice elems spare => uptoBulkAll elems + uptoBulkAll spare + 1
  | .agg parts => uptoBulkAll parts + 1
  | .iface _ d => uptoBulk d + 1
  | .map entries => uptoBulkEntries entries + 1
  | .held _ => 1
def uptoBulkAll {H : Type} : List (DataW H) → Nat
  | [] => 0
  | d :: r => uptoBulk d + uptoBulkAll r
def uptoBulkEntries {H : Type} : List (Lit × DataW H) → Nat
  | [] => 0
  | x :: r => uptoBulkEntry x + uptoBulkEntries r
def uptoBulkEntry {H : Type} : Lit × DataW H → Nat
  | (.string bytes, d) => bytes.length + uptoBulk d + 1
  | (_, d) => uptoBulk d + 1
 end
def uptoSmall : (H : Type) → List (DataW H) → Bool := fun _ ds => decide (uptoBulkAll ds ≤ 1048576)
def OpenSpec.upto (s : _root_.Go.ChangeSpec) : _root_.Go.OpenSpec := { _root_.Go.OpenSpec.ofChange s with cond := some uptoSmall }

/-- 'tripwirelaw06.TreeShapes', WHERE WHAT IT READS IS OF BULK AT MOST 1048576: true; the input reads as it did. -/
def treeShapesUptoRow : OpenClaim := { program := "ytanglcdiebkmiaagreat", sum := "2a7aa76a2306d03eb07f91cf86a61631086ae49eda446ab0bf195e5b03d9aa34", func := "tripwire/tripwirelaw06.TreeShapes", spec := "treeShapes", inPlace := ["slices.overlaps[string]", "slices.overlaps[int]"], unfollowed := true, recurses := true, apart := false, narrowed := true }
def TreeShapesUptoSaid : Prop := treeShapesUptoRow.holds Tryz.pinned (OpenSpec.upto treeShapesSpec)

/-- 'tripwirelaw06.TreeQuota', WHERE WHAT IT READS IS OF BULK AT MOST 1048576: true; the input reads as it did. -/
def treeQuotaUptoRow : OpenClaim := { program := "ytanglcdiebkmiaagreat", sum := "2a7aa76a2306d03eb07f91cf86a61631086ae49eda446ab0bf195e5b03d9aa34", func := "tripwire/tripwirelaw06.TreeQuota", spec := "treeQuota", inPlace := ["slices.overlaps[string]", "slices.overlaps[int]"], unfollowed := true, recurses := true, apart := false, narrowed := true }
def TreeQuotaUptoSaid : Prop := treeQuotaUptoRow.holds Tryz.pinned (OpenSpec.upto treeQuotaSpec)

/-- 'tripwirelaw06.TreeNone', WHERE WHAT IT READS IS OF BULK AT MOST 1048576: true; the input reads as it did. -/
def treeNoneUptoRow : OpenClaim := { program := "ytanglcdiebkmiaagreat", sum := "2a7aa76a2306d03eb07f91cf86a61631086ae49eda446ab0bf195e5b03d9aa34", func := "tripwire/tripwirelaw06.TreeNone", spec := "treeNone", inPlace := ["slices.overlaps[string]", "slices.overlaps[int]"], unfollowed := true, recurses := true, apart := false, narrowed := true }
def TreeNoneUptoSaid : Prop := treeNoneUptoRow.holds Tryz.pinned (OpenSpec.upto treeNoneSpec)

/-- 'tripwirelaw06.TreeTwo', WHERE WHAT IT READS IS OF BULK AT MOST 1048576: true; the input reads as it did. -/
def treeTwoUptoRow : OpenClaim := { program := "ytanglcdiebkmiaagreat", sum := "2a7aa76a2306d03eb07f91cf86a61631086ae49eda446ab0bf195e5b03d9aa34", func := "tripwire/tripwirelaw06.TreeTwo", spec := "treeTwo", inPlace := ["slices.overlaps[string]", "slices.overlaps[int]"], unfollowed := true, recurses := true, apart := false, narrowed := true }
def TreeTwoUptoSaid : Prop := treeTwoUptoRow.holds Tryz.pinned (OpenSpec.upto treeTwoSpec)

/-- 'tripwirelaw06.TreeTurns', WHERE WHAT IT READS IS OF BULK AT MOST 1048576: true; the input reads as it did. -/
def treeTurnsUptoRow : OpenClaim := { program := "ytanglcdiebkmiaagreat", sum := "2a7aa76a2306d03eb07f91cf86a61631086ae49eda446ab0bf195e5b03d9aa34", func := "tripwire/tripwirelaw06.TreeTurns", spec := "treeTurns", inPlace := ["slices.overlaps[string]", "slices.overlaps[int]"], unfollowed := true, recurses := true, apart := false, narrowed := true }
def TreeTurnsUptoSaid : Prop := treeTurnsUptoRow.holds Tryz.pinned (OpenSpec.upto treeTurnsSpec)

/-- 'tripwirelaw06.TreeOpens', WHERE WHAT IT READS IS OF BULK AT MOST 1048576: true; the input reads as it did. -/
def treeOpensUptoRow : OpenClaim := { program := "ytanglcdiebkmiaagreat", sum := "2a7aa76a2306d03eb07f91cf86a61631086ae49eda446ab0bf195e5b03d9aa34", func := "tripwire/tripwirelaw06.TreeOpens", spec := "treeOpens", inPlace := ["slices.overlaps[string]", "slices.overlaps[int]"], unfollowed := true, recurses := true, apart := false, narrowed := true }
def TreeOpensUptoSaid : Prop := treeOpensUptoRow.holds Tryz.pinned (OpenSpec.upto treeOpensSpec)

end Rows
end Go.Proofs.YtanglcdiebkmiaaGreat
