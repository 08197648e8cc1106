/-
  No cell of these rows narrows 'for every input' (looked for: loops, veiled, ifaces, maps, wideKeys, modest, calm, conditions, laid).
  DERIVED. THE GIVEN ROWS OF THIS SEAT. 5 by the template 'for every input the law returns true; each argument reads behind the call as it read before'; 0 by the template 'total and deterministic' (their statements: YtcjaokmodicikaaTotals.lean).
  GIVEN WITH THE SEED: the statements are not yours to turn. If you find one false, say at which input.
  Laid BY PROGRAM, IN A SANDBOX (cutbox-rows.mjs): the forced cells as the released guide's own fill.sh prints them over the translation afaedf3d41ba6639… (all of the seat's roots in one cut). By AI agents, Wed Nov 11 2026. No macro, syntax, notation, axiom, sorry.
-/
import Derived.Test.YtcjaokmodicikaaChecked
import GoSem.Claim
import GoSem.ClaimJoined
import GoSem.ClaimMapViews
import Derived.JoinedTies
import Derived.KernelRfl
namespace Go.Proofs.Ytcjaokmodicikaa
/- THE CELL 'sum', in the pinned program and in every row, IS THE sha256 OF THE DUMP (.gsa) THAT YtcjaokmodicikaaProg.lean LOADS. Nothing in Lean hashes anything: it is a label: what it is worth is what the hold of that sum in a sandbox is worth. -/
noncomputable def Try.pinned : Pinned := { name := "ytcjaokmodicikaa", sum := "afaedf3d41ba6639628702a1db1a368fdb61e4009392414461fbdaf9869e7f35", checked := Try.checked }
namespace Rows
def none {H : Type} : Left H := { results := [], args := [] }

/-- 'rootstocklaw13.WalkPlays': WHATEVER THE INPUT: true; the input reads as it did. -/
def walkPlaysSpec : ChangeSpec := { name := "walkPlays", fn := fun _ => fun
  | [d1, d2] => { results := [.lit (.bool true)], args := [d1, d2] }
  | _ => none }
def walkPlaysRow : OpenClaim := { program := "ytcjaokmodicikaa", sum := "afaedf3d41ba6639628702a1db1a368fdb61e4009392414461fbdaf9869e7f35", func := "rootstock/rootstocklaw13.WalkPlays", spec := "walkPlays", inPlace := ["slices.overlaps[rootstock/api.Item]", "slices.overlaps[rootstock/api.Kid]"], unfollowed := true, recurses := true, apart := false }
def WalkPlaysSaid : Prop := walkPlaysRow.holds Try.pinned (OpenSpec.ofChange walkPlaysSpec)

/-- ITS FALSE NEIGHBOUR: 'it returns false'. Refute it at one input. -/
def walkPlaysWrong : ChangeSpec := { name := "walkPlays", fn := fun _ => fun
  | [d1, d2] => { results := [.lit (.bool false)], args := [d1, d2] }
  | _ => none }
def WalkPlaysWrongFalsely : Prop := walkPlaysRow.holds Try.pinned (OpenSpec.ofChange walkPlaysWrong)

/-- 'rootstocklaw13.WalkSpoilt': WHATEVER THE INPUT: true; the input reads as it did. -/
def walkSpoiltSpec : ChangeSpec := { name := "walkSpoilt", fn := fun _ => fun
  | [d1, d2, d3] => { results := [.lit (.bool true)], args := [d1, d2, d3] }
  | _ => none }
def walkSpoiltRow : OpenClaim := { program := "ytcjaokmodicikaa", sum := "afaedf3d41ba6639628702a1db1a368fdb61e4009392414461fbdaf9869e7f35", func := "rootstock/rootstocklaw13.WalkSpoilt", spec := "walkSpoilt", inPlace := ["slices.overlaps[rootstock/api.Item]", "slices.overlaps[rootstock/api.Kid]"], unfollowed := true, recurses := true, apart := false }
def WalkSpoiltSaid : Prop := walkSpoiltRow.holds Try.pinned (OpenSpec.ofChange walkSpoiltSpec)

/-- ITS FALSE NEIGHBOUR: 'it returns false'. Refute it at one input. -/
def walkSpoiltWrong : ChangeSpec := { name := "walkSpoilt", fn := fun _ => fun
  | [d1, d2, d3] => { results := [.lit (.bool false)], args := [d1, d2, d3] }
  | _ => none }
def WalkSpoiltWrongFalsely : Prop := walkSpoiltRow.holds Try.pinned (OpenSpec.ofChange walkSpoiltWrong)

/-- 'rootstocklaw13.WalkBoth': WHATEVER THE INPUT: true; the input reads as it did. -/
def walkBothSpec : ChangeSpec := { name := "walkBoth", fn := fun _ => fun
  | [d] => { results := [.lit (.bool true)], args := [d] }
  | _ => none }
def walkBothRow : OpenClaim := { program := "ytcjaokmodicikaa", sum := "afaedf3d41ba6639628702a1db1a368fdb61e4009392414461fbdaf9869e7f35", func := "rootstock/rootstocklaw13.WalkBoth", spec := "walkBoth", inPlace := ["slices.overlaps[rootstock/api.Item]", "slices.overlaps[rootstock/api.Kid]"], unfollowed := true, recurses := true, apart := false }
def WalkBothSaid : Prop := walkBothRow.holds Try.pinned (OpenSpec.ofChange walkBothSpec)

/-- ITS FALSE NEIGHBOUR: 'it returns false'. Refute it at one input. -/
def walkBothWrong : ChangeSpec := { name := "walkBoth", fn := fun _ => fun
  | [d] => { results := [.lit (.bool false)], args := [d] }
  | _ => none }
def WalkBothWrongFalsely : Prop := walkBothRow.holds Try.pinned (OpenSpec.ofChange walkBothWrong)

/-- 'rootstocklaw12.TreePlays': WHATEVER THE INPUT: true; the input reads as it did. -/
def treePlaysSpec : ChangeSpec := { name := "treePlays", fn := fun _ => fun
  | [d1, d2, d3] => { results := [.lit (.bool true)], args := [d1, d2, d3] }
  | _ => none }
def treePlaysRow : OpenClaim := { program := "ytcjaokmodicikaa", sum := "afaedf3d41ba6639628702a1db1a368fdb61e4009392414461fbdaf9869e7f35", func := "rootstock/rootstocklaw12.TreePlays", spec := "treePlays", inPlace := ["slices.overlaps[rootstock/api.Item]", "slices.overlaps[rootstock/api.Kid]"], unfollowed := true, recurses := true, apart := false }
def TreePlaysSaid : Prop := treePlaysRow.holds Try.pinned (OpenSpec.ofChange treePlaysSpec)

/-- ITS FALSE NEIGHBOUR: 'it returns false'. Refute it at one input. -/
def treePlaysWrong : ChangeSpec := { name := "treePlays", fn := fun _ => fun
  | [d1, d2, d3] => { results := [.lit (.bool false)], args := [d1, d2, d3] }
  | _ => none }
def TreePlaysWrongFalsely : Prop := treePlaysRow.holds Try.pinned (OpenSpec.ofChange treePlaysWrong)

/-- 'rootstocklaw12.TreeOrder': WHATEVER THE INPUT: true; the input reads as it did. -/
def treeOrderSpec : ChangeSpec := { name := "treeOrder", fn := fun _ => fun
  | [d1, d2] => { results := [.lit (.bool true)], args := [d1, d2] }
  | _ => none }
def treeOrderRow : OpenClaim := { program := "ytcjaokmodicikaa", sum := "afaedf3d41ba6639628702a1db1a368fdb61e4009392414461fbdaf9869e7f35", func := "rootstock/rootstocklaw12.TreeOrder", spec := "treeOrder", inPlace := ["slices.overlaps[rootstock/api.Item]", "slices.overlaps[rootstock/api.Kid]"], unfollowed := true, recurses := true, apart := false }
def TreeOrderSaid : Prop := treeOrderRow.holds Try.pinned (OpenSpec.ofChange treeOrderSpec)

/-- ITS FALSE NEIGHBOUR: 'it returns false'. Refute it at one input. -/
def treeOrderWrong : ChangeSpec := { name := "treeOrder", fn := fun _ => fun
  | [d1, d2] => { results := [.lit (.bool false)], args := [d1, d2] }
  | _ => none }
def TreeOrderWrongFalsely : Prop := treeOrderRow.holds Try.pinned (OpenSpec.ofChange treeOrderWrong)

/- THE SECOND FORM. 'bulk': how many values and letters a reading holds, each counted each time it is reached (what is shared counts as often as it is met; a slice's spare places count too). A statement '..UptoSaid' is the law's where the arguments, and the package variables that the reading takes, are together of bulk at most 1048576: NARROWER than '..Said'. Prove '..Said' where nothing that the law and all that it calls make is longer than what came in: it says more and counts as full. Else prove '..UptoSaid'. A law counts once. -/
mutual
def uptoBulk {H : Type} : DataW H → Nat
  | .lit (.string bytes) => bytes.length + 1
  | .lit _ => 1
  | .nil => 1
  | .ptr d => uptoBulk d + 1
  | .slice elems spare => uptoBulkAll elems + uptoBulkAll spare + 1
  | .agg parts => uptoBulkAll parts + 1
  | .iface _ d => uptoBulk d + 1
  | .map entries => uptoBulkEntries entries + 1
  | .held _ => 1
def uptoBulkAll {H : Type} : List (DataW H) → Nat
  | [] => 0
  | d :: r => uptoBulk d + uptoBulkAll r
def uptoBulkEntries {H : Type} : List (Lit × DataW H) → Nat
  | [] => 0
  | x :: r => uptoBulkEntry x + uptoBulkEntries r
def uptoBulkEntry {H : Type} : Lit × DataW H → Nat
  | (.string bytes, d) => bytes.length + uptoBulk d + 1
  | (_, d) => uptoBulk d + 1
 end
def uptoSmall : (H : Type) → List (DataW H) → Bool := fun _ ds => decide (uptoBulkAll ds ≤ 1048576)
def OpenSpec.upto (s : _root_.Go.ChangeSpec) : _root_.Go.OpenSpec := { _root_.Go.OpenSpec.ofChange s with cond := some uptoSmall }

/-- 'rootstocklaw13.WalkPlays', WHERE WHAT IT READS IS OF BULK AT MOST 1048576: true; the input reads as it did. -/
def walkPlaysUptoRow : OpenClaim := { program := "ytcjaokmodicikaa", sum := "afaedf3d41ba6639628702a1db1a368fdb61e4009392414461fbdaf9869e7f35", func := "rootstock/rootstocklaw13.WalkPlays", spec := "walkPlays", inPlace := ["slices.overlaps[rootstock/api.Item]", "slices.overlaps[rootstock/api.Kid]"], unfollowed := true, recurses := true, apart := false, narrowed := true }
def WalkPlaysUptoSaid : Prop := walkPlaysUptoRow.holds Try.pinned (OpenSpec.upto walkPlaysSpec)

/-- 'rootstocklaw13.WalkSpoilt', WHERE WHAT IT READS IS OF BULK AT MOST 1048576: true; the input reads as it did. -/
def walkSpoiltUptoRow : OpenClaim := { program := "ytcjaokmodicikaa", sum := "afaedf3d41ba6639628702a1db1a368fdb61e4009392414461fbdaf9869e7f35", func := "rootstock/rootstocklaw13.WalkSpoilt", spec := "walkSpoilt", inPlace := ["slices.overlaps[rootstock/api.Item]", "slices.overlaps[rootstock/api.Kid]"], unfollowed := true, recurses := true, apart := false, narrowed := true }
def WalkSpoiltUptoSaid : Prop := walkSpoiltUptoRow.holds Try.pinned (OpenSpec.upto walkSpoiltSpec)

/-- 'rootstocklaw13.WalkBoth', WHERE WHAT IT READS IS OF BULK AT MOST 1048576: true; the input reads as it did. -/
def walkBothUptoRow : OpenClaim := { program := "ytcjaokmodicikaa", sum := "afaedf3d41ba6639628702a1db1a368fdb61e4009392414461fbdaf9869e7f35", func := "rootstock/rootstocklaw13.WalkBoth", spec := "walkBoth", inPlace := ["slices.overlaps[rootstock/api.Item]", "slices.overlaps[rootstock/api.Kid]"], unfollowed := true, recurses := true, apart := false, narrowed := true }
def WalkBothUptoSaid : Prop := walkBothUptoRow.holds Try.pinned (OpenSpec.upto walkBothSpec)

/-- 'rootstocklaw12.TreePlays', WHERE WHAT IT READS IS OF BULK AT MOST 1048576: true; the input reads as it did. -/
def treePlaysUptoRow : OpenClaim := { program := "ytcjaokmodicikaa", sum := "afaedf3d41ba6639628702a1db1a368fdb61e4009392414461fbdaf9869e7f35", func := "rootstock/rootstocklaw12.TreePlays", spec := "treePlays", inPlace := ["slices.overlaps[rootstock/api.Item]", "slices.overlaps[rootstock/api.Kid]"], unfollowed := true, recurses := true, apart := false, narrowed := true }
def TreePlaysUptoSaid : Prop := treePlaysUptoRow.holds Try.pinned (OpenSpec.upto treePlaysSpec)

/-- 'rootstocklaw12.TreeOrder', WHERE WHAT IT READS IS OF BULK AT MOST 1048576: true; the input reads as it did. -/
def treeOrderUptoRow : OpenClaim := { program := "ytcjaokmodicikaa", sum := "afaedf3d41ba6639628702a1db1a368fdb61e4009392414461fbdaf9869e7f35", func := "rootstock/rootstocklaw12.TreeOrder", spec := "treeOrder", inPlace := ["slices.overlaps[rootstock/api.Item]", "slices.overlaps[rootstock/api.Kid]"], unfollowed := true, recurses := true, apart := false, narrowed := true }
def TreeOrderUptoSaid : Prop := treeOrderUptoRow.holds Try.pinned (OpenSpec.upto treeOrderSpec)

end Rows
end Go.Proofs.Ytcjaokmodicikaa
