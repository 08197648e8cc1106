/-
  No cell of these rows narrows 'for every input' (looked for: loops, veiled, ifaces, maps, wideKeys, modest, calm, conditions, laid).
  DERIVED. THE GIVEN ROWS OF THIS SEAT. 4 by the template 'for every input the law returns true; each argument reads behind the call as it read before'; 0 by the template 'total and deterministic' (their statements: YtklccpaphkpgfaaGreatTotals.lean).
  GIVEN WITH THE SEED: the statements are not yours to turn. If you find one false, say at which input.
  Laid BY PROGRAM, IN A SANDBOX (cutbox-rows.mjs): the forced cells as the released guide's own fill.sh prints them over the translation 94d288278ac4ae13… (all of the seat's roots in one cut). By AI agents, Wed Nov 11 2026. No macro, syntax, notation, axiom, sorry.
-/
import Derived.Test.YtklccpaphkpgfaaGreatChecked
import GoSem.Claim
import GoSem.ClaimJoined
import GoSem.ClaimMapViews
import Derived.JoinedTies
import Derived.KernelRfl
namespace Go.Proofs.YtklccpaphkpgfaaGreat
/- THE CELL 'sum', in the pinned program and in every row, IS THE sha256 OF THE DUMP (.gsa) THAT YtklccpaphkpgfaaGreatProg.lean LOADS. Nothing in Lean hashes anything: it is a label: what it is worth is what the hold of that sum in a sandbox is worth. -/
noncomputable def Tryz.pinned : Pinned := { name := "ytklccpaphkpgfaagreat", sum := "94d288278ac4ae13c5a7804d7adb2d7dc44b791cfc48a7db4d626209b1cd2d5a", checked := Tryz.checked }
namespace Rows
def none {H : Type} : Left H := { results := [], args := [] }

/-- 'rootstocklaw13.WalkBetween': WHATEVER THE INPUT: true; the input reads as it did. -/
def walkBetweenSpec : ChangeSpec := { name := "walkBetween", fn := fun _ => fun
  | [d1, d2, d3, d4] => { results := [.lit (.bool true)], args := [d1, d2, d3, d4] }
  | _ => none }
def walkBetweenRow : OpenClaim := { program := "ytklccpaphkpgfaagreat", sum := "94d288278ac4ae13c5a7804d7adb2d7dc44b791cfc48a7db4d626209b1cd2d5a", func := "rootstock/rootstocklaw13.WalkBetween", spec := "walkBetween", inPlace := ["slices.overlaps[rootstock/api.Item]", "slices.overlaps[rootstock/api.Kid]"], unfollowed := true, recurses := true, apart := false }
def WalkBetweenSaid : Prop := walkBetweenRow.holds Tryz.pinned (OpenSpec.ofChange walkBetweenSpec)

/-- ITS FALSE NEIGHBOUR: 'it returns false'. Refute it at one input. -/
def walkBetweenWrong : ChangeSpec := { name := "walkBetween", fn := fun _ => fun
  | [d1, d2, d3, d4] => { results := [.lit (.bool false)], args := [d1, d2, d3, d4] }
  | _ => none }
def WalkBetweenWrongFalsely : Prop := walkBetweenRow.holds Tryz.pinned (OpenSpec.ofChange walkBetweenWrong)

/-- 'rootstocklaw12.TreeOlds': WHATEVER THE INPUT: true; the input reads as it did. -/
def treeOldsSpec : ChangeSpec := { name := "treeOlds", fn := fun _ => fun
  | [d1, d2] => { results := [.lit (.bool true)], args := [d1, d2] }
  | _ => none }
def treeOldsRow : OpenClaim := { program := "ytklccpaphkpgfaagreat", sum := "94d288278ac4ae13c5a7804d7adb2d7dc44b791cfc48a7db4d626209b1cd2d5a", func := "rootstock/rootstocklaw12.TreeOlds", spec := "treeOlds", inPlace := ["slices.overlaps[rootstock/api.Item]", "slices.overlaps[rootstock/api.Kid]"], unfollowed := true, recurses := true, apart := false }
def TreeOldsSaid : Prop := treeOldsRow.holds Tryz.pinned (OpenSpec.ofChange treeOldsSpec)

/-- ITS FALSE NEIGHBOUR: 'it returns false'. Refute it at one input. -/
def treeOldsWrong : ChangeSpec := { name := "treeOlds", fn := fun _ => fun
  | [d1, d2] => { results := [.lit (.bool false)], args := [d1, d2] }
  | _ => none }
def TreeOldsWrongFalsely : Prop := treeOldsRow.holds Tryz.pinned (OpenSpec.ofChange treeOldsWrong)

/-- 'rootstocklaw12.TreeEmpties': WHATEVER THE INPUT: true; the input reads as it did. -/
def treeEmptiesSpec : ChangeSpec := { name := "treeEmpties", fn := fun _ => fun
  | [d1, d2] => { results := [.lit (.bool true)], args := [d1, d2] }
  | _ => none }
def treeEmptiesRow : OpenClaim := { program := "ytklccpaphkpgfaagreat", sum := "94d288278ac4ae13c5a7804d7adb2d7dc44b791cfc48a7db4d626209b1cd2d5a", func := "rootstock/rootstocklaw12.TreeEmpties", spec := "treeEmpties", inPlace := ["slices.overlaps[rootstock/api.Item]", "slices.overlaps[rootstock/api.Kid]"], unfollowed := true, recurses := true, apart := false }
def TreeEmptiesSaid : Prop := treeEmptiesRow.holds Tryz.pinned (OpenSpec.ofChange treeEmptiesSpec)

/-- ITS FALSE NEIGHBOUR: 'it returns false'. Refute it at one input. -/
def treeEmptiesWrong : ChangeSpec := { name := "treeEmpties", fn := fun _ => fun
  | [d1, d2] => { results := [.lit (.bool false)], args := [d1, d2] }
  | _ => none }
def TreeEmptiesWrongFalsely : Prop := treeEmptiesRow.holds Tryz.pinned (OpenSpec.ofChange treeEmptiesWrong)

/-- 'rootstocklaw12.TreeDrops': WHATEVER THE INPUT: true; the input reads as it did. -/
def treeDropsSpec : ChangeSpec := { name := "treeDrops", fn := fun _ => fun
  | [d] => { results := [.lit (.bool true)], args := [d] }
  | _ => none }
def treeDropsRow : OpenClaim := { program := "ytklccpaphkpgfaagreat", sum := "94d288278ac4ae13c5a7804d7adb2d7dc44b791cfc48a7db4d626209b1cd2d5a", func := "rootstock/rootstocklaw12.TreeDrops", spec := "treeDrops", inPlace := ["slices.overlaps[rootstock/api.Item]", "slices.overlaps[rootstock/api.Kid]"], unfollowed := true, recurses := true, apart := false }
def TreeDropsSaid : Prop := treeDropsRow.holds Tryz.pinned (OpenSpec.ofChange treeDropsSpec)

/-- ITS FALSE NEIGHBOUR: 'it returns false'. Refute it at one input. -/
def treeDropsWrong : ChangeSpec := { name := "treeDrops", fn := fun _ => fun
  | [d] => { results := [.lit (.bool false)], args := [d] }
  | _ => none }
def TreeDropsWrongFalsely : Prop := treeDropsRow.holds Tryz.pinned (OpenSpec.ofChange treeDropsWrong)

/- THE SECOND FORM. 'bulk': how many values and letters a reading holds, each counted each time it is reached (what is shared counts as often as it is met; a slice's spare places count too). A statement '..UptoSaid' is the law's where the arguments, and the package variables that the reading takes, are together of bulk at most 1048576: NARROWER than '..Said'. Prove '..Said' where nothing that the law and all that it calls make is longer than what came in: it says more and counts as full. Else prove '..UptoSaid'. A law counts once. -/
mutual
def uptoBulk {H : Type} : DataW H → Nat
  | .lit (.string bytes) => bytes.length + 1
  | .lit _ => 1
  | .nil => 1
  | .ptr d => uptoBulk d + 1
  | .slice elems spare => uptoBulkAll elems + uptoBulkAll spare + 1
  | .agg parts => uptoBulkAll parts + 1
  | .iface _ d => uptoBulk d + 1
  | .map entries => uptoBulkEntries entries + 1
  | .held _ => 1
def uptoBulkAll {H : Type} : List (DataW H) → Nat
  | [] => 0
  | d :: r => uptoBulk d + uptoBulkAll r
def uptoBulkEntries {H : Type} : List (Lit × DataW H) → Nat
  | [] => 0
  | x :: r => uptoBulkEntry x + uptoBulkEntries r
def uptoBulkEntry {H : Type} : Lit × DataW H → Nat
  | (.string bytes, d) => bytes.length + uptoBulk d + 1
  | (_, d) => uptoBulk d + 1
 end
def uptoSmall : (H : Type) → List (DataW H) → Bool := fun _ ds => decide (uptoBulkAll ds ≤ 1048576)
def OpenSpec.upto (s : _root_.Go.ChangeSpec) : _root_.Go.OpenSpec := { _root_.Go.OpenSpec.ofChange s with cond := some uptoSmall }

/-- 'rootstocklaw13.WalkBetween', WHERE WHAT IT READS IS OF BULK AT MOST 1048576: true; the input reads as it did. -/
def walkBetweenUptoRow : OpenClaim := { program := "ytklccpaphkpgfaagreat", sum := "94d288278ac4ae13c5a7804d7adb2d7dc44b791cfc48a7db4d626209b1cd2d5a", func := "rootstock/rootstocklaw13.WalkBetween", spec := "walkBetween", inPlace := ["slices.overlaps[rootstock/api.Item]", "slices.overlaps[rootstock/api.Kid]"], unfollowed := true, recurses := true, apart := false, narrowed := true }
def WalkBetweenUptoSaid : Prop := walkBetweenUptoRow.holds Tryz.pinned (OpenSpec.upto walkBetweenSpec)

/-- 'rootstocklaw12.TreeOlds', WHERE WHAT IT READS IS OF BULK AT MOST 1048576: true; the input reads as it did. -/
def treeOldsUptoRow : OpenClaim := { program := "ytklccpaphkpgfaagreat", sum := "94d288278ac4ae13c5a7804d7adb2d7dc44b791cfc48a7db4d626209b1cd2d5a", func := "rootstock/rootstocklaw12.TreeOlds", spec := "treeOlds", inPlace := ["slices.overlaps[rootstock/api.Item]", "slices.overlaps[rootstock/api.Kid]"], unfollowed := true, recurses := true, apart := false, narrowed := true }
def TreeOldsUptoSaid : Prop := treeOldsUptoRow.holds Tryz.pinned (OpenSpec.upto treeOldsSpec)

/-- 'rootstocklaw12.TreeEmpties', WHERE WHAT IT READS IS OF BULK AT MOST 1048576: true; the input reads as it did. -/
def treeEmptiesUptoRow : OpenClaim := { program := "ytklccpaphkpgfaagreat", sum := "94d288278ac4ae13c5a7804d7adb2d7dc44b791cfc48a7db4d626209b1cd2d5a", func := "rootstock/rootstocklaw12.TreeEmpties", spec := "treeEmpties", inPlace := ["slices.overlaps[rootstock/api.Item]", "slices.overlaps[rootstock/api.Kid]"], unfollowed := true, recurses := true, apart := false, narrowed := true }
def TreeEmptiesUptoSaid : Prop := treeEmptiesUptoRow.holds Tryz.pinned (OpenSpec.upto treeEmptiesSpec)

/-- 'rootstocklaw12.TreeDrops', WHERE WHAT IT READS IS OF BULK AT MOST 1048576: true; the input reads as it did. -/
def treeDropsUptoRow : OpenClaim := { program := "ytklccpaphkpgfaagreat", sum := "94d288278ac4ae13c5a7804d7adb2d7dc44b791cfc48a7db4d626209b1cd2d5a", func := "rootstock/rootstocklaw12.TreeDrops", spec := "treeDrops", inPlace := ["slices.overlaps[rootstock/api.Item]", "slices.overlaps[rootstock/api.Kid]"], unfollowed := true, recurses := true, apart := false, narrowed := true }
def TreeDropsUptoSaid : Prop := treeDropsUptoRow.holds Tryz.pinned (OpenSpec.upto treeDropsSpec)

end Rows
end Go.Proofs.YtklccpaphkpgfaaGreat
