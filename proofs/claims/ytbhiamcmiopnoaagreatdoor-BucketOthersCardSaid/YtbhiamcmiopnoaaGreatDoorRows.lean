/-
  NARROWER THAN 'FOR EVERY INPUT', by the rows' own cells (each row's printed sentence says how): BucketTells: laid · BucketPages: laid · BucketDrops: laid · BucketOthers: laid · BucketPlays: laid.
  DERIVED. THE GIVEN ROWS OF THIS SEAT. 5 by the template 'for every input the law returns true; each argument reads behind the call as it read before'; 0 by the template 'total and deterministic' (their statements: YtbhiamcmiopnoaaGreatDoorTotals.lean).
  GIVEN WITH THE SEED: the statements are not yours to turn. If you find one false, say at which input.
  Laid BY PROGRAM, IN A SANDBOX (cutbox-rows.mjs): the forced cells as the released guide's own fill.sh prints them over the translation 421abb763f493688… (all of the seat's roots in one cut). By AI agents, Wed Nov 11 2026. No macro, syntax, notation, axiom, sorry.
-/
import Derived.Test.YtbhiamcmiopnoaaGreatDoorChecked
import GoSem.PinnedTables
import GoSem.Claim
import GoSem.ClaimJoined
import GoSem.ClaimMapViews
import Derived.JoinedTies
import Derived.KernelRfl
namespace Go.Proofs.YtbhiamcmiopnoaaGreatDoor
/- THE CELL 'sum', in the pinned program and in every row, IS THE sha256 OF THE DUMP (.gsa) THAT YtbhiamcmiopnoaaGreatDoorProg.lean LOADS. Nothing in Lean hashes anything: it is a label: what it is worth is what the hold of that sum in a sandbox is worth. -/
noncomputable def Tryz.pinned : Pinned := { name := "ytbhiamcmiopnoaagreatdoor", sum := "421abb763f4936886e92f9a63729d3baf004413e25ed856ec6270f9b956d1483", checked := Tryz.checked }
namespace Rows
def none {H : Type} : Left H := { results := [], args := [] }

/- WHAT THE LISTED PACKAGE-LEVEL VARIABLES READ AS WHEN THE CALL BEGINS. Each datum BY PROGRAM (the guide's laid-datum.mjs) off the statement by which the dump's own 'gosem.cut.vars' lays the variable. In a bare row this is a premise. The card (YtbhiamcmiopnoaaGreatDoorCards.lean) ties it to the program's text. -/
def laid_unicode_utf8_acceptRanges {H : Type} : DataW H := .agg [.agg [.lit (.int .u8 128), .lit (.int .u8 191)], .agg [.lit (.int .u8 160), .lit (.int .u8 191)], .agg [.lit (.int .u8 128), .lit (.int .u8 159)], .agg [.lit (.int .u8 144), .lit (.int .u8 191)], .agg [.lit (.int .u8 128), .lit (.int .u8 143)], .agg [.lit (.int .u8 0), .lit (.int .u8 0)], .agg [.lit (.int .u8 0), .lit (.int .u8 0)], .agg [.lit (.int .u8 0), .lit (.int .u8 0)], .agg [.lit (.int .u8 0), .lit (.int .u8 0)], .agg [.lit (.int .u8 0), .lit (.int .u8 0)], .agg [.lit (.int .u8 0), .lit (.int .u8 0)], .agg [.lit (.int .u8 0), .lit (.int .u8 0)], .agg [.lit (.int .u8 0), .lit (.int .u8 0)], .agg [.lit (.int .u8 0), .lit (.int .u8 0)], .agg [.lit (.int .u8 0), .lit (.int .u8 0)], .agg [.lit (.int .u8 0), .lit (.int .u8 0)]]
/-- One of Go's own tables, pinned by name: the form's constant. -/
def laid_unicode_utf8_first : DataW Unit := Go.Pinned.utf8First

/-- 'rootstocklaw14.BucketTells': WHATEVER THE INPUT: true; the input reads as it did. -/
def bucketTellsSpec : ChangeSpec := { name := "bucketTells", fn := fun _ => fun
  | [d1, d2, d3] => { results := [.lit (.bool true)], args := [d1, d2, d3] }
  | _ => none }
def bucketTellsRow : OpenClaim := { program := "ytbhiamcmiopnoaagreatdoor", sum := "421abb763f4936886e92f9a63729d3baf004413e25ed856ec6270f9b956d1483", func := "rootstock/rootstocklaw14.BucketTells", spec := "bucketTells", inPlace := ["slices.overlaps[rootstock/api.Item]", "slices.overlaps[rootstock/api.Kid]", "internal/bytealg.CountString", "internal/bytealg.IndexByteString", "internal/bytealg.IndexString"], unfollowed := true, recurses := true, named := ["unicode/utf8.first", "unicode/utf8.acceptRanges", "internal/bytealg.MaxLen"], apart := false, laid := [("unicode/utf8.acceptRanges", laid_unicode_utf8_acceptRanges), ("unicode/utf8.first", laid_unicode_utf8_first)] }
def BucketTellsSaid : Prop := bucketTellsRow.holds Tryz.pinned (OpenSpec.ofChange bucketTellsSpec)

/-- ITS FALSE NEIGHBOUR: 'it returns false'. Refute it at one input. -/
def bucketTellsWrong : ChangeSpec := { name := "bucketTells", fn := fun _ => fun
  | [d1, d2, d3] => { results := [.lit (.bool false)], args := [d1, d2, d3] }
  | _ => none }
def BucketTellsWrongFalsely : Prop := bucketTellsRow.holds Tryz.pinned (OpenSpec.ofChange bucketTellsWrong)

/-- 'rootstocklaw14.BucketPages': WHATEVER THE INPUT: true; the input reads as it did. -/
def bucketPagesSpec : ChangeSpec := { name := "bucketPages", fn := fun _ => fun
  | [d] => { results := [.lit (.bool true)], args := [d] }
  | _ => none }
def bucketPagesRow : OpenClaim := { program := "ytbhiamcmiopnoaagreatdoor", sum := "421abb763f4936886e92f9a63729d3baf004413e25ed856ec6270f9b956d1483", func := "rootstock/rootstocklaw14.BucketPages", spec := "bucketPages", inPlace := ["slices.overlaps[rootstock/api.Item]", "slices.overlaps[rootstock/api.Kid]", "internal/bytealg.CountString", "internal/bytealg.IndexByteString", "internal/bytealg.IndexString"], unfollowed := true, recurses := true, named := ["unicode/utf8.first", "unicode/utf8.acceptRanges", "internal/bytealg.MaxLen"], apart := false, laid := [("unicode/utf8.acceptRanges", laid_unicode_utf8_acceptRanges), ("unicode/utf8.first", laid_unicode_utf8_first)] }
def BucketPagesSaid : Prop := bucketPagesRow.holds Tryz.pinned (OpenSpec.ofChange bucketPagesSpec)

/-- ITS FALSE NEIGHBOUR: 'it returns false'. Refute it at one input. -/
def bucketPagesWrong : ChangeSpec := { name := "bucketPages", fn := fun _ => fun
  | [d] => { results := [.lit (.bool false)], args := [d] }
  | _ => none }
def BucketPagesWrongFalsely : Prop := bucketPagesRow.holds Tryz.pinned (OpenSpec.ofChange bucketPagesWrong)

/-- 'rootstocklaw14.BucketDrops': WHATEVER THE INPUT: true; the input reads as it did. -/
def bucketDropsSpec : ChangeSpec := { name := "bucketDrops", fn := fun _ => fun
  | [d] => { results := [.lit (.bool true)], args := [d] }
  | _ => none }
def bucketDropsRow : OpenClaim := { program := "ytbhiamcmiopnoaagreatdoor", sum := "421abb763f4936886e92f9a63729d3baf004413e25ed856ec6270f9b956d1483", func := "rootstock/rootstocklaw14.BucketDrops", spec := "bucketDrops", inPlace := ["slices.overlaps[rootstock/api.Item]", "slices.overlaps[rootstock/api.Kid]", "internal/bytealg.CountString", "internal/bytealg.IndexByteString", "internal/bytealg.IndexString"], unfollowed := true, recurses := true, named := ["unicode/utf8.first", "unicode/utf8.acceptRanges", "internal/bytealg.MaxLen"], apart := false, laid := [("unicode/utf8.acceptRanges", laid_unicode_utf8_acceptRanges), ("unicode/utf8.first", laid_unicode_utf8_first)] }
def BucketDropsSaid : Prop := bucketDropsRow.holds Tryz.pinned (OpenSpec.ofChange bucketDropsSpec)

/-- ITS FALSE NEIGHBOUR: 'it returns false'. Refute it at one input. -/
def bucketDropsWrong : ChangeSpec := { name := "bucketDrops", fn := fun _ => fun
  | [d] => { results := [.lit (.bool false)], args := [d] }
  | _ => none }
def BucketDropsWrongFalsely : Prop := bucketDropsRow.holds Tryz.pinned (OpenSpec.ofChange bucketDropsWrong)

/-- 'rootstocklaw14.BucketOthers': WHATEVER THE INPUT: true; the input reads as it did. -/
def bucketOthersSpec : ChangeSpec := { name := "bucketOthers", fn := fun _ => fun
  | [d1, d2, d3] => { results := [.lit (.bool true)], args := [d1, d2, d3] }
  | _ => none }
def bucketOthersRow : OpenClaim := { program := "ytbhiamcmiopnoaagreatdoor", sum := "421abb763f4936886e92f9a63729d3baf004413e25ed856ec6270f9b956d1483", func := "rootstock/rootstocklaw14.BucketOthers", spec := "bucketOthers", inPlace := ["slices.overlaps[rootstock/api.Item]", "slices.overlaps[rootstock/api.Kid]", "internal/bytealg.CountString", "internal/bytealg.IndexByteString", "internal/bytealg.IndexString"], unfollowed := true, recurses := true, named := ["unicode/utf8.first", "unicode/utf8.acceptRanges", "internal/bytealg.MaxLen"], apart := false, laid := [("unicode/utf8.acceptRanges", laid_unicode_utf8_acceptRanges), ("unicode/utf8.first", laid_unicode_utf8_first)] }
def BucketOthersSaid : Prop := bucketOthersRow.holds Tryz.pinned (OpenSpec.ofChange bucketOthersSpec)

/-- ITS FALSE NEIGHBOUR: 'it returns false'. Refute it at one input. -/
def bucketOthersWrong : ChangeSpec := { name := "bucketOthers", fn := fun _ => fun
  | [d1, d2, d3] => { results := [.lit (.bool false)], args := [d1, d2, d3] }
  | _ => none }
def BucketOthersWrongFalsely : Prop := bucketOthersRow.holds Tryz.pinned (OpenSpec.ofChange bucketOthersWrong)

/-- 'rootstocklaw14.BucketPlays': WHATEVER THE INPUT: true; the input reads as it did. -/
def bucketPlaysSpec : ChangeSpec := { name := "bucketPlays", fn := fun _ => fun
  | [d1, d2, d3, d4] => { results := [.lit (.bool true)], args := [d1, d2, d3, d4] }
  | _ => none }
def bucketPlaysRow : OpenClaim := { program := "ytbhiamcmiopnoaagreatdoor", sum := "421abb763f4936886e92f9a63729d3baf004413e25ed856ec6270f9b956d1483", func := "rootstock/rootstocklaw14.BucketPlays", spec := "bucketPlays", inPlace := ["slices.overlaps[rootstock/api.Item]", "slices.overlaps[rootstock/api.Kid]", "internal/bytealg.CountString", "internal/bytealg.IndexByteString", "internal/bytealg.IndexString"], unfollowed := true, recurses := true, named := ["unicode/utf8.first", "unicode/utf8.acceptRanges", "internal/bytealg.MaxLen"], apart := false, laid := [("unicode/utf8.acceptRanges", laid_unicode_utf8_acceptRanges), ("unicode/utf8.first", laid_unicode_utf8_first)] }
def BucketPlaysSaid : Prop := bucketPlaysRow.holds Tryz.pinned (OpenSpec.ofChange bucketPlaysSpec)

/-- ITS FALSE NEIGHBOUR: 'it returns false'. Refute it at one input. -/
def bucketPlaysWrong : ChangeSpec := { name := "bucketPlays", fn := fun _ => fun
  | [d1, d2, d3, d4] => { results := [.lit (.bool false)], args := [d1, d2, d3, d4] }
  | _ => none }
def BucketPlaysWrongFalsely : Prop := bucketPlaysRow.holds Tryz.pinned (OpenSpec.ofChange bucketPlaysWrong)

/- THE SECOND FORM. 'bulk': how many values and letters a reading holds, each counted each time it is reached (what is shared counts as often as it is met; a slice's spare places count too). A statement '..UptoSaid' is the law's where the arguments, and the package variables that the reading takes, are together of bulk at most 1048576: NARROWER than '..Said'. Prove '..Said' where nothing that the law and all that it calls make is longer than what came in: it says more and counts as full. Else prove '..UptoSaid'. A law counts once. -/
mutual
def uptoBulk {H : Type} : DataW H → Nat
  | .lit (.string bytes) => bytes.length + 1
  | .lit _ => 1
  | .nil => 1
  | .ptr d => uptoBulk d + 1
  | .slice elems spare => uptoBulkAll elems + uptoBulkAll spare + 1
  | .agg parts => uptoBulkAll parts + 1
  | .iface _ d => uptoBulk d + 1
  | .map entries => uptoBulkEntries entries + 1
  | .held _ => 1
def uptoBulkAll {H : Type} : List (DataW H) → Nat
  | [] => 0
  | d :: r => uptoBulk d + uptoBulkAll r
def uptoBulkEntries {H : Type} : List (Lit × DataW H) → Nat
  | [] => 0
  | x :: r => uptoBulkEntry x + uptoBulkEntries r
def uptoBulkEntry {H : Type} : Lit × DataW H → Nat
  | (.string bytes, d) => bytes.length + uptoBulk d + 1
  | (_, d) => uptoBulk d + 1
 end
def uptoSmall : (H : Type) → List (DataW H) → Bool := fun _ ds => decide (uptoBulkAll ds ≤ 1048576)
def OpenSpec.upto (s : _root_.Go.ChangeSpec) : _root_.Go.OpenSpec := { _root_.Go.OpenSpec.ofChange s with cond := some uptoSmall }

/-- 'rootstocklaw14.BucketTells', WHERE WHAT IT READS IS OF BULK AT MOST 1048576: true; the input reads as it did. -/
def bucketTellsUptoRow : OpenClaim := { program := "ytbhiamcmiopnoaagreatdoor", sum := "421abb763f4936886e92f9a63729d3baf004413e25ed856ec6270f9b956d1483", func := "rootstock/rootstocklaw14.BucketTells", spec := "bucketTells", inPlace := ["slices.overlaps[rootstock/api.Item]", "slices.overlaps[rootstock/api.Kid]", "internal/bytealg.CountString", "internal/bytealg.IndexByteString", "internal/bytealg.IndexString"], unfollowed := true, recurses := true, named := ["unicode/utf8.first", "unicode/utf8.acceptRanges", "internal/bytealg.MaxLen"], apart := false, laid := [("unicode/utf8.acceptRanges", laid_unicode_utf8_acceptRanges), ("unicode/utf8.first", laid_unicode_utf8_first)], narrowed := true }
def BucketTellsUptoSaid : Prop := bucketTellsUptoRow.holds Tryz.pinned (OpenSpec.upto bucketTellsSpec)

/-- 'rootstocklaw14.BucketPages', WHERE WHAT IT READS IS OF BULK AT MOST 1048576: true; the input reads as it did. -/
def bucketPagesUptoRow : OpenClaim := { program := "ytbhiamcmiopnoaagreatdoor", sum := "421abb763f4936886e92f9a63729d3baf004413e25ed856ec6270f9b956d1483", func := "rootstock/rootstocklaw14.BucketPages", spec := "bucketPages", inPlace := ["slices.overlaps[rootstock/api.Item]", "slices.overlaps[rootstock/api.Kid]", "internal/bytealg.CountString", "internal/bytealg.IndexByteString", "internal/bytealg.IndexString"], unfollowed := true, recurses := true, named := ["unicode/utf8.first", "unicode/utf8.acceptRanges", "internal/bytealg.MaxLen"], apart := false, laid := [("unicode/utf8.acceptRanges", laid_unicode_utf8_acceptRanges), ("unicode/utf8.first", laid_unicode_utf8_first)], narrowed := true }
def BucketPagesUptoSaid : Prop := bucketPagesUptoRow.holds Tryz.pinned (OpenSpec.upto bucketPagesSpec)

/-- 'rootstocklaw14.BucketDrops', WHERE WHAT IT READS IS OF BULK AT MOST 1048576: true; the input reads as it did. -/
def bucketDropsUptoRow : OpenClaim := { program := "ytbhiamcmiopnoaagreatdoor", sum := "421abb763f4936886e92f9a63729d3baf004413e25ed856ec6270f9b956d1483", func := "rootstock/rootstocklaw14.BucketDrops", spec := "bucketDrops", inPlace := ["slices.overlaps[rootstock/api.Item]", "slices.overlaps[rootstock/api.Kid]", "internal/bytealg.CountString", "internal/bytealg.IndexByteString", "internal/bytealg.IndexString"], unfollowed := true, recurses := true, named := ["unicode/utf8.first", "unicode/utf8.acceptRanges", "internal/bytealg.MaxLen"], apart := false, laid := [("unicode/utf8.acceptRanges", laid_unicode_utf8_acceptRanges), ("unicode/utf8.first", laid_unicode_utf8_first)], narrowed := true }
def BucketDropsUptoSaid : Prop := bucketDropsUptoRow.holds Tryz.pinned (OpenSpec.upto bucketDropsSpec)

/-- 'rootstocklaw14.BucketOthers', WHERE WHAT IT READS IS OF BULK AT MOST 1048576: true; the input reads as it did. -/
def bucketOthersUptoRow : OpenClaim := { program := "ytbhiamcmiopnoaagreatdoor", sum := "421abb763f4936886e92f9a63729d3baf004413e25ed856ec6270f9b956d1483", func := "rootstock/rootstocklaw14.BucketOthers", spec := "bucketOthers", inPlace := ["slices.overlaps[rootstock/api.Item]", "slices.overlaps[rootstock/api.Kid]", "internal/bytealg.CountString", "internal/bytealg.IndexByteString", "internal/bytealg.IndexString"], unfollowed := true, recurses := true, named := ["unicode/utf8.first", "unicode/utf8.acceptRanges", "internal/bytealg.MaxLen"], apart := false, laid := [("unicode/utf8.acceptRanges", laid_unicode_utf8_acceptRanges), ("unicode/utf8.first", laid_unicode_utf8_first)], narrowed := true }
def BucketOthersUptoSaid : Prop := bucketOthersUptoRow.holds Tryz.pinned (OpenSpec.upto bucketOthersSpec)

/-- 'rootstocklaw14.BucketPlays', WHERE WHAT IT READS IS OF BULK AT MOST 1048576: true; the input reads as it did. -/
def bucketPlaysUptoRow : OpenClaim := { program := "ytbhiamcmiopnoaagreatdoor", sum := "421abb763f4936886e92f9a63729d3baf004413e25ed856ec6270f9b956d1483", func := "rootstock/rootstocklaw14.BucketPlays", spec := "bucketPlays", inPlace := ["slices.overlaps[rootstock/api.Item]", "slices.overlaps[rootstock/api.Kid]", "internal/bytealg.CountString", "internal/bytealg.IndexByteString", "internal/bytealg.IndexString"], unfollowed := true, recurses := true, named := ["unicode/utf8.first", "unicode/utf8.acceptRanges", "internal/bytealg.MaxLen"], apart := false, laid := [("unicode/utf8.acceptRanges", laid_unicode_utf8_acceptRanges), ("unicode/utf8.first", laid_unicode_utf8_first)], narrowed := true }
def BucketPlaysUptoSaid : Prop := bucketPlaysUptoRow.holds Tryz.pinned (OpenSpec.upto bucketPlaysSpec)

end Rows
end Go.Proofs.YtbhiamcmiopnoaaGreatDoor
