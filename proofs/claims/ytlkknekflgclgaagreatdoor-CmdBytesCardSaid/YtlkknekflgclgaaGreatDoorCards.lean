/-
  DERIVED. GIVEN WITH THE SEED: THE CARDS: each row of YtlkknekflgclgaaGreatDoorRows.lean that lists a variable, with what it lists TIED to the program's text (the seventh form; the later family's looks); each row that meets fmt, with fmt's text TOLD by the authors' own Lean function (tested against real Go, not proved from fmt's source: count such statements apart). THE CARD IS WHAT COUNTS. Prove the row's statement (the work); the ties are given (YtlkknekflgclgaaGreatDoorTie.lean); close each card by the builder's one call (the guide's Derived/Test/ToyasCard.lean, 'card_holds'). Laid BY PROGRAM, IN A SANDBOX (cutbox-door.mjs). By AI agents, Wed Nov 11 2026. No macro, syntax, notation, axiom, sorry.
-/
import Derived.Test.YtlkknekflgclgaaGreatDoorRows
import GoSem.ClaimSeven
namespace Go.Proofs.YtlkknekflgclgaaGreatDoor
namespace Rows

/-- THE TIED CARD OF 'rootstocklaw14.BucketTells'. -/
def bucketTellsCard : Claim7 := { stood := { row := bucketTellsRow, standIns := [], harness := (true, "e1f999facb9b82cb8abe9389fd8feab2cb60d3557136a2f1b46f678f1ff59f43"), looks := false }, kinds := [], alts := [], laidByText := true, laidKinds := [.data, .pinned], laidTests := true, laidLooks := .later }
def BucketTellsCardSaid : Prop := Claim7.holds Tryz.pinned (.plain (OpenSpec.ofChange bucketTellsSpec)) bucketTellsCard

/-- THE TIED CARD OF 'rootstocklaw19.CmdBack'. -/
def cmdBackCard : Claim7 := { stood := { row := cmdBackRow, standIns := [], harness := (true, "e1f999facb9b82cb8abe9389fd8feab2cb60d3557136a2f1b46f678f1ff59f43"), looks := false }, kinds := [], alts := [], laidByText := true, laidKinds := [.data, .data, .data, .data, .pinned], laidTests := true, laidLooks := .later }
def CmdBackCardSaid : Prop := Claim7.holds Tryz.pinned (.plain (OpenSpec.ofChange cmdBackSpec)) cmdBackCard

/-- THE TIED CARD OF 'rootstocklaw19.CmdBytes'. -/
def cmdBytesCard : Claim7 := { stood := { row := cmdBytesRow, standIns := [], harness := (true, "e1f999facb9b82cb8abe9389fd8feab2cb60d3557136a2f1b46f678f1ff59f43"), looks := false }, kinds := [], alts := [], laidByText := true, laidKinds := [.data, .data, .data, .data, .pinned], laidTests := true, laidLooks := .later }
def CmdBytesCardSaid : Prop := Claim7.holds Tryz.pinned (.plain (OpenSpec.ofChange cmdBytesSpec)) cmdBytesCard

/-- THE SECOND FORM's CARD OF 'rootstocklaw14.BucketTells'. -/
def bucketTellsUptoCard : Claim7 := { stood := { row := bucketTellsUptoRow, standIns := [], harness := (true, "e1f999facb9b82cb8abe9389fd8feab2cb60d3557136a2f1b46f678f1ff59f43"), looks := false }, kinds := [], alts := [], laidByText := true, laidKinds := [.data, .pinned], laidTests := true, laidLooks := .later }
def BucketTellsUptoCardSaid : Prop := Claim7.holds Tryz.pinned (.plain (OpenSpec.upto bucketTellsSpec)) bucketTellsUptoCard

/-- THE SECOND FORM's CARD OF 'rootstocklaw19.CmdBack'. -/
def cmdBackUptoCard : Claim7 := { stood := { row := cmdBackUptoRow, standIns := [], harness := (true, "e1f999facb9b82cb8abe9389fd8feab2cb60d3557136a2f1b46f678f1ff59f43"), looks := false }, kinds := [], alts := [], laidByText := true, laidKinds := [.data, .data, .data, .data, .pinned], laidTests := true, laidLooks := .later }
def CmdBackUptoCardSaid : Prop := Claim7.holds Tryz.pinned (.plain (OpenSpec.upto cmdBackSpec)) cmdBackUptoCard

/-- THE SECOND FORM's CARD OF 'rootstocklaw19.CmdBytes'. -/
def cmdBytesUptoCard : Claim7 := { stood := { row := cmdBytesUptoRow, standIns := [], harness := (true, "e1f999facb9b82cb8abe9389fd8feab2cb60d3557136a2f1b46f678f1ff59f43"), looks := false }, kinds := [], alts := [], laidByText := true, laidKinds := [.data, .data, .data, .data, .pinned], laidTests := true, laidLooks := .later }
def CmdBytesUptoCardSaid : Prop := Claim7.holds Tryz.pinned (.plain (OpenSpec.upto cmdBytesSpec)) cmdBytesUptoCard
end Rows
end Go.Proofs.YtlkknekflgclgaaGreatDoor
