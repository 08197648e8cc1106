/-
  DERIVED. GIVEN WITH THE SEED: THE CARDS: each row of YtlkknekflgclgaaDoorRows.lean that lists a variable, with what it lists TIED to the program's text (the seventh form; the later family's looks); each row that meets fmt, with fmt's text TOLD by the authors' own Lean function (tested against real Go, not proved from fmt's source: count such statements apart). THE CARD IS WHAT COUNTS. Prove the row's statement (the work); the ties are given (YtlkknekflgclgaaDoorTie.lean); close each card by the builder's one call (the guide's Derived/Test/ToyasCard.lean, 'card_holds'). Laid BY PROGRAM, IN A SANDBOX (cutbox-door.mjs). By AI agents, Wed Nov 11 2026. No macro, syntax, notation, axiom, sorry.
-/
import Derived.Test.YtlkknekflgclgaaDoorRows
import GoSem.ClaimSeven
namespace Go.Proofs.YtlkknekflgclgaaDoor
namespace Rows

/-- THE TIED CARD OF 'rootstocklaw19.CmdCounts'. -/
def cmdCountsCard : Claim7 := { stood := { row := cmdCountsRow, standIns := [], harness := (true, "2da3f7a666262687a9bd40fa609a662dc20c51fb3eabe01198a7db2475e6e635"), looks := false }, kinds := [], alts := [], laidByText := true, laidKinds := [.data, .data, .data, .data, .pinned], laidTests := true, laidLooks := .later }
def CmdCountsCardSaid : Prop := Claim7.holds Tryd.pinned (.plain (OpenSpec.ofChange cmdCountsSpec)) cmdCountsCard

/-- THE TIED CARD OF 'rootstocklaw19.CmdNexts'. -/
def cmdNextsCard : Claim7 := { stood := { row := cmdNextsRow, standIns := [], harness := (true, "2da3f7a666262687a9bd40fa609a662dc20c51fb3eabe01198a7db2475e6e635"), looks := false }, kinds := [], alts := [], laidByText := true, laidKinds := [.data, .data, .data, .data, .pinned], laidTests := true, laidLooks := .later }
def CmdNextsCardSaid : Prop := Claim7.holds Tryd.pinned (.plain (OpenSpec.ofChange cmdNextsSpec)) cmdNextsCard

/-- THE SECOND FORM's CARD OF 'rootstocklaw19.CmdCounts'. -/
def cmdCountsUptoCard : Claim7 := { stood := { row := cmdCountsUptoRow, standIns := [], harness := (true, "2da3f7a666262687a9bd40fa609a662dc20c51fb3eabe01198a7db2475e6e635"), looks := false }, kinds := [], alts := [], laidByText := true, laidKinds := [.data, .data, .data, .data, .pinned], laidTests := true, laidLooks := .later }
def CmdCountsUptoCardSaid : Prop := Claim7.holds Tryd.pinned (.plain (OpenSpec.upto cmdCountsSpec)) cmdCountsUptoCard

/-- THE SECOND FORM's CARD OF 'rootstocklaw19.CmdNexts'. -/
def cmdNextsUptoCard : Claim7 := { stood := { row := cmdNextsUptoRow, standIns := [], harness := (true, "2da3f7a666262687a9bd40fa609a662dc20c51fb3eabe01198a7db2475e6e635"), looks := false }, kinds := [], alts := [], laidByText := true, laidKinds := [.data, .data, .data, .data, .pinned], laidTests := true, laidLooks := .later }
def CmdNextsUptoCardSaid : Prop := Claim7.holds Tryd.pinned (.plain (OpenSpec.upto cmdNextsSpec)) cmdNextsUptoCard
end Rows
end Go.Proofs.YtlkknekflgclgaaDoor
