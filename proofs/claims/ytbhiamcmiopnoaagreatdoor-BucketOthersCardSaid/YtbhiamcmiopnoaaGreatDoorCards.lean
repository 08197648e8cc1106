/-
  DERIVED. GIVEN WITH THE SEED: THE CARDS: each row of YtbhiamcmiopnoaaGreatDoorRows.lean that lists a variable, with what it lists TIED to the program's text (the seventh form; the later family's looks); each row that meets fmt, with fmt's text TOLD by the authors' own Lean function (tested against real Go, not proved from fmt's source: count such statements apart). THE CARD IS WHAT COUNTS. Prove the row's statement (the work); the ties are given (YtbhiamcmiopnoaaGreatDoorTie.lean); close each card by the builder's one call (the guide's Derived/Test/ToyasCard.lean, 'card_holds'). Laid BY PROGRAM, IN A SANDBOX (cutbox-door.mjs). By AI agents, Wed Nov 11 2026. No macro, syntax, notation, axiom, sorry.
-/
import Derived.Test.YtbhiamcmiopnoaaGreatDoorRows
import GoSem.ClaimSeven
namespace Go.Proofs.YtbhiamcmiopnoaaGreatDoor
namespace Rows

/-- THE TIED CARD OF 'rootstocklaw14.BucketTells'. -/
def bucketTellsCard : Claim7 := { stood := { row := bucketTellsRow, standIns := [], harness := (true, "03bbe051a251d29b92b37ff09bbc20f34e518b86d95078b479c71e11bcbd9ba5"), looks := false }, kinds := [], alts := [], laidByText := true, laidKinds := [.data, .pinned], laidTests := true, laidLooks := .later }
def BucketTellsCardSaid : Prop := Claim7.holds Tryz.pinned (.plain (OpenSpec.ofChange bucketTellsSpec)) bucketTellsCard

/-- THE TIED CARD OF 'rootstocklaw14.BucketPages'. -/
def bucketPagesCard : Claim7 := { stood := { row := bucketPagesRow, standIns := [], harness := (true, "03bbe051a251d29b92b37ff09bbc20f34e518b86d95078b479c71e11bcbd9ba5"), looks := false }, kinds := [], alts := [], laidByText := true, laidKinds := [.data, .pinned], laidTests := true, laidLooks := .later }
def BucketPagesCardSaid : Prop := Claim7.holds Tryz.pinned (.plain (OpenSpec.ofChange bucketPagesSpec)) bucketPagesCard

/-- THE TIED CARD OF 'rootstocklaw14.BucketDrops'. -/
def bucketDropsCard : Claim7 := { stood := { row := bucketDropsRow, standIns := [], harness := (true, "03bbe051a251d29b92b37ff09bbc20f34e518b86d95078b479c71e11bcbd9ba5"), looks := false }, kinds := [], alts := [], laidByText := true, laidKinds := [.data, .pinned], laidTests := true, laidLooks := .later }
def BucketDropsCardSaid : Prop := Claim7.holds Tryz.pinned (.plain (OpenSpec.ofChange bucketDropsSpec)) bucketDropsCard

/-- THE TIED CARD OF 'rootstocklaw14.BucketOthers'. -/
def bucketOthersCard : Claim7 := { stood := { row := bucketOthersRow, standIns := [], harness := (true, "03bbe051a251d29b92b37ff09bbc20f34e518b86d95078b479c71e11bcbd9ba5"), looks := false }, kinds := [], alts := [], laidByText := true, laidKinds := [.data, .pinned], laidTests := true, laidLooks := .later }
def BucketOthersCardSaid : Prop := Claim7.holds Tryz.pinned (.plain (OpenSpec.ofChange bucketOthersSpec)) bucketOthersCard

/-- THE TIED CARD OF 'rootstocklaw14.BucketPlays'. -/
def bucketPlaysCard : Claim7 := { stood := { row := bucketPlaysRow, standIns := [], harness := (true, "03bbe051a251d29b92b37ff09bbc20f34e518b86d95078b479c71e11bcbd9ba5"), looks := false }, kinds := [], alts := [], laidByText := true, laidKinds := [.data, .pinned], laidTests := true, laidLooks := .later }
def BucketPlaysCardSaid : Prop := Claim7.holds Tryz.pinned (.plain (OpenSpec.ofChange bucketPlaysSpec)) bucketPlaysCard

/-- THE SECOND FORM's CARD OF 'rootstocklaw14.BucketTells'. -/
def bucketTellsUptoCard : Claim7 := { stood := { row := bucketTellsUptoRow, standIns := [], harness := (true, "03bbe051a251d29b92b37ff09bbc20f34e518b86d95078b479c71e11bcbd9ba5"), looks := false }, kinds := [], alts := [], laidByText := true, laidKinds := [.data, .pinned], laidTests := true, laidLooks := .later }
def BucketTellsUptoCardSaid : Prop := Claim7.holds Tryz.pinned (.plain (OpenSpec.upto bucketTellsSpec)) bucketTellsUptoCard

/-- THE SECOND FORM's CARD OF 'rootstocklaw14.BucketPages'. -/
def bucketPagesUptoCard : Claim7 := { stood := { row := bucketPagesUptoRow, standIns := [], harness := (true, "03bbe051a251d29b92b37ff09bbc20f34e518b86d95078b479c71e11bcbd9ba5"), looks := false }, kinds := [], alts := [], laidByText := true, laidKinds := [.data, .pinned], laidTests := true, laidLooks := .later }
def BucketPagesUptoCardSaid : Prop := Claim7.holds Tryz.pinned (.plain (OpenSpec.upto bucketPagesSpec)) bucketPagesUptoCard

/-- THE SECOND FORM's CARD OF 'rootstocklaw14.BucketDrops'. -/
def bucketDropsUptoCard : Claim7 := { stood := { row := bucketDropsUptoRow, standIns := [], harness := (true, "03bbe051a251d29b92b37ff09bbc20f34e518b86d95078b479c71e11bcbd9ba5"), looks := false }, kinds := [], alts := [], laidByText := true, laidKinds := [.data, .pinned], laidTests := true, laidLooks := .later }
def BucketDropsUptoCardSaid : Prop := Claim7.holds Tryz.pinned (.plain (OpenSpec.upto bucketDropsSpec)) bucketDropsUptoCard

/-- THE SECOND FORM's CARD OF 'rootstocklaw14.BucketOthers'. -/
def bucketOthersUptoCard : Claim7 := { stood := { row := bucketOthersUptoRow, standIns := [], harness := (true, "03bbe051a251d29b92b37ff09bbc20f34e518b86d95078b479c71e11bcbd9ba5"), looks := false }, kinds := [], alts := [], laidByText := true, laidKinds := [.data, .pinned], laidTests := true, laidLooks := .later }
def BucketOthersUptoCardSaid : Prop := Claim7.holds Tryz.pinned (.plain (OpenSpec.upto bucketOthersSpec)) bucketOthersUptoCard

/-- THE SECOND FORM's CARD OF 'rootstocklaw14.BucketPlays'. -/
def bucketPlaysUptoCard : Claim7 := { stood := { row := bucketPlaysUptoRow, standIns := [], harness := (true, "03bbe051a251d29b92b37ff09bbc20f34e518b86d95078b479c71e11bcbd9ba5"), looks := false }, kinds := [], alts := [], laidByText := true, laidKinds := [.data, .pinned], laidTests := true, laidLooks := .later }
def BucketPlaysUptoCardSaid : Prop := Claim7.holds Tryz.pinned (.plain (OpenSpec.upto bucketPlaysSpec)) bucketPlaysUptoCard
end Rows
end Go.Proofs.YtbhiamcmiopnoaaGreatDoor
