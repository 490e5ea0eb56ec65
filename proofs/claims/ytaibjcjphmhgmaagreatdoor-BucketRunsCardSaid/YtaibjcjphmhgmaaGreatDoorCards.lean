/-
  DERIVED. GIVEN WITH THE SEED: THE CARDS: each row of YtaibjcjphmhgmaaGreatDoorRows.lean that lists a variable, with what it lists TIED to the program's text (the seventh form; the later family's looks); each row that meets fmt, with fmt's text TOLD by the authors' own Lean function (tested against real Go, not proved from fmt's source: count such statements apart). THE CARD IS WHAT COUNTS. Prove the row's statement (the work); the ties are given (YtaibjcjphmhgmaaGreatDoorTie.lean); close each card by the builder's one call (the guide's Derived/Test/ToyasCard.lean, 'card_holds'). Laid BY PROGRAM, IN A SANDBOX (cutbox-door.mjs). By AI agents, Wed Nov 11 2026. No macro, syntax, notation, axiom, sorry.
-/
import Derived.Test.YtaibjcjphmhgmaaGreatDoorRows
import GoSem.ClaimSeven
namespace Go.Proofs.YtaibjcjphmhgmaaGreatDoor
namespace Rows

/-- THE TIED CARD OF 'cooperagelaw14.BucketRuns'. -/
def bucketRunsCard : Claim7 := { stood := { row := bucketRunsRow, standIns := [], harness := (true, "e3fabda0debf48d7aac4d29c92482413552b901b43201296f76c3a639715055e"), looks := true }, kinds := [], alts := [], laidByText := true, laidKinds := [.data, .pinned], laidTests := true, laidLooks := .later }
def BucketRunsCardSaid : Prop := Claim7.holds Tryz.pinned (.plain (OpenSpec.ofChange bucketRunsSpec)) bucketRunsCard

/-- THE TIED CARD OF 'cooperagelaw14.BucketApart'. -/
def bucketApartCard : Claim7 := { stood := { row := bucketApartRow, standIns := [], harness := (true, "e3fabda0debf48d7aac4d29c92482413552b901b43201296f76c3a639715055e"), looks := true }, kinds := [], alts := [], laidByText := true, laidKinds := [.data, .pinned], laidTests := true, laidLooks := .later }
def BucketApartCardSaid : Prop := Claim7.holds Tryz.pinned (.plain (OpenSpec.ofChange bucketApartSpec)) bucketApartCard

/-- THE TIED CARD OF 'cooperagelaw09.TreeMany'. -/
def treeManyCard : Claim7 := { stood := { row := treeManyRow, standIns := [], harness := (true, "e3fabda0debf48d7aac4d29c92482413552b901b43201296f76c3a639715055e"), looks := true }, kinds := [], alts := [], laidByText := true, laidKinds := [.data, .pinned], laidTests := true, laidLooks := .later }
def TreeManyCardSaid : Prop := Claim7.holds Tryz.pinned (.plain (OpenSpec.ofChange treeManySpec)) treeManyCard

/-- THE TIED CARD OF 'cooperagelaw09.TreeFull'. -/
def treeFullCard : Claim7 := { stood := { row := treeFullRow, standIns := [], harness := (true, "e3fabda0debf48d7aac4d29c92482413552b901b43201296f76c3a639715055e"), looks := true }, kinds := [], alts := [], laidByText := true, laidKinds := [.data, .pinned], laidTests := true, laidLooks := .later }
def TreeFullCardSaid : Prop := Claim7.holds Tryz.pinned (.plain (OpenSpec.ofChange treeFullSpec)) treeFullCard

/-- THE TIED CARD OF 'cooperagelaw09.TreeRuns'. -/
def treeRunsCard : Claim7 := { stood := { row := treeRunsRow, standIns := [], harness := (true, "e3fabda0debf48d7aac4d29c92482413552b901b43201296f76c3a639715055e"), looks := true }, kinds := [], alts := [], laidByText := true, laidKinds := [.data, .pinned], laidTests := true, laidLooks := .later }
def TreeRunsCardSaid : Prop := Claim7.holds Tryz.pinned (.plain (OpenSpec.ofChange treeRunsSpec)) treeRunsCard

/-- THE SECOND FORM's CARD OF 'cooperagelaw14.BucketRuns'. -/
def bucketRunsUptoCard : Claim7 := { stood := { row := bucketRunsUptoRow, standIns := [], harness := (true, "e3fabda0debf48d7aac4d29c92482413552b901b43201296f76c3a639715055e"), looks := true }, kinds := [], alts := [], laidByText := true, laidKinds := [.data, .pinned], laidTests := true, laidLooks := .later }
def BucketRunsUptoCardSaid : Prop := Claim7.holds Tryz.pinned (.plain (OpenSpec.upto bucketRunsSpec)) bucketRunsUptoCard

/-- THE SECOND FORM's CARD OF 'cooperagelaw14.BucketApart'. -/
def bucketApartUptoCard : Claim7 := { stood := { row := bucketApartUptoRow, standIns := [], harness := (true, "e3fabda0debf48d7aac4d29c92482413552b901b43201296f76c3a639715055e"), looks := true }, kinds := [], alts := [], laidByText := true, laidKinds := [.data, .pinned], laidTests := true, laidLooks := .later }
def BucketApartUptoCardSaid : Prop := Claim7.holds Tryz.pinned (.plain (OpenSpec.upto bucketApartSpec)) bucketApartUptoCard

/-- THE SECOND FORM's CARD OF 'cooperagelaw09.TreeMany'. -/
def treeManyUptoCard : Claim7 := { stood := { row := treeManyUptoRow, standIns := [], harness := (true, "e3fabda0debf48d7aac4d29c92482413552b901b43201296f76c3a639715055e"), looks := true }, kinds := [], alts := [], laidByText := true, laidKinds := [.data, .pinned], laidTests := true, laidLooks := .later }
def TreeManyUptoCardSaid : Prop := Claim7.holds Tryz.pinned (.plain (OpenSpec.upto treeManySpec)) treeManyUptoCard

/-- THE SECOND FORM's CARD OF 'cooperagelaw09.TreeFull'. -/
def treeFullUptoCard : Claim7 := { stood := { row := treeFullUptoRow, standIns := [], harness := (true, "e3fabda0debf48d7aac4d29c92482413552b901b43201296f76c3a639715055e"), looks := true }, kinds := [], alts := [], laidByText := true, laidKinds := [.data, .pinned], laidTests := true, laidLooks := .later }
def TreeFullUptoCardSaid : Prop := Claim7.holds Tryz.pinned (.plain (OpenSpec.upto treeFullSpec)) treeFullUptoCard

/-- THE SECOND FORM's CARD OF 'cooperagelaw09.TreeRuns'. -/
def treeRunsUptoCard : Claim7 := { stood := { row := treeRunsUptoRow, standIns := [], harness := (true, "e3fabda0debf48d7aac4d29c92482413552b901b43201296f76c3a639715055e"), looks := true }, kinds := [], alts := [], laidByText := true, laidKinds := [.data, .pinned], laidTests := true, laidLooks := .later }
def TreeRunsUptoCardSaid : Prop := Claim7.holds Tryz.pinned (.plain (OpenSpec.upto treeRunsSpec)) treeRunsUptoCard
end Rows
end Go.Proofs.YtaibjcjphmhgmaaGreatDoor
