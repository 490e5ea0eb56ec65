/-
  DERIVED. GIVEN WITH THE SEED: THE CARDS: each row of YtoblhikablbapaaDoorRows.lean that lists a variable, with what it lists TIED to the program's text (the seventh form; the later family's looks); each row that meets fmt, with fmt's text TOLD by the authors' own Lean function (tested against real Go, not proved from fmt's source: count such statements apart). THE CARD IS WHAT COUNTS. Prove the row's statement (the work); the ties are given (YtoblhikablbapaaDoorTie.lean); close each card by the builder's one call (the guide's Derived/Test/ToyasCard.lean, 'card_holds'). Laid BY PROGRAM, IN A SANDBOX (cutbox-door.mjs). By AI agents, Wed Nov 11 2026. No macro, syntax, notation, axiom, sorry.
-/
import Derived.Test.YtoblhikablbapaaDoorRows
import GoSem.ClaimSeven
namespace Go.Proofs.YtoblhikablbapaaDoor
namespace Rows

/-- THE TIED CARD OF 'cooperagelaw10.PackWrites'. -/
def packWritesCard : Claim7 := { stood := { row := packWritesRow, standIns := [], harness := (true, "5f32ff91e6f1711afde0e38353deff37dca39607d7938c5ee28ac7882809d9c0"), looks := false }, kinds := [], alts := [], laidByText := true, laidKinds := [.data, .pinned], laidTests := true, laidLooks := .later }
def PackWritesCardSaid : Prop := Claim7.holds Tryd.pinned (.plain (OpenSpec.ofChange packWritesSpec)) packWritesCard

/-- THE TIED CARD OF 'cooperagelaw10.PackReads'. -/
def packReadsCard : Claim7 := { stood := { row := packReadsRow, standIns := [], harness := (true, "5f32ff91e6f1711afde0e38353deff37dca39607d7938c5ee28ac7882809d9c0"), looks := false }, kinds := [], alts := [], laidByText := true, laidKinds := [.data, .pinned], laidTests := true, laidLooks := .later }
def PackReadsCardSaid : Prop := Claim7.holds Tryd.pinned (.plain (OpenSpec.ofChange packReadsSpec)) packReadsCard

/-- THE TIED CARD OF 'cooperagelaw10.PackJoins'. -/
def packJoinsCard : Claim7 := { stood := { row := packJoinsRow, standIns := [], harness := (true, "5f32ff91e6f1711afde0e38353deff37dca39607d7938c5ee28ac7882809d9c0"), looks := false }, kinds := [], alts := [], laidByText := true, laidKinds := [.data, .pinned], laidTests := true, laidLooks := .later }
def PackJoinsCardSaid : Prop := Claim7.holds Tryd.pinned (.plain (OpenSpec.ofChange packJoinsSpec)) packJoinsCard

/-- THE TIED CARD OF 'cooperagelaw10.PackFalls'. -/
def packFallsCard : Claim7 := { stood := { row := packFallsRow, standIns := [], harness := (true, "5f32ff91e6f1711afde0e38353deff37dca39607d7938c5ee28ac7882809d9c0"), looks := false }, kinds := [], alts := [], laidByText := true, laidKinds := [.data, .pinned], laidTests := true, laidLooks := .later }
def PackFallsCardSaid : Prop := Claim7.holds Tryd.pinned (.plain (OpenSpec.ofChange packFallsSpec)) packFallsCard

/-- THE TIED CARD OF 'cooperagelaw10.PackParts'. -/
def packPartsCard : Claim7 := { stood := { row := packPartsRow, standIns := [], harness := (true, "5f32ff91e6f1711afde0e38353deff37dca39607d7938c5ee28ac7882809d9c0"), looks := false }, kinds := [], alts := [], laidByText := true, laidKinds := [.data, .pinned], laidTests := true, laidLooks := .later }
def PackPartsCardSaid : Prop := Claim7.holds Tryd.pinned (.plain (OpenSpec.ofChange packPartsSpec)) packPartsCard

/-- THE TIED CARD OF 'cooperagelaw13.NameOrder'. -/
def nameOrderCard : Claim7 := { stood := { row := nameOrderRow, standIns := [], harness := (true, "5f32ff91e6f1711afde0e38353deff37dca39607d7938c5ee28ac7882809d9c0"), looks := false }, kinds := [], alts := [], laidByText := true, laidKinds := [.data, .pinned], laidTests := true, laidLooks := .later }
def NameOrderCardSaid : Prop := Claim7.holds Tryd.pinned (.plain (OpenSpec.ofChange nameOrderSpec)) nameOrderCard

/-- THE TIED CARD OF 'cooperagelaw13.NameParts'. -/
def namePartsCard : Claim7 := { stood := { row := namePartsRow, standIns := [], harness := (true, "5f32ff91e6f1711afde0e38353deff37dca39607d7938c5ee28ac7882809d9c0"), looks := false }, kinds := [], alts := [], laidByText := true, laidKinds := [.data, .pinned], laidTests := true, laidLooks := .later }
def NamePartsCardSaid : Prop := Claim7.holds Tryd.pinned (.plain (OpenSpec.ofChange namePartsSpec)) namePartsCard

/-- THE TIED CARD OF 'cooperagelaw13.NameKeys'. -/
def nameKeysCard : Claim7 := { stood := { row := nameKeysRow, standIns := [], harness := (true, "5f32ff91e6f1711afde0e38353deff37dca39607d7938c5ee28ac7882809d9c0"), looks := false }, kinds := [], alts := [], laidByText := true, laidKinds := [.data, .pinned], laidTests := true, laidLooks := .later }
def NameKeysCardSaid : Prop := Claim7.holds Tryd.pinned (.plain (OpenSpec.ofChange nameKeysSpec)) nameKeysCard

/-- THE TIED CARD OF 'cooperagelaw13.NameReads'. -/
def nameReadsCard : Claim7 := { stood := { row := nameReadsRow, standIns := [], harness := (true, "5f32ff91e6f1711afde0e38353deff37dca39607d7938c5ee28ac7882809d9c0"), looks := false }, kinds := [], alts := [], laidByText := true, laidKinds := [.data, .pinned], laidTests := true, laidLooks := .later }
def NameReadsCardSaid : Prop := Claim7.holds Tryd.pinned (.plain (OpenSpec.ofChange nameReadsSpec)) nameReadsCard

/-- THE TIED CARD OF 'cooperagelaw13.NameTokens'. -/
def nameTokensCard : Claim7 := { stood := { row := nameTokensRow, standIns := [], harness := (true, "5f32ff91e6f1711afde0e38353deff37dca39607d7938c5ee28ac7882809d9c0"), looks := false }, kinds := [], alts := [], laidByText := true, laidKinds := [.data, .pinned], laidTests := true, laidLooks := .later }
def NameTokensCardSaid : Prop := Claim7.holds Tryd.pinned (.plain (OpenSpec.ofChange nameTokensSpec)) nameTokensCard

/-- THE SECOND FORM's CARD OF 'cooperagelaw10.PackWrites'. -/
def packWritesUptoCard : Claim7 := { stood := { row := packWritesUptoRow, standIns := [], harness := (true, "5f32ff91e6f1711afde0e38353deff37dca39607d7938c5ee28ac7882809d9c0"), looks := false }, kinds := [], alts := [], laidByText := true, laidKinds := [.data, .pinned], laidTests := true, laidLooks := .later }
def PackWritesUptoCardSaid : Prop := Claim7.holds Tryd.pinned (.plain (OpenSpec.upto packWritesSpec)) packWritesUptoCard

/-- THE SECOND FORM's CARD OF 'cooperagelaw10.PackReads'. -/
def packReadsUptoCard : Claim7 := { stood := { row := packReadsUptoRow, standIns := [], harness := (true, "5f32ff91e6f1711afde0e38353deff37dca39607d7938c5ee28ac7882809d9c0"), looks := false }, kinds := [], alts := [], laidByText := true, laidKinds := [.data, .pinned], laidTests := true, laidLooks := .later }
def PackReadsUptoCardSaid : Prop := Claim7.holds Tryd.pinned (.plain (OpenSpec.upto packReadsSpec)) packReadsUptoCard

/-- THE SECOND FORM's CARD OF 'cooperagelaw10.PackJoins'. -/
def packJoinsUptoCard : Claim7 := { stood := { row := packJoinsUptoRow, standIns := [], harness := (true, "5f32ff91e6f1711afde0e38353deff37dca39607d7938c5ee28ac7882809d9c0"), looks := false }, kinds := [], alts := [], laidByText := true, laidKinds := [.data, .pinned], laidTests := true, laidLooks := .later }
def PackJoinsUptoCardSaid : Prop := Claim7.holds Tryd.pinned (.plain (OpenSpec.upto packJoinsSpec)) packJoinsUptoCard

/-- THE SECOND FORM's CARD OF 'cooperagelaw10.PackFalls'. -/
def packFallsUptoCard : Claim7 := { stood := { row := packFallsUptoRow, standIns := [], harness := (true, "5f32ff91e6f1711afde0e38353deff37dca39607d7938c5ee28ac7882809d9c0"), looks := false }, kinds := [], alts := [], laidByText := true, laidKinds := [.data, .pinned], laidTests := true, laidLooks := .later }
def PackFallsUptoCardSaid : Prop := Claim7.holds Tryd.pinned (.plain (OpenSpec.upto packFallsSpec)) packFallsUptoCard

/-- THE SECOND FORM's CARD OF 'cooperagelaw10.PackParts'. -/
def packPartsUptoCard : Claim7 := { stood := { row := packPartsUptoRow, standIns := [], harness := (true, "5f32ff91e6f1711afde0e38353deff37dca39607d7938c5ee28ac7882809d9c0"), looks := false }, kinds := [], alts := [], laidByText := true, laidKinds := [.data, .pinned], laidTests := true, laidLooks := .later }
def PackPartsUptoCardSaid : Prop := Claim7.holds Tryd.pinned (.plain (OpenSpec.upto packPartsSpec)) packPartsUptoCard

/-- THE SECOND FORM's CARD OF 'cooperagelaw13.NameOrder'. -/
def nameOrderUptoCard : Claim7 := { stood := { row := nameOrderUptoRow, standIns := [], harness := (true, "5f32ff91e6f1711afde0e38353deff37dca39607d7938c5ee28ac7882809d9c0"), looks := false }, kinds := [], alts := [], laidByText := true, laidKinds := [.data, .pinned], laidTests := true, laidLooks := .later }
def NameOrderUptoCardSaid : Prop := Claim7.holds Tryd.pinned (.plain (OpenSpec.upto nameOrderSpec)) nameOrderUptoCard

/-- THE SECOND FORM's CARD OF 'cooperagelaw13.NameParts'. -/
def namePartsUptoCard : Claim7 := { stood := { row := namePartsUptoRow, standIns := [], harness := (true, "5f32ff91e6f1711afde0e38353deff37dca39607d7938c5ee28ac7882809d9c0"), looks := false }, kinds := [], alts := [], laidByText := true, laidKinds := [.data, .pinned], laidTests := true, laidLooks := .later }
def NamePartsUptoCardSaid : Prop := Claim7.holds Tryd.pinned (.plain (OpenSpec.upto namePartsSpec)) namePartsUptoCard

/-- THE SECOND FORM's CARD OF 'cooperagelaw13.NameKeys'. -/
def nameKeysUptoCard : Claim7 := { stood := { row := nameKeysUptoRow, standIns := [], harness := (true, "5f32ff91e6f1711afde0e38353deff37dca39607d7938c5ee28ac7882809d9c0"), looks := false }, kinds := [], alts := [], laidByText := true, laidKinds := [.data, .pinned], laidTests := true, laidLooks := .later }
def NameKeysUptoCardSaid : Prop := Claim7.holds Tryd.pinned (.plain (OpenSpec.upto nameKeysSpec)) nameKeysUptoCard

/-- THE SECOND FORM's CARD OF 'cooperagelaw13.NameReads'. -/
def nameReadsUptoCard : Claim7 := { stood := { row := nameReadsUptoRow, standIns := [], harness := (true, "5f32ff91e6f1711afde0e38353deff37dca39607d7938c5ee28ac7882809d9c0"), looks := false }, kinds := [], alts := [], laidByText := true, laidKinds := [.data, .pinned], laidTests := true, laidLooks := .later }
def NameReadsUptoCardSaid : Prop := Claim7.holds Tryd.pinned (.plain (OpenSpec.upto nameReadsSpec)) nameReadsUptoCard

/-- THE SECOND FORM's CARD OF 'cooperagelaw13.NameTokens'. -/
def nameTokensUptoCard : Claim7 := { stood := { row := nameTokensUptoRow, standIns := [], harness := (true, "5f32ff91e6f1711afde0e38353deff37dca39607d7938c5ee28ac7882809d9c0"), looks := false }, kinds := [], alts := [], laidByText := true, laidKinds := [.data, .pinned], laidTests := true, laidLooks := .later }
def NameTokensUptoCardSaid : Prop := Claim7.holds Tryd.pinned (.plain (OpenSpec.upto nameTokensSpec)) nameTokensUptoCard
end Rows
end Go.Proofs.YtoblhikablbapaaDoor
