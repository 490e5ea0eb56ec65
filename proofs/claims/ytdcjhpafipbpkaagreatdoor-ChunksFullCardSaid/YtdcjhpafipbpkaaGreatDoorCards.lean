/-
  DERIVED. GIVEN WITH THE SEED: THE CARDS: each row of YtdcjhpafipbpkaaGreatDoorRows.lean that lists a variable, with what it lists TIED to the program's text (the seventh form; the later family's looks); each row that meets fmt, with fmt's text TOLD by the authors' own Lean function (tested against real Go, not proved from fmt's source: count such statements apart). THE CARD IS WHAT COUNTS. Prove the row's statement (the work); the ties are given (YtdcjhpafipbpkaaGreatDoorTie.lean); close each card by the builder's one call (the guide's Derived/Test/ToyasCard.lean, 'card_holds'). Laid BY PROGRAM, IN A SANDBOX (cutbox-door.mjs). By AI agents, Wed Nov 11 2026. No macro, syntax, notation, axiom, sorry.
-/
import Derived.Test.YtdcjhpafipbpkaaGreatDoorRows
import GoSem.ClaimSeven
namespace Go.Proofs.YtdcjhpafipbpkaaGreatDoor
namespace Rows

/-- THE TIED CARD OF 'cooperagelaw11.ChunksSums'. -/
def chunksSumsCard : Claim7 := { stood := { row := chunksSumsRow, standIns := [], harness := (true, "dc3d3d73ab4406ea93cbf81b0df4799ba761c39eafb67e539f2dc8ace3d2f02a"), looks := true }, kinds := [], alts := [], laidByText := true, laidKinds := [.data, .pinned], laidTests := true, laidLooks := .later }
def ChunksSumsCardSaid : Prop := Claim7.holds Tryz.pinned (.plain (OpenSpec.ofChange chunksSumsSpec)) chunksSumsCard

/-- THE TIED CARD OF 'cooperagelaw12.RecipeLost'. -/
def recipeLostCard : Claim7 := { stood := { row := recipeLostRow, standIns := [], harness := (true, "dc3d3d73ab4406ea93cbf81b0df4799ba761c39eafb67e539f2dc8ace3d2f02a"), looks := true }, kinds := [], alts := [], laidByText := true, laidKinds := [.data, .pinned], laidTests := true, laidLooks := .later }
def RecipeLostCardSaid : Prop := Claim7.holds Tryz.pinned (.plain (OpenSpec.ofChange recipeLostSpec)) recipeLostCard

/-- THE TIED CARD OF 'cooperagelaw11.ChunksTexts'. -/
def chunksTextsCard : Claim7 := { stood := { row := chunksTextsRow, standIns := [], harness := (true, "dc3d3d73ab4406ea93cbf81b0df4799ba761c39eafb67e539f2dc8ace3d2f02a"), looks := true }, kinds := [], alts := [], laidByText := true, laidKinds := [.data, .pinned], laidTests := true, laidLooks := .later }
def ChunksTextsCardSaid : Prop := Claim7.holds Tryz.pinned (.plain (OpenSpec.ofChange chunksTextsSpec)) chunksTextsCard

/-- THE TIED CARD OF 'cooperagelaw12.RecipePieces'. -/
def recipePiecesCard : Claim7 := { stood := { row := recipePiecesRow, standIns := [], harness := (true, "dc3d3d73ab4406ea93cbf81b0df4799ba761c39eafb67e539f2dc8ace3d2f02a"), looks := true }, kinds := [], alts := [], laidByText := true, laidKinds := [.data, .pinned], laidTests := true, laidLooks := .later }
def RecipePiecesCardSaid : Prop := Claim7.holds Tryz.pinned (.plain (OpenSpec.ofChange recipePiecesSpec)) recipePiecesCard

/-- THE TIED CARD OF 'cooperagelaw12.RecipeBuilds'. -/
def recipeBuildsCard : Claim7 := { stood := { row := recipeBuildsRow, standIns := [], harness := (true, "dc3d3d73ab4406ea93cbf81b0df4799ba761c39eafb67e539f2dc8ace3d2f02a"), looks := true }, kinds := [], alts := [], laidByText := true, laidKinds := [.data, .pinned], laidTests := true, laidLooks := .later }
def RecipeBuildsCardSaid : Prop := Claim7.holds Tryz.pinned (.plain (OpenSpec.ofChange recipeBuildsSpec)) recipeBuildsCard

/-- THE TIED CARD OF 'cooperagelaw12.RecipeWrites'. -/
def recipeWritesCard : Claim7 := { stood := { row := recipeWritesRow, standIns := [], harness := (true, "dc3d3d73ab4406ea93cbf81b0df4799ba761c39eafb67e539f2dc8ace3d2f02a"), looks := true }, kinds := [], alts := [], laidByText := true, laidKinds := [.data, .pinned], laidTests := true, laidLooks := .later }
def RecipeWritesCardSaid : Prop := Claim7.holds Tryz.pinned (.plain (OpenSpec.ofChange recipeWritesSpec)) recipeWritesCard

/-- THE TIED CARD OF 'cooperagelaw12.RecipeDrops'. -/
def recipeDropsCard : Claim7 := { stood := { row := recipeDropsRow, standIns := [], harness := (true, "dc3d3d73ab4406ea93cbf81b0df4799ba761c39eafb67e539f2dc8ace3d2f02a"), looks := true }, kinds := [], alts := [], laidByText := true, laidKinds := [.data, .pinned], laidTests := true, laidLooks := .later }
def RecipeDropsCardSaid : Prop := Claim7.holds Tryz.pinned (.plain (OpenSpec.ofChange recipeDropsSpec)) recipeDropsCard

/-- THE TIED CARD OF 'cooperagelaw11.ChunksRuns'. -/
def chunksRunsCard : Claim7 := { stood := { row := chunksRunsRow, standIns := [], harness := (true, "dc3d3d73ab4406ea93cbf81b0df4799ba761c39eafb67e539f2dc8ace3d2f02a"), looks := true }, kinds := [], alts := [], laidByText := true, laidKinds := [.data, .pinned], laidTests := true, laidLooks := .later }
def ChunksRunsCardSaid : Prop := Claim7.holds Tryz.pinned (.plain (OpenSpec.ofChange chunksRunsSpec)) chunksRunsCard

/-- THE TIED CARD OF 'cooperagelaw11.ChunksFull'. -/
def chunksFullCard : Claim7 := { stood := { row := chunksFullRow, standIns := [], harness := (true, "dc3d3d73ab4406ea93cbf81b0df4799ba761c39eafb67e539f2dc8ace3d2f02a"), looks := true }, kinds := [], alts := [], laidByText := true, laidKinds := [.data, .pinned], laidTests := true, laidLooks := .later }
def ChunksFullCardSaid : Prop := Claim7.holds Tryz.pinned (.plain (OpenSpec.ofChange chunksFullSpec)) chunksFullCard

/-- THE TIED CARD OF 'cooperagelaw11.ChunksPages'. -/
def chunksPagesCard : Claim7 := { stood := { row := chunksPagesRow, standIns := [], harness := (true, "dc3d3d73ab4406ea93cbf81b0df4799ba761c39eafb67e539f2dc8ace3d2f02a"), looks := true }, kinds := [], alts := [], laidByText := true, laidKinds := [.data, .pinned], laidTests := true, laidLooks := .later }
def ChunksPagesCardSaid : Prop := Claim7.holds Tryz.pinned (.plain (OpenSpec.ofChange chunksPagesSpec)) chunksPagesCard

/-- THE SECOND FORM's CARD OF 'cooperagelaw11.ChunksSums'. -/
def chunksSumsUptoCard : Claim7 := { stood := { row := chunksSumsUptoRow, standIns := [], harness := (true, "dc3d3d73ab4406ea93cbf81b0df4799ba761c39eafb67e539f2dc8ace3d2f02a"), looks := true }, kinds := [], alts := [], laidByText := true, laidKinds := [.data, .pinned], laidTests := true, laidLooks := .later }
def ChunksSumsUptoCardSaid : Prop := Claim7.holds Tryz.pinned (.plain (OpenSpec.upto chunksSumsSpec)) chunksSumsUptoCard

/-- THE SECOND FORM's CARD OF 'cooperagelaw12.RecipeLost'. -/
def recipeLostUptoCard : Claim7 := { stood := { row := recipeLostUptoRow, standIns := [], harness := (true, "dc3d3d73ab4406ea93cbf81b0df4799ba761c39eafb67e539f2dc8ace3d2f02a"), looks := true }, kinds := [], alts := [], laidByText := true, laidKinds := [.data, .pinned], laidTests := true, laidLooks := .later }
def RecipeLostUptoCardSaid : Prop := Claim7.holds Tryz.pinned (.plain (OpenSpec.upto recipeLostSpec)) recipeLostUptoCard

/-- THE SECOND FORM's CARD OF 'cooperagelaw11.ChunksTexts'. -/
def chunksTextsUptoCard : Claim7 := { stood := { row := chunksTextsUptoRow, standIns := [], harness := (true, "dc3d3d73ab4406ea93cbf81b0df4799ba761c39eafb67e539f2dc8ace3d2f02a"), looks := true }, kinds := [], alts := [], laidByText := true, laidKinds := [.data, .pinned], laidTests := true, laidLooks := .later }
def ChunksTextsUptoCardSaid : Prop := Claim7.holds Tryz.pinned (.plain (OpenSpec.upto chunksTextsSpec)) chunksTextsUptoCard

/-- THE SECOND FORM's CARD OF 'cooperagelaw12.RecipePieces'. -/
def recipePiecesUptoCard : Claim7 := { stood := { row := recipePiecesUptoRow, standIns := [], harness := (true, "dc3d3d73ab4406ea93cbf81b0df4799ba761c39eafb67e539f2dc8ace3d2f02a"), looks := true }, kinds := [], alts := [], laidByText := true, laidKinds := [.data, .pinned], laidTests := true, laidLooks := .later }
def RecipePiecesUptoCardSaid : Prop := Claim7.holds Tryz.pinned (.plain (OpenSpec.upto recipePiecesSpec)) recipePiecesUptoCard

/-- THE SECOND FORM's CARD OF 'cooperagelaw12.RecipeBuilds'. -/
def recipeBuildsUptoCard : Claim7 := { stood := { row := recipeBuildsUptoRow, standIns := [], harness := (true, "dc3d3d73ab4406ea93cbf81b0df4799ba761c39eafb67e539f2dc8ace3d2f02a"), looks := true }, kinds := [], alts := [], laidByText := true, laidKinds := [.data, .pinned], laidTests := true, laidLooks := .later }
def RecipeBuildsUptoCardSaid : Prop := Claim7.holds Tryz.pinned (.plain (OpenSpec.upto recipeBuildsSpec)) recipeBuildsUptoCard

/-- THE SECOND FORM's CARD OF 'cooperagelaw12.RecipeWrites'. -/
def recipeWritesUptoCard : Claim7 := { stood := { row := recipeWritesUptoRow, standIns := [], harness := (true, "dc3d3d73ab4406ea93cbf81b0df4799ba761c39eafb67e539f2dc8ace3d2f02a"), looks := true }, kinds := [], alts := [], laidByText := true, laidKinds := [.data, .pinned], laidTests := true, laidLooks := .later }
def RecipeWritesUptoCardSaid : Prop := Claim7.holds Tryz.pinned (.plain (OpenSpec.upto recipeWritesSpec)) recipeWritesUptoCard

/-- THE SECOND FORM's CARD OF 'cooperagelaw12.RecipeDrops'. -/
def recipeDropsUptoCard : Claim7 := { stood := { row := recipeDropsUptoRow, standIns := [], harness := (true, "dc3d3d73ab4406ea93cbf81b0df4799ba761c39eafb67e539f2dc8ace3d2f02a"), looks := true }, kinds := [], alts := [], laidByText := true, laidKinds := [.data, .pinned], laidTests := true, laidLooks := .later }
def RecipeDropsUptoCardSaid : Prop := Claim7.holds Tryz.pinned (.plain (OpenSpec.upto recipeDropsSpec)) recipeDropsUptoCard

/-- THE SECOND FORM's CARD OF 'cooperagelaw11.ChunksRuns'. -/
def chunksRunsUptoCard : Claim7 := { stood := { row := chunksRunsUptoRow, standIns := [], harness := (true, "dc3d3d73ab4406ea93cbf81b0df4799ba761c39eafb67e539f2dc8ace3d2f02a"), looks := true }, kinds := [], alts := [], laidByText := true, laidKinds := [.data, .pinned], laidTests := true, laidLooks := .later }
def ChunksRunsUptoCardSaid : Prop := Claim7.holds Tryz.pinned (.plain (OpenSpec.upto chunksRunsSpec)) chunksRunsUptoCard

/-- THE SECOND FORM's CARD OF 'cooperagelaw11.ChunksFull'. -/
def chunksFullUptoCard : Claim7 := { stood := { row := chunksFullUptoRow, standIns := [], harness := (true, "dc3d3d73ab4406ea93cbf81b0df4799ba761c39eafb67e539f2dc8ace3d2f02a"), looks := true }, kinds := [], alts := [], laidByText := true, laidKinds := [.data, .pinned], laidTests := true, laidLooks := .later }
def ChunksFullUptoCardSaid : Prop := Claim7.holds Tryz.pinned (.plain (OpenSpec.upto chunksFullSpec)) chunksFullUptoCard

/-- THE SECOND FORM's CARD OF 'cooperagelaw11.ChunksPages'. -/
def chunksPagesUptoCard : Claim7 := { stood := { row := chunksPagesUptoRow, standIns := [], harness := (true, "dc3d3d73ab4406ea93cbf81b0df4799ba761c39eafb67e539f2dc8ace3d2f02a"), looks := true }, kinds := [], alts := [], laidByText := true, laidKinds := [.data, .pinned], laidTests := true, laidLooks := .later }
def ChunksPagesUptoCardSaid : Prop := Claim7.holds Tryz.pinned (.plain (OpenSpec.upto chunksPagesSpec)) chunksPagesUptoCard
end Rows
end Go.Proofs.YtdcjhpafipbpkaaGreatDoor
