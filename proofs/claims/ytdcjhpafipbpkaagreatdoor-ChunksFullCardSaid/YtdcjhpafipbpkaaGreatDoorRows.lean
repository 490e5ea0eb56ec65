/-
  NARROWER THAN 'FOR EVERY INPUT', by the rows' own cells (each row's printed sentence says how): ChunksSums: laid · RecipeLost: laid · ChunksTexts: laid · RecipePieces: laid · RecipeBuilds: laid · RecipeWrites: laid · RecipeDrops: laid · ChunksRuns: laid · ChunksFull: laid · ChunksPages: laid.
  DERIVED. THE GIVEN ROWS OF THIS SEAT. 10 by the template 'for every input the law returns true; each argument reads behind the call as it read before'; 0 by the template 'total and deterministic' (their statements: YtdcjhpafipbpkaaGreatDoorTotals.lean).
  GIVEN WITH THE SEED: the statements are not yours to turn. If you find one false, say at which input.
  Laid BY PROGRAM, IN A SANDBOX (cutbox-rows.mjs): the forced cells as the released guide's own fill.sh prints them over the translation 3cbeb1b8f598a4c1… (all of the seat's roots in one cut). By AI agents, Wed Nov 11 2026. No macro, syntax, notation, axiom, sorry.
-/
import Derived.Test.YtdcjhpafipbpkaaGreatDoorChecked
import GoSem.PinnedTables
import GoSem.Claim
import GoSem.ClaimJoined
import GoSem.ClaimMapViews
import Derived.JoinedTies
import Derived.KernelRfl
namespace Go.Proofs.YtdcjhpafipbpkaaGreatDoor
/- THE CELL 'sum', in the pinned program and in every row, IS THE sha256 OF THE DUMP (.gsa) THAT YtdcjhpafipbpkaaGreatDoorProg.lean LOADS. Nothing in Lean hashes anything: it is a label: what it is worth is what the hold of that sum in a sandbox is worth. -/
noncomputable def Tryz.pinned : Pinned := { name := "ytdcjhpafipbpkaagreatdoor", sum := "3cbeb1b8f598a4c19dcf58883fe12ef1a6f9186689d4a02b20580b4945b382da", checked := Tryz.checked }
namespace Rows
def none {H : Type} : Left H := { results := [], args := [] }

/- WHAT THE LISTED PACKAGE-LEVEL VARIABLES READ AS WHEN THE CALL BEGINS. Each datum BY PROGRAM (the guide's laid-datum.mjs) off the statement by which the dump's own 'gosem.cut.vars' lays the variable. In a bare row this is a premise. The card (YtdcjhpafipbpkaaGreatDoorCards.lean) ties it to the program's text. -/
def laid_unicode_utf8_acceptRanges {H : Type} : DataW H := .agg [.agg [.lit (.int .u8 128), .lit (.int .u8 191)], .agg [.lit (.int .u8 160), .lit (.int .u8 191)], .agg [.lit (.int .u8 128), .lit (.int .u8 159)], .agg [.lit (.int .u8 144), .lit (.int .u8 191)], .agg [.lit (.int .u8 128), .lit (.int .u8 143)], .agg [.lit (.int .u8 0), .lit (.int .u8 0)], .agg [.lit (.int .u8 0), .lit (.int .u8 0)], .agg [.lit (.int .u8 0), .lit (.int .u8 0)], .agg [.lit (.int .u8 0), .lit (.int .u8 0)], .agg [.lit (.int .u8 0), .lit (.int .u8 0)], .agg [.lit (.int .u8 0), .lit (.int .u8 0)], .agg [.lit (.int .u8 0), .lit (.int .u8 0)], .agg [.lit (.int .u8 0), .lit (.int .u8 0)], .agg [.lit (.int .u8 0), .lit (.int .u8 0)], .agg [.lit (.int .u8 0), .lit (.int .u8 0)], .agg [.lit (.int .u8 0), .lit (.int .u8 0)]]
/-- One of Go's own tables, pinned by name: the form's constant. -/
def laid_unicode_utf8_first : DataW Unit := Go.Pinned.utf8First

/-- 'cooperagelaw11.ChunksSums': WHATEVER THE INPUT: true; the input reads as it did. -/
def chunksSumsSpec : ChangeSpec := { name := "chunksSums", fn := fun _ => fun
  | [d1, d2] => { results := [.lit (.bool true)], args := [d1, d2] }
  | _ => none }
def chunksSumsRow : OpenClaim := { program := "ytdcjhpafipbpkaagreatdoor", sum := "3cbeb1b8f598a4c19dcf58883fe12ef1a6f9186689d4a02b20580b4945b382da", func := "cooperage/cooperagelaw11.ChunksSums", spec := "chunksSums", inPlace := ["internal/abi.NoEscape", "internal/bytealg.MakeNoZero", "internal/bytealg.IndexByteString", "internal/bytealg.IndexString", "slices.overlaps[string]", "slices.overlaps[int]"], unfollowed := true, recurses := true, named := ["unicode/utf8.first", "unicode/utf8.acceptRanges", "internal/bytealg.MaxLen"], apart := false, laid := [("unicode/utf8.acceptRanges", laid_unicode_utf8_acceptRanges), ("unicode/utf8.first", laid_unicode_utf8_first)] }
def ChunksSumsSaid : Prop := chunksSumsRow.holds Tryz.pinned (OpenSpec.ofChange chunksSumsSpec)

/-- ITS FALSE NEIGHBOUR: 'it returns false'. Refute it at one input. -/
def chunksSumsWrong : ChangeSpec := { name := "chunksSums", fn := fun _ => fun
  | [d1, d2] => { results := [.lit (.bool false)], args := [d1, d2] }
  | _ => none }
def ChunksSumsWrongFalsely : Prop := chunksSumsRow.holds Tryz.pinned (OpenSpec.ofChange chunksSumsWrong)

/-- 'cooperagelaw12.RecipeLost': WHATEVER THE INPUT: true; the input reads as it did. -/
def recipeLostSpec : ChangeSpec := { name := "recipeLost", fn := fun _ => fun
  | [d1, d2, d3] => { results := [.lit (.bool true)], args := [d1, d2, d3] }
  | _ => none }
def recipeLostRow : OpenClaim := { program := "ytdcjhpafipbpkaagreatdoor", sum := "3cbeb1b8f598a4c19dcf58883fe12ef1a6f9186689d4a02b20580b4945b382da", func := "cooperage/cooperagelaw12.RecipeLost", spec := "recipeLost", inPlace := ["internal/abi.NoEscape", "internal/bytealg.MakeNoZero", "internal/bytealg.IndexByteString", "internal/bytealg.IndexString", "slices.overlaps[string]", "slices.overlaps[int]"], unfollowed := true, recurses := true, named := ["unicode/utf8.first", "unicode/utf8.acceptRanges", "internal/bytealg.MaxLen"], apart := false, laid := [("unicode/utf8.acceptRanges", laid_unicode_utf8_acceptRanges), ("unicode/utf8.first", laid_unicode_utf8_first)] }
def RecipeLostSaid : Prop := recipeLostRow.holds Tryz.pinned (OpenSpec.ofChange recipeLostSpec)

/-- ITS FALSE NEIGHBOUR: 'it returns false'. Refute it at one input. -/
def recipeLostWrong : ChangeSpec := { name := "recipeLost", fn := fun _ => fun
  | [d1, d2, d3] => { results := [.lit (.bool false)], args := [d1, d2, d3] }
  | _ => none }
def RecipeLostWrongFalsely : Prop := recipeLostRow.holds Tryz.pinned (OpenSpec.ofChange recipeLostWrong)

/-- 'cooperagelaw11.ChunksTexts': WHATEVER THE INPUT: true; the input reads as it did. -/
def chunksTextsSpec : ChangeSpec := { name := "chunksTexts", fn := fun _ => fun
  | [d] => { results := [.lit (.bool true)], args := [d] }
  | _ => none }
def chunksTextsRow : OpenClaim := { program := "ytdcjhpafipbpkaagreatdoor", sum := "3cbeb1b8f598a4c19dcf58883fe12ef1a6f9186689d4a02b20580b4945b382da", func := "cooperage/cooperagelaw11.ChunksTexts", spec := "chunksTexts", inPlace := ["internal/abi.NoEscape", "internal/bytealg.MakeNoZero", "internal/bytealg.IndexByteString", "internal/bytealg.IndexString", "slices.overlaps[string]", "slices.overlaps[int]"], unfollowed := true, recurses := true, named := ["unicode/utf8.first", "unicode/utf8.acceptRanges", "internal/bytealg.MaxLen"], apart := false, laid := [("unicode/utf8.acceptRanges", laid_unicode_utf8_acceptRanges), ("unicode/utf8.first", laid_unicode_utf8_first)] }
def ChunksTextsSaid : Prop := chunksTextsRow.holds Tryz.pinned (OpenSpec.ofChange chunksTextsSpec)

/-- ITS FALSE NEIGHBOUR: 'it returns false'. Refute it at one input. -/
def chunksTextsWrong : ChangeSpec := { name := "chunksTexts", fn := fun _ => fun
  | [d] => { results := [.lit (.bool false)], args := [d] }
  | _ => none }
def ChunksTextsWrongFalsely : Prop := chunksTextsRow.holds Tryz.pinned (OpenSpec.ofChange chunksTextsWrong)

/-- 'cooperagelaw12.RecipePieces': WHATEVER THE INPUT: true; the input reads as it did. -/
def recipePiecesSpec : ChangeSpec := { name := "recipePieces", fn := fun _ => fun
  | [d1, d2, d3] => { results := [.lit (.bool true)], args := [d1, d2, d3] }
  | _ => none }
def recipePiecesRow : OpenClaim := { program := "ytdcjhpafipbpkaagreatdoor", sum := "3cbeb1b8f598a4c19dcf58883fe12ef1a6f9186689d4a02b20580b4945b382da", func := "cooperage/cooperagelaw12.RecipePieces", spec := "recipePieces", inPlace := ["internal/abi.NoEscape", "internal/bytealg.MakeNoZero", "internal/bytealg.IndexByteString", "internal/bytealg.IndexString", "slices.overlaps[string]", "slices.overlaps[int]"], unfollowed := true, recurses := true, named := ["unicode/utf8.first", "unicode/utf8.acceptRanges", "internal/bytealg.MaxLen"], apart := false, laid := [("unicode/utf8.acceptRanges", laid_unicode_utf8_acceptRanges), ("unicode/utf8.first", laid_unicode_utf8_first)] }
def RecipePiecesSaid : Prop := recipePiecesRow.holds Tryz.pinned (OpenSpec.ofChange recipePiecesSpec)

/-- ITS FALSE NEIGHBOUR: 'it returns false'. Refute it at one input. -/
def recipePiecesWrong : ChangeSpec := { name := "recipePieces", fn := fun _ => fun
  | [d1, d2, d3] => { results := [.lit (.bool false)], args := [d1, d2, d3] }
  | _ => none }
def RecipePiecesWrongFalsely : Prop := recipePiecesRow.holds Tryz.pinned (OpenSpec.ofChange recipePiecesWrong)

/-- 'cooperagelaw12.RecipeBuilds': WHATEVER THE INPUT: true; the input reads as it did. -/
def recipeBuildsSpec : ChangeSpec := { name := "recipeBuilds", fn := fun _ => fun
  | [d1, d2, d3] => { results := [.lit (.bool true)], args := [d1, d2, d3] }
  | _ => none }
def recipeBuildsRow : OpenClaim := { program := "ytdcjhpafipbpkaagreatdoor", sum := "3cbeb1b8f598a4c19dcf58883fe12ef1a6f9186689d4a02b20580b4945b382da", func := "cooperage/cooperagelaw12.RecipeBuilds", spec := "recipeBuilds", inPlace := ["internal/abi.NoEscape", "internal/bytealg.MakeNoZero", "internal/bytealg.IndexByteString", "internal/bytealg.IndexString", "slices.overlaps[string]", "slices.overlaps[int]"], unfollowed := true, recurses := true, named := ["unicode/utf8.first", "unicode/utf8.acceptRanges", "internal/bytealg.MaxLen"], apart := false, laid := [("unicode/utf8.acceptRanges", laid_unicode_utf8_acceptRanges), ("unicode/utf8.first", laid_unicode_utf8_first)] }
def RecipeBuildsSaid : Prop := recipeBuildsRow.holds Tryz.pinned (OpenSpec.ofChange recipeBuildsSpec)

/-- ITS FALSE NEIGHBOUR: 'it returns false'. Refute it at one input. -/
def recipeBuildsWrong : ChangeSpec := { name := "recipeBuilds", fn := fun _ => fun
  | [d1, d2, d3] => { results := [.lit (.bool false)], args := [d1, d2, d3] }
  | _ => none }
def RecipeBuildsWrongFalsely : Prop := recipeBuildsRow.holds Tryz.pinned (OpenSpec.ofChange recipeBuildsWrong)

/-- 'cooperagelaw12.RecipeWrites': WHATEVER THE INPUT: true; the input reads as it did. -/
def recipeWritesSpec : ChangeSpec := { name := "recipeWrites", fn := fun _ => fun
  | [d1, d2] => { results := [.lit (.bool true)], args := [d1, d2] }
  | _ => none }
def recipeWritesRow : OpenClaim := { program := "ytdcjhpafipbpkaagreatdoor", sum := "3cbeb1b8f598a4c19dcf58883fe12ef1a6f9186689d4a02b20580b4945b382da", func := "cooperage/cooperagelaw12.RecipeWrites", spec := "recipeWrites", inPlace := ["internal/abi.NoEscape", "internal/bytealg.MakeNoZero", "internal/bytealg.IndexByteString", "internal/bytealg.IndexString", "slices.overlaps[string]", "slices.overlaps[int]"], unfollowed := true, recurses := true, named := ["unicode/utf8.first", "unicode/utf8.acceptRanges", "internal/bytealg.MaxLen"], apart := false, laid := [("unicode/utf8.acceptRanges", laid_unicode_utf8_acceptRanges), ("unicode/utf8.first", laid_unicode_utf8_first)] }
def RecipeWritesSaid : Prop := recipeWritesRow.holds Tryz.pinned (OpenSpec.ofChange recipeWritesSpec)

/-- ITS FALSE NEIGHBOUR: 'it returns false'. Refute it at one input. -/
def recipeWritesWrong : ChangeSpec := { name := "recipeWrites", fn := fun _ => fun
  | [d1, d2] => { results := [.lit (.bool false)], args := [d1, d2] }
  | _ => none }
def RecipeWritesWrongFalsely : Prop := recipeWritesRow.holds Tryz.pinned (OpenSpec.ofChange recipeWritesWrong)

/-- 'cooperagelaw12.RecipeDrops': WHATEVER THE INPUT: true; the input reads as it did. -/
def recipeDropsSpec : ChangeSpec := { name := "recipeDrops", fn := fun _ => fun
  | [d1, d2] => { results := [.lit (.bool true)], args := [d1, d2] }
  | _ => none }
def recipeDropsRow : OpenClaim := { program := "ytdcjhpafipbpkaagreatdoor", sum := "3cbeb1b8f598a4c19dcf58883fe12ef1a6f9186689d4a02b20580b4945b382da", func := "cooperage/cooperagelaw12.RecipeDrops", spec := "recipeDrops", inPlace := ["internal/abi.NoEscape", "internal/bytealg.MakeNoZero", "internal/bytealg.IndexByteString", "internal/bytealg.IndexString", "slices.overlaps[string]", "slices.overlaps[int]"], unfollowed := true, recurses := true, named := ["unicode/utf8.first", "unicode/utf8.acceptRanges", "internal/bytealg.MaxLen"], apart := false, laid := [("unicode/utf8.acceptRanges", laid_unicode_utf8_acceptRanges), ("unicode/utf8.first", laid_unicode_utf8_first)] }
def RecipeDropsSaid : Prop := recipeDropsRow.holds Tryz.pinned (OpenSpec.ofChange recipeDropsSpec)

/-- ITS FALSE NEIGHBOUR: 'it returns false'. Refute it at one input. -/
def recipeDropsWrong : ChangeSpec := { name := "recipeDrops", fn := fun _ => fun
  | [d1, d2] => { results := [.lit (.bool false)], args := [d1, d2] }
  | _ => none }
def RecipeDropsWrongFalsely : Prop := recipeDropsRow.holds Tryz.pinned (OpenSpec.ofChange recipeDropsWrong)

/-- 'cooperagelaw11.ChunksRuns': WHATEVER THE INPUT: true; the input reads as it did. -/
def chunksRunsSpec : ChangeSpec := { name := "chunksRuns", fn := fun _ => fun
  | [d] => { results := [.lit (.bool true)], args := [d] }
  | _ => none }
def chunksRunsRow : OpenClaim := { program := "ytdcjhpafipbpkaagreatdoor", sum := "3cbeb1b8f598a4c19dcf58883fe12ef1a6f9186689d4a02b20580b4945b382da", func := "cooperage/cooperagelaw11.ChunksRuns", spec := "chunksRuns", inPlace := ["internal/abi.NoEscape", "internal/bytealg.MakeNoZero", "internal/bytealg.IndexByteString", "internal/bytealg.IndexString", "slices.overlaps[string]", "slices.overlaps[int]"], unfollowed := true, recurses := true, named := ["unicode/utf8.first", "unicode/utf8.acceptRanges", "internal/bytealg.MaxLen"], apart := false, laid := [("unicode/utf8.acceptRanges", laid_unicode_utf8_acceptRanges), ("unicode/utf8.first", laid_unicode_utf8_first)] }
def ChunksRunsSaid : Prop := chunksRunsRow.holds Tryz.pinned (OpenSpec.ofChange chunksRunsSpec)

/-- ITS FALSE NEIGHBOUR: 'it returns false'. Refute it at one input. -/
def chunksRunsWrong : ChangeSpec := { name := "chunksRuns", fn := fun _ => fun
  | [d] => { results := [.lit (.bool false)], args := [d] }
  | _ => none }
def ChunksRunsWrongFalsely : Prop := chunksRunsRow.holds Tryz.pinned (OpenSpec.ofChange chunksRunsWrong)

/-- 'cooperagelaw11.ChunksFull': WHATEVER THE INPUT: true; the input reads as it did. -/
def chunksFullSpec : ChangeSpec := { name := "chunksFull", fn := fun _ => fun
  | [d1, d2] => { results := [.lit (.bool true)], args := [d1, d2] }
  | _ => none }
def chunksFullRow : OpenClaim := { program := "ytdcjhpafipbpkaagreatdoor", sum := "3cbeb1b8f598a4c19dcf58883fe12ef1a6f9186689d4a02b20580b4945b382da", func := "cooperage/cooperagelaw11.ChunksFull", spec := "chunksFull", inPlace := ["internal/abi.NoEscape", "internal/bytealg.MakeNoZero", "internal/bytealg.IndexByteString", "internal/bytealg.IndexString", "slices.overlaps[string]", "slices.overlaps[int]"], unfollowed := true, recurses := true, named := ["unicode/utf8.first", "unicode/utf8.acceptRanges", "internal/bytealg.MaxLen"], apart := false, laid := [("unicode/utf8.acceptRanges", laid_unicode_utf8_acceptRanges), ("unicode/utf8.first", laid_unicode_utf8_first)] }
def ChunksFullSaid : Prop := chunksFullRow.holds Tryz.pinned (OpenSpec.ofChange chunksFullSpec)

/-- ITS FALSE NEIGHBOUR: 'it returns false'. Refute it at one input. -/
def chunksFullWrong : ChangeSpec := { name := "chunksFull", fn := fun _ => fun
  | [d1, d2] => { results := [.lit (.bool false)], args := [d1, d2] }
  | _ => none }
def ChunksFullWrongFalsely : Prop := chunksFullRow.holds Tryz.pinned (OpenSpec.ofChange chunksFullWrong)

/-- 'cooperagelaw11.ChunksPages': WHATEVER THE INPUT: true; the input reads as it did. -/
def chunksPagesSpec : ChangeSpec := { name := "chunksPages", fn := fun _ => fun
  | [d] => { results := [.lit (.bool true)], args := [d] }
  | _ => none }
def chunksPagesRow : OpenClaim := { program := "ytdcjhpafipbpkaagreatdoor", sum := "3cbeb1b8f598a4c19dcf58883fe12ef1a6f9186689d4a02b20580b4945b382da", func := "cooperage/cooperagelaw11.ChunksPages", spec := "chunksPages", inPlace := ["internal/abi.NoEscape", "internal/bytealg.MakeNoZero", "internal/bytealg.IndexByteString", "internal/bytealg.IndexString", "slices.overlaps[string]", "slices.overlaps[int]"], unfollowed := true, recurses := true, named := ["unicode/utf8.first", "unicode/utf8.acceptRanges", "internal/bytealg.MaxLen"], apart := false, laid := [("unicode/utf8.acceptRanges", laid_unicode_utf8_acceptRanges), ("unicode/utf8.first", laid_unicode_utf8_first)] }
def ChunksPagesSaid : Prop := chunksPagesRow.holds Tryz.pinned (OpenSpec.ofChange chunksPagesSpec)

/-- ITS FALSE NEIGHBOUR: 'it returns false'. Refute it at one input. -/
def chunksPagesWrong : ChangeSpec := { name := "chunksPages", fn := fun _ => fun
  | [d] => { results := [.lit (.bool false)], args := [d] }
  | _ => none }
def ChunksPagesWrongFalsely : Prop := chunksPagesRow.holds Tryz.pinned (OpenSpec.ofChange chunksPagesWrong)

/- THE SECOND FORM. 'bulk': how many values and letters a reading holds, each counted each time it is reached (what is shared counts as often as it is met; a slice's spare places count too). A statement '..UptoSaid' is the law's where the arguments, and the package variables that the reading takes, are together of bulk at most 1048576: NARROWER than '..Said'. Prove '..Said' where nothing that the law and all that it calls make is longer than what came in: it says more and counts as full. Else prove '..UptoSaid'. A law counts once. -/
mutual
def uptoBulk {H : Type} : DataW H → Nat
  | .lit (.string bytes) => bytes.length + 1
  | .lit _ => 1
  | .nil => 1
  | .ptr d => uptoBulk d + 1
  | .slice elems spare => uptoBulkAll elems + uptoBulkAll spare + 1
  | .agg parts => uptoBulkAll parts + 1
  | .iface _ d => uptoBulk d + 1
  | .map entries => uptoBulkEntries entries + 1
  | .held _ => 1
def uptoBulkAll {H : Type} : List (DataW H) → Nat
  | [] => 0
  | d :: r => uptoBulk d + uptoBulkAll r
def uptoBulkEntries {H : Type} : List (Lit × DataW H) → Nat
  | [] => 0
  | x :: r => uptoBulkEntry x + uptoBulkEntries r
def uptoBulkEntry {H : Type} : Lit × DataW H → Nat
  | (.string bytes, d) => bytes.length + uptoBulk d + 1
  | (_, d) => uptoBulk d + 1
 end
def uptoSmall : (H : Type) → List (DataW H) → Bool := fun _ ds => decide (uptoBulkAll ds ≤ 1048576)
def OpenSpec.upto (s : _root_.Go.ChangeSpec) : _root_.Go.OpenSpec := { _root_.Go.OpenSpec.ofChange s with cond := some uptoSmall }

/-- 'cooperagelaw11.ChunksSums', WHERE WHAT IT READS IS OF BULK AT MOST 1048576: true; the input reads as it did. -/
def chunksSumsUptoRow : OpenClaim := { program := "ytdcjhpafipbpkaagreatdoor", sum := "3cbeb1b8f598a4c19dcf58883fe12ef1a6f9186689d4a02b20580b4945b382da", func := "cooperage/cooperagelaw11.ChunksSums", spec := "chunksSums", inPlace := ["internal/abi.NoEscape", "internal/bytealg.MakeNoZero", "internal/bytealg.IndexByteString", "internal/bytealg.IndexString", "slices.overlaps[string]", "slices.overlaps[int]"], unfollowed := true, recurses := true, named := ["unicode/utf8.first", "unicode/utf8.acceptRanges", "internal/bytealg.MaxLen"], apart := false, laid := [("unicode/utf8.acceptRanges", laid_unicode_utf8_acceptRanges), ("unicode/utf8.first", laid_unicode_utf8_first)], narrowed := true }
def ChunksSumsUptoSaid : Prop := chunksSumsUptoRow.holds Tryz.pinned (OpenSpec.upto chunksSumsSpec)

/-- 'cooperagelaw12.RecipeLost', WHERE WHAT IT READS IS OF BULK AT MOST 1048576: true; the input reads as it did. -/
def recipeLostUptoRow : OpenClaim := { program := "ytdcjhpafipbpkaagreatdoor", sum := "3cbeb1b8f598a4c19dcf58883fe12ef1a6f9186689d4a02b20580b4945b382da", func := "cooperage/cooperagelaw12.RecipeLost", spec := "recipeLost", inPlace := ["internal/abi.NoEscape", "internal/bytealg.MakeNoZero", "internal/bytealg.IndexByteString", "internal/bytealg.IndexString", "slices.overlaps[string]", "slices.overlaps[int]"], unfollowed := true, recurses := true, named := ["unicode/utf8.first", "unicode/utf8.acceptRanges", "internal/bytealg.MaxLen"], apart := false, laid := [("unicode/utf8.acceptRanges", laid_unicode_utf8_acceptRanges), ("unicode/utf8.first", laid_unicode_utf8_first)], narrowed := true }
def RecipeLostUptoSaid : Prop := recipeLostUptoRow.holds Tryz.pinned (OpenSpec.upto recipeLostSpec)

/-- 'cooperagelaw11.ChunksTexts', WHERE WHAT IT READS IS OF BULK AT MOST 1048576: true; the input reads as it did. -/
def chunksTextsUptoRow : OpenClaim := { program := "ytdcjhpafipbpkaagreatdoor", sum := "3cbeb1b8f598a4c19dcf58883fe12ef1a6f9186689d4a02b20580b4945b382da", func := "cooperage/cooperagelaw11.ChunksTexts", spec := "chunksTexts", inPlace := ["internal/abi.NoEscape", "internal/bytealg.MakeNoZero", "internal/bytealg.IndexByteString", "internal/bytealg.IndexString", "slices.overlaps[string]", "slices.overlaps[int]"], unfollowed := true, recurses := true, named := ["unicode/utf8.first", "unicode/utf8.acceptRanges", "internal/bytealg.MaxLen"], apart := false, laid := [("unicode/utf8.acceptRanges", laid_unicode_utf8_acceptRanges), ("unicode/utf8.first", laid_unicode_utf8_first)], narrowed := true }
def ChunksTextsUptoSaid : Prop := chunksTextsUptoRow.holds Tryz.pinned (OpenSpec.upto chunksTextsSpec)

/-- 'cooperagelaw12.RecipePieces', WHERE WHAT IT READS IS OF BULK AT MOST 1048576: true; the input reads as it did. -/
def recipePiecesUptoRow : OpenClaim := { program := "ytdcjhpafipbpkaagreatdoor", sum := "3cbeb1b8f598a4c19dcf58883fe12ef1a6f9186689d4a02b20580b4945b382da", func := "cooperage/cooperagelaw12.RecipePieces", spec := "recipePieces", inPlace := ["internal/abi.NoEscape", "internal/bytealg.MakeNoZero", "internal/bytealg.IndexByteString", "internal/bytealg.IndexString", "slices.overlaps[string]", "slices.overlaps[int]"], unfollowed := true, recurses := true, named := ["unicode/utf8.first", "unicode/utf8.acceptRanges", "internal/bytealg.MaxLen"], apart := false, laid := [("unicode/utf8.acceptRanges", laid_unicode_utf8_acceptRanges), ("unicode/utf8.first", laid_unicode_utf8_first)], narrowed := true }
def RecipePiecesUptoSaid : Prop := recipePiecesUptoRow.holds Tryz.pinned (OpenSpec.upto recipePiecesSpec)

/-- 'cooperagelaw12.RecipeBuilds', WHERE WHAT IT READS IS OF BULK AT MOST 1048576: true; the input reads as it did. -/
def recipeBuildsUptoRow : OpenClaim := { program := "ytdcjhpafipbpkaagreatdoor", sum := "3cbeb1b8f598a4c19dcf58883fe12ef1a6f9186689d4a02b20580b4945b382da", func := "cooperage/cooperagelaw12.RecipeBuilds", spec := "recipeBuilds", inPlace := ["internal/abi.NoEscape", "internal/bytealg.MakeNoZero", "internal/bytealg.IndexByteString", "internal/bytealg.IndexString", "slices.overlaps[string]", "slices.overlaps[int]"], unfollowed := true, recurses := true, named := ["unicode/utf8.first", "unicode/utf8.acceptRanges", "internal/bytealg.MaxLen"], apart := false, laid := [("unicode/utf8.acceptRanges", laid_unicode_utf8_acceptRanges), ("unicode/utf8.first", laid_unicode_utf8_first)], narrowed := true }
def RecipeBuildsUptoSaid : Prop := recipeBuildsUptoRow.holds Tryz.pinned (OpenSpec.upto recipeBuildsSpec)

/-- 'cooperagelaw12.RecipeWrites', WHERE WHAT IT READS IS OF BULK AT MOST 1048576: true; the input reads as it did. -/
def recipeWritesUptoRow : OpenClaim := { program := "ytdcjhpafipbpkaagreatdoor", sum := "3cbeb1b8f598a4c19dcf58883fe12ef1a6f9186689d4a02b20580b4945b382da", func := "cooperage/cooperagelaw12.RecipeWrites", spec := "recipeWrites", inPlace := ["internal/abi.NoEscape", "internal/bytealg.MakeNoZero", "internal/bytealg.IndexByteString", "internal/bytealg.IndexString", "slices.overlaps[string]", "slices.overlaps[int]"], unfollowed := true, recurses := true, named := ["unicode/utf8.first", "unicode/utf8.acceptRanges", "internal/bytealg.MaxLen"], apart := false, laid := [("unicode/utf8.acceptRanges", laid_unicode_utf8_acceptRanges), ("unicode/utf8.first", laid_unicode_utf8_first)], narrowed := true }
def RecipeWritesUptoSaid : Prop := recipeWritesUptoRow.holds Tryz.pinned (OpenSpec.upto recipeWritesSpec)

/-- 'cooperagelaw12.RecipeDrops', WHERE WHAT IT READS IS OF BULK AT MOST 1048576: true; the input reads as it did. -/
def recipeDropsUptoRow : OpenClaim := { program := "ytdcjhpafipbpkaagreatdoor", sum := "3cbeb1b8f598a4c19dcf58883fe12ef1a6f9186689d4a02b20580b4945b382da", func := "cooperage/cooperagelaw12.RecipeDrops", spec := "recipeDrops", inPlace := ["internal/abi.NoEscape", "internal/bytealg.MakeNoZero", "internal/bytealg.IndexByteString", "internal/bytealg.IndexString", "slices.overlaps[string]", "slices.overlaps[int]"], unfollowed := true, recurses := true, named := ["unicode/utf8.first", "unicode/utf8.acceptRanges", "internal/bytealg.MaxLen"], apart := false, laid := [("unicode/utf8.acceptRanges", laid_unicode_utf8_acceptRanges), ("unicode/utf8.first", laid_unicode_utf8_first)], narrowed := true }
def RecipeDropsUptoSaid : Prop := recipeDropsUptoRow.holds Tryz.pinned (OpenSpec.upto recipeDropsSpec)

/-- 'cooperagelaw11.ChunksRuns', WHERE WHAT IT READS IS OF BULK AT MOST 1048576: true; the input reads as it did. -/
def chunksRunsUptoRow : OpenClaim := { program := "ytdcjhpafipbpkaagreatdoor", sum := "3cbeb1b8f598a4c19dcf58883fe12ef1a6f9186689d4a02b20580b4945b382da", func := "cooperage/cooperagelaw11.ChunksRuns", spec := "chunksRuns", inPlace := ["internal/abi.NoEscape", "internal/bytealg.MakeNoZero", "internal/bytealg.IndexByteString", "internal/bytealg.IndexString", "slices.overlaps[string]", "slices.overlaps[int]"], unfollowed := true, recurses := true, named := ["unicode/utf8.first", "unicode/utf8.acceptRanges", "internal/bytealg.MaxLen"], apart := false, laid := [("unicode/utf8.acceptRanges", laid_unicode_utf8_acceptRanges), ("unicode/utf8.first", laid_unicode_utf8_first)], narrowed := true }
def ChunksRunsUptoSaid : Prop := chunksRunsUptoRow.holds Tryz.pinned (OpenSpec.upto chunksRunsSpec)

/-- 'cooperagelaw11.ChunksFull', WHERE WHAT IT READS IS OF BULK AT MOST 1048576: true; the input reads as it did. -/
def chunksFullUptoRow : OpenClaim := { program := "ytdcjhpafipbpkaagreatdoor", sum := "3cbeb1b8f598a4c19dcf58883fe12ef1a6f9186689d4a02b20580b4945b382da", func := "cooperage/cooperagelaw11.ChunksFull", spec := "chunksFull", inPlace := ["internal/abi.NoEscape", "internal/bytealg.MakeNoZero", "internal/bytealg.IndexByteString", "internal/bytealg.IndexString", "slices.overlaps[string]", "slices.overlaps[int]"], unfollowed := true, recurses := true, named := ["unicode/utf8.first", "unicode/utf8.acceptRanges", "internal/bytealg.MaxLen"], apart := false, laid := [("unicode/utf8.acceptRanges", laid_unicode_utf8_acceptRanges), ("unicode/utf8.first", laid_unicode_utf8_first)], narrowed := true }
def ChunksFullUptoSaid : Prop := chunksFullUptoRow.holds Tryz.pinned (OpenSpec.upto chunksFullSpec)

/-- 'cooperagelaw11.ChunksPages', WHERE WHAT IT READS IS OF BULK AT MOST 1048576: true; the input reads as it did. -/
def chunksPagesUptoRow : OpenClaim := { program := "ytdcjhpafipbpkaagreatdoor", sum := "3cbeb1b8f598a4c19dcf58883fe12ef1a6f9186689d4a02b20580b4945b382da", func := "cooperage/cooperagelaw11.ChunksPages", spec := "chunksPages", inPlace := ["internal/abi.NoEscape", "internal/bytealg.MakeNoZero", "internal/bytealg.IndexByteString", "internal/bytealg.IndexString", "slices.overlaps[string]", "slices.overlaps[int]"], unfollowed := true, recurses := true, named := ["unicode/utf8.first", "unicode/utf8.acceptRanges", "internal/bytealg.MaxLen"], apart := false, laid := [("unicode/utf8.acceptRanges", laid_unicode_utf8_acceptRanges), ("unicode/utf8.first", laid_unicode_utf8_first)], narrowed := true }
def ChunksPagesUptoSaid : Prop := chunksPagesUptoRow.holds Tryz.pinned (OpenSpec.upto chunksPagesSpec)

end Rows
end Go.Proofs.YtdcjhpafipbpkaaGreatDoor
