/-
  NARROWER THAN 'FOR EVERY INPUT', by the rows' own cells (each row's printed sentence says how): PackWrites: laid · PackReads: laid · PackJoins: laid · PackFalls: laid · PackParts: laid · NameOrder: laid · NameParts: laid · NameKeys: laid · NameReads: laid · NameTokens: laid.
  DERIVED. THE GIVEN ROWS OF THIS SEAT. 10 by the template 'for every input the law returns true; each argument reads behind the call as it read before'; 0 by the template 'total and deterministic' (their statements: YtoblhikablbapaaDoorTotals.lean).
  GIVEN WITH THE SEED: the statements are not yours to turn. If you find one false, say at which input.
  Laid BY PROGRAM, IN A SANDBOX (cutbox-rows.mjs): the forced cells as the released guide's own fill.sh prints them over the translation 7246813a36086e7a… (all of the seat's roots in one cut). By AI agents, Wed Nov 11 2026. No macro, syntax, notation, axiom, sorry.
-/
import Derived.Test.YtoblhikablbapaaDoorChecked
import GoSem.PinnedTables
import GoSem.Claim
import GoSem.ClaimJoined
import GoSem.ClaimMapViews
import Derived.JoinedTies
import Derived.KernelRfl
namespace Go.Proofs.YtoblhikablbapaaDoor
/- THE CELL 'sum', in the pinned program and in every row, IS THE sha256 OF THE DUMP (.gsa) THAT YtoblhikablbapaaDoorProg.lean LOADS. Nothing in Lean hashes anything: it is a label: what it is worth is what the hold of that sum in a sandbox is worth. -/
noncomputable def Tryd.pinned : Pinned := { name := "ytoblhikablbapaadoor", sum := "7246813a36086e7a65e296b44b709b1b2a5f9ef1d66d603b94b6a2671ffa65b3", checked := Tryd.checked }
namespace Rows
def none {H : Type} : Left H := { results := [], args := [] }

/- WHAT THE LISTED PACKAGE-LEVEL VARIABLES READ AS WHEN THE CALL BEGINS. Each datum BY PROGRAM (the guide's laid-datum.mjs) off the statement by which the dump's own 'gosem.cut.vars' lays the variable. In a bare row this is a premise. The card (YtoblhikablbapaaDoorCards.lean) ties it to the program's text. -/
def laid_unicode_utf8_acceptRanges {H : Type} : DataW H := .agg [.agg [.lit (.int .u8 128), .lit (.int .u8 191)], .agg [.lit (.int .u8 160), .lit (.int .u8 191)], .agg [.lit (.int .u8 128), .lit (.int .u8 159)], .agg [.lit (.int .u8 144), .lit (.int .u8 191)], .agg [.lit (.int .u8 128), .lit (.int .u8 143)], .agg [.lit (.int .u8 0), .lit (.int .u8 0)], .agg [.lit (.int .u8 0), .lit (.int .u8 0)], .agg [.lit (.int .u8 0), .lit (.int .u8 0)], .agg [.lit (.int .u8 0), .lit (.int .u8 0)], .agg [.lit (.int .u8 0), .lit (.int .u8 0)], .agg [.lit (.int .u8 0), .lit (.int .u8 0)], .agg [.lit (.int .u8 0), .lit (.int .u8 0)], .agg [.lit (.int .u8 0), .lit (.int .u8 0)], .agg [.lit (.int .u8 0), .lit (.int .u8 0)], .agg [.lit (.int .u8 0), .lit (.int .u8 0)], .agg [.lit (.int .u8 0), .lit (.int .u8 0)]]
/-- One of Go's own tables, pinned by name: the form's constant. -/
def laid_unicode_utf8_first : DataW Unit := Go.Pinned.utf8First

/-- 'cooperagelaw10.PackWrites': WHATEVER THE INPUT: true; the input reads as it did. -/
def packWritesSpec : ChangeSpec := { name := "packWrites", fn := fun _ => fun
  | [d1, d2] => { results := [.lit (.bool true)], args := [d1, d2] }
  | _ => none }
def packWritesRow : OpenClaim := { program := "ytoblhikablbapaadoor", sum := "7246813a36086e7a65e296b44b709b1b2a5f9ef1d66d603b94b6a2671ffa65b3", func := "cooperage/cooperagelaw10.PackWrites", spec := "packWrites", inPlace := ["internal/bytealg.IndexByteString", "internal/bytealg.IndexString", "internal/abi.NoEscape"], named := ["unicode/utf8.first", "unicode/utf8.acceptRanges", "internal/bytealg.MaxLen"], apart := false, laid := [("unicode/utf8.acceptRanges", laid_unicode_utf8_acceptRanges), ("unicode/utf8.first", laid_unicode_utf8_first)] }
def PackWritesSaid : Prop := packWritesRow.holds Tryd.pinned (OpenSpec.ofChange packWritesSpec)

/-- ITS FALSE NEIGHBOUR: 'it returns false'. Refute it at one input. -/
def packWritesWrong : ChangeSpec := { name := "packWrites", fn := fun _ => fun
  | [d1, d2] => { results := [.lit (.bool false)], args := [d1, d2] }
  | _ => none }
def PackWritesWrongFalsely : Prop := packWritesRow.holds Tryd.pinned (OpenSpec.ofChange packWritesWrong)

/-- 'cooperagelaw10.PackReads': WHATEVER THE INPUT: true; the input reads as it did. -/
def packReadsSpec : ChangeSpec := { name := "packReads", fn := fun _ => fun
  | [d1, d2] => { results := [.lit (.bool true)], args := [d1, d2] }
  | _ => none }
def packReadsRow : OpenClaim := { program := "ytoblhikablbapaadoor", sum := "7246813a36086e7a65e296b44b709b1b2a5f9ef1d66d603b94b6a2671ffa65b3", func := "cooperage/cooperagelaw10.PackReads", spec := "packReads", inPlace := ["internal/bytealg.IndexByteString", "internal/bytealg.IndexString", "internal/abi.NoEscape"], named := ["unicode/utf8.first", "unicode/utf8.acceptRanges", "internal/bytealg.MaxLen"], apart := false, laid := [("unicode/utf8.acceptRanges", laid_unicode_utf8_acceptRanges), ("unicode/utf8.first", laid_unicode_utf8_first)] }
def PackReadsSaid : Prop := packReadsRow.holds Tryd.pinned (OpenSpec.ofChange packReadsSpec)

/-- ITS FALSE NEIGHBOUR: 'it returns false'. Refute it at one input. -/
def packReadsWrong : ChangeSpec := { name := "packReads", fn := fun _ => fun
  | [d1, d2] => { results := [.lit (.bool false)], args := [d1, d2] }
  | _ => none }
def PackReadsWrongFalsely : Prop := packReadsRow.holds Tryd.pinned (OpenSpec.ofChange packReadsWrong)

/-- 'cooperagelaw10.PackJoins': WHATEVER THE INPUT: true; the input reads as it did. -/
def packJoinsSpec : ChangeSpec := { name := "packJoins", fn := fun _ => fun
  | [d1, d2, d3] => { results := [.lit (.bool true)], args := [d1, d2, d3] }
  | _ => none }
def packJoinsRow : OpenClaim := { program := "ytoblhikablbapaadoor", sum := "7246813a36086e7a65e296b44b709b1b2a5f9ef1d66d603b94b6a2671ffa65b3", func := "cooperage/cooperagelaw10.PackJoins", spec := "packJoins", inPlace := ["internal/bytealg.IndexByteString", "internal/bytealg.IndexString", "internal/abi.NoEscape"], named := ["unicode/utf8.first", "unicode/utf8.acceptRanges", "internal/bytealg.MaxLen"], apart := false, laid := [("unicode/utf8.acceptRanges", laid_unicode_utf8_acceptRanges), ("unicode/utf8.first", laid_unicode_utf8_first)] }
def PackJoinsSaid : Prop := packJoinsRow.holds Tryd.pinned (OpenSpec.ofChange packJoinsSpec)

/-- ITS FALSE NEIGHBOUR: 'it returns false'. Refute it at one input. -/
def packJoinsWrong : ChangeSpec := { name := "packJoins", fn := fun _ => fun
  | [d1, d2, d3] => { results := [.lit (.bool false)], args := [d1, d2, d3] }
  | _ => none }
def PackJoinsWrongFalsely : Prop := packJoinsRow.holds Tryd.pinned (OpenSpec.ofChange packJoinsWrong)

/-- 'cooperagelaw10.PackFalls': WHATEVER THE INPUT: true; the input reads as it did. -/
def packFallsSpec : ChangeSpec := { name := "packFalls", fn := fun _ => fun
  | [d1, d2, d3] => { results := [.lit (.bool true)], args := [d1, d2, d3] }
  | _ => none }
def packFallsRow : OpenClaim := { program := "ytoblhikablbapaadoor", sum := "7246813a36086e7a65e296b44b709b1b2a5f9ef1d66d603b94b6a2671ffa65b3", func := "cooperage/cooperagelaw10.PackFalls", spec := "packFalls", inPlace := ["internal/bytealg.IndexByteString", "internal/bytealg.IndexString", "internal/abi.NoEscape"], named := ["unicode/utf8.first", "unicode/utf8.acceptRanges", "internal/bytealg.MaxLen"], apart := false, laid := [("unicode/utf8.acceptRanges", laid_unicode_utf8_acceptRanges), ("unicode/utf8.first", laid_unicode_utf8_first)] }
def PackFallsSaid : Prop := packFallsRow.holds Tryd.pinned (OpenSpec.ofChange packFallsSpec)

/-- ITS FALSE NEIGHBOUR: 'it returns false'. Refute it at one input. -/
def packFallsWrong : ChangeSpec := { name := "packFalls", fn := fun _ => fun
  | [d1, d2, d3] => { results := [.lit (.bool false)], args := [d1, d2, d3] }
  | _ => none }
def PackFallsWrongFalsely : Prop := packFallsRow.holds Tryd.pinned (OpenSpec.ofChange packFallsWrong)

/-- 'cooperagelaw10.PackParts': WHATEVER THE INPUT: true; the input reads as it did. -/
def packPartsSpec : ChangeSpec := { name := "packParts", fn := fun _ => fun
  | [d1, d2, d3] => { results := [.lit (.bool true)], args := [d1, d2, d3] }
  | _ => none }
def packPartsRow : OpenClaim := { program := "ytoblhikablbapaadoor", sum := "7246813a36086e7a65e296b44b709b1b2a5f9ef1d66d603b94b6a2671ffa65b3", func := "cooperage/cooperagelaw10.PackParts", spec := "packParts", inPlace := ["internal/bytealg.IndexByteString", "internal/bytealg.IndexString", "internal/abi.NoEscape"], named := ["unicode/utf8.first", "unicode/utf8.acceptRanges", "internal/bytealg.MaxLen"], apart := false, laid := [("unicode/utf8.acceptRanges", laid_unicode_utf8_acceptRanges), ("unicode/utf8.first", laid_unicode_utf8_first)] }
def PackPartsSaid : Prop := packPartsRow.holds Tryd.pinned (OpenSpec.ofChange packPartsSpec)

/-- ITS FALSE NEIGHBOUR: 'it returns false'. Refute it at one input. -/
def packPartsWrong : ChangeSpec := { name := "packParts", fn := fun _ => fun
  | [d1, d2, d3] => { results := [.lit (.bool false)], args := [d1, d2, d3] }
  | _ => none }
def PackPartsWrongFalsely : Prop := packPartsRow.holds Tryd.pinned (OpenSpec.ofChange packPartsWrong)

/-- 'cooperagelaw13.NameOrder': WHATEVER THE INPUT: true; the input reads as it did. -/
def nameOrderSpec : ChangeSpec := { name := "nameOrder", fn := fun _ => fun
  | [d1, d2] => { results := [.lit (.bool true)], args := [d1, d2] }
  | _ => none }
def nameOrderRow : OpenClaim := { program := "ytoblhikablbapaadoor", sum := "7246813a36086e7a65e296b44b709b1b2a5f9ef1d66d603b94b6a2671ffa65b3", func := "cooperage/cooperagelaw13.NameOrder", spec := "nameOrder", inPlace := ["internal/bytealg.IndexByteString", "internal/bytealg.IndexString", "internal/abi.NoEscape"], unfollowed := true, recurses := true, named := ["unicode/utf8.first", "unicode/utf8.acceptRanges", "internal/bytealg.MaxLen"], apart := false, laid := [("unicode/utf8.acceptRanges", laid_unicode_utf8_acceptRanges), ("unicode/utf8.first", laid_unicode_utf8_first)] }
def NameOrderSaid : Prop := nameOrderRow.holds Tryd.pinned (OpenSpec.ofChange nameOrderSpec)

/-- ITS FALSE NEIGHBOUR: 'it returns false'. Refute it at one input. -/
def nameOrderWrong : ChangeSpec := { name := "nameOrder", fn := fun _ => fun
  | [d1, d2] => { results := [.lit (.bool false)], args := [d1, d2] }
  | _ => none }
def NameOrderWrongFalsely : Prop := nameOrderRow.holds Tryd.pinned (OpenSpec.ofChange nameOrderWrong)

/-- 'cooperagelaw13.NameParts': WHATEVER THE INPUT: true; the input reads as it did. -/
def namePartsSpec : ChangeSpec := { name := "nameParts", fn := fun _ => fun
  | [d1, d2, d3] => { results := [.lit (.bool true)], args := [d1, d2, d3] }
  | _ => none }
def namePartsRow : OpenClaim := { program := "ytoblhikablbapaadoor", sum := "7246813a36086e7a65e296b44b709b1b2a5f9ef1d66d603b94b6a2671ffa65b3", func := "cooperage/cooperagelaw13.NameParts", spec := "nameParts", inPlace := ["internal/bytealg.IndexByteString", "internal/bytealg.IndexString", "internal/abi.NoEscape"], named := ["unicode/utf8.first", "unicode/utf8.acceptRanges", "internal/bytealg.MaxLen"], apart := false, laid := [("unicode/utf8.acceptRanges", laid_unicode_utf8_acceptRanges), ("unicode/utf8.first", laid_unicode_utf8_first)] }
def NamePartsSaid : Prop := namePartsRow.holds Tryd.pinned (OpenSpec.ofChange namePartsSpec)

/-- ITS FALSE NEIGHBOUR: 'it returns false'. Refute it at one input. -/
def namePartsWrong : ChangeSpec := { name := "nameParts", fn := fun _ => fun
  | [d1, d2, d3] => { results := [.lit (.bool false)], args := [d1, d2, d3] }
  | _ => none }
def NamePartsWrongFalsely : Prop := namePartsRow.holds Tryd.pinned (OpenSpec.ofChange namePartsWrong)

/-- 'cooperagelaw13.NameKeys': WHATEVER THE INPUT: true; the input reads as it did. -/
def nameKeysSpec : ChangeSpec := { name := "nameKeys", fn := fun _ => fun
  | [d1, d2, d3] => { results := [.lit (.bool true)], args := [d1, d2, d3] }
  | _ => none }
def nameKeysRow : OpenClaim := { program := "ytoblhikablbapaadoor", sum := "7246813a36086e7a65e296b44b709b1b2a5f9ef1d66d603b94b6a2671ffa65b3", func := "cooperage/cooperagelaw13.NameKeys", spec := "nameKeys", inPlace := ["internal/bytealg.IndexByteString", "internal/bytealg.IndexString", "internal/abi.NoEscape"], named := ["unicode/utf8.first", "unicode/utf8.acceptRanges", "internal/bytealg.MaxLen"], apart := false, laid := [("unicode/utf8.acceptRanges", laid_unicode_utf8_acceptRanges), ("unicode/utf8.first", laid_unicode_utf8_first)] }
def NameKeysSaid : Prop := nameKeysRow.holds Tryd.pinned (OpenSpec.ofChange nameKeysSpec)

/-- ITS FALSE NEIGHBOUR: 'it returns false'. Refute it at one input. -/
def nameKeysWrong : ChangeSpec := { name := "nameKeys", fn := fun _ => fun
  | [d1, d2, d3] => { results := [.lit (.bool false)], args := [d1, d2, d3] }
  | _ => none }
def NameKeysWrongFalsely : Prop := nameKeysRow.holds Tryd.pinned (OpenSpec.ofChange nameKeysWrong)

/-- 'cooperagelaw13.NameReads': WHATEVER THE INPUT: true; the input reads as it did. -/
def nameReadsSpec : ChangeSpec := { name := "nameReads", fn := fun _ => fun
  | [d] => { results := [.lit (.bool true)], args := [d] }
  | _ => none }
def nameReadsRow : OpenClaim := { program := "ytoblhikablbapaadoor", sum := "7246813a36086e7a65e296b44b709b1b2a5f9ef1d66d603b94b6a2671ffa65b3", func := "cooperage/cooperagelaw13.NameReads", spec := "nameReads", inPlace := ["internal/bytealg.IndexByteString", "internal/bytealg.IndexString", "internal/abi.NoEscape"], named := ["unicode/utf8.first", "unicode/utf8.acceptRanges", "internal/bytealg.MaxLen"], apart := false, laid := [("unicode/utf8.acceptRanges", laid_unicode_utf8_acceptRanges), ("unicode/utf8.first", laid_unicode_utf8_first)] }
def NameReadsSaid : Prop := nameReadsRow.holds Tryd.pinned (OpenSpec.ofChange nameReadsSpec)

/-- ITS FALSE NEIGHBOUR: 'it returns false'. Refute it at one input. -/
def nameReadsWrong : ChangeSpec := { name := "nameReads", fn := fun _ => fun
  | [d] => { results := [.lit (.bool false)], args := [d] }
  | _ => none }
def NameReadsWrongFalsely : Prop := nameReadsRow.holds Tryd.pinned (OpenSpec.ofChange nameReadsWrong)

/-- 'cooperagelaw13.NameTokens': WHATEVER THE INPUT: true; the input reads as it did. -/
def nameTokensSpec : ChangeSpec := { name := "nameTokens", fn := fun _ => fun
  | [d1, d2] => { results := [.lit (.bool true)], args := [d1, d2] }
  | _ => none }
def nameTokensRow : OpenClaim := { program := "ytoblhikablbapaadoor", sum := "7246813a36086e7a65e296b44b709b1b2a5f9ef1d66d603b94b6a2671ffa65b3", func := "cooperage/cooperagelaw13.NameTokens", spec := "nameTokens", inPlace := ["internal/bytealg.IndexByteString", "internal/bytealg.IndexString", "internal/abi.NoEscape"], named := ["unicode/utf8.first", "unicode/utf8.acceptRanges", "internal/bytealg.MaxLen"], apart := false, laid := [("unicode/utf8.acceptRanges", laid_unicode_utf8_acceptRanges), ("unicode/utf8.first", laid_unicode_utf8_first)] }
def NameTokensSaid : Prop := nameTokensRow.holds Tryd.pinned (OpenSpec.ofChange nameTokensSpec)

/-- ITS FALSE NEIGHBOUR: 'it returns false'. Refute it at one input. -/
def nameTokensWrong : ChangeSpec := { name := "nameTokens", fn := fun _ => fun
  | [d1, d2] => { results := [.lit (.bool false)], args := [d1, d2] }
  | _ => none }
def NameTokensWrongFalsely : Prop := nameTokensRow.holds Tryd.pinned (OpenSpec.ofChange nameTokensWrong)

/- THE SECOND FORM. 'bulk': how many values and letters a reading holds, each counted each time it is reached (what is shared counts as often as it is met; a slice's spare places count too). A statement '..UptoSaid' is the law's where the arguments, and the package variables that the reading takes, are together of bulk at most 1048576: NARROWER than '..Said'. Prove '..Said' where nothing that the law and all that it calls make is longer than what came in: it says more and counts as full. Else prove '..UptoSaid'. A law counts once. -/
mutual
def uptoBulk {H : Type} : DataW H → Nat
  | .lit (.string bytes) => bytes.length + 1
  | .lit _ => 1
  | .nil => 1
  | .ptr d => uptoBulk d + 1
  | .slice elems spare => uptoBulkAll elems + uptoBulkAll spare + 1
  | .agg parts => uptoBulkAll parts + 1
  | .iface _ d => uptoBulk d + 1
  | .map entries => uptoBulkEntries entries + 1
  | .held _ => 1
def uptoBulkAll {H : Type} : List (DataW H) → Nat
  | [] => 0
  | d :: r => uptoBulk d + uptoBulkAll r
def uptoBulkEntries {H : Type} : List (Lit × DataW H) → Nat
  | [] => 0
  | x :: r => uptoBulkEntry x + uptoBulkEntries r
def uptoBulkEntry {H : Type} : Lit × DataW H → Nat
  | (.string bytes, d) => bytes.length + uptoBulk d + 1
  | (_, d) => uptoBulk d + 1
 end
def uptoSmall : (H : Type) → List (DataW H) → Bool := fun _ ds => decide (uptoBulkAll ds ≤ 1048576)
def OpenSpec.upto (s : _root_.Go.ChangeSpec) : _root_.Go.OpenSpec := { _root_.Go.OpenSpec.ofChange s with cond := some uptoSmall }

/-- 'cooperagelaw10.PackWrites', WHERE WHAT IT READS IS OF BULK AT MOST 1048576: true; the input reads as it did. -/
def packWritesUptoRow : OpenClaim := { program := "ytoblhikablbapaadoor", sum := "7246813a36086e7a65e296b44b709b1b2a5f9ef1d66d603b94b6a2671ffa65b3", func := "cooperage/cooperagelaw10.PackWrites", spec := "packWrites", inPlace := ["internal/bytealg.IndexByteString", "internal/bytealg.IndexString", "internal/abi.NoEscape"], named := ["unicode/utf8.first", "unicode/utf8.acceptRanges", "internal/bytealg.MaxLen"], apart := false, laid := [("unicode/utf8.acceptRanges", laid_unicode_utf8_acceptRanges), ("unicode/utf8.first", laid_unicode_utf8_first)], narrowed := true }
def PackWritesUptoSaid : Prop := packWritesUptoRow.holds Tryd.pinned (OpenSpec.upto packWritesSpec)

/-- 'cooperagelaw10.PackReads', WHERE WHAT IT READS IS OF BULK AT MOST 1048576: true; the input reads as it did. -/
def packReadsUptoRow : OpenClaim := { program := "ytoblhikablbapaadoor", sum := "7246813a36086e7a65e296b44b709b1b2a5f9ef1d66d603b94b6a2671ffa65b3", func := "cooperage/cooperagelaw10.PackReads", spec := "packReads", inPlace := ["internal/bytealg.IndexByteString", "internal/bytealg.IndexString", "internal/abi.NoEscape"], named := ["unicode/utf8.first", "unicode/utf8.acceptRanges", "internal/bytealg.MaxLen"], apart := false, laid := [("unicode/utf8.acceptRanges", laid_unicode_utf8_acceptRanges), ("unicode/utf8.first", laid_unicode_utf8_first)], narrowed := true }
def PackReadsUptoSaid : Prop := packReadsUptoRow.holds Tryd.pinned (OpenSpec.upto packReadsSpec)

/-- 'cooperagelaw10.PackJoins', WHERE WHAT IT READS IS OF BULK AT MOST 1048576: true; the input reads as it did. -/
def packJoinsUptoRow : OpenClaim := { program := "ytoblhikablbapaadoor", sum := "7246813a36086e7a65e296b44b709b1b2a5f9ef1d66d603b94b6a2671ffa65b3", func := "cooperage/cooperagelaw10.PackJoins", spec := "packJoins", inPlace := ["internal/bytealg.IndexByteString", "internal/bytealg.IndexString", "internal/abi.NoEscape"], named := ["unicode/utf8.first", "unicode/utf8.acceptRanges", "internal/bytealg.MaxLen"], apart := false, laid := [("unicode/utf8.acceptRanges", laid_unicode_utf8_acceptRanges), ("unicode/utf8.first", laid_unicode_utf8_first)], narrowed := true }
def PackJoinsUptoSaid : Prop := packJoinsUptoRow.holds Tryd.pinned (OpenSpec.upto packJoinsSpec)

/-- 'cooperagelaw10.PackFalls', WHERE WHAT IT READS IS OF BULK AT MOST 1048576: true; the input reads as it did. -/
def packFallsUptoRow : OpenClaim := { program := "ytoblhikablbapaadoor", sum := "7246813a36086e7a65e296b44b709b1b2a5f9ef1d66d603b94b6a2671ffa65b3", func := "cooperage/cooperagelaw10.PackFalls", spec := "packFalls", inPlace := ["internal/bytealg.IndexByteString", "internal/bytealg.IndexString", "internal/abi.NoEscape"], named := ["unicode/utf8.first", "unicode/utf8.acceptRanges", "internal/bytealg.MaxLen"], apart := false, laid := [("unicode/utf8.acceptRanges", laid_unicode_utf8_acceptRanges), ("unicode/utf8.first", laid_unicode_utf8_first)], narrowed := true }
def PackFallsUptoSaid : Prop := packFallsUptoRow.holds Tryd.pinned (OpenSpec.upto packFallsSpec)

/-- 'cooperagelaw10.PackParts', WHERE WHAT IT READS IS OF BULK AT MOST 1048576: true; the input reads as it did. -/
def packPartsUptoRow : OpenClaim := { program := "ytoblhikablbapaadoor", sum := "7246813a36086e7a65e296b44b709b1b2a5f9ef1d66d603b94b6a2671ffa65b3", func := "cooperage/cooperagelaw10.PackParts", spec := "packParts", inPlace := ["internal/bytealg.IndexByteString", "internal/bytealg.IndexString", "internal/abi.NoEscape"], named := ["unicode/utf8.first", "unicode/utf8.acceptRanges", "internal/bytealg.MaxLen"], apart := false, laid := [("unicode/utf8.acceptRanges", laid_unicode_utf8_acceptRanges), ("unicode/utf8.first", laid_unicode_utf8_first)], narrowed := true }
def PackPartsUptoSaid : Prop := packPartsUptoRow.holds Tryd.pinned (OpenSpec.upto packPartsSpec)

/-- 'cooperagelaw13.NameOrder', WHERE WHAT IT READS IS OF BULK AT MOST 1048576: true; the input reads as it did. -/
def nameOrderUptoRow : OpenClaim := { program := "ytoblhikablbapaadoor", sum := "7246813a36086e7a65e296b44b709b1b2a5f9ef1d66d603b94b6a2671ffa65b3", func := "cooperage/cooperagelaw13.NameOrder", spec := "nameOrder", inPlace := ["internal/bytealg.IndexByteString", "internal/bytealg.IndexString", "internal/abi.NoEscape"], unfollowed := true, recurses := true, named := ["unicode/utf8.first", "unicode/utf8.acceptRanges", "internal/bytealg.MaxLen"], apart := false, laid := [("unicode/utf8.acceptRanges", laid_unicode_utf8_acceptRanges), ("unicode/utf8.first", laid_unicode_utf8_first)], narrowed := true }
def NameOrderUptoSaid : Prop := nameOrderUptoRow.holds Tryd.pinned (OpenSpec.upto nameOrderSpec)

/-- 'cooperagelaw13.NameParts', WHERE WHAT IT READS IS OF BULK AT MOST 1048576: true; the input reads as it did. -/
def namePartsUptoRow : OpenClaim := { program := "ytoblhikablbapaadoor", sum := "7246813a36086e7a65e296b44b709b1b2a5f9ef1d66d603b94b6a2671ffa65b3", func := "cooperage/cooperagelaw13.NameParts", spec := "nameParts", inPlace := ["internal/bytealg.IndexByteString", "internal/bytealg.IndexString", "internal/abi.NoEscape"], named := ["unicode/utf8.first", "unicode/utf8.acceptRanges", "internal/bytealg.MaxLen"], apart := false, laid := [("unicode/utf8.acceptRanges", laid_unicode_utf8_acceptRanges), ("unicode/utf8.first", laid_unicode_utf8_first)], narrowed := true }
def NamePartsUptoSaid : Prop := namePartsUptoRow.holds Tryd.pinned (OpenSpec.upto namePartsSpec)

/-- 'cooperagelaw13.NameKeys', WHERE WHAT IT READS IS OF BULK AT MOST 1048576: true; the input reads as it did. -/
def nameKeysUptoRow : OpenClaim := { program := "ytoblhikablbapaadoor", sum := "7246813a36086e7a65e296b44b709b1b2a5f9ef1d66d603b94b6a2671ffa65b3", func := "cooperage/cooperagelaw13.NameKeys", spec := "nameKeys", inPlace := ["internal/bytealg.IndexByteString", "internal/bytealg.IndexString", "internal/abi.NoEscape"], named := ["unicode/utf8.first", "unicode/utf8.acceptRanges", "internal/bytealg.MaxLen"], apart := false, laid := [("unicode/utf8.acceptRanges", laid_unicode_utf8_acceptRanges), ("unicode/utf8.first", laid_unicode_utf8_first)], narrowed := true }
def NameKeysUptoSaid : Prop := nameKeysUptoRow.holds Tryd.pinned (OpenSpec.upto nameKeysSpec)

/-- 'cooperagelaw13.NameReads', WHERE WHAT IT READS IS OF BULK AT MOST 1048576: true; the input reads as it did. -/
def nameReadsUptoRow : OpenClaim := { program := "ytoblhikablbapaadoor", sum := "7246813a36086e7a65e296b44b709b1b2a5f9ef1d66d603b94b6a2671ffa65b3", func := "cooperage/cooperagelaw13.NameReads", spec := "nameReads", inPlace := ["internal/bytealg.IndexByteString", "internal/bytealg.IndexString", "internal/abi.NoEscape"], named := ["unicode/utf8.first", "unicode/utf8.acceptRanges", "internal/bytealg.MaxLen"], apart := false, laid := [("unicode/utf8.acceptRanges", laid_unicode_utf8_acceptRanges), ("unicode/utf8.first", laid_unicode_utf8_first)], narrowed := true }
def NameReadsUptoSaid : Prop := nameReadsUptoRow.holds Tryd.pinned (OpenSpec.upto nameReadsSpec)

/-- 'cooperagelaw13.NameTokens', WHERE WHAT IT READS IS OF BULK AT MOST 1048576: true; the input reads as it did. -/
def nameTokensUptoRow : OpenClaim := { program := "ytoblhikablbapaadoor", sum := "7246813a36086e7a65e296b44b709b1b2a5f9ef1d66d603b94b6a2671ffa65b3", func := "cooperage/cooperagelaw13.NameTokens", spec := "nameTokens", inPlace := ["internal/bytealg.IndexByteString", "internal/bytealg.IndexString", "internal/abi.NoEscape"], named := ["unicode/utf8.first", "unicode/utf8.acceptRanges", "internal/bytealg.MaxLen"], apart := false, laid := [("unicode/utf8.acceptRanges", laid_unicode_utf8_acceptRanges), ("unicode/utf8.first", laid_unicode_utf8_first)], narrowed := true }
def NameTokensUptoSaid : Prop := nameTokensUptoRow.holds Tryd.pinned (OpenSpec.upto nameTokensSpec)

end Rows
end Go.Proofs.YtoblhikablbapaaDoor
