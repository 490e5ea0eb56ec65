/-
  No cell of these rows narrows 'for every input' (looked for: loops, veiled, ifaces, maps, wideKeys, modest, calm, conditions, laid).
  DERIVED. THE GIVEN ROWS OF THIS SEAT. 4 by the template 'for every input the law returns true; each argument reads behind the call as it read before'; 0 by the template 'total and deterministic' (their statements: YtjgihpabbogpjaaTotals.lean).
  GIVEN WITH THE SEED: the statements are not yours to turn. If you find one false, say at which input.
  Laid BY PROGRAM, IN A SANDBOX (cutbox-rows.mjs): the forced cells as the released guide's own fill.sh prints them over the translation b65b11a8581b1c9f… (all of the seat's roots in one cut). By AI agents, Wed Nov 11 2026. No macro, syntax, notation, axiom, sorry.
-/
import Derived.Test.YtjgihpabbogpjaaChecked
import GoSem.Claim
import GoSem.ClaimJoined
import GoSem.ClaimMapViews
import Derived.JoinedTies
import Derived.KernelRfl
namespace Go.Proofs.Ytjgihpabbogpjaa
/- THE CELL 'sum', in the pinned program and in every row, IS THE sha256 OF THE DUMP (.gsa) THAT YtjgihpabbogpjaaProg.lean LOADS. Nothing in Lean hashes anything: it is a label: what it is worth is what the hold of that sum in a sandbox is worth. -/
noncomputable def Try.pinned : Pinned := { name := "ytjgihpabbogpjaa", sum := "b65b11a8581b1c9f4103dc4d88359ddf2bacdec1f0a9168a6dc7a595704cc805", checked := Try.checked }
namespace Rows
def none {H : Type} : Left H := { results := [], args := [] }

/-- 'cooperagelaw04.SectorApart': WHATEVER THE INPUT: true; the input reads as it did. -/
def sectorApartSpec : ChangeSpec := { name := "sectorApart", fn := fun _ => fun
  | [d1, d2, d3] => { results := [.lit (.bool true)], args := [d1, d2, d3] }
  | _ => none }
def sectorApartRow : OpenClaim := { program := "ytjgihpabbogpjaa", sum := "b65b11a8581b1c9f4103dc4d88359ddf2bacdec1f0a9168a6dc7a595704cc805", func := "cooperage/cooperagelaw04.SectorApart", spec := "sectorApart", inPlace := ["internal/abi.NoEscape", "internal/bytealg.MakeNoZero"], apart := false }
def SectorApartSaid : Prop := sectorApartRow.holds Try.pinned (OpenSpec.ofChange sectorApartSpec)

/-- ITS FALSE NEIGHBOUR: 'it returns false'. Refute it at one input. -/
def sectorApartWrong : ChangeSpec := { name := "sectorApart", fn := fun _ => fun
  | [d1, d2, d3] => { results := [.lit (.bool false)], args := [d1, d2, d3] }
  | _ => none }
def SectorApartWrongFalsely : Prop := sectorApartRow.holds Try.pinned (OpenSpec.ofChange sectorApartWrong)

/-- 'cooperagelaw04.SectorFuel': WHATEVER THE INPUT: true; the input reads as it did. -/
def sectorFuelSpec : ChangeSpec := { name := "sectorFuel", fn := fun _ => fun
  | [d1, d2] => { results := [.lit (.bool true)], args := [d1, d2] }
  | _ => none }
def sectorFuelRow : OpenClaim := { program := "ytjgihpabbogpjaa", sum := "b65b11a8581b1c9f4103dc4d88359ddf2bacdec1f0a9168a6dc7a595704cc805", func := "cooperage/cooperagelaw04.SectorFuel", spec := "sectorFuel", inPlace := ["internal/abi.NoEscape", "internal/bytealg.MakeNoZero"], apart := false }
def SectorFuelSaid : Prop := sectorFuelRow.holds Try.pinned (OpenSpec.ofChange sectorFuelSpec)

/-- ITS FALSE NEIGHBOUR: 'it returns false'. Refute it at one input. -/
def sectorFuelWrong : ChangeSpec := { name := "sectorFuel", fn := fun _ => fun
  | [d1, d2] => { results := [.lit (.bool false)], args := [d1, d2] }
  | _ => none }
def SectorFuelWrongFalsely : Prop := sectorFuelRow.holds Try.pinned (OpenSpec.ofChange sectorFuelWrong)

/-- 'cooperagelaw04.SectorSure': WHATEVER THE INPUT: true; the input reads as it did. -/
def sectorSureSpec : ChangeSpec := { name := "sectorSure", fn := fun _ => fun
  | [d1, d2, d3] => { results := [.lit (.bool true)], args := [d1, d2, d3] }
  | _ => none }
def sectorSureRow : OpenClaim := { program := "ytjgihpabbogpjaa", sum := "b65b11a8581b1c9f4103dc4d88359ddf2bacdec1f0a9168a6dc7a595704cc805", func := "cooperage/cooperagelaw04.SectorSure", spec := "sectorSure", inPlace := ["internal/abi.NoEscape", "internal/bytealg.MakeNoZero"], apart := false }
def SectorSureSaid : Prop := sectorSureRow.holds Try.pinned (OpenSpec.ofChange sectorSureSpec)

/-- ITS FALSE NEIGHBOUR: 'it returns false'. Refute it at one input. -/
def sectorSureWrong : ChangeSpec := { name := "sectorSure", fn := fun _ => fun
  | [d1, d2, d3] => { results := [.lit (.bool false)], args := [d1, d2, d3] }
  | _ => none }
def SectorSureWrongFalsely : Prop := sectorSureRow.holds Try.pinned (OpenSpec.ofChange sectorSureWrong)

/-- 'cooperagelaw04.SectorRuns': WHATEVER THE INPUT: true; the input reads as it did. -/
def sectorRunsSpec : ChangeSpec := { name := "sectorRuns", fn := fun _ => fun
  | [d1, d2] => { results := [.lit (.bool true)], args := [d1, d2] }
  | _ => none }
def sectorRunsRow : OpenClaim := { program := "ytjgihpabbogpjaa", sum := "b65b11a8581b1c9f4103dc4d88359ddf2bacdec1f0a9168a6dc7a595704cc805", func := "cooperage/cooperagelaw04.SectorRuns", spec := "sectorRuns", inPlace := ["internal/abi.NoEscape", "internal/bytealg.MakeNoZero"], apart := false }
def SectorRunsSaid : Prop := sectorRunsRow.holds Try.pinned (OpenSpec.ofChange sectorRunsSpec)

/-- ITS FALSE NEIGHBOUR: 'it returns false'. Refute it at one input. -/
def sectorRunsWrong : ChangeSpec := { name := "sectorRuns", fn := fun _ => fun
  | [d1, d2] => { results := [.lit (.bool false)], args := [d1, d2] }
  | _ => none }
def SectorRunsWrongFalsely : Prop := sectorRunsRow.holds Try.pinned (OpenSpec.ofChange sectorRunsWrong)

/- THE SECOND FORM. 'bulk': how many values and letters a reading holds, each counted each time it is reached (what is shared counts as often as it is met; a slice's spare places count too). A statement '..UptoSaid' is the law's where the arguments, and the package variables that the reading takes, are together of bulk at most 1048576: NARROWER than '..Said'. Prove '..Said' where nothing that the law and all that it calls make is longer than what came in: it says more and counts as full. Else prove '..UptoSaid'. A law counts once. -/
mutual
def uptoBulk {H : Type} : DataW H → Nat
  | .lit (.string bytes) => bytes.length + 1
  | .lit _ => 1
  | .nil => 1
  | .ptr d => uptoBulk d + 1
  | .slice elems spare => uptoBulkAll elems + uptoBulkAll spare + 1
  | .agg parts => uptoBulkAll parts + 1
  | .iface _ d => uptoBulk d + 1
  | .map entries => uptoBulkEntries entries + 1
  | .held _ => 1
def uptoBulkAll {H : Type} : List (DataW H) → Nat
  | [] => 0
  | d :: r => uptoBulk d + uptoBulkAll r
def uptoBulkEntries {H : Type} : List (Lit × DataW H) → Nat
  | [] => 0
  | x :: r => uptoBulkEntry x + uptoBulkEntries r
def uptoBulkEntry {H : Type} : Lit × DataW H → Nat
  | (.string bytes, d) => bytes.length + uptoBulk d + 1
  | (_, d) => uptoBulk d + 1
 end
def uptoSmall : (H : Type) → List (DataW H) → Bool := fun _ ds => decide (uptoBulkAll ds ≤ 1048576)
def OpenSpec.upto (s : _root_.Go.ChangeSpec) : _root_.Go.OpenSpec := { _root_.Go.OpenSpec.ofChange s with cond := some uptoSmall }

/-- 'cooperagelaw04.SectorApart', WHERE WHAT IT READS IS OF BULK AT MOST 1048576: true; the input reads as it did. -/
def sectorApartUptoRow : OpenClaim := { program := "ytjgihpabbogpjaa", sum := "b65b11a8581b1c9f4103dc4d88359ddf2bacdec1f0a9168a6dc7a595704cc805", func := "cooperage/cooperagelaw04.SectorApart", spec := "sectorApart", inPlace := ["internal/abi.NoEscape", "internal/bytealg.MakeNoZero"], apart := false, narrowed := true }
def SectorApartUptoSaid : Prop := sectorApartUptoRow.holds Try.pinned (OpenSpec.upto sectorApartSpec)

/-- 'cooperagelaw04.SectorFuel', WHERE WHAT IT READS IS OF BULK AT MOST 1048576: true; the input reads as it did. -/
def sectorFuelUptoRow : OpenClaim := { program := "ytjgihpabbogpjaa", sum := "b65b11a8581b1c9f4103dc4d88359ddf2bacdec1f0a9168a6dc7a595704cc805", func := "cooperage/cooperagelaw04.SectorFuel", spec := "sectorFuel", inPlace := ["internal/abi.NoEscape", "internal/bytealg.MakeNoZero"], apart := false, narrowed := true }
def SectorFuelUptoSaid : Prop := sectorFuelUptoRow.holds Try.pinned (OpenSpec.upto sectorFuelSpec)

/-- 'cooperagelaw04.SectorSure', WHERE WHAT IT READS IS OF BULK AT MOST 1048576: true; the input reads as it did. -/
def sectorSureUptoRow : OpenClaim := { program := "ytjgihpabbogpjaa", sum := "b65b11a8581b1c9f4103dc4d88359ddf2bacdec1f0a9168a6dc7a595704cc805", func := "cooperage/cooperagelaw04.SectorSure", spec := "sectorSure", inPlace := ["internal/abi.NoEscape", "internal/bytealg.MakeNoZero"], apart := false, narrowed := true }
def SectorSureUptoSaid : Prop := sectorSureUptoRow.holds Try.pinned (OpenSpec.upto sectorSureSpec)

/-- 'cooperagelaw04.SectorRuns', WHERE WHAT IT READS IS OF BULK AT MOST 1048576: true; the input reads as it did. -/
def sectorRunsUptoRow : OpenClaim := { program := "ytjgihpabbogpjaa", sum := "b65b11a8581b1c9f4103dc4d88359ddf2bacdec1f0a9168a6dc7a595704cc805", func := "cooperage/cooperagelaw04.SectorRuns", spec := "sectorRuns", inPlace := ["internal/abi.NoEscape", "internal/bytealg.MakeNoZero"], apart := false, narrowed := true }
def SectorRunsUptoSaid : Prop := sectorRunsUptoRow.holds Try.pinned (OpenSpec.upto sectorRunsSpec)

end Rows
end Go.Proofs.Ytjgihpabbogpjaa
