/- PackReads: the walk over what the arguments read as. -/
import Derived.Test.YtoblhikablbapaaDoorPackReads
import Derived.Test.YtoblhikablbapaaDoorRead
namespace Go.Proofs.YtoblhikablbapaaDoor
open Go.RowKit
theorem PackReads_w (v0 v1 : Value) (w : World) (g0 : Reads w 9 v0) (g1 : Reads w 9 v1) : Calls Tryd.prog 4 #[v0, v1] w fun e w' => e = .returned (.bool true) ∧ Below w.heap.size w w' := by
  obtain ⟨s, rfl, -⟩ := reads_string Tryd.underlying9 g0
  obtain ⟨S, rfl, -⟩ := reads_string Tryd.underlying9 g1
  exact packReads_walk s S w
end Go.Proofs.YtoblhikablbapaaDoor
