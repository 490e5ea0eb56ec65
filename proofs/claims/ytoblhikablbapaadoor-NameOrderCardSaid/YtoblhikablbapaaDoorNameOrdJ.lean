/- NameOrder: the cases joined. -/
import Derived.Test.YtoblhikablbapaaDoorNameOrd1
import Derived.Test.YtoblhikablbapaaDoorNameOrd2
import Derived.Test.YtoblhikablbapaaDoorNameOrd3
import Derived.Test.YtoblhikablbapaaDoorNameOrd4
import Derived.Test.YtoblhikablbapaaDoorNameOrd5
namespace Go.Proofs.YtoblhikablbapaaDoor
open Go.RowKit
theorem NameOrder_w (v0 v1 : Value) (w : World) (g0 : Reads w 46 v0) (g1 : Reads w 46 v1) : Calls Tryd.prog 8 #[v0, v1] w fun e w' => e = .returned (.bool true) ∧ Below w.heap.size w w' := by
  obtain ⟨s1, t1, n1, rfl, h1⟩ := reads_named g0
  obtain ⟨s2, t2, n2, rfl, h2⟩ := reads_named g1
  by_cases e1 : s1 = s2
  · subst e1
    by_cases e2 : t1 = t2
    · subst e2
      by_cases e3 : n1 = n2
      · subst e3; exact NameOrder_1 s1 t1 n1 w h1
      · by_cases hl : n2 < n1
        · exact NameOrder_2 s1 t1 n1 n2 w h1 h2 e3 hl
        · exact NameOrder_3 s1 t1 n1 n2 w h1 h2 e3 hl
    · exact NameOrder_4 s1 t1 t2 n1 n2 w h1 h2 e2
  · exact NameOrder_5 s1 t1 s2 t2 n1 n2 w h1 h2 e1
end Go.Proofs.YtoblhikablbapaaDoor
