/- Readers for arguments with depth: slices of structs, structs and arrays by value. -/
import Derived.Test.YtoblhikablbapaaDoorRead
namespace Go.Proofs.YtoblhikablbapaaDoor
set_option maxRecDepth 100000
open Go.RowKit
/-- These cells read as a value of type e in the world w. -/
def ReadsC (w : World) (e : TypeId) (cs : List Value) : Prop := ∃ (H : Type) (enc : TypeId × Value → H) (m : Nat) (y : DataW H × List MemPlace), DataW.trod enc Tryd.prog w 0 (fun _ => true) true m e cs = some y
theorem Reads.c {w : World} {T : TypeId} {v : Value} (h : Reads w T v) : ReadsC w T v.cells.toList := by
  obtain ⟨H, enc, d, p, base, h1, fuel, hf⟩ := h
  exact ⟨H, enc, fuel, _, hf⟩
theorem reads_struct {w : World} {T : TypeId} {v : Value} {fs : Array Field} (ht : Tryd.prog.underlying T = some (.struct fs)) (h : Reads w T v) : ∃ cs : Array Value, v = .agg cs ∧ cs.size = Tryd.prog.cellsOf T ∧ ReadsC w T cs.toList := by
  have hc := h.c
  obtain ⟨H, enc, d, p, base, h1, h2⟩ := h
  obtain ⟨cs, rfl, hs⟩ := WideShapes.okWide_struct ht h1
  exact ⟨cs, rfl, hs, hc⟩
theorem reads_array {w : World} {T e : TypeId} {v : Value} {n : Nat} (ht : Tryd.prog.underlying T = some (.array n e)) (h : Reads w T v) : ∃ cs : Array Value, v = .agg cs ∧ cs.size = Tryd.prog.cellsOf T ∧ ReadsC w T cs.toList := by
  have hc := h.c
  obtain ⟨H, enc, d, p, base, h1, h2⟩ := h
  simp only [Value.okWide, ht] at h1
  obtain ⟨cs, rfl, hs, _⟩ := h1
  exact ⟨cs, rfl, hs, hc⟩
theorem readsC_struct {w : World} {T : TypeId} {cs : List Value} {fs : Array Field} (ht : Tryd.prog.underlying T = some (.struct fs)) (h : ReadsC w T cs) :
    cs.length = Tryd.prog.cellsOf T ∧ ∀ (i : Nat) (f : Field), fs[i]? = some f → ReadsC w f.type ((cs.drop f.offset).take (Tryd.prog.cellsOf f.type)) := by
  obtain ⟨H, enc, m, y, h⟩ := h
  obtain ⟨xs, n, _, _, hl, hx, hf⟩ := DataW.trod_struct ht h
  refine ⟨hl, fun i f hi => ?_⟩
  have := hf i f hi
  have hlt : i < xs.length := by rw [hx]; exact (Array.getElem?_eq_some_iff.1 hi).1
  rw [List.getElem?_eq_getElem hlt] at this
  exact ⟨H, enc, n, _, this⟩
theorem readsC_array {w : World} {T e : TypeId} {cs : List Value} {n : Nat} (ht : Tryd.prog.underlying T = some (.array n e)) (h : ReadsC w T cs) :
    cs.length = Tryd.prog.cellsOf T ∧ ∀ i, i < n → ReadsC w e ((cs.drop (i * Tryd.prog.cellsOf e)).take (Tryd.prog.cellsOf e)) := by
  obtain ⟨H, enc, m, y, h⟩ := h
  obtain ⟨xs, n, _, _, hl, hx, hf⟩ := DataW.trod_array ht h
  refine ⟨hl, fun i hi => ?_⟩
  have := hf i hi
  rw [List.getElem?_eq_getElem (by omega)] at this
  exact ⟨H, enc, n, _, this⟩
theorem readsC_bool {w : World} {T : TypeId} {cs : List Value} (ht : Tryd.prog.underlying T = some .bool) (h : ReadsC w T cs) : ∃ b, cs = [.bool b] := by
  obtain ⟨H, enc, m, y, h⟩ := h
  obtain ⟨b, hb, _⟩ := DataW.trod_bool ht h
  exact ⟨b, hb⟩
theorem readsC_int {w : World} {T : TypeId} {k : IntKind} {cs : List Value} (ht : Tryd.prog.underlying T = some (.int k)) (h : ReadsC w T cs) : ∃ n, cs = [.int k n] ∧ (Lit.int k n).wf = true := by
  obtain ⟨H, enc, m, y, h⟩ := h
  obtain ⟨b, hb, _, hw⟩ := DataW.trod_int ht h
  exact ⟨b, hb, hw⟩
theorem readsC_string {w : World} {T : TypeId} {cs : List Value} (ht : Tryd.prog.underlying T = some .string) (h : ReadsC w T cs) : ∃ s, cs = [.string s] ∧ s.size ≤ maxLen := by
  obtain ⟨H, enc, m, y, h⟩ := h
  obtain ⟨b, hb, _, hw⟩ := DataW.trod_string ht h
  exact ⟨b, hb, hw⟩
/-- A slice: each element's cells stand one behind the other, and read. -/
theorem readsC_slice {w : World} {T e : TypeId} {cs : List Value} (ht : Tryd.prog.underlying T = some (.slice e)) (h0 : 0 < Tryd.prog.cellsOf e) (h : ReadsC w T cs) :
    ∃ a len cap, cs = [.slice a len cap] ∧ len ≤ cap ∧ cap ≤ maxLen ∧ ∀ k, k < len → ∃ b off es, a = some ⟨b, off, none⟩ ∧ es.length = Tryd.prog.cellsOf e ∧ b < w.heap.size ∧ (∀ j, j < es.length → w.cell? ⟨b, off + k * Tryd.prog.cellsOf e + j, none⟩ = es[j]?) ∧ ReadsC w e es := by
  obtain ⟨H, enc, m, y, h⟩ := h
  rcases Deep.open_slice ht h with ⟨rfl, _⟩ | ⟨x, l, c, m, n, D, Pl, rfl, _, hl, hm, hmm, _, hel⟩
  · exact ⟨none, 0, 0, rfl, Nat.le_refl _, Nat.zero_le _, fun k hk => by omega⟩
  · simp only [if_true] at hmm
    subst hmm
    have hget : ∀ k, k < l → ∃ es, es.length = Tryd.prog.cellsOf e ∧ (∀ j, j < es.length → w.cell? ((x.add (k * Tryd.prog.cellsOf e)).add j) = es[j]?) ∧ ReadsC w e es := by
      intro k hk
      obtain ⟨es, g1, g2⟩ := hel k (by omega)
      obtain ⟨_, q1, q2⟩ := World.cells?_some g1
      exact ⟨es, q1, fun j hj => q2 j (by omega), ⟨H, enc, n, _, g2⟩⟩
    refine ⟨some x, l, _, rfl, hl, hm, fun k hk => ?_⟩
    have hs : x.spot = none := by
      obtain ⟨es, q1, q2, _⟩ := hget 0 (by omega)
      have := q2 0 (by omega)
      rw [List.getElem?_eq_getElem (by omega)] at this
      have := World.cell?_spot this
      simpa [Addr.add] using this
    obtain ⟨es, q1, q2, q3⟩ := hget k hk
    obtain ⟨b, o, sp⟩ := x
    simp only at hs
    subst hs
    have e1 : ∀ j, ((⟨b, o, none⟩ : Addr).add (k * Tryd.prog.cellsOf e)).add j = ⟨b, o + k * Tryd.prog.cellsOf e + j, none⟩ := by
      intro j
      unfold Addr.add
      by_cases h1 : k * Tryd.prog.cellsOf e = 0 <;> by_cases h2 : j = 0 <;> simp [h1, h2]
    refine ⟨b, o, es, rfl, q1, ?_, fun j hj => by rw [← e1]; exact q2 j hj, q3⟩
    have := q2 0 (by omega)
    rw [List.getElem?_eq_getElem (by omega), e1] at this
    exact World.block_lt_of_cell? w _ this
theorem reads_slice {w : World} {T e : TypeId} {v : Value} (ht : Tryd.prog.underlying T = some (.slice e)) (h0 : 0 < Tryd.prog.cellsOf e) (h : Reads w T v) :
    ∃ a len cap, v = .slice a len cap ∧ len ≤ cap ∧ cap ≤ maxLen ∧ ∀ k, k < len → ∃ b off es, a = some ⟨b, off, none⟩ ∧ es.length = Tryd.prog.cellsOf e ∧ b < w.heap.size ∧ (∀ j, j < es.length → w.cell? ⟨b, off + k * Tryd.prog.cellsOf e + j, none⟩ = es[j]?) ∧ ReadsC w e es := by
  have hc := h.c
  obtain ⟨H, enc, d, p, base, h1, h2⟩ := h
  obtain ⟨a, len, cap, rfl⟩ := WideShapes.okWide_slice ht h1
  obtain ⟨a', len', cap', e1, r⟩ := readsC_slice ht h0 hc
  simp [Value.cells] at e1
  obtain ⟨rfl, rfl, rfl⟩ := e1
  exact ⟨_, _, _, rfl, r⟩
end Go.Proofs.YtoblhikablbapaaDoor
