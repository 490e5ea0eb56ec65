/- What the reading of an argument gives: shapes in a world. -/
import Derived.Test.YtoblhikablbapaaDoorRows
import Derived.Test.YtoblhikablbapaaDoorBase
import Derived.ProofKit
import Derived.OpenShut
import Derived.ChangeOld
import Derived.Below
import Derived.Deep.Slices
namespace Go.Proofs.YtoblhikablbapaaDoor
set_option maxRecDepth 100000
open Go.RowKit

theorem ownK : ownKnob Tryd.prog.godebug = none := by kernel_rfl
theorem laidOut : laidOutB Tryd.prog = true := by kernel_rfl
/-- The value v of type T can be read in the world w. -/
def Reads (w : World) (T : TypeId) (v : Value) : Prop :=
  ∃ (H : Type) (enc : TypeId × Value → H) (d : DataW H) (p : List MemPlace) (base : Nat), Value.okWide Tryd.prog w .any base T v ∧ DataW.Trod enc Tryd.prog w 0 (fun _ => true) true T v d p
theorem reads_int {w : World} {T : TypeId} {k : IntKind} {v : Value} (ht : Tryd.prog.underlying T = some (.int k)) (h : Reads w T v) : ∃ n, v = .int k n ∧ (Lit.int k n).wf = true := by
  obtain ⟨H, enc, d, p, base, h1, h2⟩ := h
  obtain ⟨n, rfl, _, _, hw⟩ := ChangeShapes.open_int ht h1 h2
  exact ⟨n, rfl, hw⟩
theorem reads_bool {w : World} {T : TypeId} {v : Value} (ht : Tryd.prog.underlying T = some .bool) (h : Reads w T v) : ∃ n, v = .bool n := by
  obtain ⟨H, enc, d, p, base, h1, h2⟩ := h
  obtain ⟨n, rfl, _, _⟩ := RowKit.open_bool ht h1 h2
  exact ⟨n, rfl⟩
theorem reads_string {w : World} {T : TypeId} {v : Value} (ht : Tryd.prog.underlying T = some .string) (h : Reads w T v) : ∃ s, v = .string s ∧ s.size ≤ maxLen := by
  obtain ⟨H, enc, d, p, base, h1, h2⟩ := h
  obtain ⟨n, rfl, _, _, hs⟩ := ChangeMaps.open_string ht h1 h2
  exact ⟨n, rfl, hs⟩
/-- A slice of cells of one cell each. -/
def SliceAt (w : World) (v : Value) (l : List Value) : Prop :=
  ∃ a cap, v = .slice a l.length cap ∧ l.length ≤ cap ∧ cap ≤ maxLen ∧ ∀ k, (h : k < l.length) → ∃ b off, a = some ⟨b, off, none⟩ ∧ w.cell? ⟨b, off + k, none⟩ = some l[k] ∧ b < w.heap.size
theorem addr_add {w : World} {a : Addr} {i : Nat} {u : Value} (h : w.cell? (a.add i) = some u) : a.add i = ⟨a.block, a.off + i, none⟩ ∧ a.block < w.heap.size := by
  have h1 := World.cell?_spot h
  have h2 := World.block_lt_of_cell? w _ h
  unfold Addr.add at h1 h2 ⊢
  split at h1
  · rename_i h0
    subst h0
    simp only [if_true] at h2 ⊢
    obtain ⟨b, o, s⟩ := a
    simp only at h1 h2 ⊢
    subst h1
    exact ⟨rfl, h2⟩
  · rename_i h0
    simp only [h0, if_false] at h2 ⊢
    exact ⟨trivial, h2⟩
theorem choose_list {α : Type} {n : Nat} {p : Nat → α → Prop} (h : ∀ i, i < n → ∃ x, p i x) : ∃ l : List α, l.length = n ∧ ∀ i, (hi : i < l.length) → p i l[i] := by
  induction n with
  | zero => exact ⟨[], rfl, fun i hi => absurd hi (by simp)⟩
  | succ n ih =>
    obtain ⟨l, hl, hp⟩ := ih (fun i hi => h i (by omega))
    obtain ⟨x, hx⟩ := h n (by omega)
    refine ⟨l ++ [x], by simp [hl], fun i hi => ?_⟩
    by_cases e : i < l.length
    · rw [List.getElem_append_left e]; exact hp i e
    · have : i = n := by simp at hi; omega
      subst this
      rw [List.getElem_append_right (by omega)]
      simpa [hl] using hx
/-- The value x, xs one cell of type e, can be read in the world w. -/
def Reads1 (w : World) (e : TypeId) (x : Value) : Prop := ∃ (H : Type) (enc : TypeId × Value → H) (m : Nat) (y : DataW H × List MemPlace), DataW.trod enc Tryd.prog w 0 (fun _ => true) true m e [x] = some y
/-- A slice whose elements are of one cell. -/
theorem reads_slice1 {w : World} {T e : TypeId} {v : Value} (ht : Tryd.prog.underlying T = some (.slice e)) (hc : Tryd.prog.cellsOf e = 1) (h : Reads w T v) : ∃ l, SliceAt w v l ∧ ∀ x ∈ l, Reads1 w e x := by
  obtain ⟨H, enc, d, p, base, h1, h2⟩ := h
  obtain ⟨a, len, cap, rfl⟩ := WideShapes.okWide_slice ht h1
  obtain ⟨fuel, hf⟩ := h2
  rcases Deep.open_slice1 ht hc hf with ⟨hcs, _⟩ | ⟨x, l, c, m, n, V, D, Pl, hcs, _, hl, hm, hmm, _, hel⟩
  · simp [Value.cells] at hcs
    obtain ⟨rfl, rfl, rfl⟩ := hcs
    exact ⟨[], ⟨none, 0, rfl, Nat.zero_le _, Nat.zero_le _, fun i hi => absurd hi (by simp)⟩, by simp⟩
  · simp [Value.cells] at hcs
    obtain ⟨rfl, rfl, rfl⟩ := hcs
    simp only [if_true] at hmm
    subst hmm
    have hlen : ((List.range len).map V).length = len := by simp
    refine ⟨(List.range len).map V, ⟨_, _, by rw [hlen], by rw [hlen]; exact hl, hm, fun k hk => ?_⟩, ?_⟩
    · rw [hlen] at hk
      obtain ⟨g1, _⟩ := hel k (by omega)
      obtain ⟨g2, g3⟩ := addr_add g1
      have e0 : x.spot = none ∨ k ≠ 0 := by
        by_cases hk0 : k = 0
        · subst hk0
          have := World.cell?_spot g1
          exact .inl (by simpa [Addr.add] using this)
        · exact .inr hk0
      obtain ⟨g4, _⟩ := hel 0 (by omega)
      have hs := World.cell?_spot g4
      have hs : x.spot = none := by simpa [Addr.add] using hs
      obtain ⟨b, o, sp⟩ := x
      simp only at hs
      subst hs
      rw [g2] at g1
      exact ⟨b, o, rfl, by simpa using g1, g3⟩
    · intro u hu
      obtain ⟨k, hk, rfl⟩ := List.mem_map.1 hu
      obtain ⟨_, g2⟩ := hel k (by have := List.mem_range.1 hk; omega)
      exact ⟨H, enc, n, _, g2⟩
theorem reads1_bool {w : World} {e : TypeId} {x : Value} (ht : Tryd.prog.underlying e = some .bool) (h : Reads1 w e x) : ∃ b, x = .bool b := by
  obtain ⟨H, enc, m, y, h⟩ := h
  obtain ⟨b, hb, _⟩ := DataW.trod_bool ht h
  exact ⟨b, by simpa using hb⟩
theorem reads1_int {w : World} {e : TypeId} {k : IntKind} {x : Value} (ht : Tryd.prog.underlying e = some (.int k)) (h : Reads1 w e x) : ∃ n, x = .int k n ∧ (Lit.int k n).wf = true := by
  obtain ⟨H, enc, m, y, h⟩ := h
  obtain ⟨b, hb, _, hw⟩ := DataW.trod_int ht h
  exact ⟨b, by simpa using hb, hw⟩
theorem reads1_string {w : World} {e : TypeId} {x : Value} (ht : Tryd.prog.underlying e = some .string) (h : Reads1 w e x) : ∃ s, x = .string s ∧ s.size ≤ maxLen := by
  obtain ⟨H, enc, m, y, h⟩ := h
  obtain ⟨b, hb, _, hw⟩ := DataW.trod_string ht h
  exact ⟨b, by simpa using hb, hw⟩
theorem list_of {α : Type} {f : α → Value} {q : α → Prop} : ∀ {l : List Value}, (∀ x ∈ l, ∃ a, x = f a ∧ q a) → ∃ xs : List α, l = xs.map f ∧ ∀ a ∈ xs, q a
  | [], _ => ⟨[], rfl, by simp⟩
  | x :: l, h => by
    obtain ⟨a, rfl, ha⟩ := h x (List.mem_cons_self ..)
    obtain ⟨xs, rfl, hxs⟩ := list_of (l := l) (fun y hy => h y (List.mem_cons_of_mem _ hy))
    exact ⟨a :: xs, rfl, by intro b hb; rcases List.mem_cons.1 hb with rfl | hb; exact ha; exact hxs b hb⟩
theorem reads_bools {w : World} {T e : TypeId} {v : Value} (ht : Tryd.prog.underlying T = some (.slice e)) (hc : Tryd.prog.cellsOf e = 1) (he : Tryd.prog.underlying e = some .bool) (h : Reads w T v) : ∃ l : List Bool, SliceAt w v (l.map Value.bool) := by
  obtain ⟨l, h1, h2⟩ := reads_slice1 ht hc h
  obtain ⟨xs, rfl, _⟩ := list_of (f := Value.bool) (q := fun _ => True) (fun x hx => by obtain ⟨b, hb⟩ := reads1_bool he (h2 x hx); exact ⟨b, hb, trivial⟩)
  exact ⟨xs, h1⟩
theorem reads_ints {w : World} {T e : TypeId} {k : IntKind} {v : Value} (ht : Tryd.prog.underlying T = some (.slice e)) (hc : Tryd.prog.cellsOf e = 1) (he : Tryd.prog.underlying e = some (.int k)) (h : Reads w T v) :
    ∃ l : List Int, SliceAt w v (l.map (Value.int k)) ∧ ∀ n ∈ l, (Lit.int k n).wf = true := by
  obtain ⟨l, h1, h2⟩ := reads_slice1 ht hc h
  obtain ⟨xs, rfl, h3⟩ := list_of (f := Value.int k) (q := fun n => (Lit.int k n).wf = true) (fun x hx => reads1_int he (h2 x hx))
  exact ⟨xs, h1, h3⟩
theorem reads_strings {w : World} {T e : TypeId} {v : Value} (ht : Tryd.prog.underlying T = some (.slice e)) (hc : Tryd.prog.cellsOf e = 1) (he : Tryd.prog.underlying e = some .string) (h : Reads w T v) :
    ∃ l : List ByteArray, SliceAt w v (l.map Value.string) ∧ ∀ s ∈ l, s.size ≤ maxLen := by
  obtain ⟨l, h1, h2⟩ := reads_slice1 ht hc h
  obtain ⟨xs, rfl, h3⟩ := list_of (f := Value.string) (q := fun s => s.size ≤ maxLen) (fun x hx => reads1_string he (h2 x hx))
  exact ⟨xs, h1, h3⟩
end Go.Proofs.YtoblhikablbapaaDoor
