/- Readers: slices of fields; arrays of two strings. -/
import Derived.Test.YtoblhikablbapaaDoorReadC
import Derived.Test.YtoblhikablbapaaDoorPackC
namespace Go.Proofs.YtoblhikablbapaaDoor
set_option maxRecDepth 100000
open Go.RowKit
theorem reads_two {w : World} {v : Value} (h : Reads w 34 v) : ∃ s t, v = .agg #[.string s, .string t] ∧ s.size ≤ maxLen ∧ t.size ≤ maxLen := by
  obtain ⟨cs, rfl, hs, hc⟩ := reads_array Tryd.underlying34 h
  have hs : cs.size = 2 := hs.trans (by kernel_rfl)
  have c1 : Tryd.prog.cellsOf 9 = 1 := by kernel_rfl
  obtain ⟨_, hf⟩ := readsC_array Tryd.underlying34 hc
  rw [c1] at hf
  obtain ⟨l, rfl⟩ : ∃ l : List Value, cs = l.toArray := ⟨cs.toList, by simp⟩
  match l, hs with
  | [a, b], _ =>
    obtain ⟨s, e1, h1⟩ := readsC_string Tryd.underlying9 (hf 0 (by decide))
    obtain ⟨t, e2, h2⟩ := readsC_string Tryd.underlying9 (hf 1 (by decide))
    simp at e1 e2
    subst e1 e2
    exact ⟨s, t, rfl, h1, h2⟩
theorem readsC_fld {w : World} {es : List Value} (h : ReadsC w 60 es) : ∃ (n : Nat) (s : ByteArray), es = [.int .u64 n, .string s] ∧ n < 18446744073709551616 ∧ s.size ≤ maxLen := by
  obtain ⟨hl, hf⟩ := readsC_struct Tryd.underlying60 h
  have hl : es.length = 2 := hl.trans (by kernel_rfl)
  have c1 : Tryd.prog.cellsOf 9 = 1 := by kernel_rfl
  have c2 : Tryd.prog.cellsOf 36 = 1 := by kernel_rfl
  match es, hl with
  | [a, b], _ =>
    have f0 : ReadsC w 36 (([a, b].drop 0).take (Tryd.prog.cellsOf 36)) := hf 0 _ rfl
    have f1 : ReadsC w 9 (([a, b].drop 1).take (Tryd.prog.cellsOf 9)) := hf 1 _ rfl
    rw [c2] at f0
    rw [c1] at f1
    obtain ⟨n, e1, h1⟩ := readsC_int Tryd.underlying36 f0
    obtain ⟨t, e2, h2⟩ := readsC_string Tryd.underlying9 f1
    simp at e1 e2
    subst e1 e2
    have := bounds_u64 h1
    obtain ⟨k, rfl⟩ : ∃ k : Nat, n = k := ⟨n.toNat, by omega⟩
    exact ⟨k, t, rfl, by omega, h2⟩
theorem reads_flds {w : World} {v : Value} (h : Reads w 22 v) : ∃ l : List Fld, FldsAt w v l ∧ l.length ≤ maxLen ∧ ∀ p ∈ l, p.2.size ≤ maxLen := by
  have c2 : Tryd.prog.cellsOf 60 = 2 := by kernel_rfl
  obtain ⟨a, len, cap, rfl, hlc, hcm, hel⟩ := reads_slice Tryd.underlying22 (by rw [c2]; decide) h
  rw [c2] at hel
  obtain ⟨l, hl, hp⟩ := choose_list (n := len) (p := fun k (f : Fld) => (∃ b off, a = some ⟨b, off, none⟩ ∧ w.cell? ⟨b, off + k * 2, none⟩ = some (.int .u64 f.1) ∧ w.cell? ⟨b, off + k * 2 + 1, none⟩ = some (.string f.2) ∧ b < w.heap.size) ∧ f.1 < 18446744073709551616 ∧ f.2.size ≤ maxLen) (fun k hk => by
    obtain ⟨b, off, es, rfl, hes, hb, hc, hr⟩ := hel k hk
    obtain ⟨n, s, rfl, hn, hs⟩ := readsC_fld hr
    exact ⟨(n, s), ⟨b, off, rfl, hc 0 (by simp), hc 1 (by simp), hb⟩, hn, hs⟩)
  subst hl
  refine ⟨l, ⟨⟨a, cap, rfl, fun k hk => (hp k hk).1⟩, ?_⟩, Nat.le_trans hlc hcm, ?_⟩
  · intro p hp'
    obtain ⟨k, hk, rfl⟩ := List.mem_iff_getElem.1 hp'
    exact (hp k hk).2.1
  · intro p hp'
    obtain ⟨k, hk, rfl⟩ := List.mem_iff_getElem.1 hp'
    exact (hp k hk).2.2
end Go.Proofs.YtoblhikablbapaaDoor
