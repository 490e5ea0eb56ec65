/- SectorRuns: the acts, read. -/
import Derived.Test.YtjgihpabbogpjaaApart
import Derived.Test.YtjgihpabbogpjaaReadC
namespace Go.Proofs.Ytjgihpabbogpjaa
set_option linter.unusedVariables false
set_option maxRecDepth 100000
open Go.RowKit
def ActAt (w : World) (g off : Nat) : Prop :=
  ∃ wh ix s va keep vc, w.cell? ⟨g, off, none⟩ = some (.int .i64 wh) ∧ w.cell? ⟨g, off + 1, none⟩ = some (.int .i64 ix) ∧ w.cell? ⟨g, off + 2, none⟩ = some (.string s) ∧ w.cell? ⟨g, off + 3, none⟩ = some (.slice va (keep : List Bool).length vc) ∧
    BoolsAt w (.slice va keep.length vc) keep ∧ keep.length ≤ 9223372036854775807 ∧ -9223372036854775808 ≤ ix ∧ ix ≤ 9223372036854775807
def ActsAt (w : World) (v : Value) (n : Nat) : Prop :=
  ∃ a cap, v = .slice a n cap ∧ n ≤ 9223372036854775807 ∧ ∀ k, k < n → ∃ g off, a = some ⟨g, off, none⟩ ∧ g < w.heap.size ∧ ActAt w g (off + k * 4)
theorem readsC_bools {w : World} {cs : List Value} (h : ReadsC w 23 cs) : ∃ va keep vc, cs = [.slice va (keep : List Bool).length vc] ∧ BoolsAt w (.slice va keep.length vc) keep ∧ keep.length ≤ 9223372036854775807 := by
  have c1 : Try.prog.cellsOf 4 = 1 := by kernel_rfl
  obtain ⟨a, len, cap, rfl, h1, h2, h3⟩ := readsC_slice Try.underlying23 (by rw [c1]; decide) h
  obtain ⟨l, hl, hp⟩ := choose_list (p := fun k (x : Bool) => ∃ b off, a = some ⟨b, off, none⟩ ∧ w.cell? ⟨b, off + k, none⟩ = some (.bool x) ∧ b < w.heap.size) (n := len) (fun k hk => by
    obtain ⟨b, off, es, e, q1, q2, q3, q4⟩ := h3 k hk
    obtain ⟨x, rfl⟩ := readsC_bool Try.underlying4 q4
    refine ⟨x, b, off, e, ?_, q2⟩
    have := q3 0 (by simp)
    rw [c1] at this
    simpa using this)
  subst hl
  refine ⟨a, l, cap, rfl, ⟨a, cap, rfl, hp⟩, ?_⟩
  unfold maxLen at h2; omega
theorem reads_acts {w : World} {v : Value} (h : Reads w 43 v) : ∃ n, ActsAt w v n := by
  have c4 : Try.prog.cellsOf 48 = 4 := by kernel_rfl
  obtain ⟨a, len, cap, rfl, h1, h2, h3⟩ := reads_slice Try.underlying43 (by rw [c4]; decide) h
  refine ⟨len, a, cap, rfl, by unfold maxLen at h2; omega, fun k hk => ?_⟩
  have ci : Try.prog.cellsOf 3 = 1 := by kernel_rfl
  have cs : Try.prog.cellsOf 9 = 1 := by kernel_rfl
  have cb : Try.prog.cellsOf 23 = 1 := by kernel_rfl
  obtain ⟨b, off, es, e, q1, q2, q3, q4⟩ := h3 k hk
  rw [c4] at q1 q3
  obtain ⟨-, hf⟩ := readsC_struct Try.underlying48 q4
  obtain ⟨x0, x1, x2, x3, rfl⟩ : ∃ x0 x1 x2 x3, es = [x0, x1, x2, x3] := by
    match es, q1 with
    | [x0, x1, x2, x3], _ => exact ⟨x0, x1, x2, x3, rfl⟩
  have f0 : ReadsC w 3 (([x0, x1, x2, x3].drop 0).take (Try.prog.cellsOf 3)) := hf 0 _ rfl
  have f1 : ReadsC w 3 (([x0, x1, x2, x3].drop 1).take (Try.prog.cellsOf 3)) := hf 1 _ rfl
  have f2 : ReadsC w 9 (([x0, x1, x2, x3].drop 2).take (Try.prog.cellsOf 9)) := hf 2 _ rfl
  have f3 : ReadsC w 23 (([x0, x1, x2, x3].drop 3).take (Try.prog.cellsOf 23)) := hf 3 _ rfl
  rw [ci] at f0 f1
  rw [cs] at f2
  rw [cb] at f3
  obtain ⟨wh, e0, -⟩ := readsC_int Try.underlying3 f0
  obtain ⟨ix, e1, hix⟩ := readsC_int Try.underlying3 f1
  obtain ⟨s, e2, -⟩ := readsC_string Try.underlying9 f2
  obtain ⟨va, keep, vc, e3, hv, hk⟩ := readsC_bools f3
  simp at e0 e1 e2 e3
  subst e0 e1 e2 e3
  have g0 := q3 0 (by simp)
  have g1 := q3 1 (by simp)
  have g2 := q3 2 (by simp)
  have g3 := q3 3 (by simp)
  have hb := bounds_i64 hix
  exact ⟨b, off, e, q2, wh, ix, s, va, keep, vc, by simpa using g0, by simpa using g1, by simpa using g2, by simpa using g3, hv, hk, by omega, by omega⟩
theorem ActAt.below {w w' : World} {g off : Nat} (h : ActAt w g off) (hg : g < w.heap.size) (hb : Below w.heap.size w w') : ActAt w' g off := by
  obtain ⟨wh, ix, s, va, keep, vc, h0, h1, h2, h3, hv, r⟩ := h
  exact ⟨wh, ix, s, va, keep, vc, (hb.cell (p := ⟨g, off, none⟩) hg).trans h0, (hb.cell (p := ⟨g, off + 1, none⟩) hg).trans h1, (hb.cell (p := ⟨g, off + 2, none⟩) hg).trans h2, (hb.cell (p := ⟨g, off + 3, none⟩) hg).trans h3, boolsAt_upd hv (hb.upd' (Nat.le_refl _)) (fun _ _ _ _ e => e), r⟩
end Go.Proofs.Ytjgihpabbogpjaa
