/- A row of bytes that the call made (out of a string, or by append): one byte more. -/
import Derived.Test.YtjgihpabbogpjaaBase
import Derived.Test.YtjgihpabbogpjaaProg
import Derived.Deep.AppendSrc
import Derived.Laws.AppendOwn
import Derived.WalkSpells
namespace Go.Proofs.Ytjgihpabbogpjaa
set_option linter.unusedVariables false
open Go.RowKit
def BRow (B : Nat) (v : Value) (l : List UInt8) (w : World) : Prop :=
  ∃ g cap cs fr, v = .slice (some ⟨g, 0, none⟩) l.length cap ∧ B ≤ g ∧ w.heap[g]? = some (.cells cs 5 fr) ∧ cs.size = cap ∧ l.length ≤ cap ∧ (∀ i, i < cap → w.frozen? ⟨g, i, none⟩ = false) ∧ ∀ i (h : i < l.length), cs[i]? = some (.int .u8 l[i].toNat)
theorem infoB : (Try.prog.info? 5).map (fun i => (i.zero, i.size, i.bytes)) = some (some (.int .u8 0), 1, 1) := by kernel_rfl
theorem brow_drew {B : Nat} {v : Value} {l : List UInt8} {w : World} (h : BRow B v l w) : BRow B v l w.drew := h
theorem brow_alloc {B : Nat} {v : Value} {l : List UInt8} {w : World} (h : BRow B v l w) (o : Obj) : BRow B v l (w.alloc o) := by
  obtain ⟨g, cap, cs, fr, rfl, h1, h2, h3, h4, h5, h6⟩ := h
  refine ⟨g, cap, cs, fr, rfl, h1, (heap_alloc_lt o (lt_of_heap h2)).trans h2, h3, h4, fun i hi => ?_, h6⟩
  have := h5 i hi
  simp only [World.frozen?, heap_alloc_lt o (lt_of_heap h2)] at this ⊢
  exact this
theorem brow_append {B : Nat} {v : Value} {l : List UInt8} {w : World} (h : BRow B v l w) (hB : B ≤ w.heap.size) (hl : l.length ≤ 1000000) (p : Nat) (c : UInt8) (hc : w.cell? ⟨p, 0, none⟩ = some (.int .u8 c.toNat)) :
    ∃ v' w', (Builtin.append_ #[22, 22] 22 #[v, .slice (some ⟨p, 0, none⟩) 1 1]).run Try.prog w = .ok v' w' ∧ BRow B v' (l ++ [c]) w' ∧ Below B w w' := by
  obtain ⟨g, cap, cs, fr, rfl, h1, h2, h3, h4, h5, h6⟩ := h
  obtain ⟨j0, hj, hz0, hz1, hz2⟩ := info_parts infoB
  have hnews : ∀ (W : World), W.cell? ⟨p, 0, none⟩ = some (.int .u8 c.toNat) → ∀ j u, [Value.int .u8 (c.toNat : Int)][j]? = some u → W.cell? ((⟨p, 0, none⟩ : Addr).add j) = some u := by
    intro W hW j u hu
    have hj0 : j = 0 := by have := (List.getElem?_eq_some_iff.1 hu).1; simp at this; exact this
    subst hj0
    simp at hu
    rw [← hu]; exact hW
  have hsrc : Src Try.prog j0.size 22 (.slice (some ⟨p, 0, none⟩) 1 1) 1 [.int .u8 c.toNat] w :=
    Src.ofSlice w Try.underlying22 _ 1 1 _ (by rw [hz1]; rfl) (hnews w hc) (by intro u hu; simp at hu; subst hu; rfl)
  by_cases hr : l.length + 1 ≤ cap
  · have hlt : l.length < cs.size := by omega
    have hrun := run_append_room_src (P := Try.prog) w 22 22 22 5 j0 Try.underlying22 hj g 0 l.length cap _ 1 _ hsrc hr
      (fun j hj => by
        have : j = 0 := by simp at hj; exact hj
        subst this
        rw [cell_lit (v := cs[l.length]) h2 (by rw [hz1]; simp [hlt])]; rfl)
      (fun j hj => by
        have : j = 0 := by simp at hj; exact hj
        subst this
        rw [hz1]; simpa using h5 l.length (by omega))
    refine ⟨_, _, hrun, ?_, ?_⟩
    · have e : w.setCells g (0 + l.length * j0.size) [.int .u8 c.toNat] = w.setCell ⟨g, l.length, none⟩ (.int .u8 c.toNat) := by rw [hz1]; simp [World.setCells]
      rw [e]
      refine ⟨g, cap, _, fr, by simp, h1, heap_set_lit h2 _, by simp [h3], by simp; exact hr, fun i hi => ?_, fun i hi => ?_⟩
      · have := h5 i hi
        simp only [World.frozen?, h2, heap_set_lit h2] at this ⊢
        exact this
      · by_cases hi2 : i < l.length
        · rw [List.getElem_append_left hi2, Array.getElem?_setIfInBounds_ne (by omega)]
          exact h6 i hi2
        · have : i = l.length := by simp at hi; omega
          subst this
          simp [hlt]
    · have e : w.setCells g (0 + l.length * j0.size) [.int .u8 c.toNat] = w.setCell ⟨g, l.length, none⟩ (.int .u8 c.toNat) := by rw [hz1]; simp [World.setCells]
      rw [e]
      exact (Below.refl _ _).setCell h1 _
  · have hfirst : (Builtin.firstCells j0.size l.length (.slice (some ⟨g, 0, none⟩) l.length cap)).run Try.prog w.drew = .ok (l.map fun c => Value.int .u8 (c.toNat : Int)).toArray w.drew := by
      rw [hz1]
      refine run_firstCells_some w.drew 1 l.length _ l.length cap _ (by simp) ?_
      intro j u hu
      have hjl : j < l.length := by have := (List.getElem?_eq_some_iff.1 hu).1; simpa using this
      have e2 : ((⟨g, 0, none⟩ : Addr).add j) = ⟨g, j, none⟩ := by unfold Addr.add; split <;> simp_all
      rw [e2, World.cell?_drew, cell_lit h2 (h6 j hjl)]
      simpa [hjl] using hu
    have hrun := run_append_grow_src (P := Try.prog) w 22 22 22 5 j0 (.int .u8 0) Try.underlying22 hj hz0 (some ⟨g, 0, none⟩) l.length cap _ hfirst _ 1 _ hsrc (by omega) (by omega)
      (growslice_fits (by omega) (by rw [hz2]; omega))
    have hge := grownCap_ge w (l.length + 1) cap 5
    refine ⟨_, _, hrun, ⟨w.heap.size, grownCap w (l.length + 1) cap 5, _, (0, 0), by simp, hB, heap_alloc_new w.drew _, ?_, by simp; exact hge, fun i _ => frozen_lit (heap_alloc_new w.drew _) i, fun i hi => ?_⟩, ((Below.refl _ _).drew).alloc hB _⟩
    · simp [Builtin.zeroCells, Value.cells]; omega
    · have hi' : i < l.length + 1 := by simpa using hi
      rw [Array.getElem?_append_left (by simp; exact hi')]
      simp only [List.getElem?_toArray]
      by_cases hi2 : i < l.length
      · rw [List.getElem?_append_left (by simpa using hi2), List.getElem_append_left hi2]
        simp [hi2]
      · have : i = l.length := by omega
        subst this
        rw [List.getElem?_append_right (by simp)]
        simp
end Go.Proofs.Ytjgihpabbogpjaa
