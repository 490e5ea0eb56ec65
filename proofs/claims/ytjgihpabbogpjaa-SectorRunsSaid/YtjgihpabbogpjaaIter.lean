/- Ranging over a map that is not written meanwhile. No program. -/
import Derived.Test.YtjgihpabbogpjaaBase
import Derived.Maps.RangeRun
namespace Go.Proofs.Ytjgihpabbogpjaa
open Go.RowKit Go.MapKept
section
variable {κ α : Type} [DecidableEq κ] {K : KEnc κ} {V : α → Value} {w : World} {r it : Nat} {m left : List (κ × α)}

def leftPairs (es : List MapEntry) (m0 : List (κ × α)) (seen : Array Nat) : List (κ × α) := ((es.zip m0).filter (fun z => !seen.contains z.1.born)).map Prod.snd
/-- Block it ranges over the map of block r; the pairs of 'left' are still to come. -/
def IterIs (K : KEnc κ) (V : α → Value) (w : World) (it r : Nat) (m left : List (κ × α)) : Prop :=
  ∃ (es : Array MapEntry) (clock : Nat) (m0 : List (κ × α)) (seen : Array Nat), w.heap[r]? = some (.map es clock) ∧ Stamped es clock ∧ es.toList.map (fun e => (e.key, e.val)) = m0.map (fun p => (K.enc p.1, V p.2)) ∧ m0.Perm m ∧
    w.heap[it]? = some (.mapIter (some r) clock seen clock) ∧ (leftPairs es.toList m0 seen).Perm left

omit [DecidableEq κ] in
theorem ents_len {es : List MapEntry} {m0 : List (κ × α)} (he : es.map (fun e => (e.key, e.val)) = m0.map (fun p => (K.enc p.1, V p.2))) : es.length = m0.length := by
  have := congrArg List.length he; simpa using this
theorem perm_cons_filter {β : Type} (f : β → Nat) : ∀ (l : List β), (l.map f).Nodup → ∀ x ∈ l, l.Perm (x :: l.filter (fun y => f y != f x))
  | [], _, x, hx => by simp at hx
  | y :: l, hn, x, hx => by
    simp only [List.map_cons, List.nodup_cons] at hn
    have hall : ∀ z ∈ l, f z ≠ f y := fun z hz e => hn.1 (e ▸ List.mem_map.2 ⟨z, hz, rfl⟩)
    rcases List.mem_cons.1 hx with rfl | hx
    · rw [List.filter_cons_of_neg (by simp), List.filter_eq_self.2 (fun z hz => by simpa using hall z hz)]
    · rw [List.filter_cons_of_pos (by have := hall x hx; simpa using Ne.symm this)]
      exact ((perm_cons_filter f l hn.2 x hx).cons y).trans (List.Perm.swap x y _)
theorem filter_split {β : Type} (p q : β → Bool) (f : β → Nat) (l : List β) (hn : (l.map f).Nodup) (x : β) (hx : x ∈ l) (hp : p x = true) (hq : ∀ y, q y = (p y && (f y != f x))) : (l.filter p).Perm (x :: l.filter q) := by
  have h1 := perm_cons_filter f (l.filter p) (hn.sublist (List.Sublist.map _ List.filter_sublist)) x (List.mem_filter.2 ⟨hx, hp⟩)
  rw [List.filter_filter] at h1
  have e : (fun a => (f a != f x) && p a) = q := funext fun y => by rw [hq, Bool.and_comm]
  rw [e] at h1
  exact h1

omit [DecidableEq κ] in
theorem IterIs.start (h : MapIs K V w r m) {P : Program} {t kt et : TypeId} (ht : P.underlying t = some (.map kt et)) :
    ∃ w', (Instr.range t (.map (some r))).run P w = .ok (.pointer (some ⟨w.heap.size, 0, none⟩)) w' ∧ IterIs K V w' w.heap.size r m m ∧ Upd (fun _ => False) w w' ∧ w'.heap.size = w.heap.size + 1 := by
  obtain ⟨es, clock, m0, hb, hs, he, hm⟩ := h
  refine ⟨w.alloc (.mapIter (some r) clock #[] clock), run_range_map w t kt et r es clock ht hb, ⟨es, clock, m0, #[], (heap_alloc_lt _ (lt_of_heap hb)).trans hb, hs, he, hm, heap_alloc_new _ _, ?_⟩, (Upd.refl _ _).alloc _, by simp⟩
  have e : leftPairs es.toList m0 #[] = m0 := by
    unfold leftPairs
    rw [List.filter_eq_self.2 (by simp)]
    exact List.map_snd_zip (by have := ents_len he; omega)
  rw [e]; exact hm
omit [DecidableEq κ] in
theorem IterIs.lt (h : IterIs K V w it r m left) : it < w.heap.size ∧ r < w.heap.size ∧ it ≠ r := by
  obtain ⟨es, clock, m0, seen, hb, _, _, _, hi, _⟩ := h
  exact ⟨lt_of_heap hi, lt_of_heap hb, fun e => by subst e; rw [hb] at hi; cases hi⟩
omit [DecidableEq κ] in
theorem IterIs.upd (h : IterIs K V w it r m left) {S : Nat → Prop} {w' : World} (hu : Upd S w w') (h1 : ¬ S it) (h2 : ¬ S r) : IterIs K V w' it r m left := by
  obtain ⟨es, clock, m0, seen, hb, hs, he, hm, hi, hl⟩ := h
  exact ⟨es, clock, m0, seen, hu.at hb h2, hs, he, hm, hu.at hi h1, hl⟩
omit [DecidableEq κ] in
theorem IterIs.map (h : IterIs K V w it r m left) : MapIs K V w r m := by
  obtain ⟨es, clock, m0, seen, hb, hs, he, hm, hi, hl⟩ := h
  exact ⟨es, clock, m0, hb, hs, he, hm⟩
omit [DecidableEq κ] in
theorem mem_zip_of {es : List MapEntry} {m0 : List (κ × α)} (hl : es.length = m0.length) {e : MapEntry} (he : e ∈ es) : ∃ p, (e, p) ∈ es.zip m0 := by
  obtain ⟨j, hj, rfl⟩ := List.mem_iff_getElem.1 he
  exact ⟨m0[j]'(by omega), List.mem_iff_getElem.2 ⟨j, by simp; omega, by simp⟩⟩
omit [DecidableEq κ] in
theorem zip_get {es : List MapEntry} {m0 : List (κ × α)} (he : es.map (fun e => (e.key, e.val)) = m0.map (fun p => (K.enc p.1, V p.2))) {z : MapEntry × (κ × α)} (hz : z ∈ es.zip m0) : z.1.key = K.enc z.2.1 ∧ z.1.val = V z.2.2 := by
  obtain ⟨j, hj, rfl⟩ := List.mem_iff_getElem.1 hz
  simp only [List.length_zip] at hj
  have h1 : (es.map (fun e => (e.key, e.val)))[j]? = (m0.map (fun p => (K.enc p.1, V p.2)))[j]? := by rw [he]
  have g1 : es[j]? = some (es[j]'(by omega)) := List.getElem?_eq_getElem _
  have g2 : m0[j]? = some (m0[j]'(by omega)) := List.getElem?_eq_getElem _
  rw [List.getElem?_map, List.getElem?_map, g1, g2] at h1
  simpa using h1

omit [DecidableEq κ] in
theorem IterIs.next (h : IterIs K V w it r m left) {P : Program} (ty : TypeId) :
    (left = [] ∧ (Instr.next (.pointer (some ⟨it, 0, none⟩)) false ty).run P w = .ok (.tuple #[.bool false]) w) ∨
    ∃ k a left' w', (Instr.next (.pointer (some ⟨it, 0, none⟩)) false ty).run P w = .ok (.tuple #[.bool true, K.enc k, V a]) w' ∧ left.Perm ((k, a) :: left') ∧ IterIs K V w' it r m left' ∧ Upd (fun j => j = it) w w' ∧ w'.heap.size = w.heap.size ∧
      (Instr.entry (.pointer (some ⟨it, 0, none⟩))).run P w' = .ok (.tuple #[K.enc k, V a]) w' := by
  obtain ⟨es, clock, m0, seen, hb, hs, he, hm, hi, hl⟩ := h
  have hlen := ents_len he
  rcases run_next_at (P := P) w ty it r clock clock seen es clock hi hb hs.1 (Nat.le_refl _) with ⟨h0, hrun⟩ | ⟨e, hel, w1, hw1, hrun⟩
  · refine .inl ⟨?_, hrun⟩
    have hall := all_seen es seen h0
    have : leftPairs es.toList m0 seen = [] := by
      unfold leftPairs
      rw [List.map_eq_nil_iff, List.filter_eq_nil_iff]
      intro z hz
      have := hall z.1 (List.of_mem_zip hz).1
      simp at this ⊢; exact this
    rw [this] at hl
    exact hl.symm.eq_nil
  · obtain ⟨hmem, hns⟩ := mem_left hel
    obtain ⟨p, hz⟩ := mem_zip_of hlen hmem
    obtain ⟨ek, ev⟩ := zip_get he hz
    simp only at ek ev
    rw [ek, ev] at hrun
    have hir : it ≠ r := fun e => by subst e; rw [hb] at hi; cases hi
    have hw1h : w1.heap = w.heap := by rcases hw1 with rfl | rfl <;> rfl
    have hu : Upd (fun j => j = it) w (ChangeMaps.setBlock w1 it (.mapIter (some r) clock (seen.push e.born) clock)) := by
      refine ⟨?_, ?_, ?_, by simp [ChangeMaps.setBlock, hw1h], fun k _ hn => by simp [ChangeMaps.setBlock, hw1h, Ne.symm hn]⟩ <;> (rcases hw1 with rfl | rfl <;> rfl)
    have hit : (ChangeMaps.setBlock w1 it (.mapIter (some r) clock (seen.push e.born) clock)).heap[it]? = some (.mapIter (some r) clock (seen.push e.born) clock) := by
      simp [ChangeMaps.setBlock, hw1h, lt_of_heap hi]
    have hbr : (ChangeMaps.setBlock w1 it (.mapIter (some r) clock (seen.push e.born) clock)).heap[r]? = some (.map es clock) := hu.at hb (Ne.symm hir)
    have hsplit : ((es.toList.zip m0).filter (fun z => !seen.contains z.1.born)).Perm ((e, p) :: (es.toList.zip m0).filter (fun z => !(seen.push e.born).contains z.1.born)) := by
      refine filter_split _ _ (fun z => z.1.born) _ ?_ (e, p) hz (by simpa using hns) (fun y => ?_)
      · have : (es.toList.zip m0).map (fun z => z.1.born) = es.toList.map (·.born) := by
          rw [← List.map_fst_zip (l₁ := es.toList) (l₂ := m0) (by omega), List.map_map]
          simp [Function.comp_def, List.map_fst_zip (l₁ := es.toList) (l₂ := m0) (by omega)]
        rw [this]; exact hs.2.1
      · rw [contains_push]
        cases hc : seen.contains y.1.born <;> simp [bne, Bool.beq_comm]
    refine .inr ⟨p.1, p.2, leftPairs es.toList m0 (seen.push e.born), _, hrun, ?_, ⟨es, clock, m0, seen.push e.born, hbr, hs, he, hm, hit, .refl _⟩, hu, by simp [ChangeMaps.setBlock, hw1h], ?_⟩
    · have := hsplit.map Prod.snd
      exact hl.symm.trans this
    · have := run_entry_at (P := P) _ it r clock seen es clock e hit hbr hmem hs.2.1
      rw [ek, ev] at this
      exact this
end
end Go.Proofs.Ytjgihpabbogpjaa
