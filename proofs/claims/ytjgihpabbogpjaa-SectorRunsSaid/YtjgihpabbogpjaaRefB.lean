/- sector's reference: its disk in memory; step, firm, Flush: walks. -/
import Derived.Test.YtjgihpabbogpjaaRefA
namespace Go.Proofs.Ytjgihpabbogpjaa
set_option linter.unusedVariables false
set_option maxRecDepth 100000
set_option maxHeartbeats 4000000
open Go.RowKit
structure Rk where
  firm : List ByteArray
  loose : List (Int × ByteArray)
  fuel : Int
  off : Bool
def strsV (l : List ByteArray) : List Value := l.map Value.string
structure IsRd (w : World) (G : Nat → Prop) (rb : Nat) (R : Rk) (fv lv : Value) : Prop where
  cells : w.heap[rb]? = some (.cells #[fv, lv, .int .i64 R.fuel, .bool R.off] 64 (0, 0))
  firm : w.ownsRow 0 9 1 fv R.firm.length (strsV R.firm)
  loose : w.ownsRow 0 69 2 lv R.loose.length (wrs R.loose)
  own : ∀ k, G k ↔ k = rb ∨ fv.ownBlock = some k ∨ lv.ownBlock = some k
  fuel0 : -1 ≤ R.fuel
  fuel1 : R.fuel ≤ 9223372036854775807
def IsRdisk (w : World) (G : Nat → Prop) (rb : Nat) (R : Rk) : Prop := ∃ fv lv, IsRd w G rb R fv lv
theorem IsRd.c {w : World} {G : Nat → Prop} {rb : Nat} {R : Rk} {fv lv : Value} (h : IsRd w G rb R fv lv) :
    w.cell? ⟨rb, 0, none⟩ = some fv ∧ w.cell? ⟨rb, 1, none⟩ = some lv ∧ w.cell? ⟨rb, 2, none⟩ = some (.int .i64 R.fuel) ∧ w.cell? ⟨rb, 3, none⟩ = some (.bool R.off) :=
  ⟨cell_lit h.cells rfl, cell_lit h.cells rfl, cell_lit h.cells rfl, cell_lit h.cells rfl⟩
theorem IsRd.nf {w : World} {G : Nat → Prop} {rb : Nat} {R : Rk} {fv lv : Value} (h : IsRd w G rb R fv lv) : fv.ownBlock ≠ some rb := by
  intro e
  obtain ⟨cur, hc⟩ := ownsRow_cells h.firm e
  rw [h.cells] at hc; simp at hc
theorem IsRd.nl {w : World} {G : Nat → Prop} {rb : Nat} {R : Rk} {fv lv : Value} (h : IsRd w G rb R fv lv) : lv.ownBlock ≠ some rb := by
  intro e
  obtain ⟨cur, hc⟩ := ownsRow_cells h.loose e
  rw [h.cells] at hc; simp at hc
theorem IsRd.lt {w : World} {G : Nat → Prop} {rb : Nat} {R : Rk} {fv lv : Value} (h : IsRd w G rb R fv lv) : ∀ k, G k → k < w.heap.size := by
  intro k hk
  rcases (h.own k).1 hk with rfl | hk | hk
  · exact lt_of_heap h.cells
  · exact (h.firm.lt k hk).2
  · exact (h.loose.lt k hk).2
theorem IsRd.frame {w w' : World} {S G : Nat → Prop} {rb : Nat} {R : Rk} {fv lv : Value} (h : IsRd w G rb R fv lv) (hu : Upd S w w') (hn : ∀ k, G k → ¬ S k) : IsRd w' G rb R fv lv :=
  ⟨hu.at h.cells (hn rb ((h.own rb).2 (.inl rfl))), ownsRow_upd h.firm hu (fun k hk => hn k ((h.own k).2 (.inr (.inl hk)))), ownsRow_upd h.loose hu (fun k hk => hn k ((h.own k).2 (.inr (.inr hk)))), h.own, h.fuel0, h.fuel1⟩
def owned (rb : Nat) (fv lv : Value) (k : Nat) : Prop := k = rb ∨ fv.ownBlock = some k ∨ lv.ownBlock = some k
/-- Only the disk's own cells are others; its rows are the old ones, or new. -/
theorem IsRd.next {w w' : World} {G : Nat → Prop} {rb : Nat} {R R' : Rk} {fv lv fv' lv' : Value} (h : IsRd w G rb R fv lv) (hu : Upd (· = rb) w w')
    (hc : w'.heap[rb]? = some (.cells #[fv', lv', .int .i64 R'.fuel, .bool R'.off] 64 (0, 0)))
    (hf : w'.ownsRow 0 9 1 fv' R'.firm.length (strsV R'.firm)) (hl : w'.ownsRow 0 69 2 lv' R'.loose.length (wrs R'.loose))
    (nf : ∀ k, fv'.ownBlock = some k → fv.ownBlock = some k ∨ w.heap.size ≤ k) (nl : ∀ k, lv'.ownBlock = some k → lv.ownBlock = some k ∨ w.heap.size ≤ k)
    (f0 : -1 ≤ R'.fuel) (f1 : R'.fuel ≤ 9223372036854775807) : ∃ G', IsRdisk w' G' rb R' ∧ Turn G G' w w' := by
  refine ⟨owned rb fv' lv', ⟨fv', lv', hc, hf, hl, fun k => Iff.rfl, f0, f1⟩, hu.mono (fun k _ e => (h.own k).2 (.inl e)), ?_⟩
  rintro k (rfl | hk | hk)
  · exact .inl ((h.own _).2 (.inl rfl))
  · exact (nf k hk).imp (fun e => (h.own k).2 (.inr (.inl e))) id
  · exact (nl k hk).imp (fun e => (h.own k).2 (.inr (.inr e))) id
def rkStep (R : Rk) : Int × Rk := if R.fuel = 0 then (3, { R with off := true }) else (0, if 0 < R.fuel then { R with fuel := R.fuel - 1 } else R)
theorem Rstep_c (rb : Nat) (R : Rk) (G : Nat → Prop) (fv lv : Value) (w : World) (h : IsRd w G rb R fv lv) :
    Calls Try.prog 31 #[.pointer (some ⟨rb, 0, none⟩)] w fun e w' => e = .returned (.int .i64 (rkStep R).1) ∧ IsRd w' G rb (rkStep R).2 fv lv ∧ Upd (· = rb) w w' := by
  obtain ⟨-, -, c2, c3⟩ := h.c
  have f2 := frozen_lit h.cells 2
  have f3 := frozen_lit h.cells 3
  have h0 := h.fuel0
  have h1 := h.fuel1
  have H := Lib.hid h
  obtain ⟨firm, loose, fuel, off⟩ := R
  simp only at c2 c3 h0 h1
  clear h
  by_cases hz : fuel = 0
  · subst hz
    go_enter Try.func31, Try.ntmps31
    go_wp2_with fail
    go_ret
    have h := H.out
    have hu : Upd (· = rb) w (w.setCell ⟨rb, 3, none⟩ (.bool true)) := upd_setCell _ _ _ _
    refine ⟨rfl, ⟨heap_set_lit h.cells _, ownsRow_upd h.firm hu (fun k hk e => h.nf (by rw [hk, e])), ownsRow_upd h.loose hu (fun k hk e => h.nl (by rw [hk, e])), h.own, h.fuel0, h.fuel1⟩, hu⟩
  · have q1 : (fuel == 0) = false := by simpa using hz
    by_cases hp : 0 < fuel
    · go_enter Try.func31, Try.ntmps31
      go_wp2_with fail
      go_ret
      have h := H.out
      have hu : Upd (· = rb) w (w.setCell ⟨rb, 2, none⟩ (.int .i64 (fuel - 1))) := upd_setCell _ _ _ _
      have e : rkStep ⟨firm, loose, fuel, off⟩ = (0, ⟨firm, loose, fuel - 1, off⟩) := by simp [rkStep, hz, hp]
      rw [e]
      exact ⟨rfl, ⟨heap_set_lit h.cells _, ownsRow_upd h.firm hu (fun k hk e => h.nf (by rw [hk, e])), ownsRow_upd h.loose hu (fun k hk e => h.nl (by rw [hk, e])), h.own, by simp; omega, by simp; omega⟩, hu⟩
    · go_enter Try.func31, Try.ntmps31
      go_wp2_with fail
      go_ret
      have e : rkStep ⟨firm, loose, fuel, off⟩ = (0, ⟨firm, loose, fuel, off⟩) := by simp [rkStep, hz]; omega
      rw [e]
      exact ⟨rfl, H.out, Upd.refl _ _⟩
theorem infoS : (Try.prog.info? 9).map (fun i => (i.zero, i.size, i.bytes)) = some (some (.string ByteArray.empty), 1, 16) := by kernel_rfl
theorem infoRW : (Try.prog.info? 69).map (fun i => (i.zero, i.size, i.bytes)) = some (some (.agg #[.int .i64 0, .string ByteArray.empty]), 2, 24) := by kernel_rfl
/-- A slice of writes, as it reads in a world. -/
def WrsAt (w : World) (v : Value) (l : List (Int × ByteArray)) : Prop := ∃ a cap, v = .slice a l.length cap ∧ ∀ k, (h : k < l.length) → ∃ g, a = some ⟨g, 0, none⟩ ∧ w.cell? ⟨g, k * 2, none⟩ = some (.int .i64 l[k].1) ∧ w.cell? ⟨g, k * 2 + 1, none⟩ = some (.string l[k].2) ∧ g < w.heap.size
theorem WrsAt.below {w w' : World} {v : Value} {l : List (Int × ByteArray)} (h : WrsAt w v l) (hb : Below w.heap.size w w') : WrsAt w' v l := by
  obtain ⟨a, c, rfl, hc⟩ := h
  refine ⟨a, c, rfl, fun k hk => ?_⟩
  obtain ⟨g, e, h1, h2, h3⟩ := hc k hk
  exact ⟨g, e, (hb.cell (p := ⟨g, k * 2, none⟩) h3).trans h1, (hb.cell (p := ⟨g, k * 2 + 1, none⟩) h3).trans h2, Nat.lt_of_lt_of_le h3 hb.size⟩
theorem WrsAt.get {w : World} {a : Option Addr} {n cap : Nat} {l : List (Int × ByteArray)} (h : WrsAt w (.slice a n cap) l) (k : Nat) (hk : k < l.length) : ∃ g, a = some ⟨g, 0, none⟩ ∧ w.cell? ⟨g, k * 2, none⟩ = some (.int .i64 l[k].1) ∧ w.cell? ⟨g, k * 2 + 1, none⟩ = some (.string l[k].2) ∧ g < w.heap.size := by
  obtain ⟨a', c', e, hc⟩ := h
  cases e
  exact hc k hk
theorem wrsAt_of_own {w : World} {base : Nat} {v : Value} {l : List (Int × ByteArray)} (h : w.ownsRow base 69 2 v l.length (wrs l)) : WrsAt w v l := by
  rcases h.2 with ⟨rfl, h0⟩ | ⟨g, cap, cur, rfl, -⟩
  · exact ⟨none, 0, by rw [h0], fun k hk => by omega⟩
  · refine ⟨some ⟨g, 0, none⟩, cap, rfl, fun k hk => ⟨g, rfl, ?_, ?_, (h.lt g rfl).2⟩⟩
    · rw [h.cellAt (k * 2) (by omega), (wrs_get l k hk).1]
    · rw [h.cellAt (k * 2 + 1) (by omega), (wrs_get l k hk).2]
theorem yields_own {w : World} {base : Nat} {e : TypeId} {size : Nat} {v : Value} {n : Nat} {xs : List Value} (h : w.ownsRow base e size v n xs) : Yields w v n xs := by
  rcases h.2 with ⟨rfl, rfl⟩ | ⟨g, cap, cur, rfl, -⟩
  · exact ⟨none, 0, rfl, fun _ => rfl, fun ad e => by cases e⟩
  · refine ⟨_, cap, rfl, fun e => (by cases e), fun ad e j u hu => ?_⟩
    cases e
    exact h.cells rfl j u hu
def setFirm (f : List ByteArray) (l : List (Int × ByteArray)) : List ByteArray := l.foldl (fun f p => f.set p.1.toNat p.2) f
theorem setFirm_length (f : List ByteArray) (l : List (Int × ByteArray)) : (setFirm f l).length = f.length := by
  induction l generalizing f with
  | nil => rfl
  | cons p r ih => show (setFirm (f.set p.1.toNat p.2) r).length = _; rw [ih]; simp
theorem setFirm_take {f : List ByteArray} {l : List (Int × ByteArray)} {k : Nat} (h : k < l.length) : setFirm f (l.take (k + 1)) = (setFirm f (l.take k)).set l[k].1.toNat l[k].2 := by
  unfold setFirm
  rw [List.take_succ_eq_append_getElem h, List.foldl_append]; rfl
theorem strsV_set (f : List ByteArray) (i : Nat) (s : ByteArray) : strsV (f.set i s) = (strsV f).set i (.string s) := by simp [strsV, List.map_set]
end Go.Proofs.Ytjgihpabbogpjaa
