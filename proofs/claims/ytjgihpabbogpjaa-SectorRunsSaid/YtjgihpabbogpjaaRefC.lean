/- sector's reference: firm, Flush: walks. -/
import Derived.Test.YtjgihpabbogpjaaRefB
namespace Go.Proofs.Ytjgihpabbogpjaa
set_option linter.unusedVariables false
set_option maxRecDepth 100000
set_option maxHeartbeats 4000000
open Go.RowKit
def FmRel (w : World) (ov : Value) (f : List ByteArray) (L : List (Int × ByteArray)) (g : Nat) (s5 : Value) (wr : World) : Prop :=
  ∃ k, g = L.length - k ∧ k ≤ L.length ∧ s5 = .int .i64 k ∧ wr.ownsRow w.heap.size 9 1 ov f.length (strsV (setFirm f (L.take k))) ∧ Upd (fun _ => False) w wr
theorem strsV_length (f : List ByteArray) : (strsV f).length = f.length := by simp [strsV]
theorem strsV_one (f : List ByteArray) : ∀ u ∈ strsV f, u.oneCell' = true := by
  intro u hu
  simp only [strsV, List.mem_map] at hu
  obtain ⟨s, _, rfl⟩ := hu
  rfl
theorem Rfirm_c (rb : Nat) (R : Rk) (G : Nat → Prop) (fv lv : Value) (v : Value) (L : List (Int × ByteArray)) (w : World) (h : IsRd w G rb R fv lv) (hv : WrsAt w v L) (hin : ∀ p ∈ L, 0 ≤ p.1 ∧ p.1 < R.firm.length) (hn : R.firm.length ≤ 100000) (hL : L.length ≤ 100000) :
    Calls Try.prog 32 #[.pointer (some ⟨rb, 0, none⟩), v] w fun e w' => e = .returned (.tuple #[]) ∧ Hid (∃ G', IsRdisk w' G' rb { R with firm := setFirm R.firm L, loose := [] } ∧ Turn G G' w w') := by
  obtain ⟨c0, c1, -, -⟩ := h.c
  have hrl := lt_of_heap h.cells
  obtain ⟨j0, hj, hz0, hz1, hz2⟩ := info_parts infoS
  obtain ⟨ov, w1, hr, ho, hg, ha⟩ := run_append_y (P := Try.prog) (w := w.alloc (.cells #[] 9)) 61 61 w.heap.size 9 j0 _ 1 16 Try.underlying61 hj hz0 hz1 hz2 rfl (by decide) (.slice (some ⟨w.heap.size, 0, none⟩) 0 0) 0 []
    (World.ownsRow_lit w #[] 0 (Nat.le_refl _) (by decide) rfl) fv R.firm.length (strsV R.firm) (yields_own (h.firm.alloc _)) (by rw [strsV_length]; omega) (strsV_one _) (by unfold maxLen; omega) (by omega) (by simp)
  rw [Nat.zero_add, List.nil_append] at ho
  have hu1 : Upd (fun _ => False) w w1 := ((Upd.refl _ w).alloc _).grown hg (fun k hk => .inr (by simp [Value.ownBlock] at hk; omega))
  have hob : ∀ k, ov.ownBlock = some k → w.heap.size ≤ k := fun k hk => by
    rcases ha with e | e <;> rw [e] at hk <;> simp [Value.ownBlock] at hk <;> omega
  obtain ⟨oa, on, oc, rfl⟩ : ∃ a n c, ov = .slice a n c := by
    rcases ho.2 with ⟨rfl, _⟩ | ⟨gg, cap, cur, rfl, -⟩
    · exact ⟨_, _, _, rfl⟩
    · exact ⟨_, _, _, rfl⟩
  have HR : Hid (FmRel w (.slice oa on oc) R.firm L L.length (.int .i64 0) w1) := Lib.hid ⟨0, rfl, Nat.zero_le _, rfl, by simpa [setFirm] using ho, hu1⟩
  have HOB := Lib.hid hob
  have HV := Lib.hid hv
  have HIN := Lib.hid hin
  have H := Lib.hid h
  obtain ⟨va, vc, rfl, -⟩ := hv
  clear h hin hg ha ho hu1 hob hj hz0 hz1 hz2
  go_enter Try.func32, Try.ntmps32
  go_wp2_with (at_builtin; refine wpList_append_run (by rfl) _ _ _ (by rfl) _ _ _ _ (by rfl) (by rfl) hr ?_)
  go_loopg [5] L.length (fun g s5 wr => FmRel w (.slice oa on oc) R.firm L g s5 wr)
  case atStart => exact HR.out
  case round =>
    obtain ⟨k, rfl, hk, rfl, ho, hu⟩ := hrel
    clear HR hr
    have HO := Lib.hid ho
    have HU := Lib.hid hu
    have hbel : Below w.heap.size w wr := hu.below (Nat.le_refl _) (fun _ _ e => e)
    by_cases hlt : k < L.length
    · obtain ⟨g, rfl, d0, d1, lg⟩ := ((HV.out).below hbel).get k hlt
      obtain ⟨i0, i1⟩ := HIN.out L[k] (List.getElem_mem hlt)
      have HST := Lib.hid (setFirm_take (f := R.firm) hlt)
      generalize L[k] = p at *
      obtain ⟨m, hm⟩ : ∃ m : Nat, p.1 = (m : Int) := ⟨p.1.toNat, by omega⟩
      rw [hm] at d0 i1 HST
      have hmn : m < R.firm.length := by omega
      obtain ⟨gg, cap, he, hgg, hgl⟩ := ho.form (by omega)
      cases he
      have t0 := ho.cellAt m (by omega)
      rw [List.getElem?_eq_getElem (by rw [strsV_length, setFirm_length]; exact hmn)] at t0
      generalize (strsV (setFirm R.firm (L.take k)))[m]'(by rw [strsV_length, setFirm_length]; exact hmn) = old at t0
      have t1 := ho.frozenAt m
      have HSD := Lib.hid (ho.stored m (.string p.2)).1
      have HU2 : Hid (Upd (fun _ => False) w ((wr.setCell ⟨gg, m, none⟩ (.string p.2)).drew)) := Lib.hid ((hu.setCell (p := ⟨gg, m, none⟩) (.inr hgg) _).drew)
      clear ho hu hbel hm i0
      go_wp2_with fail
      go_region
      all_goals
        go_wp2_with fail
        go_roundg (L.length - (k + 1))
        case measure => omega
        case rel => exact ⟨k + 1, rfl, by omega, by simp, by rw [HST.out, Int.toNat_natCast, strsV_set]; exact HSD.out, HU2.out⟩
    · obtain rfl : k = L.length := by omega
      have h2 := H.out.frame hu (fun _ _ e => e)
      have f0 := frozen_lit h2.cells 0
      have f1 := frozen_lit h2.cells 1
      have e0 := cell_lit h2.cells (i := 0) rfl
      have e1 := cell_lit h2.cells (i := 1) rfl
      have H2 := Lib.hid h2
      clear ho hu hbel h2
      go_wp2_with fail
      go_end0
      refine ⟨rfl, ?_⟩
      have h2 := H2.out
      have hu3 : Upd (fun k => k = rb) wr ((wr.setCell ⟨rb, 0, none⟩ (.slice oa on oc)).setCell ⟨rb, 1, none⟩ (.slice none 0 0)) := (upd_setCell _ _ _ _).trans (upd_setCell _ _ _ _)
      have hul : ∀ k, (Value.slice oa on oc).ownBlock = some k → ¬ (k = rb) := fun k hk e => by have := HOB.out k hk; omega
      have hof := HO.out
      rw [List.take_length] at hof
      refine ⟨owned rb (.slice oa on oc) (.slice none 0 0), ⟨.slice oa on oc, .slice none 0 0, ?_, ?_, World.ownsRow_nil _ _ _ _, fun k => Iff.rfl, h2.fuel0, h2.fuel1⟩, ?_, ?_⟩
      · rw [heap_set_lit (heap_set_lit h2.cells _)]; rfl
      · rw [setFirm_length]
        exact ownsRow_upd ⟨hof.1, hof.2.imp id (fun ⟨g, cap, cur, a, b, c⟩ => ⟨g, cap, cur, a, Nat.zero_le _, c⟩)⟩ hu3 hul
      · exact HU.out.mono (fun _ _ e => e.elim) |>.trans' hu3 (fun k _ e => (h2.own k).2 (.inl e))
      · rintro k (rfl | hk | hk)
        · exact .inl ((h2.own _).2 (.inl rfl))
        · exact .inr (HOB.out k hk)
        · simp [Value.ownBlock] at hk
end Go.Proofs.Ytjgihpabbogpjaa
