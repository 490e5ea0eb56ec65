/- sector's reference: Fall: the walk. -/
import Derived.Test.YtjgihpabbogpjaaRefE
namespace Go.Proofs.Ytjgihpabbogpjaa
set_option linter.unusedVariables false
set_option maxRecDepth 100000
set_option maxHeartbeats 4000000
open Go.RowKit
def kept : List (Int × ByteArray) → List Bool → List (Int × ByteArray)
  | p :: r, b :: ks => if b = true then p :: kept r ks else kept r ks
  | _, _ => []
theorem kept_take : ∀ (l : List (Int × ByteArray)) (keep : List Bool) (k : Nat) (h : k < l.length), kept (l.take (k + 1)) keep = kept (l.take k) keep ++ (if keep[k]? = some true then [l[k]] else []) := by
  intro l
  induction l with
  | nil => intro keep k h; simp at h
  | cons p r ih =>
    intro keep k h
    cases keep with
    | nil => cases k <;> simp [kept]
    | cons b ks =>
      cases k with
      | zero => cases b <;> simp [kept]
      | succ k =>
        have := ih ks k (by simpa using h)
        simp only [List.take_succ_cons, kept, List.getElem?_cons_succ, List.getElem_cons_succ]
        cases b
        · simpa using this
        · simp only [if_true, List.cons_append]; rw [this]
theorem kept_len (l : List (Int × ByteArray)) (keep : List Bool) : (kept l keep).length ≤ l.length := by
  induction l generalizing keep with
  | nil => simp [kept]
  | cons p r ih =>
    cases keep with
    | nil => simp [kept]
    | cons b ks =>
      have := ih ks
      cases b <;> simp [kept] <;> omega
theorem kept_mem {l : List (Int × ByteArray)} {keep : List Bool} : ∀ p ∈ kept l keep, p ∈ l := by
  induction l generalizing keep with
  | nil => simp [kept]
  | cons q r ih =>
    cases keep with
    | nil => simp [kept]
    | cons b ks =>
      intro p hp
      cases b
      · simp only [kept] at hp; exact List.mem_cons_of_mem _ (ih p (by simpa using hp))
      · simp only [kept, if_true] at hp
        rcases List.mem_cons.1 hp with rfl | hp
        · exact List.mem_cons_self ..
        · exact List.mem_cons_of_mem _ (ih p hp)
def rkFall (R : Rk) (keep : List Bool) : Rk := ⟨setFirm R.firm (kept R.loose keep), [], -1, false⟩
def FaRel (w : World) (L : List (Int × ByteArray)) (keep : List Bool) (g : Nat) (s4 s5 : Value) (wr : World) : Prop :=
  ∃ k, g = L.length - k ∧ k ≤ L.length ∧ s5 = .int .i64 k ∧ wr.ownsRow w.heap.size 69 2 s4 (kept (L.take k) keep).length (wrs (kept (L.take k) keep)) ∧ Upd (fun _ => False) w wr
theorem fa_next {w wr : World} {L : List (Int × ByteArray)} {keep : List Bool} {k : Nat} {v : Value} (hlt : k < L.length) (hk : ¬ keep[k]? = some true) (ho : wr.ownsRow w.heap.size 69 2 v (kept (L.take k) keep).length (wrs (kept (L.take k) keep))) (hu : Upd (fun _ => False) w wr) :
    FaRel w L keep (L.length - (k + 1)) v (.int .i64 (k + 1)) wr := by
  refine ⟨k + 1, rfl, by omega, by simp, ?_, hu⟩
  rw [kept_take L keep k hlt, if_neg hk, List.append_nil]; exact ho
theorem Fall_pre (rb : Nat) (R : Rk) (G : Nat → Prop) (v : Value) (keep : List Bool) (w : World) (h : IsRdisk w G rb R) (hv : BoolsAt w v keep) (hin : ∀ p ∈ R.loose, 0 ≤ p.1 ∧ p.1 < R.firm.length) (hn : R.firm.length ≤ 100000) (hL : R.loose.length ≤ 100000) (hkl : keep.length ≤ 9223372036854775807) :
    Calls Try.prog 29 #[.pointer (some ⟨rb, 0, none⟩), v] w fun e w' => e = .returned (.tuple #[]) ∧ Hid (∃ G', IsRdisk w' G' rb (rkFall R keep) ∧ Turn G G' w w') := by
  obtain ⟨fv, lv, h⟩ := h
  obtain ⟨la, lm, lc, rfl⟩ := slice_form h.loose
  obtain rfl := rlen h.loose
  have HW := Lib.hid (wrsAt_of_own h.loose)
  have H := Lib.hid h
  have HV := Lib.hid hv
  have HIN := Lib.hid hin
  obtain ⟨va, vc, rfl, -⟩ := hv
  have R0 : Hid (FaRel w R.loose keep R.loose.length (.slice none 0 0) (.int .i64 0) w) := Lib.hid ⟨0, rfl, Nat.zero_le _, rfl, World.ownsRow_nil _ _ _ _, Upd.refl _ _⟩
  clear h hin
  go_enter Try.func29, Try.ntmps29
  go_wp2_with fail
  go_loopg [4, 5] R.loose.length (fun g s4 s5 wr => FaRel w R.loose keep g s4 s5 wr)
  case atStart => exact R0.out
  case round =>
    obtain ⟨k, rfl, hk, rfl, ho, hu⟩ := hrel
    clear R0
    have HU := Lib.hid hu
    have HO := Lib.hid ho
    have hbel : Below w.heap.size w wr := hu.below (Nat.le_refl _) (fun _ _ e => e)
    have h2 := H.out.frame hu (fun _ _ e => e)
    have e1 := cell_lit h2.cells (i := 1) rfl
    obtain ⟨xa, xm, xc, rfl⟩ := slice_form ho
    by_cases hlt : k < R.loose.length
    · obtain ⟨g, rfl, d0, d1, lg⟩ := ((HW.out).below hbel).get k hlt
      by_cases hkk : k < keep.length
      · obtain ⟨b, off, rfl, cb, lb⟩ := (HV.out).get k hkk
        have cb := (hbel.cell (p := ⟨b, off + k, none⟩) lb).trans cb
        cases hb : keep[k]
        · have HN := Lib.hid (fa_next hlt (by rw [List.getElem?_eq_getElem hkk, hb]; simp) ho hu)
          rw [hb] at cb
          clear ho hu hbel h2 hb
          go_wp2_with fail
          go_roundg (R.loose.length - (k + 1))
          case measure => omega
          case rel => exact HN.out
        · have hst := kept_take R.loose keep k hlt
          rw [if_pos (by rw [List.getElem?_eq_getElem hkk, hb])] at hst
          rw [hb] at cb
          have hkl2 := kept_len (R.loose.take k) keep
          have hkl3 : (kept (R.loose.take k) keep).length ≤ 100000 := by rw [List.length_take] at hkl2; omega
          generalize R.loose[k] = p at *
          generalize kept (R.loose.take k) keep = acc at *
          obtain ⟨j0, hj, hz0, hz1, hz2⟩ := info_parts infoRW
          obtain ⟨x2, w4, hr2, ho2, hg2, ha2⟩ := run_append_y (P := Try.prog) (w := wr.alloc (.cells #[.int .i64 p.1, .string p.2] 69)) 62 62 w.heap.size 69 j0 _ 2 24 Try.underlying62 hj hz0 hz1 hz2 rfl (by decide) (.slice xa xm xc) acc.length (wrs acc)
            (ho.alloc _) (.slice (some ⟨wr.heap.size, 0, none⟩) 1 1) 1 [.int .i64 p.1, .string p.2] (yields_box wr #[.int .i64 p.1, .string p.2] _ 1 1) rfl (one2 _ _ rfl rfl) (by unfold maxLen; omega) (by omega) (by have := hbel.size; simp; omega)
          have hu4 : Upd (fun _ => False) w w4 := (hu.alloc (.cells #[.int .i64 p.1, .string p.2] 69)).grown hg2 (fun k hk => .inr (ho.lt k hk).1)
          have HN : Hid (FaRel w R.loose keep (R.loose.length - (k + 1)) x2 (.int .i64 (k + 1)) w4) := Lib.hid ⟨k + 1, rfl, by omega, by simp, by rw [hst, wrs_snoc, List.length_append]; exact ho2, hu4⟩
          clear ho hu hbel h2 hb hst hkl2 hkl3 hj hz0 hz1 hz2 ho2 hg2 ha2 hu4
          go_wp2_with (at_builtin; refine wpList_append_run (by rfl) _ _ _ (by rfl) _ _ _ _ (by rfl) (by rfl) hr2 ?_)
          go_roundg (R.loose.length - (k + 1))
          case measure => omega
          case rel => exact HN.out
      · have HN := Lib.hid (fa_next hlt (by rw [List.getElem?_eq_none (by omega)]; simp) ho hu)
        clear ho hu hbel h2
        go_wp2_with fail
        go_roundg (R.loose.length - (k + 1))
        case measure => omega
        case rel => exact HN.out
    · obtain rfl : k = R.loose.length := by omega
      rw [List.take_length] at ho
      have hkl2 := kept_len R.loose keep
      have F1 := Rfirm_c rb R G fv _ (.slice xa xm xc) (kept R.loose keep) wr h2 (wrsAt_of_own ho) (fun p hp => HIN.out p (kept_mem p hp)) hn (by omega)
      clear ho hu hbel h2 hkl2
      go_wp2_with fail
      refine F1.mono ?_
      rintro e w2 ⟨rfl, G', ⟨fv2, lv2, h3⟩, ht⟩
      have f2 := frozen_lit h3.cells 2
      have f3 := frozen_lit h3.cells 3
      have q2 := cell_lit h3.cells (i := 2) rfl
      have q3 := cell_lit h3.cells (i := 3) rfl
      have H3 := Lib.hid h3
      have HT := Lib.hid ht
      clear h3 ht F1
      go_wp2_with fail
      go_end0
      refine ⟨rfl, ?_⟩
      have h3 := H3.out
      have hu3 : Upd (· = rb) w2 ((w2.setCell ⟨rb, 3, none⟩ (.bool false)).setCell ⟨rb, 2, none⟩ (.int .i64 (-1))) := (upd_setCell _ _ _ _).trans (upd_setCell _ _ _ _)
      obtain ⟨G2, hd2, ht2⟩ := h3.next (R' := rkFall R keep) hu3 (by rw [heap_set_lit (heap_set_lit h3.cells _)]; rfl)
        (ownsRow_upd h3.firm hu3 (fun k hk e => h3.nf (by rw [hk, e]))) (ownsRow_upd h3.loose hu3 (fun k hk e => h3.nl (by rw [hk, e]))) (fun k hk => .inl hk) (fun k hk => .inl hk) (show (-1 : Int) ≤ -1 by decide) (show (-1 : Int) ≤ 9223372036854775807 by decide)
      refine ⟨G2, hd2, Turn.trans ⟨HU.out.mono (fun _ _ e => e.elim), fun k hk => .inl hk⟩ (HT.out.trans ht2)⟩
end Go.Proofs.Ytjgihpabbogpjaa
