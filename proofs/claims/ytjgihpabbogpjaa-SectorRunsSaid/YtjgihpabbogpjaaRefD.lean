/- sector's reference: Flush, Write: walks. -/
import Derived.Test.YtjgihpabbogpjaaRefC
namespace Go.Proofs.Ytjgihpabbogpjaa
set_option linter.unusedVariables false
set_option maxRecDepth 100000
set_option maxHeartbeats 4000000
open Go.RowKit
theorem Turn.of_step {G : Nat → Prop} {w w1 : World} {rb : Nat} {R : Rk} {fv lv : Value} (h : IsRd w G rb R fv lv) (hu : Upd (· = rb) w w1) : Turn G G w w1 :=
  ⟨hu.mono (fun k _ e => (h.own k).2 (.inl e)), fun _ e => .inl e⟩
theorem rkStep_two (R : Rk) : (rkStep R).1 = 3 ∨ (rkStep R).1 = 0 := by
  unfold rkStep; split
  · exact .inl rfl
  · exact .inr rfl
theorem rkStep_same (R : Rk) : (rkStep R).2.firm = R.firm ∧ (rkStep R).2.loose = R.loose := by
  unfold rkStep; split
  · exact ⟨rfl, rfl⟩
  · simp only; split <;> exact ⟨rfl, rfl⟩
def rkFlush (R : Rk) : Int × Rk :=
  if R.off = true then (3, R) else if (rkStep R).1 = 3 then (3, (rkStep R).2) else (0, { (rkStep R).2 with firm := setFirm (rkStep R).2.firm (rkStep R).2.loose, loose := [] })
theorem RFlush_c (rb : Nat) (R : Rk) (G : Nat → Prop) (w : World) (h : IsRdisk w G rb R) (hin : ∀ p ∈ R.loose, 0 ≤ p.1 ∧ p.1 < R.firm.length) (hn : R.firm.length ≤ 100000) (hL : R.loose.length ≤ 100000) :
    Calls Try.prog 27 #[.pointer (some ⟨rb, 0, none⟩)] w fun e w' => e = .returned (.int .i64 (rkFlush R).1) ∧ Hid (∃ G', IsRdisk w' G' rb (rkFlush R).2 ∧ Turn G G' w w') := by
  obtain ⟨fv, lv, h⟩ := h
  obtain ⟨-, -, -, c3⟩ := h.c
  cases ho : R.off
  · rw [ho] at c3
    have S1 := Rstep_c rb R G fv lv w h
    obtain ⟨e1, e2⟩ := rkStep_same R
    rcases rkStep_two R with hs | hs
    · have HE := Lib.hid (show rkFlush R = (3, (rkStep R).2) by unfold rkFlush; rw [ho, hs]; rfl)
      rw [hs] at S1
      have H := Lib.hid h
      clear h ho hs e1 e2 hin
      go_enter Try.func27, Try.ntmps27
      go_wp2_with fail
      refine S1.mono ?_
      rintro e w1 ⟨rfl, h1, hu⟩
      have H1 := Lib.hid h1
      have HT := Lib.hid (Turn.of_step H.out hu)
      clear h1 hu S1
      go_wp2_with fail
      go_ret
      rw [HE.out]
      exact ⟨rfl, G, ⟨fv, lv, H1.out⟩, HT.out⟩
    · have HE := Lib.hid (show rkFlush R = (0, { (rkStep R).2 with firm := setFirm (rkStep R).2.firm (rkStep R).2.loose, loose := [] }) by unfold rkFlush; rw [ho, hs]; rfl)
      rw [hs] at S1
      have H := Lib.hid h
      have HIN := Lib.hid (show ∀ p ∈ (rkStep R).2.loose, 0 ≤ p.1 ∧ p.1 < (rkStep R).2.firm.length by rw [e1, e2]; exact hin)
      have HN := Lib.hid (show (rkStep R).2.firm.length ≤ 100000 by rw [e1]; exact hn)
      have HL := Lib.hid (show (rkStep R).2.loose.length ≤ 100000 by rw [e2]; exact hL)
      generalize (rkStep R).2 = R1 at *
      clear h ho hs e1 e2 hin hn hL
      go_enter Try.func27, Try.ntmps27
      go_wp2_with fail
      refine S1.mono ?_
      rintro e w1 ⟨rfl, h1, hu⟩
      have H1 := Lib.hid h1
      have HT := Lib.hid (Turn.of_step H.out hu)
      obtain ⟨-, d1, -, -⟩ := h1.c
      have F1 := Rfirm_c rb R1 G fv lv lv R1.loose w1 h1 (wrsAt_of_own h1.loose) HIN.out HN.out HL.out
      clear h1 hu S1
      go_wp2_with fail
      refine F1.mono ?_
      rintro e w2 ⟨rfl, G', hd, ht⟩
      have HD := Lib.hid (show ∃ G', IsRdisk w2 G' rb { R1 with firm := setFirm R1.firm R1.loose, loose := [] } ∧ Turn G G' w w2 from ⟨G', hd, HT.out.trans ht⟩)
      clear hd ht F1
      go_wp2_with fail
      go_ret
      rw [HE.out]
      exact ⟨rfl, HD.out⟩
  · have HE := Lib.hid (show rkFlush R = (3, R) by unfold rkFlush; rw [ho]; rfl)
    rw [ho] at c3
    have H := Lib.hid h
    clear h ho hin
    go_enter Try.func27, Try.ntmps27
    go_wp2_with fail
    go_ret
    rw [HE.out]
    exact ⟨rfl, G, ⟨fv, lv, H.out⟩, Turn.refl _ _⟩
def rkWrite (R : Rk) (i : Int) (s : ByteArray) : Int × Rk :=
  if R.off = true then (3, R) else if i < 0 ∨ (R.firm.length : Int) ≤ i then (2, R) else if 512 < s.size then (5, R) else
  if (rkStep R).1 = 3 then (3, (rkStep R).2) else (0, { (rkStep R).2 with loose := (rkStep R).2.loose ++ [(i, pad s)] })
theorem wrs_snoc (l : List (Int × ByteArray)) (i : Int) (s : ByteArray) : wrs (l ++ [(i, s)]) = wrs l ++ [.int .i64 i, .string s] := by simp [wrs]
theorem wrs_one (l : List (Int × ByteArray)) : ∀ u ∈ wrs l, u.oneCell' = true := by
  intro u hu
  simp only [wrs, List.mem_flatMap] at hu
  obtain ⟨p, _, hp⟩ := hu
  simp at hp
  rcases hp with rfl | rfl <;> rfl
theorem slice_form {w : World} {base : Nat} {e : TypeId} {size : Nat} {v : Value} {n : Nat} {xs : List Value} (h : w.ownsRow base e size v n xs) : ∃ a m c, v = .slice a m c := by
  rcases h.2 with ⟨rfl, _⟩ | ⟨gg, cap, cur, rfl, -⟩
  · exact ⟨_, _, _, rfl⟩
  · exact ⟨_, _, _, rfl⟩
theorem RWrite_no (rb : Nat) (R : Rk) (G : Nat → Prop) (i : Int) (s : ByteArray) (w : World) (h : IsRdisk w G rb R) (hn : R.firm.length ≤ 100000) (hb : R.off = true ∨ (R.off = false ∧ ((i < 0 ∨ (R.firm.length : Int) ≤ i) ∨ (0 ≤ i ∧ i < (R.firm.length : Int) ∧ 512 < s.size)))) :
    Calls Try.prog 26 #[.pointer (some ⟨rb, 0, none⟩), .int .i64 i, .string s] w fun e w' => e = .returned (.int .i64 (rkWrite R i s).1) ∧ Hid (∃ G', IsRdisk w' G' rb (rkWrite R i s).2 ∧ Turn G G' w w') := by
  obtain ⟨fv, lv, h⟩ := h
  obtain ⟨c0, -, -, c3⟩ := h.c
  have H := Lib.hid h
  obtain ⟨fa, fm, fc, hfv⟩ := slice_form h.firm
  have hfl : fm = R.firm.length := by
    rcases h.firm.2 with ⟨e, e2⟩ | ⟨gg, cap, cur, e, -⟩
    · rw [hfv] at e; cases e; exact e2.symm
    · rw [hfv] at e; cases e; rfl
  subst hfl
  rw [hfv] at c0
  clear h hfv
  rcases hb with ho | ⟨ho, hb | ⟨i0, i1, hb⟩⟩
  · have HE := Lib.hid (show rkWrite R i s = (3, R) by unfold rkWrite; rw [ho]; rfl)
    rw [ho] at c3
    clear ho
    go_enter Try.func26, Try.ntmps26
    go_wp2_with fail
    go_ret
    rw [HE.out]
    exact ⟨rfl, G, ⟨fv, lv, H.out⟩, Turn.refl _ _⟩
  · have HE := Lib.hid (show rkWrite R i s = (2, R) by unfold rkWrite; rw [ho, if_neg (by simp), if_pos hb])
    rw [ho] at c3
    clear ho
    by_cases i0 : i < 0
    · clear hb
      go_enter Try.func26, Try.ntmps26
      go_wp2_with fail
      go_ret
      rw [HE.out]
      exact ⟨rfl, G, ⟨fv, lv, H.out⟩, Turn.refl _ _⟩
    · have i1 : (R.firm.length : Int) ≤ i := hb.resolve_left i0
      clear hb
      go_enter Try.func26, Try.ntmps26
      go_wp2_with fail
      go_ret
      rw [HE.out]
      exact ⟨rfl, G, ⟨fv, lv, H.out⟩, Turn.refl _ _⟩
  · have HE := Lib.hid (show rkWrite R i s = (5, R) by unfold rkWrite; rw [ho, if_neg (by simp), if_neg (by omega), if_pos hb])
    rw [ho] at c3
    clear ho
    go_enter Try.func26, Try.ntmps26
    go_wp2_with fail
    go_ret
    rw [HE.out]
    exact ⟨rfl, G, ⟨fv, lv, H.out⟩, Turn.refl _ _⟩
theorem wrs_len (l : List (Int × ByteArray)) : (wrs l).length = l.length * 2 := wrs_length l
/-- What an append onto a fresh row has made. -/
theorem fresh_block {B : Nat} {w : World} {x : Value} {o : Obj} (hB : B ≤ w.heap.size) (ha : x.ownBlock = (Value.slice (some ⟨w.heap.size, 0, none⟩) 0 0).ownBlock ∨ x.ownBlock = some (w.alloc o).heap.size) : ∀ k, x.ownBlock = some k → B ≤ k := by
  intro k hk
  rcases ha with h | h <;> rw [h] at hk <;> simp [Value.ownBlock] at hk <;> omega
theorem yields_box (w : World) (cs : Array Value) (T : TypeId) (m c : Nat) : Yields (w.alloc (.cells cs T)) (.slice (some ⟨w.heap.size, 0, none⟩) m c) m cs.toList := by
  refine ⟨_, _, rfl, fun e => (by cases e), fun ad e j u hu => ?_⟩
  cases e
  exact World.news_of_block (cs := cs) (t := T) (fr := (0, 0)) (heap_alloc_new w _) j u hu
theorem RWrite_ok (rb : Nat) (R : Rk) (G : Nat → Prop) (i : Int) (s : ByteArray) (w : World) (h : IsRdisk w G rb R) (hn : R.firm.length ≤ 100000) (hL : R.loose.length ≤ 100000) (ho : R.off = false) (i0 : 0 ≤ i) (i1 : i < (R.firm.length : Int)) (hs : s.size ≤ 512) :
    Calls Try.prog 26 #[.pointer (some ⟨rb, 0, none⟩), .int .i64 i, .string s] w fun e w' => e = .returned (.int .i64 (rkWrite R i s).1) ∧ Hid (∃ G', IsRdisk w' G' rb (rkWrite R i s).2 ∧ Turn G G' w w') := by
  obtain ⟨fv, lv, h⟩ := h
  obtain ⟨c0, -, -, c3⟩ := h.c
  have S1 := Rstep_c rb R G fv lv w h
  obtain ⟨e1, e2⟩ := rkStep_same R
  have H := Lib.hid h
  obtain ⟨fa, fm, fc, hfv⟩ := slice_form h.firm
  have hfl : fm = R.firm.length := by
    rcases h.firm.2 with ⟨e, e2⟩ | ⟨gg, cap, cur, e, -⟩
    · rw [hfv] at e; cases e; exact e2.symm
    · rw [hfv] at e; cases e; rfl
  subst hfl
  rw [hfv] at c0
  rw [ho] at c3
  clear h hfv
  rcases rkStep_two R with h3 | h3
  · have HE := Lib.hid (show rkWrite R i s = (3, (rkStep R).2) by unfold rkWrite; rw [ho, if_neg (by simp), if_neg (by omega), if_neg (by omega), if_pos h3])
    rw [h3] at S1
    clear ho h3 e1 e2
    go_enter Try.func26, Try.ntmps26
    go_wp2_with fail
    refine S1.mono ?_
    rintro e w1 ⟨rfl, h1, hu⟩
    have H1 := Lib.hid h1
    have HT := Lib.hid (Turn.of_step H.out hu)
    clear h1 hu S1
    go_wp2_with fail
    go_ret
    rw [HE.out]
    exact ⟨rfl, G, ⟨fv, lv, H1.out⟩, HT.out⟩
  · have HE := Lib.hid (show rkWrite R i s = (0, { (rkStep R).2 with loose := (rkStep R).2.loose ++ [(i, pad s)] }) by unfold rkWrite; rw [ho, if_neg (by simp), if_neg (by omega), if_neg (by omega), if_neg (by omega)])
    rw [h3] at S1
    have HL := Lib.hid (show (rkStep R).2.loose.length ≤ 100000 by rw [e2]; exact hL)
    generalize (rkStep R).2 = R1 at *
    have FU := Lib.hid (fun w => RFull_c s w hs)
    clear ho h3 e1 e2
    go_enter Try.func26, Try.ntmps26
    go_wp2_with fail
    refine S1.mono ?_
    rintro e w1 ⟨rfl, h1, hu⟩
    have H1 := Lib.hid h1
    have HT := Lib.hid (Turn.of_step H.out hu)
    obtain ⟨-, d1, -, -⟩ := h1.c
    have hrl := lt_of_heap h1.cells
    have hL1 := HL.out
    obtain ⟨j0, hj, hz0, hz1, hz2⟩ := info_parts infoRW
    obtain ⟨x1, w2, hr1, ho1, hg1, ha1⟩ := run_append_y (P := Try.prog) (w := w1.alloc (.cells #[] 69)) 62 62 w1.heap.size 69 j0 _ 2 24 Try.underlying62 hj hz0 hz1 hz2 rfl (by decide) (.slice (some ⟨w1.heap.size, 0, none⟩) 0 0) 0 []
      (World.ownsRow_lit w1 #[] 0 (Nat.le_refl _) (by decide) rfl) lv R1.loose.length (wrs R1.loose) (yields_own (h1.loose.alloc _)) (wrs_len _) (wrs_one _) (by unfold maxLen; omega) (by omega) (by simp)
    rw [Nat.zero_add, List.nil_append] at ho1
    have hu1 : Upd (fun _ => False) w1 w2 := ((Upd.refl _ w1).alloc _).grown hg1 (fun k hk => .inr (by simp [Value.ownBlock] at hk; omega))
    have HO1 := Lib.hid ho1
    have HU1 := Lib.hid hu1
    have HB1 := Lib.hid (fresh_block (Nat.le_refl w1.heap.size) ha1)
    have HJ := Lib.hid (And.intro hj (And.intro hz0 (And.intro hz1 hz2)))
    clear h1 hu S1 ho1 hg1 ha1 hu1 hj hz0 hz1 hz2
    go_wp2_with (at_builtin; refine wpList_append_run (by rfl) _ _ _ (by rfl) _ _ _ _ (by rfl) (by rfl) hr1 ?_)
    refine (FU.out _).mono ?_
    rintro e w3 ⟨rfl, hb⟩
    clear hr1
    have hu3 := HU1.out.trans (hb.upd' (Nat.le_refl _))
    have ho3 := ownsRow_upd HO1.out (hb.upd' (Nat.le_refl _)) (fun _ _ e => e)
    obtain ⟨hj, hz0, hz1, hz2⟩ := HJ.out
    obtain ⟨x2, w4, hr2, ho2, hg2, ha2⟩ := run_append_y (P := Try.prog) (w := w3.alloc (.cells #[.int .i64 i, .string (pad s)] 69)) 62 62 w1.heap.size 69 j0 _ 2 24 Try.underlying62 hj hz0 hz1 hz2 rfl (by decide) x1 R1.loose.length (wrs R1.loose)
      (ho3.alloc _) (.slice (some ⟨w3.heap.size, 0, none⟩) 1 1) 1 [.int .i64 i, .string (pad s)] (yields_box w3 #[.int .i64 i, .string (pad s)] _ 1 1) rfl (one2 _ _ rfl rfl) (by unfold maxLen; omega) (by omega) (by have := hu3.size; simp; omega)
    have hu4 : Upd (fun _ => False) w1 w4 := (hu3.alloc (.cells #[.int .i64 i, .string (pad s)] 69)).grown hg2 (fun k hk => .inr (HB1.out k hk))
    have hb2 : ∀ k, x2.ownBlock = some k → w1.heap.size ≤ k := fun k hk => by
      rcases ha2 with e | e
      · exact HB1.out k (by rw [← e]; exact hk)
      · rw [e] at hk; have := hu3.size; simp at hk; omega
    have h4 := H1.out.frame hu4 (fun _ _ e => e)
    obtain ⟨xa, xm, xc, rfl⟩ := slice_form ho2
    have q1 := cell_lit h4.cells (i := 1) rfl
    have f1 := frozen_lit h4.cells 1
    have H4 := Lib.hid h4
    have HU4 := Lib.hid hu4
    have HB2 := Lib.hid hb2
    have HO2 := Lib.hid ho2
    clear hb hu3 ho3 ho2 hg2 ha2 hu4 hb2 h4 hj hz0 hz1 hz2
    go_wp2_with (at_builtin; refine wpList_append_run (by rfl) _ _ _ (by rfl) _ _ _ _ (by rfl) (by rfl) hr2 ?_)
    go_ret
    rw [HE.out]
    refine ⟨rfl, ?_⟩
    have h4 := H4.out
    have hu5 : Upd (· = rb) w4 (w4.setCell ⟨rb, 1, none⟩ (.slice xa xm xc)) := upd_setCell _ _ _ _
    have hul : ∀ k, (Value.slice xa xm xc).ownBlock = some k → ¬ (k = rb) := fun k hk e => by have := HB2.out k hk; omega
    refine ⟨owned rb fv (.slice xa xm xc), ⟨fv, .slice xa xm xc, heap_set_lit h4.cells _, ownsRow_upd h4.firm hu5 (fun k hk e => h4.nf (by rw [hk, e])), ?_, fun k => Iff.rfl, h4.fuel0, h4.fuel1⟩, HT.out.trans ⟨?_, ?_⟩⟩
    · have := HO2.out
      rw [wrs_snoc, List.length_append]
      exact ownsRow_upd ⟨this.1, this.2.imp id (fun ⟨g, cap, cur, a, b, c⟩ => ⟨g, cap, cur, a, Nat.zero_le _, c⟩)⟩ hu5 hul
    · exact (HU4.out.mono (fun _ _ e => e.elim)).trans' hu5 (fun k _ e => (h4.own k).2 (.inl e))
    · rintro k (rfl | hk | hk)
      · exact .inl ((h4.own _).2 (.inl rfl))
      · exact .inl ((h4.own _).2 (.inr (.inl hk)))
      · exact .inr (HB2.out k hk)
theorem RWrite_c4 (rb : Nat) (R : Rk) (G : Nat → Prop) (i : Int) (s : ByteArray) (w : World) (h : IsRdisk w G rb R) (hn : R.firm.length ≤ 100000) (hL : R.loose.length ≤ 100000) :
    Calls Try.prog 26 #[.pointer (some ⟨rb, 0, none⟩), .int .i64 i, .string s] w fun e w' => e = .returned (.int .i64 (rkWrite R i s).1) ∧ Hid (∃ G', IsRdisk w' G' rb (rkWrite R i s).2 ∧ Turn G G' w w') := by
  cases ho : R.off
  · by_cases hi : i < 0 ∨ (R.firm.length : Int) ≤ i
    · exact RWrite_no rb R G i s w h hn (.inr ⟨ho, .inl hi⟩)
    · by_cases hs : 512 < s.size
      · exact RWrite_no rb R G i s w h hn (.inr ⟨ho, .inr ⟨by omega, by omega, hs⟩⟩)
      · exact RWrite_ok rb R G i s w h hn hL ho (by omega) (by omega) (by omega)
  · exact RWrite_no rb R G i s w h hn (.inl ho)
end Go.Proofs.Ytjgihpabbogpjaa
