/- Parts of the proof of BucketRuns, joined: BukZ, BukR, BukI, BukM, BukN, BukNa, BukNb, BukOl, BukOa, BukOb, BukOc, BukOd, BukOe. No condition. -/
import Derived.Test.YtaibjcjphmhgmaaGreatDoorBr3
import Derived.Deep.RegionHeld3
import Derived.BigQuiet
import Derived.Deep.QuietTactic
set_option linter.unusedSimpArgs false
set_option linter.unusedVariables false
set_option linter.unusedSectionVars false
namespace Go.Proofs.YtaibjcjphmhgmaaGreatDoor
set_option linter.unusedVariables false
set_option maxRecDepth 100000
set_option maxHeartbeats 2000000
open Go.RowKit
theorem RfEnd.fresh {w w' : World} {v v' : Value} {B' : List Bk} (h : RfEnd w w' v v' B') {k : Nat} (hv : v.ownBlock ≠ some k) (hk : k < w.heap.size) : v'.ownBlock ≠ some k := fun e => by
  rcases h.2.2 with rfl | g
  · exact hv e
  · have := g k e; omega
/-- A call's variables behind a first change of the reference. -/
theorem ref_set {w W w3 : World} {v v1 : Value} {nx : Int} {o : Array Value} {t : TypeId} {B1 : List Bk} (hw : Below w.heap.size w W ∧ W.heap.size = w.heap.size + 3 ∧ W.heap[w.heap.size]? = some (.cells #[v, .int .u64 nx] 35 (0, 0)) ∧ W.heap[w.heap.size + 1]? = some (.cells o t (0, 0)) ∧ W.heap[w.heap.size + 2]? = some (.cells #[.slice none 0 0, .int .u64 0] 35 (0, 0)))
    (hb : Below W.heap.size W w3) (h1 : RB w3 v1 B1) (hne : v1.ownBlock ≠ some w.heap.size) :
    ∃ w4, (w3.setCell ⟨w.heap.size, 0, none⟩ v1).setCell ⟨w.heap.size, 1, none⟩ (.int .u64 nx) = w4 ∧ Below w.heap.size w w4 ∧ w4.heap.size = w3.heap.size ∧ RB w4 v1 B1 ∧ w4.heap[w.heap.size]? = some (.cells #[v1, .int .u64 nx] 35 (0, 0)) ∧ w4.heap[w.heap.size + 1]? = some (.cells o t (0, 0)) ∧ w4.heap[w.heap.size + 2]? = some (.cells #[.slice none 0 0, .int .u64 0] 35 (0, 0)) := by
  obtain ⟨a1, a2, a3, a4, a5⟩ := hw
  have x3 := (hb.block w.heap.size (by omega)).trans a3
  have x4 := (hb.block (w.heap.size + 1) (by omega)).trans a4
  have x5 := (hb.block (w.heap.size + 2) (by omega)).trans a5
  refine ⟨_, rfl, ((a1.trans (hb.mono a1.size)).setCell (Nat.le_refl _) _).setCell (Nat.le_refl _) _, by simp, row_ne (row_ne h1 0 _ hne) 1 _ hne, ?_, ?_, ?_⟩
  · exact heap_set_lit (heap_set_lit x3 v1) _
  · exact (heap_set_ne _ (by omega)).trans ((heap_set_ne _ (by omega)).trans x4)
  · exact (heap_set_ne _ (by omega)).trans ((heap_set_ne _ (by omega)).trans x5)
theorem Restore14_c (v : Value) (nx : Int) (B : List Bk) (s : ByteArray) (st : Int) (born : Nat) (on : Bool) (pre : ByteArray) (af : Nat) (w : World) (h : RB w v B) (hl : B.length ≤ 99) (hs : s.size ≤ 1000) :
    Calls Tryz.prog 25 #[.agg #[v, .int .u64 nx], .agg #[.string s, .int .i64 st, .int .u64 (born : Int), .bool on, .string pre, .int .u64 (af : Int)]] w fun e w' => ∃ v', e = .returned (.tuple #[.agg #[v', .int .u64 nx], .int .i64 ((rsR B s st born on pre af).1 : Int)]) ∧ Hid (∃ B', RfEnd w w' v v' B' ∧ RefO (rsR B s st born on pre af).2 B B') := by
  obtain ⟨va, vc, rfl⟩ := h.lit
  obtain ⟨W, hW, hbW, hsW, g0, g1, g2⟩ := ref_three w (.slice va B.length vc) nx #[.string s, .int .i64 st, .int .u64 (born : Int), .bool on, .string pre, .int .u64 (af : Int)] 46
  have BC := RBucket_c s W (by omega)
  have AT := At14_c _ nx B s W (h.below hbW) (by omega)
  have MK := Lib.hid (fun (W' : World) (h' : RB W' (.slice va B.length vc) B) => Make14_c _ nx B s born W' h' hl hs)
  have HW := Lib.hid (And.intro hbW (And.intro hsW (And.intro g0 (And.intro g1 g2))))
  have HR := Lib.hid (h.below hbW)
  have HR0 := Lib.hid h
  have HL := Lib.hid hl
  have fin : Hid (∀ w', Below W.heap.size W w' → (w'.cell? ⟨w.heap.size, 0, none⟩ = some (.slice va B.length vc) ∧ w'.cell? ⟨w.heap.size, 1, none⟩ = some (.int .u64 nx)) ∧ (w'.cell? ⟨w.heap.size + 1, 0, none⟩ = some (.string s) ∧ w'.cell? ⟨w.heap.size + 1, 1, none⟩ = some (.int .i64 st) ∧ w'.cell? ⟨w.heap.size + 1, 2, none⟩ = some (.int .u64 (born : Int)) ∧ w'.cell? ⟨w.heap.size + 1, 3, none⟩ = some (.bool on) ∧ w'.cell? ⟨w.heap.size + 1, 4, none⟩ = some (.string pre) ∧ w'.cell? ⟨w.heap.size + 1, 5, none⟩ = some (.int .u64 (af : Int))) ∧ w'.cell? ⟨w.heap.size + 1 + 1, 0, none⟩ = some (.slice none 0 0) ∧ w'.cell? ⟨w.heap.size + 1 + 1, 1, none⟩ = some (.int .u64 0) ∧ ∀ j, w'.frozen? ⟨w.heap.size + 1 + 1, j, none⟩ = false) := Lib.hid fun w' hb => by
    have x := (hb.block w.heap.size (by omega)).trans g0
    have y := (hb.block (w.heap.size + 1) (by omega)).trans g1
    have z := (hb.block (w.heap.size + 1 + 1) (by omega)).trans g2
    exact ⟨⟨cell_lit x rfl, cell_lit x rfl⟩, ⟨cell_lit y rfl, cell_lit y rfl, cell_lit y rfl, cell_lit y rfl, cell_lit y rfl, cell_lit y rfl⟩, cell_lit z rfl, cell_lit z rfl, fun j => frozen_lit z j⟩
  obtain ⟨⟨d0, d1⟩, ⟨r0, r1, r2, r3, r4, r5⟩, d5, d6, fz⟩ := fin.out W (Below.refl _ _)
  clear hbW hsW g0 g1 g2
  by_cases hE : errB B s = 28
  · have hR : rsR B s st born on pre af = (28, none) := by unfold rsR; rw [if_pos hE]
    have h2 : bktB s.data.toList = false := by
      rcases errB_cases B s with ⟨-, y⟩ | ⟨x, -⟩ | ⟨x, -⟩
      · exact y
      · omega
      · omega
    rw [hR]
    rw [h2] at BC
    clear hR hE h hl hs h2 AT MK
    simp only
    go_enter Tryz.func25, Tryz.ntmps25
    go_wp2_with fail
    refine BC.mono ?_
    rintro e w1 ⟨rfl, rfl⟩
    clear BC
    go_wp2_with fail
    refine bodyPost_ret (v := .tuple #[.agg #[.slice va B.length vc, .int .u64 nx], .int .i64 28]) ?_ rfl ⟨_, rfl, ?_⟩
    · simp [results, Tryz.results25, go_sem, d0, d1, d5, d6, fz]
    · exact Lib.hid ⟨B, rf_fink (w.heap.size + 1 + 1) (by omega) HW.out.1 HR.out (HR0.out.ne (by omega)) (.inl rfl) _ _, rfl⟩
  have h2 : bktB s.data.toList = true := by
    rcases errB_cases B s with ⟨x, -⟩ | ⟨-, y, -⟩ | ⟨-, y, -⟩
    · exact absurd x hE
    · exact y
    · exact y
  rw [h2] at BC
  by_cases hg : 0 ≤ st ∧ st ≤ 2 ∧ rightB on pre af = true
  · obtain ⟨s0, s2, hri⟩ := hg
    have hR : rsR B s st born on pre af = (0, some ⟨s, st.toNat, born, on, af, pre⟩) := by unfold rsR; rw [if_neg hE, if_pos ⟨s0, s2, hri⟩]
    rw [hR]
    have hst : ((st.toNat : Nat) : Int) = st := by omega
    obtain ⟨stN, hstN⟩ : ∃ k, st.toNat = k := ⟨_, rfl⟩
    rw [hstN] at hst ⊢
    have h20 : pre.size ≤ 20 := rightB_pre hri
    have p1 : ¬ st < 0 := by omega
    have p2 : ¬ 2 < st := by omega
    have hon : on = true ∨ (on = false ∧ pre = ⟨#[]⟩ ∧ ((af : Int) != 0) = false) := by
      cases on with
      | true => exact .inl rfl
      | false =>
        unfold rightB at hri
        simp only [Bool.false_or, Bool.and_eq_true, decide_eq_true_eq] at hri
        exact .inr ⟨rfl, empty_of_size hri.2.1, by rw [hri.2.2]; rfl⟩
    rcases errB_cases B s with ⟨x, -⟩ | ⟨-, -, hf⟩ | ⟨-, -, b0, hf⟩
    · exact absurd x hE
    · have ha : atI B s = -1 := by
        rcases atI_bAt B s with ⟨-, x⟩ | ⟨A, b, C, -, -, -, x, -⟩
        · exact x
        · rw [hf] at x; cases x
      have hE20 : errB B s = 20 := by unfold errB; rw [if_pos h2, hf]
      have hmk : mkR B s born = (0, some ⟨s, 0, born, false, 0, ⟨#[]⟩⟩) := by unfold mkR; rw [if_pos hE20]
      have HNN : Hid (∀ a ∈ B, a.nm ≠ s) := Lib.hid fun a ha => bAt_none hf a ha
      rw [hmk] at MK
      rw [ha] at AT
      clear hR hE h hl hs h2 hri s0 s2 hf ha hE20 hmk hstN
      rcases hon with rfl | ⟨rfl, rfl, p3⟩
      · go_enter Tryz.func25, Tryz.ntmps25
        go_wp2_with fail
        refine BC.mono ?_
        rintro e w1 ⟨rfl, rfl⟩
        clear BC
        go_wp2_with fail
        refine AT.mono ?_
        rintro e w2 ⟨rfl, hb⟩
        have MK2 := MK.out w2 (HR.out.below hb.out)
        try simp only at MK2
        rw [show ((0 : Nat) : Int) = 0 from rfl] at MK2
        clear d0 d1 r0 r1 r2 r3 r4 r5 d5 d6 fz AT MK
        obtain ⟨⟨d0, d1⟩, ⟨r0, r1, r2, r3, r4, r5⟩, d5, d6, fz⟩ := fin.out w2 hb.out
        go_wp2_with fail
        refine MK2.mono ?_
        rintro e w3 ⟨v1, rfl, hm⟩
        have HM : Hid (∃ A C, RfEnd w2 w3 (.slice va B.length vc) v1 (A ++ ⟨s, 0, born, false, 0, ⟨#[]⟩⟩ :: C) ∧ B = A ++ C ∧ (∀ a ∈ B, a.nm ≠ s) ∧ (∀ a ∈ A, kless s a.nm = false) ∧ (∀ c, C.head? = some c → kless s c.nm = true)) := Lib.hid (by
          obtain ⟨B', h1, h2⟩ := hm.out
          rcases h2 with ⟨A, b9, C, q1, -, q2, -⟩ | ⟨A, C, q1, q2, q3, q4, rfl⟩
          · exact absurd q2 (HNN.out b9 (by rw [q1]; simp))
          · exact ⟨A, C, h1, q1, q2, q3, q4⟩)
        obtain ⟨A, C, hrf, hBAC, hnn, hkA, hkC⟩ := HM.out
        have HB3 := Lib.hid (hb.out.trans (hrf.2.1.mono hb.out.size))
        obtain ⟨va1, vc1, rfl⟩ := hrf.1.lit
        obtain ⟨n1, hn1⟩ : ∃ n, (A ++ (⟨s, 0, born, false, 0, ⟨#[]⟩⟩ : Bk) :: C).length = n := ⟨_, rfl⟩
        have HN1 : Hid (A.length < n1 ∧ n1 ≤ 100) := Lib.hid (by rw [← hn1]; have := HL.out; rw [hBAC] at this; simp at *; omega)
        rw [hn1] at hrf ⊢
        have h1 := hrf.1
        have hne := hrf.fresh (k := w.heap.size) (HR0.out.ne (Nat.le_refl _)) (by have := HW.out.2.1; have := hb.out.size; omega)
        have hfr : ∀ k, (Value.slice va1 n1 vc1).ownBlock = some k → k < w.heap.size ∨ w2.heap.size ≤ k := fun k e => by
          rcases hrf.2.2 with q | q
          · rw [q] at e; have := (HR0.out.lt k e).2; exact .inl this
          · exact .inr (q k e)
        obtain ⟨w4, hw4, b4, s4, h4, x0, x1, x2⟩ := ref_set HW.out HB3.out h1 hne
        have X4 := Lib.hid (And.intro b4 (And.intro s4 (And.intro h4 (And.intro x0 (And.intro x1 x2)))))
        have fin4 : Hid (∀ w', Below w4.heap.size w4 w' → (w'.cell? ⟨w.heap.size, 0, none⟩ = some (.slice va1 n1 vc1) ∧ w'.cell? ⟨w.heap.size, 1, none⟩ = some (.int .u64 nx)) ∧ (w'.cell? ⟨w.heap.size + 1, 0, none⟩ = some (.string s) ∧ w'.cell? ⟨w.heap.size + 1, 1, none⟩ = some (.int .i64 st) ∧ w'.cell? ⟨w.heap.size + 1, 2, none⟩ = some (.int .u64 (born : Int)) ∧ w'.cell? ⟨w.heap.size + 1, 3, none⟩ = some (.bool true) ∧ w'.cell? ⟨w.heap.size + 1, 4, none⟩ = some (.string pre) ∧ w'.cell? ⟨w.heap.size + 1, 5, none⟩ = some (.int .u64 (af : Int))) ∧ w'.cell? ⟨w.heap.size + 1 + 1, 0, none⟩ = some (.slice none 0 0) ∧ w'.cell? ⟨w.heap.size + 1 + 1, 1, none⟩ = some (.int .u64 0) ∧ ∀ j, w'.frozen? ⟨w.heap.size + 1 + 1, j, none⟩ = false) := Lib.hid fun w' hb' => by
          have hsz : w.heap.size + 3 ≤ w4.heap.size := by have := HW.out.2.1; have := HB3.out.size; rw [s4]; omega
          have x := (hb'.block w.heap.size (by omega)).trans x0
          have y := (hb'.block (w.heap.size + 1) (by omega)).trans x1
          have z := (hb'.block (w.heap.size + 1 + 1) (by omega)).trans x2
          exact ⟨⟨cell_lit x rfl, cell_lit x rfl⟩, ⟨cell_lit y rfl, cell_lit y rfl, cell_lit y rfl, cell_lit y rfl, cell_lit y rfl, cell_lit y rfl⟩, cell_lit z rfl, cell_lit z rfl, fun j => frozen_lit z j⟩
        have AT4 := At14_c (.slice va1 n1 vc1) nx _ s w4 h4 (by rw [hn1]; exact HN1.out.2)
        rw [atI_split (fun a ha => hnn a (by rw [hBAC]; simp [ha])) rfl] at AT4
        have HF : Hid (∀ B', B' = A ++ ⟨s, stN, born, true, af, pre⟩ :: C → RefO (some ⟨s, stN, born, true, af, pre⟩) B B') := Lib.hid fun B' e => .inr ⟨A, C, hBAC, hnn, hkA, hkC, e⟩
        have hn0 : ¬ ((A.length : Int) < 0) := by omega
        clear d0 d1 r0 r1 r2 r3 r4 r5 d5 d6 fz hrf hBAC hnn hkA hkC h1 hne hfr b4 s4 h4 x0 x1 x2 hb hm HM HNN MK2
        obtain ⟨⟨d0, d1⟩, ⟨r0, r1, r2, r3, r4, r5⟩, d5, d6, fz⟩ := fin.out w3 HB3.out
        have fz0 : ∀ j, w3.frozen? ⟨w.heap.size, j, none⟩ = false := fun j => frozen_lit ((HB3.out.block w.heap.size (by have := HW.out.2.1; omega)).trans HW.out.2.2.1) j
        obtain ⟨⟨e0, e1⟩, ⟨f0, f1, f2, f3, f4, f5⟩, e5, e6, fz4⟩ := fin4.out w4 (Below.refl _ _)
        go_wp2_with fail
        refine AT4.mono ?_
        rintro e w5 ⟨rfl, hb5⟩
        clear hw4 e0 e1 f0 f1 f2 f3 f4 f5 e5 e6 fz4 fz0
        clear d0 d1 r0 r1 r2 r3 r4 r5 d5 d6 fz AT4
        obtain ⟨⟨d0, d1⟩, ⟨r0, r1, r2, r3, r4, r5⟩, d5, d6, fz⟩ := fin4.out w5 hb5.out
        have H5 := Lib.hid (X4.out.2.2.1.below hb5.out)
        obtain ⟨g, hg, hlg, y0, y1, y2, y3, y4, y5, y6, y7⟩ := H5.out.at8
        subst hg
        have hlt : (A.length : Int) < (n1 : Int) := by have := HN1.out; omega
        have hl0 : w.heap.size + 3 ≤ w5.heap.size := by have := HW.out.2.1; have := HB3.out.size; have := X4.out.2.1; have := hb5.out.size; omega
        have hl1 : w.heap.size < w5.heap.size := by omega
        have hl2 : w.heap.size + 1 < w5.heap.size := by omega
        have hl3 : w.heap.size + 1 + 1 < w5.heap.size := by omega
        clear hl0
        go_wp2_with fail
        rw [← hst]
        refine (With14_c (.slice (some ⟨g, 0, none⟩) n1 vc1) nx A C _ ⟨s, stN, born, true, af, pre⟩ _ (H5.out.below (below_alloc _ _)) (by rw [show (A ++ (⟨s, 0, born, false, 0, ⟨#[]⟩⟩ : Bk) :: C).length = n1 from hn1]; exact HN1.out.2)).mono ?_
        rintro e w6 ⟨v', rfl, hw⟩
        obtain ⟨va', vc', rfl⟩ := hw.out.1.lit
        have HB6 := Lib.hid (hb5.out.trans (((below_alloc w5 _).trans (hw.out.2.1.mono (by simp))).mono hb5.out.size))
        have HFR := Lib.hid (fun k (e : (Value.slice va' (A ++ _ :: C).length vc').ownBlock = some k) => show w.heap.size + 3 ≤ k by have := hw.out.2.2 k e; simp at this; omega)
        clear d0 d1 r0 r1 r2 r3 r4 r5 d5 d6 fz y0 y1 y2 y3 y4 y5 y6 y7
        obtain ⟨⟨d0, d1⟩, ⟨r0, r1, r2, r3, r4, r5⟩, d5, d6, fz⟩ := fin4.out w6 HB6.out
        go_wp2_with fail
        refine bodyPost_ret (v := .tuple #[.agg #[.slice va' (A ++ (⟨s, stN, born, true, af, pre⟩ : Bk) :: C).length vc', .int .u64 nx], .int .i64 0]) ?_ rfl ⟨_, rfl, ?_⟩
        · simp [results, Tryz.results25, go_sem, d0, d1, d5, d6, fz]
        · exact Lib.hid ⟨_, rf_fink (w.heap.size + 1 + 1) (by omega) (X4.out.1.trans (HB6.out.mono X4.out.1.size)) hw.out.1 (fun e => by have := HFR.out _ e; omega) (.inr fun k e => by have := HFR.out _ e; omega) _ _, HF.out _ rfl⟩
      · go_enter Tryz.func25, Tryz.ntmps25
        go_wp2_with fail
        refine BC.mono ?_
        rintro e w1 ⟨rfl, rfl⟩
        clear BC
        go_wp2_with fail
        refine AT.mono ?_
        rintro e w2 ⟨rfl, hb⟩
        have MK2 := MK.out w2 (HR.out.below hb.out)
        try simp only at MK2
        rw [show ((0 : Nat) : Int) = 0 from rfl] at MK2
        clear d0 d1 r0 r1 r2 r3 r4 r5 d5 d6 fz AT MK
        obtain ⟨⟨d0, d1⟩, ⟨r0, r1, r2, r3, r4, r5⟩, d5, d6, fz⟩ := fin.out w2 hb.out
        go_wp2_with fail
        refine MK2.mono ?_
        rintro e w3 ⟨v1, rfl, hm⟩
        have HM : Hid (∃ A C, RfEnd w2 w3 (.slice va B.length vc) v1 (A ++ ⟨s, 0, born, false, 0, ⟨#[]⟩⟩ :: C) ∧ B = A ++ C ∧ (∀ a ∈ B, a.nm ≠ s) ∧ (∀ a ∈ A, kless s a.nm = false) ∧ (∀ c, C.head? = some c → kless s c.nm = true)) := Lib.hid (by
          obtain ⟨B', h1, h2⟩ := hm.out
          rcases h2 with ⟨A, b9, C, q1, -, q2, -⟩ | ⟨A, C, q1, q2, q3, q4, rfl⟩
          · exact absurd q2 (HNN.out b9 (by rw [q1]; simp))
          · exact ⟨A, C, h1, q1, q2, q3, q4⟩)
        obtain ⟨A, C, hrf, hBAC, hnn, hkA, hkC⟩ := HM.out
        have HB3 := Lib.hid (hb.out.trans (hrf.2.1.mono hb.out.size))
        obtain ⟨va1, vc1, rfl⟩ := hrf.1.lit
        obtain ⟨n1, hn1⟩ : ∃ n, (A ++ (⟨s, 0, born, false, 0, ⟨#[]⟩⟩ : Bk) :: C).length = n := ⟨_, rfl⟩
        have HN1 : Hid (A.length < n1 ∧ n1 ≤ 100) := Lib.hid (by rw [← hn1]; have := HL.out; rw [hBAC] at this; simp at *; omega)
        rw [hn1] at hrf ⊢
        have h1 := hrf.1
        have hne := hrf.fresh (k := w.heap.size) (HR0.out.ne (Nat.le_refl _)) (by have := HW.out.2.1; have := hb.out.size; omega)
        have hfr : ∀ k, (Value.slice va1 n1 vc1).ownBlock = some k → k < w.heap.size ∨ w2.heap.size ≤ k := fun k e => by
          rcases hrf.2.2 with q | q
          · rw [q] at e; have := (HR0.out.lt k e).2; exact .inl this
          · exact .inr (q k e)
        obtain ⟨w4, hw4, b4, s4, h4, x0, x1, x2⟩ := ref_set HW.out HB3.out h1 hne
        have X4 := Lib.hid (And.intro b4 (And.intro s4 (And.intro h4 (And.intro x0 (And.intro x1 x2)))))
        have fin4 : Hid (∀ w', Below w4.heap.size w4 w' → (w'.cell? ⟨w.heap.size, 0, none⟩ = some (.slice va1 n1 vc1) ∧ w'.cell? ⟨w.heap.size, 1, none⟩ = some (.int .u64 nx)) ∧ (w'.cell? ⟨w.heap.size + 1, 0, none⟩ = some (.string s) ∧ w'.cell? ⟨w.heap.size + 1, 1, none⟩ = some (.int .i64 st) ∧ w'.cell? ⟨w.heap.size + 1, 2, none⟩ = some (.int .u64 (born : Int)) ∧ w'.cell? ⟨w.heap.size + 1, 3, none⟩ = some (.bool false) ∧ w'.cell? ⟨w.heap.size + 1, 4, none⟩ = some (.string ⟨#[]⟩) ∧ w'.cell? ⟨w.heap.size + 1, 5, none⟩ = some (.int .u64 (af : Int))) ∧ w'.cell? ⟨w.heap.size + 1 + 1, 0, none⟩ = some (.slice none 0 0) ∧ w'.cell? ⟨w.heap.size + 1 + 1, 1, none⟩ = some (.int .u64 0) ∧ ∀ j, w'.frozen? ⟨w.heap.size + 1 + 1, j, none⟩ = false) := Lib.hid fun w' hb' => by
          have hsz : w.heap.size + 3 ≤ w4.heap.size := by have := HW.out.2.1; have := HB3.out.size; rw [s4]; omega
          have x := (hb'.block w.heap.size (by omega)).trans x0
          have y := (hb'.block (w.heap.size + 1) (by omega)).trans x1
          have z := (hb'.block (w.heap.size + 1 + 1) (by omega)).trans x2
          exact ⟨⟨cell_lit x rfl, cell_lit x rfl⟩, ⟨cell_lit y rfl, cell_lit y rfl, cell_lit y rfl, cell_lit y rfl, cell_lit y rfl, cell_lit y rfl⟩, cell_lit z rfl, cell_lit z rfl, fun j => frozen_lit z j⟩
        have AT4 := At14_c (.slice va1 n1 vc1) nx _ s w4 h4 (by rw [hn1]; exact HN1.out.2)
        rw [atI_split (fun a ha => hnn a (by rw [hBAC]; simp [ha])) rfl] at AT4
        have HF : Hid (∀ B', B' = A ++ ⟨s, stN, born, false, af, ⟨#[]⟩⟩ :: C → RefO (some ⟨s, stN, born, false, af, ⟨#[]⟩⟩) B B') := Lib.hid fun B' e => .inr ⟨A, C, hBAC, hnn, hkA, hkC, e⟩
        have hn0 : ¬ ((A.length : Int) < 0) := by omega
        clear d0 d1 r0 r1 r2 r3 r4 r5 d5 d6 fz hrf hBAC hnn hkA hkC h1 hne hfr b4 s4 h4 x0 x1 x2 hb hm HM HNN MK2
        obtain ⟨⟨d0, d1⟩, ⟨r0, r1, r2, r3, r4, r5⟩, d5, d6, fz⟩ := fin.out w3 HB3.out
        have fz0 : ∀ j, w3.frozen? ⟨w.heap.size, j, none⟩ = false := fun j => frozen_lit ((HB3.out.block w.heap.size (by have := HW.out.2.1; omega)).trans HW.out.2.2.1) j
        obtain ⟨⟨e0, e1⟩, ⟨f0, f1, f2, f3, f4, f5⟩, e5, e6, fz4⟩ := fin4.out w4 (Below.refl _ _)
        go_wp2_with fail
        refine AT4.mono ?_
        rintro e w5 ⟨rfl, hb5⟩
        clear hw4 e0 e1 f0 f1 f2 f3 f4 f5 e5 e6 fz4 fz0
        clear d0 d1 r0 r1 r2 r3 r4 r5 d5 d6 fz AT4
        obtain ⟨⟨d0, d1⟩, ⟨r0, r1, r2, r3, r4, r5⟩, d5, d6, fz⟩ := fin4.out w5 hb5.out
        have H5 := Lib.hid (X4.out.2.2.1.below hb5.out)
        obtain ⟨g, hg, hlg, y0, y1, y2, y3, y4, y5, y6, y7⟩ := H5.out.at8
        subst hg
        have hlt : (A.length : Int) < (n1 : Int) := by have := HN1.out; omega
        have hl0 : w.heap.size + 3 ≤ w5.heap.size := by have := HW.out.2.1; have := HB3.out.size; have := X4.out.2.1; have := hb5.out.size; omega
        have hl1 : w.heap.size < w5.heap.size := by omega
        have hl2 : w.heap.size + 1 < w5.heap.size := by omega
        have hl3 : w.heap.size + 1 + 1 < w5.heap.size := by omega
        clear hl0
        go_wp2_with fail
        rw [← hst]
        refine (With14_c (.slice (some ⟨g, 0, none⟩) n1 vc1) nx A C _ ⟨s, stN, born, false, af, ⟨#[]⟩⟩ _ (H5.out.below (below_alloc _ _)) (by rw [show (A ++ (⟨s, 0, born, false, 0, ⟨#[]⟩⟩ : Bk) :: C).length = n1 from hn1]; exact HN1.out.2)).mono ?_
        rintro e w6 ⟨v', rfl, hw⟩
        obtain ⟨va', vc', rfl⟩ := hw.out.1.lit
        have HB6 := Lib.hid (hb5.out.trans (((below_alloc w5 _).trans (hw.out.2.1.mono (by simp))).mono hb5.out.size))
        have HFR := Lib.hid (fun k (e : (Value.slice va' (A ++ _ :: C).length vc').ownBlock = some k) => show w.heap.size + 3 ≤ k by have := hw.out.2.2 k e; simp at this; omega)
        clear d0 d1 r0 r1 r2 r3 r4 r5 d5 d6 fz y0 y1 y2 y3 y4 y5 y6 y7
        obtain ⟨⟨d0, d1⟩, ⟨r0, r1, r2, r3, r4, r5⟩, d5, d6, fz⟩ := fin4.out w6 HB6.out
        go_wp2_with fail
        refine bodyPost_ret (v := .tuple #[.agg #[.slice va' (A ++ (⟨s, stN, born, false, af, ⟨#[]⟩⟩ : Bk) :: C).length vc', .int .u64 nx], .int .i64 0]) ?_ rfl ⟨_, rfl, ?_⟩
        · simp [results, Tryz.results25, go_sem, d0, d1, d5, d6, fz]
        · exact Lib.hid ⟨_, rf_fink (w.heap.size + 1 + 1) (by omega) (X4.out.1.trans (HB6.out.mono X4.out.1.size)) hw.out.1 (fun e => by have := HFR.out _ e; omega) (.inr fun k e => by have := HFR.out _ e; omega) _ _, HF.out _ rfl⟩
    · obtain ⟨A, b1, C, hB, hA, hnm, hf', hi⟩ : ∃ A b C, B = A ++ b :: C ∧ (∀ a ∈ A, a.nm ≠ s) ∧ b.nm = s ∧ bAt B s = some b ∧ atI B s = (A.length : Int) := by
        rcases atI_bAt B s with ⟨x, -⟩ | x
        · rw [hf] at x; cases x
        · exact x
      have HI := Lib.hid hi
      have HBQ := Lib.hid hB
      rw [hi] at AT
      clear hR hE h hl hs h2 hri s0 s2 hf hf' hi hB MK hstN
      have hn0 : ¬ ((A.length : Int) < 0) := by omega
      have hn1 : ¬ ((A.length : Int) ≤ -1) := by omega
      have HF : Hid (∀ B', B' = A ++ ⟨s, stN, born, on, af, pre⟩ :: C → RefO (some ⟨s, stN, born, on, af, pre⟩) B B') := Lib.hid fun B' e => .inl ⟨A, b1, C, HBQ.out, hA, hnm, e⟩
      clear hA hnm
      rcases hon with rfl | ⟨rfl, rfl, p3⟩
      · have WT := Lib.hid (fun (W' : World) (h' : RB W' (.slice va B.length vc) B) => With14_c _ nx A C b1 (⟨s, stN, born, true, af, pre⟩ : Bk) W' (rb_eq HBQ.out h') (by rw [← HBQ.out]; have := HL.out; omega))
        obtain ⟨nm0, st0, born0, on0, af0, pre0⟩ := b1
        simp only
        go_enter Tryz.func25, Tryz.ntmps25
        go_wp2_with fail
        refine BC.mono ?_
        rintro e w1 ⟨rfl, rfl⟩
        clear BC
        go_wp2_with fail
        refine AT.mono ?_
        rintro e w2 ⟨rfl, hb⟩
        have AT2 := At14_c _ nx B s w2 (HR.out.below hb.out) (by have := HL.out; omega)
        rw [HI.out] at AT2
        clear d0 d1 r0 r1 r2 r3 r4 r5 d5 d6 fz AT
        obtain ⟨⟨d0, d1⟩, ⟨r0, r1, r2, r3, r4, r5⟩, d5, d6, fz⟩ := fin.out w2 hb.out
        go_wp2_with fail
        refine AT2.mono ?_
        rintro e w3 ⟨rfl, hb3⟩
        have HB3 := Lib.hid (hb.out.trans (hb3.out.mono hb.out.size))
        clear d0 d1 r0 r1 r2 r3 r4 r5 d5 d6 fz AT2
        obtain ⟨⟨d0, d1⟩, ⟨r0, r1, r2, r3, r4, r5⟩, d5, d6, fz⟩ := fin.out w3 HB3.out
        have hr3 := HR.out.below HB3.out
        obtain ⟨g, hg, hlg, y0, y1, y2, y3, y4, y5, y6, y7⟩ := at8_of hr3 HBQ.out
        have HR3 := Lib.hid hr3
        subst hg
        have hlt : (A.length : Int) < (B.length : Int) := by rw [HBQ.out, List.length_append, List.length_cons]; omega
        have hl1 : w.heap.size < w3.heap.size := by have := HW.out.2.1; have := HB3.out.size; omega
        have hl2 : w.heap.size + 1 < w3.heap.size := by have := HW.out.2.1; have := HB3.out.size; omega
        have hl3 : w.heap.size + 1 + 1 < w3.heap.size := by have := HW.out.2.1; have := HB3.out.size; omega
        clear hr3 hb hb3
        go_wp2_with fail
        rw [← hst]
        refine (WT.out _ (HR3.out.below (below_alloc _ _))).mono ?_
        rintro e w4 ⟨v', rfl, hw⟩
        obtain ⟨va', vc', rfl⟩ := hw.out.1.lit
        have HB4 := Lib.hid (HB3.out.trans (((below_alloc w3 _).trans (hw.out.2.1.mono (by simp))).mono HB3.out.size))
        have HFR := Lib.hid (fun k (e : (Value.slice va' (A ++ _ :: C).length vc').ownBlock = some k) => show W.heap.size ≤ k by have := hw.out.2.2 k e; have := HB3.out.size; simp at *; omega)
        clear d0 d1 r0 r1 r2 r3 r4 r5 d5 d6 fz y0 y1 y2 y3 y4 y5 y6 y7
        obtain ⟨⟨d0, d1⟩, ⟨r0, r1, r2, r3, r4, r5⟩, d5, d6, fz⟩ := fin.out w4 HB4.out
        go_wp2_with fail
        refine bodyPost_ret (v := .tuple #[.agg #[.slice va' (A ++ (⟨s, stN, born, true, af, pre⟩ : Bk) :: C).length vc', .int .u64 nx], .int .i64 0]) ?_ rfl ⟨_, rfl, ?_⟩
        · simp [results, Tryz.results25, go_sem, d0, d1, d5, d6, fz]
        · exact Lib.hid ⟨_, rf_fink (w.heap.size + 1 + 1) (by omega) (HW.out.1.trans (HB4.out.mono HW.out.1.size)) hw.out.1 (fun e => by have := HFR.out _ e; have := HW.out.2.1; omega) (.inr fun k e => Nat.le_trans HW.out.1.size (HFR.out k e)) _ _, HF.out _ rfl⟩
      · have WT := Lib.hid (fun (W' : World) (h' : RB W' (.slice va B.length vc) B) => With14_c _ nx A C b1 (⟨s, stN, born, false, af, ⟨#[]⟩⟩ : Bk) W' (rb_eq HBQ.out h') (by rw [← HBQ.out]; have := HL.out; omega))
        obtain ⟨nm0, st0, born0, on0, af0, pre0⟩ := b1
        simp only
        go_enter Tryz.func25, Tryz.ntmps25
        go_wp2_with fail
        refine BC.mono ?_
        rintro e w1 ⟨rfl, rfl⟩
        clear BC
        go_wp2_with fail
        refine AT.mono ?_
        rintro e w2 ⟨rfl, hb⟩
        have AT2 := At14_c _ nx B s w2 (HR.out.below hb.out) (by have := HL.out; omega)
        rw [HI.out] at AT2
        clear d0 d1 r0 r1 r2 r3 r4 r5 d5 d6 fz AT
        obtain ⟨⟨d0, d1⟩, ⟨r0, r1, r2, r3, r4, r5⟩, d5, d6, fz⟩ := fin.out w2 hb.out
        go_wp2_with fail
        refine AT2.mono ?_
        rintro e w3 ⟨rfl, hb3⟩
        have HB3 := Lib.hid (hb.out.trans (hb3.out.mono hb.out.size))
        clear d0 d1 r0 r1 r2 r3 r4 r5 d5 d6 fz AT2
        obtain ⟨⟨d0, d1⟩, ⟨r0, r1, r2, r3, r4, r5⟩, d5, d6, fz⟩ := fin.out w3 HB3.out
        have hr3 := HR.out.below HB3.out
        obtain ⟨g, hg, hlg, y0, y1, y2, y3, y4, y5, y6, y7⟩ := at8_of hr3 HBQ.out
        have HR3 := Lib.hid hr3
        subst hg
        have hlt : (A.length : Int) < (B.length : Int) := by rw [HBQ.out, List.length_append, List.length_cons]; omega
        have hl1 : w.heap.size < w3.heap.size := by have := HW.out.2.1; have := HB3.out.size; omega
        have hl2 : w.heap.size + 1 < w3.heap.size := by have := HW.out.2.1; have := HB3.out.size; omega
        have hl3 : w.heap.size + 1 + 1 < w3.heap.size := by have := HW.out.2.1; have := HB3.out.size; omega
        clear hr3 hb hb3
        go_wp2_with fail
        rw [← hst]
        refine (WT.out _ (HR3.out.below (below_alloc _ _))).mono ?_
        rintro e w4 ⟨v', rfl, hw⟩
        obtain ⟨va', vc', rfl⟩ := hw.out.1.lit
        have HB4 := Lib.hid (HB3.out.trans (((below_alloc w3 _).trans (hw.out.2.1.mono (by simp))).mono HB3.out.size))
        have HFR := Lib.hid (fun k (e : (Value.slice va' (A ++ _ :: C).length vc').ownBlock = some k) => show W.heap.size ≤ k by have := hw.out.2.2 k e; have := HB3.out.size; simp at *; omega)
        clear d0 d1 r0 r1 r2 r3 r4 r5 d5 d6 fz y0 y1 y2 y3 y4 y5 y6 y7
        obtain ⟨⟨d0, d1⟩, ⟨r0, r1, r2, r3, r4, r5⟩, d5, d6, fz⟩ := fin.out w4 HB4.out
        go_wp2_with fail
        refine bodyPost_ret (v := .tuple #[.agg #[.slice va' (A ++ (⟨s, stN, born, false, af, ⟨#[]⟩⟩ : Bk) :: C).length vc', .int .u64 nx], .int .i64 0]) ?_ rfl ⟨_, rfl, ?_⟩
        · simp [results, Tryz.results25, go_sem, d0, d1, d5, d6, fz]
        · exact Lib.hid ⟨_, rf_fink (w.heap.size + 1 + 1) (by omega) (HW.out.1.trans (HB4.out.mono HW.out.1.size)) hw.out.1 (fun e => by have := HFR.out _ e; have := HW.out.2.1; omega) (.inr fun k e => Nat.le_trans HW.out.1.size (HFR.out k e)) _ _, HF.out _ rfl⟩
  · have hR : rsR B s st born on pre af = (30, none) := by unfold rsR; rw [if_neg hE, if_neg hg]
    rw [hR]
    have hx : (st < 0) ∨ (¬ st < 0 ∧ 2 < st) ∨ (¬ st < 0 ∧ ¬ 2 < st ∧ 20 < pre.size) ∨ (¬ st < 0 ∧ ¬ 2 < st ∧ pre.size ≤ 20 ∧ on = false ∧ pre ≠ ⟨#[]⟩) ∨ (¬ st < 0 ∧ ¬ 2 < st ∧ pre.size ≤ 20 ∧ on = false ∧ pre = ⟨#[]⟩ ∧ ((af : Int) != 0) = true) := by
      by_cases p1 : st < 0
      · exact .inl p1
      by_cases p2 : 2 < st
      · exact .inr (.inl ⟨p1, p2⟩)
      by_cases h20 : pre.size ≤ 20
      · cases on with
        | true => exact absurd ⟨by omega, by omega, by simp [rightB, h20]⟩ hg
        | false =>
          by_cases hp : pre = ⟨#[]⟩
          · by_cases ha : af = 0
            · exact absurd ⟨by omega, by omega, by subst hp; subst ha; rfl⟩ hg
            · exact .inr (.inr (.inr (.inr ⟨p1, p2, h20, rfl, hp, by simp; omega⟩)))
          · exact .inr (.inr (.inr (.inl ⟨p1, p2, h20, rfl, hp⟩)))
      · exact .inr (.inr (.inl ⟨p1, p2, by omega⟩))
    clear hR hE h hl hs h2 hg AT MK
    simp only
    rcases hx with p1 | ⟨p1, p2⟩ | ⟨p1, p2, h20⟩ | ⟨p1, p2, h20, rfl, hp⟩ | ⟨p1, p2, h20, rfl, rfl, p3⟩
    · go_enter Tryz.func25, Tryz.ntmps25
      go_wp2_with fail
      refine BC.mono ?_
      rintro e w1 ⟨rfl, rfl⟩
      clear BC
      go_wp2_with fail
      refine bodyPost_ret (v := .tuple #[.agg #[.slice va B.length vc, .int .u64 nx], .int .i64 30]) ?_ rfl ⟨_, rfl, ?_⟩
      · simp [results, Tryz.results25, go_sem, d0, d1, d5, d6, fz]
      · exact Lib.hid ⟨B, rf_fink (w.heap.size + 1 + 1) (by omega) HW.out.1 HR.out (HR0.out.ne (by omega)) (.inl rfl) _ _, rfl⟩
    · go_enter Tryz.func25, Tryz.ntmps25
      go_wp2_with fail
      refine BC.mono ?_
      rintro e w1 ⟨rfl, rfl⟩
      clear BC
      go_wp2_with fail
      refine bodyPost_ret (v := .tuple #[.agg #[.slice va B.length vc, .int .u64 nx], .int .i64 30]) ?_ rfl ⟨_, rfl, ?_⟩
      · simp [results, Tryz.results25, go_sem, d0, d1, d5, d6, fz]
      · exact Lib.hid ⟨B, rf_fink (w.heap.size + 1 + 1) (by omega) HW.out.1 HR.out (HR0.out.ne (by omega)) (.inl rfl) _ _, rfl⟩
    · have h20' : ¬ pre.size ≤ 20 := by omega
      have h20i : (20 : Int) < (pre.size : Int) := by omega
      go_enter Tryz.func25, Tryz.ntmps25
      go_wp2_with fail
      refine BC.mono ?_
      rintro e w1 ⟨rfl, rfl⟩
      clear BC
      go_wp2_with fail
      refine bodyPost_ret (v := .tuple #[.agg #[.slice va B.length vc, .int .u64 nx], .int .i64 30]) ?_ rfl ⟨_, rfl, ?_⟩
      · simp [results, Tryz.results25, go_sem, d0, d1, d5, d6, fz]
      · exact Lib.hid ⟨B, rf_fink (w.heap.size + 1 + 1) (by omega) HW.out.1 HR.out (HR0.out.ne (by omega)) (.inl rfl) _ _, rfl⟩
    · have p3 := toList_ne hp
      clear hp
      go_enter Tryz.func25, Tryz.ntmps25
      go_wp2_with fail
      refine BC.mono ?_
      rintro e w1 ⟨rfl, rfl⟩
      clear BC
      go_wp2_with fail
      refine bodyPost_ret (v := .tuple #[.agg #[.slice va B.length vc, .int .u64 nx], .int .i64 30]) ?_ rfl ⟨_, rfl, ?_⟩
      · simp [results, Tryz.results25, go_sem, d0, d1, d5, d6, fz]
      · exact Lib.hid ⟨B, rf_fink (w.heap.size + 1 + 1) (by omega) HW.out.1 HR.out (HR0.out.ne (by omega)) (.inl rfl) _ _, rfl⟩
    · go_enter Tryz.func25, Tryz.ntmps25
      go_wp2_with fail
      refine BC.mono ?_
      rintro e w1 ⟨rfl, rfl⟩
      clear BC
      go_wp2_with fail
      refine bodyPost_ret (v := .tuple #[.agg #[.slice va B.length vc, .int .u64 nx], .int .i64 30]) ?_ rfl ⟨_, rfl, ?_⟩
      · simp [results, Tryz.results25, go_sem, d0, d1, d5, d6, fz]
      · exact Lib.hid ⟨B, rf_fink (w.heap.size + 1 + 1) (by omega) HW.out.1 HR.out (HR0.out.ne (by omega)) (.inl rfl) _ _, rfl⟩
theorem New14_c (w : World) : Calls Tryz.prog 12 #[] w fun e w' => e = .returned (.agg #[.slice none 0 0, .int .u64 1]) ∧ Hid (Below w.heap.size w w') := by
  have HB : ∀ o : Obj, Below w.heap.size w (w.alloc o) := fun o => (Below.refl w.heap.size w).alloc (Nat.le_refl _) o
  go_enter Tryz.func12, Tryz.ntmps12
  go_wp2_with fail
  refine bodyPost_ret (v := .agg #[.slice none 0 0, .int .u64 1]) (by simp [results, Tryz.results12, go_sem]) rfl ⟨rfl, Lib.hid (HB _)⟩
end Go.Proofs.YtaibjcjphmhgmaaGreatDoor
namespace Go.Proofs.YtaibjcjphmhgmaaGreatDoor
set_option maxRecDepth 100000
open Go.RowKit
/-- An act on a bucket: what, state, name, now, rule. -/
structure BAct where
  what : Int
  st : Int
  nm : ByteArray
  now : Nat
  on : Bool
  pre : ByteArray
  af : Nat
def BAct.cells (a : BAct) : List Value := [.int .i64 a.what, .int .i64 a.st, .string a.nm, .int .u64 a.now, .bool a.on, .string a.pre, .int .u64 a.af]
structure BAct.Fits (a : BAct) : Prop where
  st : -9223372036854775808 ≤ a.st ∧ a.st ≤ 9223372036854775807
  nm : a.nm.size ≤ maxLen
  now : a.now < 18446744073709551616
  pre : a.pre.size ≤ maxLen
  af : a.af < 18446744073709551616
theorem readsC_rule {w : World} {es : List Value} (h : ReadsC w 38 es) : ∃ (on : Bool) (p : ByteArray) (n : Nat), es = [.bool on, .string p, .int .u64 n] ∧ n < 18446744073709551616 ∧ p.size ≤ maxLen := by
  obtain ⟨hl, hf⟩ := readsC_struct Tryz.underlying38 h
  have hl : es.length = 3 := hl.trans (by kernel_rfl)
  have c0 : Tryz.prog.cellsOf 4 = 1 := by kernel_rfl
  have c1 : Tryz.prog.cellsOf 9 = 1 := by kernel_rfl
  have c2 : Tryz.prog.cellsOf 33 = 1 := by kernel_rfl
  match es, hl with
  | [a, b, c], _ =>
    have f0 : ReadsC w 4 (([a, b, c].drop 0).take (Tryz.prog.cellsOf 4)) := hf 0 _ rfl
    have f1 : ReadsC w 9 (([a, b, c].drop 1).take (Tryz.prog.cellsOf 9)) := hf 1 _ rfl
    have f2 : ReadsC w 33 (([a, b, c].drop 2).take (Tryz.prog.cellsOf 33)) := hf 2 _ rfl
    rw [c0] at f0
    rw [c1] at f1
    rw [c2] at f2
    obtain ⟨x, e0⟩ := readsC_bool Tryz.underlying4 f0
    obtain ⟨t, e1, h1⟩ := readsC_string Tryz.underlying9 f1
    obtain ⟨n, e2, h2⟩ := readsC_int Tryz.underlying33 f2
    simp at e0 e1 e2
    subst e0 e1 e2
    have := bounds_u64 h2
    obtain ⟨k, rfl⟩ : ∃ k : Nat, n = k := ⟨n.toNat, by omega⟩
    exact ⟨x, t, k, rfl, by omega, h1⟩
theorem readsC_act {w : World} {es : List Value} (h : ReadsC w 40 es) : ∃ a : BAct, es = a.cells ∧ a.Fits := by
  obtain ⟨hl, hf⟩ := readsC_struct Tryz.underlying40 h
  have hl : es.length = 7 := hl.trans (by kernel_rfl)
  have c0 : Tryz.prog.cellsOf 3 = 1 := by kernel_rfl
  have c1 : Tryz.prog.cellsOf 9 = 1 := by kernel_rfl
  have c2 : Tryz.prog.cellsOf 33 = 1 := by kernel_rfl
  have c3 : Tryz.prog.cellsOf 38 = 3 := by kernel_rfl
  match es, hl with
  | [a, b, c, d, x, y, z], _ =>
    have f0 : ReadsC w 3 (([a, b, c, d, x, y, z].drop 0).take (Tryz.prog.cellsOf 3)) := hf 0 _ rfl
    have f1 : ReadsC w 3 (([a, b, c, d, x, y, z].drop 1).take (Tryz.prog.cellsOf 3)) := hf 1 _ rfl
    have f2 : ReadsC w 9 (([a, b, c, d, x, y, z].drop 2).take (Tryz.prog.cellsOf 9)) := hf 2 _ rfl
    have f3 : ReadsC w 33 (([a, b, c, d, x, y, z].drop 3).take (Tryz.prog.cellsOf 33)) := hf 3 _ rfl
    have f4 : ReadsC w 38 (([a, b, c, d, x, y, z].drop 4).take (Tryz.prog.cellsOf 38)) := hf 4 _ rfl
    rw [c0] at f0 f1
    rw [c1] at f2
    rw [c2] at f3
    rw [c3] at f4
    obtain ⟨n0, e0, h0⟩ := readsC_int Tryz.underlying3 f0
    obtain ⟨n1, e1, h1⟩ := readsC_int Tryz.underlying3 f1
    obtain ⟨t, e2, h2⟩ := readsC_string Tryz.underlying9 f2
    obtain ⟨n3, e3, h3⟩ := readsC_int Tryz.underlying33 f3
    obtain ⟨on, p, n4, e4, h4, h5⟩ := readsC_rule f4
    simp at e0 e1 e2 e3 e4
    obtain ⟨e4, e5, e6⟩ := e4
    subst e0 e1 e2 e3 e4 e5 e6
    have := bounds_u64 h3
    have b1 := bounds_i64 h1
    obtain ⟨k, rfl⟩ : ∃ k : Nat, n3 = k := ⟨n3.toNat, by omega⟩
    exact ⟨⟨n0, n1, t, k, on, p, n4⟩, rfl, by simp only; omega, h2, by simp only; omega, h5, h4⟩
/-- The acts' cells. -/
def ActsAt (w : World) (v : Value) (l : List BAct) : Prop := ∃ a cap, v = .slice a l.length cap ∧ ∀ k, (h : k < l.length) → ∃ b off, a = some ⟨b, off, none⟩ ∧ b < w.heap.size ∧ ∀ j, j < 7 → w.cell? ⟨b, off + k * 7 + j, none⟩ = (l[k].cells)[j]?
theorem reads_acts {w : World} {v : Value} (h : Reads w 22 v) : ∃ l : List BAct, ActsAt w v l ∧ l.length ≤ maxLen ∧ ∀ a ∈ l, a.Fits := by
  have c2 : Tryz.prog.cellsOf 40 = 7 := by kernel_rfl
  obtain ⟨a, len, cap, rfl, hlc, hcm, hel⟩ := reads_slice Tryz.underlying22 (by rw [c2]; decide) h
  rw [c2] at hel
  obtain ⟨l, hl, hp⟩ := choose_list (n := len) (p := fun k (f : BAct) => (∃ b off, a = some ⟨b, off, none⟩ ∧ b < w.heap.size ∧ ∀ j, j < 7 → w.cell? ⟨b, off + k * 7 + j, none⟩ = (f.cells)[j]?) ∧ f.Fits) (fun k hk => by
    obtain ⟨b, off, es, rfl, hes, hb, hc, hr⟩ := hel k hk
    obtain ⟨f, rfl, hf⟩ := readsC_act hr
    exact ⟨f, ⟨b, off, rfl, hb, fun j hj => hc j (by rw [hes]; exact hj)⟩, hf⟩)
  subst hl
  refine ⟨l, ⟨a, cap, rfl, fun k hk => (hp k hk).1⟩, Nat.le_trans hlc hcm, ?_⟩
  intro p hp'
  obtain ⟨k, hk, rfl⟩ := List.mem_iff_getElem.1 hp'
  exact (hp k hk).2
end Go.Proofs.YtaibjcjphmhgmaaGreatDoor
namespace Go.Proofs.YtaibjcjphmhgmaaGreatDoor
set_option linter.unusedVariables false
set_option maxRecDepth 100000
set_option maxHeartbeats 4000000
open Go.RowKit
/-- A bucket, and no other one of its name. -/
def Only (B : List Bk) (b : Bk) : Prop := b ∈ B ∧ ∀ x ∈ B, x.nm = b.nm → x = b
theorem Only.at {B : List Bk} {b : Bk} (h : Only B b) : bAt B b.nm = some b := by
  cases hf : bAt B b.nm with
  | none => exact absurd rfl (bAt_none hf b h.1)
  | some x =>
    obtain ⟨h1, h2⟩ := bAt_some hf
    rw [h.2 x h1 h2]
theorem Only.put {B B' : List Bk} {b x : Bk} (h : Only B b) (hx : PutB x B B') (hn : x.nm ≠ b.nm) : Only B' b := by
  refine ⟨hx.other h.1 fun e => hn e.symm, fun y hy e => ?_⟩
  obtain ⟨A, C, rfl, h', -, -⟩ := hx
  simp only [List.mem_append, List.mem_cons] at hy
  rcases hy with hy | rfl | hy
  · refine h.2 y ?_ e
    rcases h' with rfl | ⟨b0, -, rfl⟩ <;> simp [hy]
  · exact absurd e hn
  · refine h.2 y ?_ e
    rcases h' with rfl | ⟨b0, -, rfl⟩ <;> simp [hy]
theorem Only.del {B B' : List Bk} {b : Bk} {s : ByteArray} (h : Only B b) (hx : DelB s B B') (hn : s ≠ b.nm) : Only B' b := by
  refine ⟨hx.other h.1 fun e => hn e.symm, fun y hy e => ?_⟩
  obtain ⟨A, C, b0, h0, rfl, rfl⟩ := hx
  refine h.2 y ?_ e
  simp only [List.mem_append, List.mem_cons] at hy ⊢
  exact hy.imp id .inr
/-- What the law keeps. -/
def ApS (w0 w : World) (rb i : Nat) (b : Bk) : Prop := ∃ B, BSt w0 w (fun _ => False) rb 30000 (i + 1) B ∧ Only B b
theorem ApS.put {w0 w w' : World} {rb i : Nat} {b : Bk} {B : List Bk} {o : Option Bk} (h : BEnd w0 w (fun _ => False) rb 30000 (i + 1) B w' o) (hO : Only B b) (hn : ∀ x, o = some x → x.nm ≠ b.nm) : ApS w0 w' rb (i + 1) b := by
  obtain ⟨B', ⟨g1, -⟩, g2⟩ := h
  refine ⟨B', g1, ?_⟩
  cases o with
  | none => have : B' = B := g2; rw [this]; exact hO
  | some x => exact hO.put g2 (hn x rfl)
section
variable {w0 W : World} {rb i : Nat} {b : Bk}
theorem ApS.more {W' : World} (h : ApS w0 W rb i b) (hb : Below W.heap.size W W') : ApS w0 W' rb (i + 1) b := by
  obtain ⟨B, h1, h2⟩ := h
  exact ⟨B, (h1.below hb).more (by omega), h2⟩
theorem ApS.below {W' : World} (h : ApS w0 W rb i b) (hb : Below W.heap.size W W') : ApS w0 W' rb i b := by
  obtain ⟨B, h1, h2⟩ := h
  exact ⟨B, h1.below hb, h2⟩
theorem ApS.bel (h : ApS w0 W rb i b) : Below w0.heap.size w0 W := by
  obtain ⟨B, h1, h2⟩ := h
  exact h1.bel
end
end Go.Proofs.YtaibjcjphmhgmaaGreatDoor
namespace Go.Proofs.YtaibjcjphmhgmaaGreatDoor
set_option linter.unusedVariables false
set_option maxRecDepth 100000
set_option maxHeartbeats 2000000
open Go.RowKit
/-- Buckets in the order of their names. -/
def BSrt (B : List Bk) : Prop := B.Pairwise fun a b => kless a.nm b.nm = true
theorem BRel.srt {E : List (ByteArray × ByteArray)} {B : List Bk} (h : BRel E B) (hs : Srt E) : BSrt B := by
  obtain ⟨rfl, hok⟩ := h
  have h1 : B.Pairwise fun a b => kless (encB a).1 (encB b).1 = true := List.pairwise_map.1 hs
  refine h1.imp_of_mem fun ha hb hk => ?_
  rw [← bkey_less (hok _ ha).nm (hok _ hb).nm]; exact hk
theorem BSt.srt {w1 w : World} {K : Nat → Prop} {rb n a : Nat} {B : List Bk} (h : BSt w1 w K rb n a B) : BSrt B := by
  obtain ⟨S, o, -, h2, -, -, h5, -⟩ := h
  exact h5.srt (srt_o h2)
theorem BSrt.before {A C : List Bk} {b : Bk} (h : BSrt (A ++ b :: C)) : ∀ a ∈ A, a.nm ≠ b.nm := fun a ha => kless_ne ((List.pairwise_append.1 h).2.2 a ha b (by simp))
theorem RefD.eq {s : ByteArray} {B B1 B2 : List Bk} (hs : BSrt B) (h : (errB B s = 0 ∧ DelB s B B1) ∨ (errB B s ≠ 0 ∧ B1 = B)) (g : RefD s B B2) : B2 = B1 := by
  rcases h with ⟨h0, A', C', b', hb', e', rfl⟩ | ⟨h0, rfl⟩
  · rcases g with ⟨-, A, C, b, e, hA, hb, rfl⟩ | ⟨g0, -⟩
    · have hA' : ∀ a ∈ A', a.nm ≠ s := by
        rw [e'] at hs
        intro a ha; rw [← hb']; exact hs.before a ha
      rw [e'] at e
      have hl : A'.length = A.length := by
        rcases Nat.lt_trichotomy A'.length A.length with hlt | he | hlt
        · exfalso
          have h1 : (A ++ b :: C)[A'.length]? = some b' := by rw [← e]; simp
          rw [List.getElem?_append_left hlt] at h1
          exact hA b' (List.mem_of_getElem? h1) hb'
        · exact he
        · exfalso
          have h1 : (A' ++ b' :: C')[A.length]? = some b := by rw [e]; simp
          rw [List.getElem?_append_left hlt] at h1
          exact hA' b (List.mem_of_getElem? h1) hb
      obtain ⟨rfl, e2⟩ := app_len_eq e hl
      rw [(List.cons.inj e2).2]
    · exact absurd h0 g0
  · rcases g with ⟨g0, -⟩ | ⟨-, g⟩
    · exact absurd g0 h0
    · exact g
/-- A round's state: the program's buckets BP, the reference m (v, B), the next one (vn, Bn), the act. -/
structure LR (w0 w : World) (rb a pm pb pn : Nat) (x : Array Value) (v vn : Value) (BP B Bn : List Bk) : Prop where
  bst : BSt w0 w (fun k => k = pm ∨ k = pb ∨ k = pn ∨ v.ownBlock = some k ∨ vn.ownBlock = some k) rb 30000 a BP
  m : w.heap[pm]? = some (.cells #[v, .int .u64 1] 35 (0, 0))
  b : w.heap[pb]? = some (.cells x 40 (0, 0))
  nx : w.heap[pn]? = some (.cells #[vn, .int .u64 1] 35 (0, 0))
  rv : RB w v B
  rn : RB w vn Bn
  lo : w0.heap.size ≤ pm ∧ w0.heap.size ≤ pb ∧ w0.heap.size ≤ pn
  ap : pm ≠ pb ∧ pm ≠ pn ∧ pb ≠ pn
  fr : v.ownBlock ≠ some pm ∧ v.ownBlock ≠ some pb ∧ v.ownBlock ≠ some pn ∧ vn.ownBlock ≠ some pm ∧ vn.ownBlock ≠ some pb ∧ vn.ownBlock ≠ some pn
section
variable {w0 w w' : World} {rb a pm pb pn : Nat} {x : Array Value} {v vn : Value} {BP B Bn : List Bk}
theorem RB.kept {K : Nat → Prop} (h : RB w v B) (hk : Kept K w w') (hv : ∀ k, v.ownBlock = some k → K k) : RB w' v B := ownsRow_of2 h fun k e => hk k (hv k e)
/-- .. behind a call of the program. -/
theorem LR.prog {a' : Nat} {BP' : List Bk} (h : LR w0 w rb a pm pb pn x v vn BP B Bn) (g : BSt w0 w' (fun k => k = pm ∨ k = pb ∨ k = pn ∨ v.ownBlock = some k ∨ vn.ownBlock = some k) rb 30000 a' BP') (hk : Kept (fun k => k = pm ∨ k = pb ∨ k = pn ∨ v.ownBlock = some k ∨ vn.ownBlock = some k) w w') : LR w0 w' rb a' pm pb pn x v vn BP' B Bn :=
  ⟨g, (hk pm (.inl rfl)).trans h.m, (hk pb (.inr (.inl rfl))).trans h.b, (hk pn (.inr (.inr (.inl rfl)))).trans h.nx, h.rv.kept hk fun k e => .inr (.inr (.inr (.inl e))), h.rn.kept hk fun k e => .inr (.inr (.inr (.inr e))), h.lo, h.ap, h.fr⟩
theorem LR.below (h : LR w0 w rb a pm pb pn x v vn BP B Bn) (hb : Below w.heap.size w w') : LR w0 w' rb a pm pb pn x v vn BP B Bn := h.prog (h.bst.below hb) (h.bst.keep hb)
/-- .. behind a call of the reference, its answer put into next. -/
theorem LR.ref {vn' : Value} {B' : List Bk} (h : LR w0 w rb a pm pb pn x v vn BP B Bn) (g : RfEnd w w' v vn' B') : LR w0 ((w'.setCell ⟨pn, 0, none⟩ vn').setCell ⟨pn, 1, none⟩ (.int .u64 1)) rb a pm pb pn x v vn' BP B B' := by
  have h1 := h.below g.2.1
  have hne : ∀ p, p < w.heap.size → v.ownBlock ≠ some p → vn'.ownBlock ≠ some p := fun p hp hv => g.fresh hv hp
  have lm := lt_of_heap h.m
  have lb := lt_of_heap h.b
  have ln := lt_of_heap h.nx
  have K2 := (h.bst.belowK g.2.1).1
  have K3 : BSt w0 w' (fun k => k = pm ∨ k = pb ∨ k = pn ∨ v.ownBlock = some k ∨ vn'.ownBlock = some k) rb 30000 a BP := K2.mono fun k hk => by
    rcases hk with e | e | e | e | e
    · exact .inl (.inl e)
    · exact .inl (.inr (.inl e))
    · exact .inl (.inr (.inr (.inl e)))
    · exact .inl (.inr (.inr (.inr (.inl e))))
    · rcases g.2.2 with rfl | q
      · exact .inl (.inr (.inr (.inr (.inl e))))
      · exact .inr ⟨q k e, (g.1.lt k e).2⟩
  have fm := hne pm lm h.fr.1
  have fb := hne pb lb h.fr.2.1
  have fn := hne pn ln h.fr.2.2.1
  exact ⟨(K3.set (.inr (.inr (.inl rfl))) h.lo.2.2 _ _).set (.inr (.inr (.inl rfl))) h.lo.2.2 _ _,
    (heap_set_ne _ h.ap.2.1).trans ((heap_set_ne _ h.ap.2.1).trans h1.m),
    (heap_set_ne _ h.ap.2.2).trans ((heap_set_ne _ h.ap.2.2).trans h1.b),
    heap_set_lit (heap_set_lit h1.nx vn') _,
    row_ne (row_ne h1.rv 0 _ h.fr.2.2.1) 1 _ h.fr.2.2.1,
    row_ne (row_ne g.1 0 _ fn) 1 _ fn, h.lo, h.ap, h.fr.1, h.fr.2.1, h.fr.2.2.1, fm, fb, fn⟩
end
end Go.Proofs.YtaibjcjphmhgmaaGreatDoor
namespace Go.Proofs.YtaibjcjphmhgmaaGreatDoor
set_option linter.unusedVariables false
set_option maxRecDepth 100000
set_option maxHeartbeats 2000000
open Go.RowKit
/-- What the law's loop keeps. -/
structure LS (w0 w : World) (rb a pm : Nat) (v : Value) (B : List Bk) : Prop where
  bst : BSt w0 w (fun k => k = pm ∨ v.ownBlock = some k) rb 30000 a B
  m : w.heap[pm]? = some (.cells #[v, .int .u64 1] 35 (0, 0))
  rv : RB w v B
  lo : w0.heap.size ≤ pm
  ne : v.ownBlock ≠ some pm
section
variable {w0 w w' : World} {rb a pm pb pn : Nat} {x : Array Value} {v vn : Value} {BP B Bn : List Bk}
theorem LS.below (h : LS w0 w rb a pm v B) (hb : Below w.heap.size w w') : LS w0 w' rb a pm v B :=
  ⟨h.bst.below hb, (hb.block pm (lt_of_heap h.m)).trans h.m, h.rv.below hb, h.lo, h.ne⟩
theorem LS.more {a' : Nat} (h : LS w0 w rb a pm v B) (ha : a ≤ a') : LS w0 w rb a' pm v B := ⟨h.bst.more ha, h.m, h.rv, h.lo, h.ne⟩
theorem LS.start (h : LS w0 w rb a pm v B) (o : Array Value) : LR w0 ((w.alloc (.cells o 40)).alloc (.cells #[v, .int .u64 1] 35)) rb a pm w.heap.size (w.heap.size + 1) o v v B B B := by
  have hb : Below w.heap.size w ((w.alloc (.cells o 40)).alloc (.cells #[v, .int .u64 1] 35)) := (below_alloc w _).trans ((below_alloc _ _).mono (by simp))
  have lm := lt_of_heap h.m
  have l0 := h.bst.bel.size
  have lv : ∀ k, v.ownBlock = some k → k < w.heap.size := fun k e => (h.rv.lt k e).2
  have K2 := (h.bst.belowK hb).1
  refine ⟨K2.mono fun k hk => ?_, (hb.block pm lm).trans h.m, ?_, ?_, h.rv.below hb, h.rv.below hb, ⟨h.lo, l0, by omega⟩, ⟨by omega, by omega, by omega⟩, ⟨h.ne, fun e => by have := lv _ e; omega, fun e => by have := lv _ e; omega, h.ne, fun e => by have := lv _ e; omega, fun e => by have := lv _ e; omega⟩⟩
  · rcases hk with e | e | e | e | e
    · exact .inl (.inl e)
    · exact .inr (by simp; omega)
    · exact .inr (by simp; omega)
    · exact .inl (.inr e)
    · exact .inl (.inr e)
  · rw [heap_alloc_lt _ (by simp), heap_alloc_new]
  · have := heap_alloc_new (w.alloc (.cells o 40)) (.cells #[v, .int .u64 1] 35)
    simpa using this
/-- m put again. -/
theorem LS.put (h : LS w0 w rb a pm v B) : LS w0 ((w.setCell ⟨pm, 0, none⟩ v).setCell ⟨pm, 1, none⟩ (.int .u64 1)) rb a pm v B :=
  ⟨(h.bst.set (.inl rfl) h.lo _ _).set (.inl rfl) h.lo _ _, heap_set_lit (heap_set_lit h.m v) _, row_ne (row_ne h.rv 0 _ h.ne) 1 _ h.ne, h.lo, h.ne⟩
theorem LR.more {a' : Nat} (h : LR w0 w rb a pm pb pn x v vn BP B Bn) (ha : a ≤ a') : LR w0 w rb a' pm pb pn x v vn BP B Bn :=
  ⟨h.bst.more ha, h.m, h.b, h.nx, h.rv, h.rn, h.lo, h.ap, h.fr⟩
/-- next becomes m. -/
theorem LR.fin (h : LR w0 w rb a pm pb pn x v vn BP B BP) : LS w0 ((w.setCell ⟨pm, 0, none⟩ vn).setCell ⟨pm, 1, none⟩ (.int .u64 1)) rb a pm vn BP :=
  ⟨((h.bst.set (.inl rfl) h.lo.1 _ _).set (.inl rfl) h.lo.1 _ _).mono (fun k hk => by
      rcases hk with e | e
      · exact .inl e
      · exact .inr (.inr (.inr (.inr e)))),
    heap_set_lit (heap_set_lit h.m vn) _, row_ne (row_ne h.rn 0 _ h.fr.2.2.2.1) 1 _ h.fr.2.2.2.1, h.lo.1, h.fr.2.2.2.1⟩
/-- Behind both calls. -/
theorem LR.both {v' : Value} {B' : List Bk} {o : Option Bk} (h : LR w0 w rb a pm pb pn x v v BP B B) (hp : PutO o B BP) (g : RfEnd w w' v v' B') (hr : RefO o B B') :
    LR w0 ((w'.setCell ⟨pn, 0, none⟩ v').setCell ⟨pn, 1, none⟩ (.int .u64 1)) rb a pm pb pn x v v' BP B BP := by
  have e : B' = BP := RefO.eq hp hr
  subst e
  exact h.ref g
theorem LR.bothD {v' : Value} {B' : List Bk} {s : ByteArray} (h : LR w0 w rb a pm pb pn x v v BP B B) (hs : BSrt B) (hp : (errB B s = 0 ∧ DelB s B BP) ∨ (errB B s ≠ 0 ∧ BP = B)) (g : RfEnd w w' v v' B') (hr : RefD s B B') :
    LR w0 ((w'.setCell ⟨pn, 0, none⟩ v').setCell ⟨pn, 1, none⟩ (.int .u64 1)) rb a pm pb pn x v v' BP B BP := by
  have e : B' = BP := RefD.eq hs hp hr
  subst e
  exact h.ref g
theorem LR.cells {what st : Int} {nm pre : ByteArray} {now af : Nat} {on : Bool} (h : LR w0 w rb a pm pb pn #[.int .i64 what, .int .i64 st, .string nm, .int .u64 (now : Int), .bool on, .string pre, .int .u64 (af : Int)] v vn BP B Bn) :
    (w.cell? ⟨pm, 0, none⟩ = some v ∧ w.cell? ⟨pm, 1, none⟩ = some (.int .u64 1) ∧ ∀ j, w.frozen? ⟨pm, j, none⟩ = false) ∧
    (w.cell? ⟨pb, 0, none⟩ = some (.int .i64 what) ∧ w.cell? ⟨pb, 1, none⟩ = some (.int .i64 st) ∧ w.cell? ⟨pb, 2, none⟩ = some (.string nm) ∧ w.cell? ⟨pb, 3, none⟩ = some (.int .u64 (now : Int)) ∧ w.cell? ⟨pb, 4, none⟩ = some (.bool on) ∧ w.cell? ⟨pb, 5, none⟩ = some (.string pre) ∧ w.cell? ⟨pb, 6, none⟩ = some (.int .u64 (af : Int))) ∧
    (w.cell? ⟨pn, 0, none⟩ = some vn ∧ w.cell? ⟨pn, 1, none⟩ = some (.int .u64 1) ∧ ∀ j, w.frozen? ⟨pn, j, none⟩ = false) ∧ pm < w.heap.size ∧ pb < w.heap.size ∧ pn < w.heap.size :=
  ⟨⟨cell_lit h.m rfl, cell_lit h.m rfl, fun j => frozen_lit h.m j⟩, ⟨cell_lit h.b rfl, cell_lit h.b rfl, cell_lit h.b rfl, cell_lit h.b rfl, cell_lit h.b rfl, cell_lit h.b rfl, cell_lit h.b rfl⟩, ⟨cell_lit h.nx rfl, cell_lit h.nx rfl, fun j => frozen_lit h.nx j⟩, lt_of_heap h.m, lt_of_heap h.b, lt_of_heap h.nx⟩
theorem LR.len (h : LR w0 w rb a pm pb pn x v v B B B) : B.length ≤ a := h.bst.len
theorem lr_end {o : Option Bk} (h : LR w0 w rb a pm pb pn x v v B B B) (g : BEnd w0 w (fun k => k = pm ∨ k = pb ∨ k = pn ∨ v.ownBlock = some k ∨ v.ownBlock = some k) rb 30000 a B w' o) : ∃ BP, LR w0 w' rb (a + 1) pm pb pn x v v BP B B ∧ PutO o B BP := by
  obtain ⟨BP, ⟨g1, g2⟩, g3⟩ := g
  exact ⟨BP, (h.more (Nat.le_succ a)).prog g1 g2, g3⟩
theorem lr_make (s : ByteArray) (now : Nat) (hnow : now < 18446744073709551616) (h : Hid (LR w0 w rb a pm pb pn x v v B B B)) (ha : a ≤ 60) (hs : s.size ≤ 100) :
    Calls Tryz.prog 13 #[.pointer (some ⟨rb, 0, none⟩), .string s, .int .u64 (now : Int)] w fun e w' => e = .returned (.int .i64 ((mkR B s now).1 : Int)) ∧ Hid (∃ BP, LR w0 w' rb (a + 1) pm pb pn x v v BP B B ∧ PutO (mkR B s now).2 B BP) := by
  refine (Make_c w0 w _ rb 30000 a B s now h.out.bst (by omega) (by omega) hnow).mono ?_
  rintro e w' ⟨rfl, hE⟩
  exact ⟨rfl, Lib.hid (lr_end h.out hE.out)⟩
theorem lr_state (s : ByteArray) (st : Int) (h : Hid (LR w0 w rb a pm pb pn x v v B B B)) (ha : a ≤ 60) (hs : s.size ≤ 100) :
    Calls Tryz.prog 18 #[.pointer (some ⟨rb, 0, none⟩), .string s, .int .i64 st] w fun e w' => e = .returned (.int .i64 ((stR B s st).1 : Int)) ∧ Hid (∃ BP, LR w0 w' rb (a + 1) pm pb pn x v v BP B B ∧ PutO (stR B s st).2 B BP) := by
  refine (SetState_c w0 w _ rb 30000 a B s st h.out.bst (by omega) (by omega)).mono ?_
  rintro e w' ⟨rfl, hE⟩
  exact ⟨rfl, Lib.hid (lr_end h.out hE.out)⟩
theorem lr_rule (s : ByteArray) (on : Bool) (pre : ByteArray) (af : Nat) (haf : af < 18446744073709551616) (h : Hid (LR w0 w rb a pm pb pn x v v B B B)) (ha : a ≤ 60) (hs : s.size ≤ 100) :
    Calls Tryz.prog 20 #[.pointer (some ⟨rb, 0, none⟩), .string s, .agg #[.bool on, .string pre, .int .u64 (af : Int)]] w fun e w' => e = .returned (.int .i64 ((srR B s on pre af).1 : Int)) ∧ Hid (∃ BP, LR w0 w' rb (a + 1) pm pb pn x v v BP B B ∧ PutO (srR B s on pre af).2 B BP) := by
  refine (SetRule_c w0 w _ rb 30000 a B s on pre af h.out.bst (by omega) (by omega) haf).mono ?_
  rintro e w' ⟨rfl, hE⟩
  exact ⟨rfl, Lib.hid (lr_end h.out hE.out)⟩
theorem lr_restoreQ (s : ByteArray) (st : Int) (born : Nat) (on : Bool) (pre : ByteArray) (af : Nat) (hb : born < 18446744073709551616) (haf : af < 18446744073709551616) (h : Hid (LR w0 w rb a pm pb pn x v v B B B)) (ha : a ≤ 60) (hs : s.size ≤ 100) (o : Array Value) (t : TypeId) (q : Nat) (hq : w.heap.size = q) :
    Calls Tryz.prog 24 #[.pointer (some ⟨rb, 0, none⟩), .agg #[.string s, .int .i64 st, .int .u64 (born : Int), .bool on, .string pre, .int .u64 (af : Int)]] (w.alloc (.cells o t)) fun e w' => e = .returned (.int .i64 ((rsR B s st born on pre af).1 : Int)) ∧ Hid (∃ BP, LR w0 w' rb (a + 1) pm pb pn x v v BP B B ∧ PutO (rsR B s st born on pre af).2 B BP ∧ w'.heap[q]? = some (.cells o t (0, 0))) := by
  subst hq
  have hbl := below_alloc w (.cells o t)
  refine (Restore_c w0 (w.alloc (.cells o t)) _ rb 30000 a B s st born on pre af (h.out.bst.new hbl w.heap.size (Nat.le_refl _) (by simp)) (by omega) (by omega) hb haf).mono ?_
  rintro e w' ⟨rfl, hE⟩
  obtain ⟨BP, ⟨g1, g2⟩, g3⟩ := hE.out
  exact ⟨rfl, Lib.hid ⟨BP, ((h.out.below hbl).more (Nat.le_succ a)).prog (g1.mono fun k hk => .inl hk) (g2.mono fun k hk => .inl hk), g3, (g2 w.heap.size (.inr rfl)).trans (heap_alloc_new _ _)⟩⟩
theorem lr_drop (s : ByteArray) (h : Hid (LR w0 w rb a pm pb pn x v v B B B)) (ha : a ≤ 60) (hs : s.size ≤ 100) :
    Calls Tryz.prog 22 #[.pointer (some ⟨rb, 0, none⟩), .string s] w fun e w' => e = .returned (.int .i64 (errB B s : Int)) ∧ Hid (∃ BP, LR w0 w' rb (a + 1) pm pb pn x v v BP B B ∧ BSrt B ∧ ((errB B s = 0 ∧ DelB s B BP) ∨ (errB B s ≠ 0 ∧ BP = B))) := by
  refine (Drop_c w0 w _ rb 30000 a B s h.out.bst (by omega) (by omega)).mono ?_
  rintro e w' ⟨rfl, hE⟩
  obtain ⟨BP, ⟨g1, g2⟩, g3⟩ := hE.out
  exact ⟨rfl, Lib.hid ⟨BP, (h.out.more (Nat.le_succ a)).prog g1 g2, h.out.bst.srt, g3⟩⟩
theorem lr_empty (s : ByteArray) (h : Hid (LR w0 w rb a pm pb pn x v v B B B)) (ha : a ≤ 60) (hs : s.size ≤ 100) :
    Calls Tryz.prog 26 #[.pointer (some ⟨rb, 0, none⟩), .string s] w fun e w' => e = .returned (.tuple #[.bool (decide (errB B s = 0)), .int .i64 (errB B s : Int)]) ∧ Hid (LR w0 w' rb a pm pb pn x v v B B B) := by
  refine (Empty_c w0 w _ rb 30000 a B s h.out.bst (by omega) (by omega)).mono ?_
  rintro e w' ⟨rfl, hE⟩
  exact ⟨rfl, Lib.hid (h.out.prog hE.out.1 hE.out.2)⟩
end
end Go.Proofs.YtaibjcjphmhgmaaGreatDoor
namespace Go.Proofs.YtaibjcjphmhgmaaGreatDoor
set_option linter.unusedVariables false
set_option maxRecDepth 100000
set_option maxHeartbeats 2000000
open Go.RowKit
section
variable {w0 w w' : World} {rb a pm pb pn q : Nat} {x : Array Value} {v : Value} {B : List Bk} {o : Array Value}
/-- A round's state, and the block of what was got. -/
structure LQ (w0 w : World) (rb a pm pb pn q : Nat) (x : Array Value) (v : Value) (B : List Bk) (o : Array Value) : Prop where
  lr : LR w0 w rb a pm pb pn x v v B B B
  bq : BSt w0 w (fun k => (k = pm ∨ k = pb ∨ k = pn ∨ v.ownBlock = some k ∨ v.ownBlock = some k) ∨ k = q) rb 30000 a B
  hq : w.heap[q]? = some (.cells o 46 (0, 0))
  lo : w0.heap.size ≤ q
  ne : pm ≠ q ∧ pb ≠ q ∧ pn ≠ q ∧ v.ownBlock ≠ some q
theorem LQ.below (h : LQ w0 w rb a pm pb pn q x v B o) (hb : Below w.heap.size w w') : LQ w0 w' rb a pm pb pn q x v B o :=
  ⟨h.lr.below hb, h.bq.below hb, (hb.block q (lt_of_heap h.hq)).trans h.hq, h.lo, h.ne⟩
theorem LQ.set (h : LQ w0 w rb a pm pb pn q x v B o) (i : Nat) (u : Value) : LQ w0 (w.setCell ⟨q, i, none⟩ u) rb a pm pb pn q x v B (o.setIfInBounds i u) := by
  have hbq := h.bq.set (.inr rfl) h.lo i u
  have hr := row_ne h.lr.rv i u h.ne.2.2.2
  exact ⟨⟨hbq.mono fun k hk => .inl hk, (heap_set_ne u h.ne.1).trans h.lr.m, (heap_set_ne u h.ne.2.1).trans h.lr.b, (heap_set_ne u h.ne.2.2.1).trans h.lr.nx, hr, hr, h.lr.lo, h.lr.ap, h.lr.fr⟩, hbq, heap_set_lit h.hq u, h.lo, h.ne⟩
theorem LQ.new (h : LR w0 w rb a pm pb pn x v v B B B) (o : Array Value) : LQ w0 (w.alloc (.cells o 46)) rb a pm pb pn w.heap.size x v B o := by
  have hbl := below_alloc w (.cells o 46)
  have l1 := lt_of_heap h.m
  have l2 := lt_of_heap h.b
  have l3 := lt_of_heap h.nx
  exact ⟨h.below hbl, h.bst.new hbl w.heap.size (Nat.le_refl _) (by simp), heap_alloc_new _ _, h.bst.bel.size, Nat.ne_of_lt l1, Nat.ne_of_lt l2, Nat.ne_of_lt l3, fun e => Nat.lt_irrefl _ (h.rv.lt _ e).2⟩
theorem LQ.prog (h : LQ w0 w rb a pm pb pn q x v B o) (g1 : BSt w0 w' (fun k => (k = pm ∨ k = pb ∨ k = pn ∨ v.ownBlock = some k ∨ v.ownBlock = some k) ∨ k = q) rb 30000 a B) (g2 : Kept (fun k => (k = pm ∨ k = pb ∨ k = pn ∨ v.ownBlock = some k ∨ v.ownBlock = some k) ∨ k = q) w w') : LQ w0 w' rb a pm pb pn q x v B o :=
  ⟨h.lr.prog (g1.mono fun k hk => .inl hk) fun k hk => g2 k (.inl hk), g1, (g2 q (.inr rfl)).trans h.hq, h.lo, h.ne⟩
theorem lq_find_err (s : ByteArray) (h : Hid (LR w0 w rb a pm pb pn x v v B B B)) (ha : a ≤ 60) (hs : s.size ≤ 100) (hE : errB B s = 28 ∨ errB B s = 20) (o : Array Value) (q : Nat) (hq : w.heap.size = q) :
    Calls Tryz.prog 15 #[.pointer (some ⟨rb, 0, none⟩), .string s] (w.alloc (.cells o 46)) fun e w' => e = .returned (.tuple #[.agg #[.string ⟨#[]⟩, .int .i64 0, .int .u64 0, .bool false, .string ⟨#[]⟩, .int .u64 0], .int .i64 (errB B s : Int)]) ∧ Hid (LQ w0 w' rb a pm pb pn q x v B o) := by
  subst hq
  have hl := LQ.new h.out o
  refine (find_err w0 (w.alloc (.cells o 46)) _ rb 30000 a B s hl.bq (by omega) (by omega) hE).mono ?_
  rintro e w' ⟨rfl, hE⟩
  exact ⟨rfl, Lib.hid (hl.prog hE.out.1 hE.out.2)⟩
theorem lq_find_ok (s : ByteArray) (b : Bk) (h : Hid (LR w0 w rb a pm pb pn x v v B B B)) (ha : a ≤ 60) (hs : s.size ≤ 100) (hn : bktB s.data.toList = true) (hf : bAt B s = some b) (o : Array Value) (q : Nat) (hq : w.heap.size = q) :
    Calls Tryz.prog 15 #[.pointer (some ⟨rb, 0, none⟩), .string s] (w.alloc (.cells o 46)) fun e w' => e = .returned (.tuple #[.agg #[.string b.nm, .int .i64 (b.st : Int), .int .u64 (b.born : Int), .bool b.on, .string b.pre, .int .u64 (b.af : Int)], .int .i64 0]) ∧ Hid (LQ w0 w' rb a pm pb pn q x v B o) := by
  subst hq
  have hl := LQ.new h.out o
  refine (find_ok w0 (w.alloc (.cells o 46)) _ rb 30000 a B s hl.bq (by omega) (by omega) b hn hf).mono ?_
  rintro e w' ⟨rfl, hE⟩
  exact ⟨rfl, Lib.hid (hl.prog hE.out.1 hE.out.2)⟩
/-- Where a name is. -/
theorem atI_of {B : List Bk} {s : ByteArray} {b : Bk} (h : bAt B s = some b) : ∃ i, ∃ h : i < B.length, B[i] = b ∧ atI B s = (i : Int) := by
  unfold bAt at h
  obtain ⟨hb, A, C, rfl, hA⟩ := List.find?_eq_some_iff_append.1 h
  refine ⟨A.length, by simp, by simp, atI_split (fun a ha => ?_) (by simpa using hb)⟩
  have := hA a ha
  simpa using this
/-- The cells that a comparison reads. -/
theorem LQ.cells {what st : Int} {nm pre : ByteArray} {now af : Nat} {on : Bool} {va : Option Addr} {n vc : Nat} {o0 o1 o2 o3 o4 o5 : Value} (h : LQ w0 w rb a pm pb pn q #[.int .i64 what, .int .i64 st, .string nm, .int .u64 (now : Int), .bool on, .string pre, .int .u64 (af : Int)] (.slice va n vc) B #[o0, o1, o2, o3, o4, o5]) (i g : Nat) (hi : i < B.length) (hg : va = some ⟨g, 0, none⟩) :
    w.cell? ⟨pm, 0, none⟩ = some (.slice va n vc) ∧ w.cell? ⟨pm, 1, none⟩ = some (.int .u64 1) ∧ w.cell? ⟨pb, 2, none⟩ = some (.string nm) ∧
    w.cell? ⟨q, 0, none⟩ = some o0 ∧ w.cell? ⟨q, 1, none⟩ = some o1 ∧ w.cell? ⟨q, 2, none⟩ = some o2 ∧ w.cell? ⟨q, 3, none⟩ = some o3 ∧ w.cell? ⟨q, 4, none⟩ = some o4 ∧ w.cell? ⟨q, 5, none⟩ = some o5 ∧
    w.cell? ⟨g, i * 8, none⟩ = some (.string B[i].nm) ∧ w.cell? ⟨g, i * 8 + 1, none⟩ = some (.int .i64 (B[i].st : Int)) ∧ w.cell? ⟨g, i * 8 + 2, none⟩ = some (.int .u64 (B[i].born : Int)) ∧ w.cell? ⟨g, i * 8 + 3, none⟩ = some (.bool B[i].on) ∧ w.cell? ⟨g, i * 8 + 4, none⟩ = some (.string B[i].pre) ∧ w.cell? ⟨g, i * 8 + 5, none⟩ = some (.int .u64 (B[i].af : Int)) := by
  obtain ⟨va', vc', e⟩ := h.lr.rv.lit
  cases e
  obtain ⟨g', e, hgl, hc⟩ := RB.at h.lr.rv i hi
  rw [hg] at e; cases e
  exact ⟨cell_lit h.lr.m rfl, cell_lit h.lr.m rfl, cell_lit h.lr.b rfl, cell_lit h.hq rfl, cell_lit h.hq rfl, cell_lit h.hq rfl, cell_lit h.hq rfl, cell_lit h.hq rfl, cell_lit h.hq rfl, hc 0 (by decide), hc 1 (by decide), hc 2 (by decide), hc 3 (by decide), hc 4 (by decide), hc 5 (by decide)⟩
end
end Go.Proofs.YtaibjcjphmhgmaaGreatDoor
namespace Go.Proofs.YtaibjcjphmhgmaaGreatDoor
set_option linter.unusedVariables false
set_option maxRecDepth 100000
set_option maxHeartbeats 2000000
open Go.RowKit
theorem bAt_get {B : List Bk} (h : BSrt B) (j : Nat) (hj : j < B.length) : bAt B B[j].nm = some B[j] := by
  unfold bAt
  rw [List.find?_eq_some_iff_append]
  refine ⟨by simp, B.take j, B.drop (j + 1), (take_get_drop B j hj).symm, fun a ha => ?_⟩
  have hs : BSrt (B.take j ++ B[j] :: B.drop (j + 1)) := by rw [take_get_drop]; exact h
  simpa using hs.before a ha
section
variable {w0 w w' : World} {rb pm : Nat} {v n : Value} {B : List Bk}
structure LE (w0 w : World) (rb pm : Nat) (v n : Value) (B : List Bk) : Prop where
  bst : BSt w0 w (fun k => (k = pm ∨ v.ownBlock = some k) ∨ n.ownBlock = some k) rb 30000 60 B
  m : w.heap[pm]? = some (.cells #[v, .int .u64 1] 35 (0, 0))
  rv : RB w v B
  nv : w.ownsRow 0 9 1 n B.length (B.map fun b => .string b.nm)
theorem LE.below (h : LE w0 w rb pm v n B) (hb : Below w.heap.size w w') : LE w0 w' rb pm v n B :=
  ⟨h.bst.below hb, (hb.block pm (lt_of_heap h.m)).trans h.m, h.rv.below hb, ownsRow_upd h.nv (hb.upd' (Nat.le_refl _)) fun _ _ e => e⟩
theorem LE.bel (h : LE w0 w rb pm v n B) : Below w0.heap.size w0 w := h.bst.bel
theorem LE.lit (h : LE w0 w rb pm v n B) : ∃ na nc, n = .slice na B.length nc := by
  rcases h.nv.2 with ⟨rfl, h0⟩ | ⟨g, cap, cur, rfl, -⟩
  · exact ⟨_, _, by rw [h0]⟩
  · exact ⟨_, _, rfl⟩
theorem LE.of {a : Nat} (h : LS w0 w rb a pm v B) (ha : a ≤ 60) (he : NamesEnd w0 w (fun k => k = pm ∨ v.ownBlock = some k) rb 30000 a B n w') : LE w0 w' rb pm v n B :=
  ⟨he.2.1.more ha, (he.2.2 pm (.inl rfl)).trans h.m, h.rv.kept he.2.2 fun k e => .inr e, he.1⟩
theorem le_names {a : Nat} (h : Hid (LS w0 w rb a pm v B)) (ha : a ≤ 60) :
    Calls Tryz.prog 27 #[.pointer (some ⟨rb, 0, none⟩)] w fun e w' => ∃ na nc, e = .returned (.tuple #[.slice na B.length nc, .int .i64 0]) ∧ Hid (LE w0 w' rb pm v (.slice na B.length nc) B) := by
  refine (Names_c w0 w _ rb 30000 a B h.out.bst (by omega)).mono ?_
  rintro e w' ⟨n, rfl, hE⟩
  have hl := LE.of h.out ha hE.out
  obtain ⟨na, nc, rfl⟩ := hl.lit
  exact ⟨na, nc, rfl, Lib.hid hl⟩
/-- The cells of a round. -/
theorem LE.at {va na : Option Addr} {vn vc nn nc : Nat} (h : LE w0 w rb pm (.slice va vn vc) (.slice na nn nc) B) (j : Nat) (hj : j < B.length) :
    ∃ g gn, va = some ⟨g, 0, none⟩ ∧ na = some ⟨gn, 0, none⟩ ∧ g < w.heap.size ∧ gn < w.heap.size ∧ (∀ i, i < 8 → w.cell? ⟨g, j * 8 + i, none⟩ = (bcell B[j])[i]?) ∧ w.cell? ⟨gn, j, none⟩ = some (.string B[j].nm) := by
  obtain ⟨va', vc', e⟩ := h.rv.lit
  cases e
  obtain ⟨g, rfl, hg, hc⟩ := RB.at h.rv j hj
  have h2 := h.nv
  rcases h2.2 with ⟨e, h0⟩ | ⟨gn, cap, cur, e, h1, h3, -⟩
  · omega
  · cases e
    refine ⟨g, gn, rfl, rfl, hg, lt_of_heap h3, hc, ?_⟩
    rw [h2.cellAt j (by omega)]
    simp [hj]
theorem le_find (h : Hid (LE w0 w rb pm v n B)) (j : Nat) (hj : j < B.length) (hs : B[j].nm.size ≤ 100) (b : Bk) (hb : B[j] = b) (o : Array Value) (t : TypeId) (q : Nat) (hq : w.heap.size = q) :
    Calls Tryz.prog 15 #[.pointer (some ⟨rb, 0, none⟩), .string b.nm] (w.alloc (.cells o t)) fun e w' => e = .returned (.tuple #[.agg #[.string b.nm, .int .i64 (b.st : Int), .int .u64 (b.born : Int), .bool b.on, .string b.pre, .int .u64 (b.af : Int)], .int .i64 0]) ∧ Hid (LE w0 w' rb pm v n B ∧ w'.heap[q]? = some (.cells o t (0, 0))) := by
  subst hq
  subst hb
  have hbl := below_alloc w (.cells o t)
  have hl := h.out.below hbl
  refine (find_ok w0 (w.alloc (.cells o t)) _ rb 30000 60 B B[j].nm (h.out.bst.new hbl w.heap.size (Nat.le_refl _) (by simp)) (by omega) (by omega) B[j] (h.out.bst.ok _ (List.getElem_mem hj)).nm (bAt_get h.out.bst.srt j hj)).mono ?_
  rintro e w' ⟨rfl, hE⟩
  obtain ⟨g1, g2⟩ := hE.out
  have hk : Kept (fun k => (k = pm ∨ v.ownBlock = some k) ∨ n.ownBlock = some k) (w.alloc (.cells o t)) w' := g2.mono fun k hk => .inl hk
  exact ⟨rfl, Lib.hid ⟨⟨g1.mono fun k hk => .inl hk, (hk pm (.inl (.inl rfl))).trans hl.m, hl.rv.kept hk fun k e => .inl (.inr e), Kept.row hl.nv hk fun k e => .inr e⟩, (g2 w.heap.size (.inr rfl)).trans (heap_alloc_new _ _)⟩⟩
end
end Go.Proofs.YtaibjcjphmhgmaaGreatDoor
namespace Go.Proofs.YtaibjcjphmhgmaaGreatDoor
set_option linter.unusedVariables false
set_option maxRecDepth 1000000
set_option maxHeartbeats 4000000
open Go.RowKit
/-- The first loop of a code. -/
def firstLoop : Code → Option Code
  | .loop c => some c
  | .seq a b => match firstLoop a with
    | some c => some c
    | none => firstLoop b
  | .block _ c => firstLoop c
  | .scope c => firstLoop c
  | .cond _ a b => match firstLoop a with
    | some c => some c
    | none => firstLoop b
  | _ => none
noncomputable def loopBody : Code := ((Tryz.f3.body.bind firstLoop).getD .skip)
end Go.Proofs.YtaibjcjphmhgmaaGreatDoor
namespace Go.Proofs.YtaibjcjphmhgmaaGreatDoor
set_option linter.unusedVariables false
set_option maxRecDepth 1000000
set_option maxHeartbeats 4000000
open Go.RowKit
theorem rd_make (w wr : World) (rb pm i n bb off cap : Nat) (va : Option Addr) (vc : Nat) (B : List Bk) (st : Int) (nm pre : ByteArray) (now af : Nat) (on : Bool)
    (HS : Hid (LS w wr rb i pm (.slice va B.length vc) B)) (hlt : i < n) (hn : n ≤ 60) (hnow : now < 18446744073709551616) (haf : af < 18446744073709551616) (hs1 : nm.size ≤ 100) (hs2 : pre.size ≤ 100)
    (d0 : wr.cell? ⟨bb, off + i * 7, none⟩ = some (.int .i64 0)) (d1 : wr.cell? ⟨bb, off + i * 7 + 1, none⟩ = some (.int .i64 st)) (d2 : wr.cell? ⟨bb, off + i * 7 + 2, none⟩ = some (.string nm)) (d3 : wr.cell? ⟨bb, off + i * 7 + 3, none⟩ = some (.int .u64 (now : Int))) (d4 : wr.cell? ⟨bb, off + i * 7 + 4, none⟩ = some (.bool on)) (d5 : wr.cell? ⟨bb, off + i * 7 + 5, none⟩ = some (.string pre)) (d6 : wr.cell? ⟨bb, off + i * 7 + 6, none⟩ = some (.int .u64 (af : Int))) (hlb : bb < wr.heap.size) 
    (c0 c1 c3 c4 c7 c15 c16 c17 c18 c19 c20 c21 c22 c23 c24 c25 c26 c27 c28 c29 c30 c31 c32 c33 c197 c198 c199 c200 c201 c202 c203 c204 c205 c206 c207 c208 c209 c210 c211 c212 c213 c214 c215 c216 c217 c218 c219 c220 c221 c222 c223 c224 c225 c226 c227 c228 c229 c230 c231 c232 c233 c234 c235 c236 c237 c238 c239 c240 c241 c242 c243 c244 c245 c246 u2 u8 u9 u10 u11 u12 u13 u14 u37 u38 u39 u40 u41 u42 u43 u44 u45 u46 u47 u48 u49 u50 u51 u52 u53 u54 u55 u56 u57 u58 u59 u60 u61 u62 u63 u64 u65 u66 u67 u68 u69 u70 u71 u72 u73 u74 u75 u76 u77 u78 u79 u80 u81 u82 u83 u84 u85 u86 u87 u88 u89 u90 u91 u92 u93 u94 u95 u96 u97 u98 u99 u100 u101 u102 u103 u104 u105 u106 u107 u108 u109 u110 u111 u112 u113 u114 u115 u116 u117 u118 u119 u120 u121 u122 u123 u124 u125 u126 u127 u128 u129 u130 u131 u132 u133 u134 u135 u136 u137 u138 u139 u140 u141 u142 u143 u144 u145 u146 u147 u148 u149 u150 u151 u152 u153 u154 u155 u156 u157 u158 u159 u160 u161 u162 u163 u164 u165 u166 u167 u168 u169 u170 u171 u172 u173 u174 u175 u176 u177 u178 u179 u180 u181 u182 u183 u184 u185 u186 u187 u188 u189 u190 u191 u192 u193 u194 u195 u196 : Value) (K K1 : Act → World → Prop) (PP : Ending → World → Prop)
    (HQ : ∀ (va' : Option Addr) (vc' : Nat) (B' : List Bk) (w' : World), Hid (LS w w' rb (i + 1) pm (.slice va' B'.length vc') B') → ∀ (v2 v8 v9 v10 v11 v12 v13 v14 v37 v38 v39 v40 v41 v42 v43 v44 v45 v46 v47 v48 v49 v50 v51 v52 v53 v54 v55 v56 v57 v58 v59 v60 v61 v62 v63 v64 v65 v66 v67 v68 v69 v70 v71 v72 v73 v74 v75 v76 v77 v78 v79 v80 v81 v82 v83 v84 v85 v86 v87 v88 v89 v90 v91 v92 v93 v94 v95 v96 v97 v98 v99 v100 v101 v102 v103 v104 v105 v106 v107 v108 v109 v110 v111 v112 v113 v114 v115 v116 v117 v118 v119 v120 v121 v122 v123 v124 v125 v126 v127 v128 v129 v130 v131 v132 v133 v134 v135 v136 v137 v138 v139 v140 v141 v142 v143 v144 v145 v146 v147 v148 v149 v150 v151 v152 v153 v154 v155 v156 v157 v158 v159 v160 v161 v162 v163 v164 v165 v166 v167 v168 v169 v170 v171 v172 v173 v174 v175 v176 v177 v178 v179 v180 v181 v182 v183 v184 v185 v186 v187 v188 v189 v190 v191 v192 v193 v194 v195 v196 : Value), K ⟨#[c0, c1, v2, c3, c4, .pointer (some ⟨rb, 0, none⟩), .pointer (some ⟨pm, 0, none⟩), c7, v8, v9, v10, v11, v12, v13, v14, c15, c16, c17, c18, c19, c20, c21, c22, c23, c24, c25, c26, c27, c28, c29, c30, c31, c32, c33, .slice (some ⟨bb, off, none⟩) n cap, .int .i64 (n : Int), .int .i64 ((i : Int) + 1), v37, v38, v39, v40, v41, v42, v43, v44, v45, v46, v47, v48, v49, v50, v51, v52, v53, v54, v55, v56, v57, v58, v59, v60, v61, v62, v63, v64, v65, v66, v67, v68, v69, v70, v71, v72, v73, v74, v75, v76, v77, v78, v79, v80, v81, v82, v83, v84, v85, v86, v87, v88, v89, v90, v91, v92, v93, v94, v95, v96, v97, v98, v99, v100, v101, v102, v103, v104, v105, v106, v107, v108, v109, v110, v111, v112, v113, v114, v115, v116, v117, v118, v119, v120, v121, v122, v123, v124, v125, v126, v127, v128, v129, v130, v131, v132, v133, v134, v135, v136, v137, v138, v139, v140, v141, v142, v143, v144, v145, v146, v147, v148, v149, v150, v151, v152, v153, v154, v155, v156, v157, v158, v159, v160, v161, v162, v163, v164, v165, v166, v167, v168, v169, v170, v171, v172, v173, v174, v175, v176, v177, v178, v179, v180, v181, v182, v183, v184, v185, v186, v187, v188, v189, v190, v191, v192, v193, v194, v195, v196, c197, c198, c199, c200, c201, c202, c203, c204, c205, c206, c207, c208, c209, c210, c211, c212, c213, c214, c215, c216, c217, c218, c219, c220, c221, c222, c223, c224, c225, c226, c227, c228, c229, c230, c231, c232, c233, c234, c235, c236, c237, c238, c239, c240, c241, c242, c243, c244, c245, c246], []⟩ w') :
    Code.wp Tryz.prog loopBody (Exit.then K (Exit.inBlock 0 (Exit.then K1 (bodyPost Tryz.prog Tryz.f3 PP)))) ⟨#[c0, c1, u2, c3, c4, .pointer (some ⟨rb, 0, none⟩), .pointer (some ⟨pm, 0, none⟩), c7, u8, u9, u10, u11, u12, u13, u14, c15, c16, c17, c18, c19, c20, c21, c22, c23, c24, c25, c26, c27, c28, c29, c30, c31, c32, c33, .slice (some ⟨bb, off, none⟩) n cap, .int .i64 (n : Int), .int .i64 (i : Int), u37, u38, u39, u40, u41, u42, u43, u44, u45, u46, u47, u48, u49, u50, u51, u52, u53, u54, u55, u56, u57, u58, u59, u60, u61, u62, u63, u64, u65, u66, u67, u68, u69, u70, u71, u72, u73, u74, u75, u76, u77, u78, u79, u80, u81, u82, u83, u84, u85, u86, u87, u88, u89, u90, u91, u92, u93, u94, u95, u96, u97, u98, u99, u100, u101, u102, u103, u104, u105, u106, u107, u108, u109, u110, u111, u112, u113, u114, u115, u116, u117, u118, u119, u120, u121, u122, u123, u124, u125, u126, u127, u128, u129, u130, u131, u132, u133, u134, u135, u136, u137, u138, u139, u140, u141, u142, u143, u144, u145, u146, u147, u148, u149, u150, u151, u152, u153, u154, u155, u156, u157, u158, u159, u160, u161, u162, u163, u164, u165, u166, u167, u168, u169, u170, u171, u172, u173, u174, u175, u176, u177, u178, u179, u180, u181, u182, u183, u184, u185, u186, u187, u188, u189, u190, u191, u192, u193, u194, u195, u196, c197, c198, c199, c200, c201, c202, c203, c204, c205, c206, c207, c208, c209, c210, c211, c212, c213, c214, c215, c216, c217, c218, c219, c220, c221, c222, c223, c224, c225, c226, c227, c228, c229, c230, c231, c232, c233, c234, c235, c236, c237, c238, c239, c240, c241, c242, c243, c244, c245, c246], []⟩ wr := by
  have m0 : wr.cell? ⟨pm, 0, none⟩ = some (.slice va B.length vc) := cell_lit HS.out.m rfl
  have m1 : wr.cell? ⟨pm, 1, none⟩ = some (.int .u64 1) := cell_lit HS.out.m rfl
  have lm : pm < wr.heap.size := lt_of_heap HS.out.m
  have ne1 : ¬ pm = wr.heap.size + 1 := by omega
  have ne2 : ¬ wr.heap.size + 1 = pm := by omega
  have HLT := Lib.hid hlt
  have HI : Hid (i ≤ 60) := Lib.hid (by omega)
  have hi60 : i ≤ 60 := by omega
  have hltI : (i : Int) < (n : Int) := by omega
  have p1' : ¬ (100 : Int) < (nm.size : Int) := by omega
  have p2' : ¬ (100 : Int) < (pre.size : Int) := by omega
  have HN : Hid (nm.size ≤ 100 ∧ now < 18446744073709551616 ∧ af < 18446744073709551616) := Lib.hid ⟨by omega, hnow, haf⟩
  have L0 := Lib.hid (HS.out.start #[.int .i64 0, .int .i64 st, .string nm, .int .u64 (now : Int), .bool on, .string pre, .int .u64 (af : Int)])
  have HBL : Hid (B.length ≤ 60) := Lib.hid (by have := HS.out.bst.len; have := HI.out; omega)
  clear hlt hn hnow haf hs1 hs2
  conv => arg 2; whnf
  have PC := fun W (h : Hid (LR w W rb i pm wr.heap.size (wr.heap.size + 1) #[.int .i64 0, .int .i64 st, .string nm, .int .u64 (now : Int), .bool on, .string pre, .int .u64 (af : Int)] (.slice va B.length vc) (.slice va B.length vc) B B B)) => lr_make nm now HN.out.2.1 h HI.out HN.out.1
  have RC := fun (W : World) (h : RB W (.slice va B.length vc) B) => Make14_c _ 1 B nm now W h (by have := HBL.out; omega) (by have := HN.out.1; omega)
  generalize ((mkR B nm now).1 : Int) = E at *
  have RCH := Lib.hid RC
  clear RC m0 m1
  have m0 : wr.cell? ⟨pm, 0, none⟩ = some (.slice va B.length vc) := cell_lit HS.out.m rfl
  have m1 : wr.cell? ⟨pm, 1, none⟩ = some (.int .u64 1) := cell_lit HS.out.m rfl
  go_wp2_with fail
  refine (PC _ L0).mono ?_
  rintro e w3 ⟨rfl, H3⟩
  obtain ⟨BP, L3, hp⟩ := H3.out
  have L3H := Lib.hid L3
  have HP := Lib.hid hp
  obtain ⟨⟨m0, m1, mf⟩, ⟨b0, b1, b2, b3, b4, b5, b6⟩, ⟨n0, n1, nf⟩, lm3, lb3, ln3⟩ := L3.cells
  clear PC L0 L3 hp H3 d0 d1 d2 d3 d4 d5 d6 hlb lm
  go_wp2_with fail
  refine (RCH.out _ L3H.out.rv).mono ?_
  rintro e w4 ⟨v', rfl, H4⟩
  clear m0 m1 mf b0 b1 b2 b3 b4 b5 b6 n0 n1 nf lm3 lb3 ln3
  obtain ⟨B', hr, ho⟩ := H4.out
  have eB := RefO.eq HP.out ho
  subst eB
  have L5 := L3H.out.both HP.out hr ho
  obtain ⟨va', vc', rfl⟩ := hr.1.lit
  have L4 := L3H.out.below hr.2.1
  obtain ⟨⟨m0, m1, mf⟩, ⟨b0, b1, b2, b3, b4, b5, b6⟩, ⟨n0, n1, nf⟩, lm3, lb3, ln3⟩ := L4.cells
  have L6 := Lib.hid L5.fin
  clear L4 L5 hr ho H4 RCH
  go_wp2_with fail
  exact HQ _ _ _ _ L6 _ _ _ _ _ _ _ _ _ _ _ _ _ _ _ _ _ _ _ _ _ _ _ _ _ _ _ _ _ _ _ _ _ _ _ _ _ _ _ _ _ _ _ _ _ _ _ _ _ _ _ _ _ _ _ _ _ _ _ _ _ _ _ _ _ _ _ _ _ _ _ _ _ _ _ _ _ _ _ _ _ _ _ _ _ _ _ _ _ _ _ _ _ _ _ _ _ _ _ _ _ _ _ _ _ _ _ _ _ _ _ _ _ _ _ _ _ _ _ _ _ _ _ _ _ _ _ _ _ _ _ _ _ _ _ _ _ _ _ _ _ _ _ _ _ _ _ _ _ _ _ _ _ _ _ _ _ _ _ _ _ _ _ _ _ _ _ _
end Go.Proofs.YtaibjcjphmhgmaaGreatDoor
namespace Go.Proofs.YtaibjcjphmhgmaaGreatDoor
set_option linter.unusedVariables false
set_option maxRecDepth 1000000
set_option maxHeartbeats 4000000
open Go.RowKit
theorem rd_state (w wr : World) (rb pm i n bb off cap : Nat) (va : Option Addr) (vc : Nat) (B : List Bk) (st : Int) (nm pre : ByteArray) (now af : Nat) (on : Bool)
    (HS : Hid (LS w wr rb i pm (.slice va B.length vc) B)) (hlt : i < n) (hn : n ≤ 60) (hnow : now < 18446744073709551616) (haf : af < 18446744073709551616) (hs1 : nm.size ≤ 100) (hs2 : pre.size ≤ 100)
    (d0 : wr.cell? ⟨bb, off + i * 7, none⟩ = some (.int .i64 2)) (d1 : wr.cell? ⟨bb, off + i * 7 + 1, none⟩ = some (.int .i64 st)) (d2 : wr.cell? ⟨bb, off + i * 7 + 2, none⟩ = some (.string nm)) (d3 : wr.cell? ⟨bb, off + i * 7 + 3, none⟩ = some (.int .u64 (now : Int))) (d4 : wr.cell? ⟨bb, off + i * 7 + 4, none⟩ = some (.bool on)) (d5 : wr.cell? ⟨bb, off + i * 7 + 5, none⟩ = some (.string pre)) (d6 : wr.cell? ⟨bb, off + i * 7 + 6, none⟩ = some (.int .u64 (af : Int))) (hlb : bb < wr.heap.size) 
    (c0 c1 c3 c4 c7 c15 c16 c17 c18 c19 c20 c21 c22 c23 c24 c25 c26 c27 c28 c29 c30 c31 c32 c33 c197 c198 c199 c200 c201 c202 c203 c204 c205 c206 c207 c208 c209 c210 c211 c212 c213 c214 c215 c216 c217 c218 c219 c220 c221 c222 c223 c224 c225 c226 c227 c228 c229 c230 c231 c232 c233 c234 c235 c236 c237 c238 c239 c240 c241 c242 c243 c244 c245 c246 u2 u8 u9 u10 u11 u12 u13 u14 u37 u38 u39 u40 u41 u42 u43 u44 u45 u46 u47 u48 u49 u50 u51 u52 u53 u54 u55 u56 u57 u58 u59 u60 u61 u62 u63 u64 u65 u66 u67 u68 u69 u70 u71 u72 u73 u74 u75 u76 u77 u78 u79 u80 u81 u82 u83 u84 u85 u86 u87 u88 u89 u90 u91 u92 u93 u94 u95 u96 u97 u98 u99 u100 u101 u102 u103 u104 u105 u106 u107 u108 u109 u110 u111 u112 u113 u114 u115 u116 u117 u118 u119 u120 u121 u122 u123 u124 u125 u126 u127 u128 u129 u130 u131 u132 u133 u134 u135 u136 u137 u138 u139 u140 u141 u142 u143 u144 u145 u146 u147 u148 u149 u150 u151 u152 u153 u154 u155 u156 u157 u158 u159 u160 u161 u162 u163 u164 u165 u166 u167 u168 u169 u170 u171 u172 u173 u174 u175 u176 u177 u178 u179 u180 u181 u182 u183 u184 u185 u186 u187 u188 u189 u190 u191 u192 u193 u194 u195 u196 : Value) (K K1 : Act → World → Prop) (PP : Ending → World → Prop)
    (HQ : ∀ (va' : Option Addr) (vc' : Nat) (B' : List Bk) (w' : World), Hid (LS w w' rb (i + 1) pm (.slice va' B'.length vc') B') → ∀ (v2 v8 v9 v10 v11 v12 v13 v14 v37 v38 v39 v40 v41 v42 v43 v44 v45 v46 v47 v48 v49 v50 v51 v52 v53 v54 v55 v56 v57 v58 v59 v60 v61 v62 v63 v64 v65 v66 v67 v68 v69 v70 v71 v72 v73 v74 v75 v76 v77 v78 v79 v80 v81 v82 v83 v84 v85 v86 v87 v88 v89 v90 v91 v92 v93 v94 v95 v96 v97 v98 v99 v100 v101 v102 v103 v104 v105 v106 v107 v108 v109 v110 v111 v112 v113 v114 v115 v116 v117 v118 v119 v120 v121 v122 v123 v124 v125 v126 v127 v128 v129 v130 v131 v132 v133 v134 v135 v136 v137 v138 v139 v140 v141 v142 v143 v144 v145 v146 v147 v148 v149 v150 v151 v152 v153 v154 v155 v156 v157 v158 v159 v160 v161 v162 v163 v164 v165 v166 v167 v168 v169 v170 v171 v172 v173 v174 v175 v176 v177 v178 v179 v180 v181 v182 v183 v184 v185 v186 v187 v188 v189 v190 v191 v192 v193 v194 v195 v196 : Value), K ⟨#[c0, c1, v2, c3, c4, .pointer (some ⟨rb, 0, none⟩), .pointer (some ⟨pm, 0, none⟩), c7, v8, v9, v10, v11, v12, v13, v14, c15, c16, c17, c18, c19, c20, c21, c22, c23, c24, c25, c26, c27, c28, c29, c30, c31, c32, c33, .slice (some ⟨bb, off, none⟩) n cap, .int .i64 (n : Int), .int .i64 ((i : Int) + 1), v37, v38, v39, v40, v41, v42, v43, v44, v45, v46, v47, v48, v49, v50, v51, v52, v53, v54, v55, v56, v57, v58, v59, v60, v61, v62, v63, v64, v65, v66, v67, v68, v69, v70, v71, v72, v73, v74, v75, v76, v77, v78, v79, v80, v81, v82, v83, v84, v85, v86, v87, v88, v89, v90, v91, v92, v93, v94, v95, v96, v97, v98, v99, v100, v101, v102, v103, v104, v105, v106, v107, v108, v109, v110, v111, v112, v113, v114, v115, v116, v117, v118, v119, v120, v121, v122, v123, v124, v125, v126, v127, v128, v129, v130, v131, v132, v133, v134, v135, v136, v137, v138, v139, v140, v141, v142, v143, v144, v145, v146, v147, v148, v149, v150, v151, v152, v153, v154, v155, v156, v157, v158, v159, v160, v161, v162, v163, v164, v165, v166, v167, v168, v169, v170, v171, v172, v173, v174, v175, v176, v177, v178, v179, v180, v181, v182, v183, v184, v185, v186, v187, v188, v189, v190, v191, v192, v193, v194, v195, v196, c197, c198, c199, c200, c201, c202, c203, c204, c205, c206, c207, c208, c209, c210, c211, c212, c213, c214, c215, c216, c217, c218, c219, c220, c221, c222, c223, c224, c225, c226, c227, c228, c229, c230, c231, c232, c233, c234, c235, c236, c237, c238, c239, c240, c241, c242, c243, c244, c245, c246], []⟩ w') :
    Code.wp Tryz.prog loopBody (Exit.then K (Exit.inBlock 0 (Exit.then K1 (bodyPost Tryz.prog Tryz.f3 PP)))) ⟨#[c0, c1, u2, c3, c4, .pointer (some ⟨rb, 0, none⟩), .pointer (some ⟨pm, 0, none⟩), c7, u8, u9, u10, u11, u12, u13, u14, c15, c16, c17, c18, c19, c20, c21, c22, c23, c24, c25, c26, c27, c28, c29, c30, c31, c32, c33, .slice (some ⟨bb, off, none⟩) n cap, .int .i64 (n : Int), .int .i64 (i : Int), u37, u38, u39, u40, u41, u42, u43, u44, u45, u46, u47, u48, u49, u50, u51, u52, u53, u54, u55, u56, u57, u58, u59, u60, u61, u62, u63, u64, u65, u66, u67, u68, u69, u70, u71, u72, u73, u74, u75, u76, u77, u78, u79, u80, u81, u82, u83, u84, u85, u86, u87, u88, u89, u90, u91, u92, u93, u94, u95, u96, u97, u98, u99, u100, u101, u102, u103, u104, u105, u106, u107, u108, u109, u110, u111, u112, u113, u114, u115, u116, u117, u118, u119, u120, u121, u122, u123, u124, u125, u126, u127, u128, u129, u130, u131, u132, u133, u134, u135, u136, u137, u138, u139, u140, u141, u142, u143, u144, u145, u146, u147, u148, u149, u150, u151, u152, u153, u154, u155, u156, u157, u158, u159, u160, u161, u162, u163, u164, u165, u166, u167, u168, u169, u170, u171, u172, u173, u174, u175, u176, u177, u178, u179, u180, u181, u182, u183, u184, u185, u186, u187, u188, u189, u190, u191, u192, u193, u194, u195, u196, c197, c198, c199, c200, c201, c202, c203, c204, c205, c206, c207, c208, c209, c210, c211, c212, c213, c214, c215, c216, c217, c218, c219, c220, c221, c222, c223, c224, c225, c226, c227, c228, c229, c230, c231, c232, c233, c234, c235, c236, c237, c238, c239, c240, c241, c242, c243, c244, c245, c246], []⟩ wr := by
  have m0 : wr.cell? ⟨pm, 0, none⟩ = some (.slice va B.length vc) := cell_lit HS.out.m rfl
  have m1 : wr.cell? ⟨pm, 1, none⟩ = some (.int .u64 1) := cell_lit HS.out.m rfl
  have lm : pm < wr.heap.size := lt_of_heap HS.out.m
  have ne1 : ¬ pm = wr.heap.size + 1 := by omega
  have ne2 : ¬ wr.heap.size + 1 = pm := by omega
  have HLT := Lib.hid hlt
  have HI : Hid (i ≤ 60) := Lib.hid (by omega)
  have hi60 : i ≤ 60 := by omega
  have hltI : (i : Int) < (n : Int) := by omega
  have p1' : ¬ (100 : Int) < (nm.size : Int) := by omega
  have p2' : ¬ (100 : Int) < (pre.size : Int) := by omega
  have HN : Hid (nm.size ≤ 100 ∧ now < 18446744073709551616 ∧ af < 18446744073709551616) := Lib.hid ⟨by omega, hnow, haf⟩
  have L0 := Lib.hid (HS.out.start #[.int .i64 2, .int .i64 st, .string nm, .int .u64 (now : Int), .bool on, .string pre, .int .u64 (af : Int)])
  have HBL : Hid (B.length ≤ 60) := Lib.hid (by have := HS.out.bst.len; have := HI.out; omega)
  clear hlt hn hnow haf hs1 hs2
  conv => arg 2; whnf
  have PC := fun W (h : Hid (LR w W rb i pm wr.heap.size (wr.heap.size + 1) #[.int .i64 2, .int .i64 st, .string nm, .int .u64 (now : Int), .bool on, .string pre, .int .u64 (af : Int)] (.slice va B.length vc) (.slice va B.length vc) B B B)) => lr_state nm st h HI.out HN.out.1
  have RC := fun (W : World) (h : RB W (.slice va B.length vc) B) => SetState14_c _ 1 B nm st W h (by have := HBL.out; omega) (by have := HN.out.1; omega)
  generalize ((stR B nm st).1 : Int) = E at *
  have RCH := Lib.hid RC
  clear RC m0 m1
  have m0 : wr.cell? ⟨pm, 0, none⟩ = some (.slice va B.length vc) := cell_lit HS.out.m rfl
  have m1 : wr.cell? ⟨pm, 1, none⟩ = some (.int .u64 1) := cell_lit HS.out.m rfl
  go_wp2_with fail
  refine (PC _ L0).mono ?_
  rintro e w3 ⟨rfl, H3⟩
  obtain ⟨BP, L3, hp⟩ := H3.out
  have L3H := Lib.hid L3
  have HP := Lib.hid hp
  obtain ⟨⟨m0, m1, mf⟩, ⟨b0, b1, b2, b3, b4, b5, b6⟩, ⟨n0, n1, nf⟩, lm3, lb3, ln3⟩ := L3.cells
  clear PC L0 L3 hp H3 d0 d1 d2 d3 d4 d5 d6 hlb lm
  go_wp2_with fail
  refine (RCH.out _ L3H.out.rv).mono ?_
  rintro e w4 ⟨v', rfl, H4⟩
  clear m0 m1 mf b0 b1 b2 b3 b4 b5 b6 n0 n1 nf lm3 lb3 ln3
  obtain ⟨B', hr, ho⟩ := H4.out
  have eB := RefO.eq HP.out ho
  subst eB
  have L5 := L3H.out.both HP.out hr ho
  obtain ⟨va', vc', rfl⟩ := hr.1.lit
  have L4 := L3H.out.below hr.2.1
  obtain ⟨⟨m0, m1, mf⟩, ⟨b0, b1, b2, b3, b4, b5, b6⟩, ⟨n0, n1, nf⟩, lm3, lb3, ln3⟩ := L4.cells
  have L6 := Lib.hid L5.fin
  clear L4 L5 hr ho H4 RCH
  go_wp2_with fail
  exact HQ _ _ _ _ L6 _ _ _ _ _ _ _ _ _ _ _ _ _ _ _ _ _ _ _ _ _ _ _ _ _ _ _ _ _ _ _ _ _ _ _ _ _ _ _ _ _ _ _ _ _ _ _ _ _ _ _ _ _ _ _ _ _ _ _ _ _ _ _ _ _ _ _ _ _ _ _ _ _ _ _ _ _ _ _ _ _ _ _ _ _ _ _ _ _ _ _ _ _ _ _ _ _ _ _ _ _ _ _ _ _ _ _ _ _ _ _ _ _ _ _ _ _ _ _ _ _ _ _ _ _ _ _ _ _ _ _ _ _ _ _ _ _ _ _ _ _ _ _ _ _ _ _ _ _ _ _ _ _ _ _ _ _ _ _ _ _ _ _ _ _ _ _ _
end Go.Proofs.YtaibjcjphmhgmaaGreatDoor
namespace Go.Proofs.YtaibjcjphmhgmaaGreatDoor
set_option linter.unusedVariables false
set_option maxRecDepth 1000000
set_option maxHeartbeats 4000000
open Go.RowKit
theorem rd_rule (w wr : World) (rb pm i n bb off cap : Nat) (va : Option Addr) (vc : Nat) (B : List Bk) (st : Int) (nm pre : ByteArray) (now af : Nat) (on : Bool)
    (HS : Hid (LS w wr rb i pm (.slice va B.length vc) B)) (hlt : i < n) (hn : n ≤ 60) (hnow : now < 18446744073709551616) (haf : af < 18446744073709551616) (hs1 : nm.size ≤ 100) (hs2 : pre.size ≤ 100)
    (d0 : wr.cell? ⟨bb, off + i * 7, none⟩ = some (.int .i64 3)) (d1 : wr.cell? ⟨bb, off + i * 7 + 1, none⟩ = some (.int .i64 st)) (d2 : wr.cell? ⟨bb, off + i * 7 + 2, none⟩ = some (.string nm)) (d3 : wr.cell? ⟨bb, off + i * 7 + 3, none⟩ = some (.int .u64 (now : Int))) (d4 : wr.cell? ⟨bb, off + i * 7 + 4, none⟩ = some (.bool on)) (d5 : wr.cell? ⟨bb, off + i * 7 + 5, none⟩ = some (.string pre)) (d6 : wr.cell? ⟨bb, off + i * 7 + 6, none⟩ = some (.int .u64 (af : Int))) (hlb : bb < wr.heap.size) 
    (c0 c1 c3 c4 c7 c15 c16 c17 c18 c19 c20 c21 c22 c23 c24 c25 c26 c27 c28 c29 c30 c31 c32 c33 c197 c198 c199 c200 c201 c202 c203 c204 c205 c206 c207 c208 c209 c210 c211 c212 c213 c214 c215 c216 c217 c218 c219 c220 c221 c222 c223 c224 c225 c226 c227 c228 c229 c230 c231 c232 c233 c234 c235 c236 c237 c238 c239 c240 c241 c242 c243 c244 c245 c246 u2 u8 u9 u10 u11 u12 u13 u14 u37 u38 u39 u40 u41 u42 u43 u44 u45 u46 u47 u48 u49 u50 u51 u52 u53 u54 u55 u56 u57 u58 u59 u60 u61 u62 u63 u64 u65 u66 u67 u68 u69 u70 u71 u72 u73 u74 u75 u76 u77 u78 u79 u80 u81 u82 u83 u84 u85 u86 u87 u88 u89 u90 u91 u92 u93 u94 u95 u96 u97 u98 u99 u100 u101 u102 u103 u104 u105 u106 u107 u108 u109 u110 u111 u112 u113 u114 u115 u116 u117 u118 u119 u120 u121 u122 u123 u124 u125 u126 u127 u128 u129 u130 u131 u132 u133 u134 u135 u136 u137 u138 u139 u140 u141 u142 u143 u144 u145 u146 u147 u148 u149 u150 u151 u152 u153 u154 u155 u156 u157 u158 u159 u160 u161 u162 u163 u164 u165 u166 u167 u168 u169 u170 u171 u172 u173 u174 u175 u176 u177 u178 u179 u180 u181 u182 u183 u184 u185 u186 u187 u188 u189 u190 u191 u192 u193 u194 u195 u196 : Value) (K K1 : Act → World → Prop) (PP : Ending → World → Prop)
    (HQ : ∀ (va' : Option Addr) (vc' : Nat) (B' : List Bk) (w' : World), Hid (LS w w' rb (i + 1) pm (.slice va' B'.length vc') B') → ∀ (v2 v8 v9 v10 v11 v12 v13 v14 v37 v38 v39 v40 v41 v42 v43 v44 v45 v46 v47 v48 v49 v50 v51 v52 v53 v54 v55 v56 v57 v58 v59 v60 v61 v62 v63 v64 v65 v66 v67 v68 v69 v70 v71 v72 v73 v74 v75 v76 v77 v78 v79 v80 v81 v82 v83 v84 v85 v86 v87 v88 v89 v90 v91 v92 v93 v94 v95 v96 v97 v98 v99 v100 v101 v102 v103 v104 v105 v106 v107 v108 v109 v110 v111 v112 v113 v114 v115 v116 v117 v118 v119 v120 v121 v122 v123 v124 v125 v126 v127 v128 v129 v130 v131 v132 v133 v134 v135 v136 v137 v138 v139 v140 v141 v142 v143 v144 v145 v146 v147 v148 v149 v150 v151 v152 v153 v154 v155 v156 v157 v158 v159 v160 v161 v162 v163 v164 v165 v166 v167 v168 v169 v170 v171 v172 v173 v174 v175 v176 v177 v178 v179 v180 v181 v182 v183 v184 v185 v186 v187 v188 v189 v190 v191 v192 v193 v194 v195 v196 : Value), K ⟨#[c0, c1, v2, c3, c4, .pointer (some ⟨rb, 0, none⟩), .pointer (some ⟨pm, 0, none⟩), c7, v8, v9, v10, v11, v12, v13, v14, c15, c16, c17, c18, c19, c20, c21, c22, c23, c24, c25, c26, c27, c28, c29, c30, c31, c32, c33, .slice (some ⟨bb, off, none⟩) n cap, .int .i64 (n : Int), .int .i64 ((i : Int) + 1), v37, v38, v39, v40, v41, v42, v43, v44, v45, v46, v47, v48, v49, v50, v51, v52, v53, v54, v55, v56, v57, v58, v59, v60, v61, v62, v63, v64, v65, v66, v67, v68, v69, v70, v71, v72, v73, v74, v75, v76, v77, v78, v79, v80, v81, v82, v83, v84, v85, v86, v87, v88, v89, v90, v91, v92, v93, v94, v95, v96, v97, v98, v99, v100, v101, v102, v103, v104, v105, v106, v107, v108, v109, v110, v111, v112, v113, v114, v115, v116, v117, v118, v119, v120, v121, v122, v123, v124, v125, v126, v127, v128, v129, v130, v131, v132, v133, v134, v135, v136, v137, v138, v139, v140, v141, v142, v143, v144, v145, v146, v147, v148, v149, v150, v151, v152, v153, v154, v155, v156, v157, v158, v159, v160, v161, v162, v163, v164, v165, v166, v167, v168, v169, v170, v171, v172, v173, v174, v175, v176, v177, v178, v179, v180, v181, v182, v183, v184, v185, v186, v187, v188, v189, v190, v191, v192, v193, v194, v195, v196, c197, c198, c199, c200, c201, c202, c203, c204, c205, c206, c207, c208, c209, c210, c211, c212, c213, c214, c215, c216, c217, c218, c219, c220, c221, c222, c223, c224, c225, c226, c227, c228, c229, c230, c231, c232, c233, c234, c235, c236, c237, c238, c239, c240, c241, c242, c243, c244, c245, c246], []⟩ w') :
    Code.wp Tryz.prog loopBody (Exit.then K (Exit.inBlock 0 (Exit.then K1 (bodyPost Tryz.prog Tryz.f3 PP)))) ⟨#[c0, c1, u2, c3, c4, .pointer (some ⟨rb, 0, none⟩), .pointer (some ⟨pm, 0, none⟩), c7, u8, u9, u10, u11, u12, u13, u14, c15, c16, c17, c18, c19, c20, c21, c22, c23, c24, c25, c26, c27, c28, c29, c30, c31, c32, c33, .slice (some ⟨bb, off, none⟩) n cap, .int .i64 (n : Int), .int .i64 (i : Int), u37, u38, u39, u40, u41, u42, u43, u44, u45, u46, u47, u48, u49, u50, u51, u52, u53, u54, u55, u56, u57, u58, u59, u60, u61, u62, u63, u64, u65, u66, u67, u68, u69, u70, u71, u72, u73, u74, u75, u76, u77, u78, u79, u80, u81, u82, u83, u84, u85, u86, u87, u88, u89, u90, u91, u92, u93, u94, u95, u96, u97, u98, u99, u100, u101, u102, u103, u104, u105, u106, u107, u108, u109, u110, u111, u112, u113, u114, u115, u116, u117, u118, u119, u120, u121, u122, u123, u124, u125, u126, u127, u128, u129, u130, u131, u132, u133, u134, u135, u136, u137, u138, u139, u140, u141, u142, u143, u144, u145, u146, u147, u148, u149, u150, u151, u152, u153, u154, u155, u156, u157, u158, u159, u160, u161, u162, u163, u164, u165, u166, u167, u168, u169, u170, u171, u172, u173, u174, u175, u176, u177, u178, u179, u180, u181, u182, u183, u184, u185, u186, u187, u188, u189, u190, u191, u192, u193, u194, u195, u196, c197, c198, c199, c200, c201, c202, c203, c204, c205, c206, c207, c208, c209, c210, c211, c212, c213, c214, c215, c216, c217, c218, c219, c220, c221, c222, c223, c224, c225, c226, c227, c228, c229, c230, c231, c232, c233, c234, c235, c236, c237, c238, c239, c240, c241, c242, c243, c244, c245, c246], []⟩ wr := by
  have m0 : wr.cell? ⟨pm, 0, none⟩ = some (.slice va B.length vc) := cell_lit HS.out.m rfl
  have m1 : wr.cell? ⟨pm, 1, none⟩ = some (.int .u64 1) := cell_lit HS.out.m rfl
  have lm : pm < wr.heap.size := lt_of_heap HS.out.m
  have ne1 : ¬ pm = wr.heap.size + 1 := by omega
  have ne2 : ¬ wr.heap.size + 1 = pm := by omega
  have HLT := Lib.hid hlt
  have HI : Hid (i ≤ 60) := Lib.hid (by omega)
  have hi60 : i ≤ 60 := by omega
  have hltI : (i : Int) < (n : Int) := by omega
  have p1' : ¬ (100 : Int) < (nm.size : Int) := by omega
  have p2' : ¬ (100 : Int) < (pre.size : Int) := by omega
  have HN : Hid (nm.size ≤ 100 ∧ now < 18446744073709551616 ∧ af < 18446744073709551616) := Lib.hid ⟨by omega, hnow, haf⟩
  have L0 := Lib.hid (HS.out.start #[.int .i64 3, .int .i64 st, .string nm, .int .u64 (now : Int), .bool on, .string pre, .int .u64 (af : Int)])
  have HBL : Hid (B.length ≤ 60) := Lib.hid (by have := HS.out.bst.len; have := HI.out; omega)
  clear hlt hn hnow haf hs1 hs2
  conv => arg 2; whnf
  have PC := fun W (h : Hid (LR w W rb i pm wr.heap.size (wr.heap.size + 1) #[.int .i64 3, .int .i64 st, .string nm, .int .u64 (now : Int), .bool on, .string pre, .int .u64 (af : Int)] (.slice va B.length vc) (.slice va B.length vc) B B B)) => lr_rule nm on pre af HN.out.2.2 h HI.out HN.out.1
  have RC := fun (W : World) (h : RB W (.slice va B.length vc) B) => SetRule14_c _ 1 B nm on pre af W h (by have := HBL.out; omega) (by have := HN.out.1; omega)
  generalize ((srR B nm on pre af).1 : Int) = E at *
  have RCH := Lib.hid RC
  clear RC m0 m1
  have m0 : wr.cell? ⟨pm, 0, none⟩ = some (.slice va B.length vc) := cell_lit HS.out.m rfl
  have m1 : wr.cell? ⟨pm, 1, none⟩ = some (.int .u64 1) := cell_lit HS.out.m rfl
  go_wp2_with fail
  refine (PC _ L0).mono ?_
  rintro e w3 ⟨rfl, H3⟩
  obtain ⟨BP, L3, hp⟩ := H3.out
  have L3H := Lib.hid L3
  have HP := Lib.hid hp
  obtain ⟨⟨m0, m1, mf⟩, ⟨b0, b1, b2, b3, b4, b5, b6⟩, ⟨n0, n1, nf⟩, lm3, lb3, ln3⟩ := L3.cells
  clear PC L0 L3 hp H3 d0 d1 d2 d3 d4 d5 d6 hlb lm
  go_wp2_with fail
  refine (RCH.out _ L3H.out.rv).mono ?_
  rintro e w4 ⟨v', rfl, H4⟩
  clear m0 m1 mf b0 b1 b2 b3 b4 b5 b6 n0 n1 nf lm3 lb3 ln3
  obtain ⟨B', hr, ho⟩ := H4.out
  have eB := RefO.eq HP.out ho
  subst eB
  have L5 := L3H.out.both HP.out hr ho
  obtain ⟨va', vc', rfl⟩ := hr.1.lit
  have L4 := L3H.out.below hr.2.1
  obtain ⟨⟨m0, m1, mf⟩, ⟨b0, b1, b2, b3, b4, b5, b6⟩, ⟨n0, n1, nf⟩, lm3, lb3, ln3⟩ := L4.cells
  have L6 := Lib.hid L5.fin
  clear L4 L5 hr ho H4 RCH
  go_wp2_with fail
  exact HQ _ _ _ _ L6 _ _ _ _ _ _ _ _ _ _ _ _ _ _ _ _ _ _ _ _ _ _ _ _ _ _ _ _ _ _ _ _ _ _ _ _ _ _ _ _ _ _ _ _ _ _ _ _ _ _ _ _ _ _ _ _ _ _ _ _ _ _ _ _ _ _ _ _ _ _ _ _ _ _ _ _ _ _ _ _ _ _ _ _ _ _ _ _ _ _ _ _ _ _ _ _ _ _ _ _ _ _ _ _ _ _ _ _ _ _ _ _ _ _ _ _ _ _ _ _ _ _ _ _ _ _ _ _ _ _ _ _ _ _ _ _ _ _ _ _ _ _ _ _ _ _ _ _ _ _ _ _ _ _ _ _ _ _ _ _ _ _ _ _ _ _ _ _
end Go.Proofs.YtaibjcjphmhgmaaGreatDoor
namespace Go.Proofs.YtaibjcjphmhgmaaGreatDoor
set_option linter.unusedVariables false
set_option maxRecDepth 1000000
set_option maxHeartbeats 4000000
open Go.RowKit
theorem rd_restore (w wr : World) (rb pm i n bb off cap : Nat) (va : Option Addr) (vc : Nat) (B : List Bk) (st : Int) (nm pre : ByteArray) (now af : Nat) (on : Bool)
    (HS : Hid (LS w wr rb i pm (.slice va B.length vc) B)) (hlt : i < n) (hn : n ≤ 60) (hnow : now < 18446744073709551616) (haf : af < 18446744073709551616) (hs1 : nm.size ≤ 100) (hs2 : pre.size ≤ 100)
    (d0 : wr.cell? ⟨bb, off + i * 7, none⟩ = some (.int .i64 6)) (d1 : wr.cell? ⟨bb, off + i * 7 + 1, none⟩ = some (.int .i64 st)) (d2 : wr.cell? ⟨bb, off + i * 7 + 2, none⟩ = some (.string nm)) (d3 : wr.cell? ⟨bb, off + i * 7 + 3, none⟩ = some (.int .u64 (now : Int))) (d4 : wr.cell? ⟨bb, off + i * 7 + 4, none⟩ = some (.bool on)) (d5 : wr.cell? ⟨bb, off + i * 7 + 5, none⟩ = some (.string pre)) (d6 : wr.cell? ⟨bb, off + i * 7 + 6, none⟩ = some (.int .u64 (af : Int))) (hlb : bb < wr.heap.size) 
    (c0 c1 c3 c4 c7 c15 c16 c17 c18 c19 c20 c21 c22 c23 c24 c25 c26 c27 c28 c29 c30 c31 c32 c33 c197 c198 c199 c200 c201 c202 c203 c204 c205 c206 c207 c208 c209 c210 c211 c212 c213 c214 c215 c216 c217 c218 c219 c220 c221 c222 c223 c224 c225 c226 c227 c228 c229 c230 c231 c232 c233 c234 c235 c236 c237 c238 c239 c240 c241 c242 c243 c244 c245 c246 u2 u8 u9 u10 u11 u12 u13 u14 u37 u38 u39 u40 u41 u42 u43 u44 u45 u46 u47 u48 u49 u50 u51 u52 u53 u54 u55 u56 u57 u58 u59 u60 u61 u62 u63 u64 u65 u66 u67 u68 u69 u70 u71 u72 u73 u74 u75 u76 u77 u78 u79 u80 u81 u82 u83 u84 u85 u86 u87 u88 u89 u90 u91 u92 u93 u94 u95 u96 u97 u98 u99 u100 u101 u102 u103 u104 u105 u106 u107 u108 u109 u110 u111 u112 u113 u114 u115 u116 u117 u118 u119 u120 u121 u122 u123 u124 u125 u126 u127 u128 u129 u130 u131 u132 u133 u134 u135 u136 u137 u138 u139 u140 u141 u142 u143 u144 u145 u146 u147 u148 u149 u150 u151 u152 u153 u154 u155 u156 u157 u158 u159 u160 u161 u162 u163 u164 u165 u166 u167 u168 u169 u170 u171 u172 u173 u174 u175 u176 u177 u178 u179 u180 u181 u182 u183 u184 u185 u186 u187 u188 u189 u190 u191 u192 u193 u194 u195 u196 : Value) (K K1 : Act → World → Prop) (PP : Ending → World → Prop)
    (HQ : ∀ (va' : Option Addr) (vc' : Nat) (B' : List Bk) (w' : World), Hid (LS w w' rb (i + 1) pm (.slice va' B'.length vc') B') → ∀ (v2 v8 v9 v10 v11 v12 v13 v14 v37 v38 v39 v40 v41 v42 v43 v44 v45 v46 v47 v48 v49 v50 v51 v52 v53 v54 v55 v56 v57 v58 v59 v60 v61 v62 v63 v64 v65 v66 v67 v68 v69 v70 v71 v72 v73 v74 v75 v76 v77 v78 v79 v80 v81 v82 v83 v84 v85 v86 v87 v88 v89 v90 v91 v92 v93 v94 v95 v96 v97 v98 v99 v100 v101 v102 v103 v104 v105 v106 v107 v108 v109 v110 v111 v112 v113 v114 v115 v116 v117 v118 v119 v120 v121 v122 v123 v124 v125 v126 v127 v128 v129 v130 v131 v132 v133 v134 v135 v136 v137 v138 v139 v140 v141 v142 v143 v144 v145 v146 v147 v148 v149 v150 v151 v152 v153 v154 v155 v156 v157 v158 v159 v160 v161 v162 v163 v164 v165 v166 v167 v168 v169 v170 v171 v172 v173 v174 v175 v176 v177 v178 v179 v180 v181 v182 v183 v184 v185 v186 v187 v188 v189 v190 v191 v192 v193 v194 v195 v196 : Value), K ⟨#[c0, c1, v2, c3, c4, .pointer (some ⟨rb, 0, none⟩), .pointer (some ⟨pm, 0, none⟩), c7, v8, v9, v10, v11, v12, v13, v14, c15, c16, c17, c18, c19, c20, c21, c22, c23, c24, c25, c26, c27, c28, c29, c30, c31, c32, c33, .slice (some ⟨bb, off, none⟩) n cap, .int .i64 (n : Int), .int .i64 ((i : Int) + 1), v37, v38, v39, v40, v41, v42, v43, v44, v45, v46, v47, v48, v49, v50, v51, v52, v53, v54, v55, v56, v57, v58, v59, v60, v61, v62, v63, v64, v65, v66, v67, v68, v69, v70, v71, v72, v73, v74, v75, v76, v77, v78, v79, v80, v81, v82, v83, v84, v85, v86, v87, v88, v89, v90, v91, v92, v93, v94, v95, v96, v97, v98, v99, v100, v101, v102, v103, v104, v105, v106, v107, v108, v109, v110, v111, v112, v113, v114, v115, v116, v117, v118, v119, v120, v121, v122, v123, v124, v125, v126, v127, v128, v129, v130, v131, v132, v133, v134, v135, v136, v137, v138, v139, v140, v141, v142, v143, v144, v145, v146, v147, v148, v149, v150, v151, v152, v153, v154, v155, v156, v157, v158, v159, v160, v161, v162, v163, v164, v165, v166, v167, v168, v169, v170, v171, v172, v173, v174, v175, v176, v177, v178, v179, v180, v181, v182, v183, v184, v185, v186, v187, v188, v189, v190, v191, v192, v193, v194, v195, v196, c197, c198, c199, c200, c201, c202, c203, c204, c205, c206, c207, c208, c209, c210, c211, c212, c213, c214, c215, c216, c217, c218, c219, c220, c221, c222, c223, c224, c225, c226, c227, c228, c229, c230, c231, c232, c233, c234, c235, c236, c237, c238, c239, c240, c241, c242, c243, c244, c245, c246], []⟩ w') :
    Code.wp Tryz.prog loopBody (Exit.then K (Exit.inBlock 0 (Exit.then K1 (bodyPost Tryz.prog Tryz.f3 PP)))) ⟨#[c0, c1, u2, c3, c4, .pointer (some ⟨rb, 0, none⟩), .pointer (some ⟨pm, 0, none⟩), c7, u8, u9, u10, u11, u12, u13, u14, c15, c16, c17, c18, c19, c20, c21, c22, c23, c24, c25, c26, c27, c28, c29, c30, c31, c32, c33, .slice (some ⟨bb, off, none⟩) n cap, .int .i64 (n : Int), .int .i64 (i : Int), u37, u38, u39, u40, u41, u42, u43, u44, u45, u46, u47, u48, u49, u50, u51, u52, u53, u54, u55, u56, u57, u58, u59, u60, u61, u62, u63, u64, u65, u66, u67, u68, u69, u70, u71, u72, u73, u74, u75, u76, u77, u78, u79, u80, u81, u82, u83, u84, u85, u86, u87, u88, u89, u90, u91, u92, u93, u94, u95, u96, u97, u98, u99, u100, u101, u102, u103, u104, u105, u106, u107, u108, u109, u110, u111, u112, u113, u114, u115, u116, u117, u118, u119, u120, u121, u122, u123, u124, u125, u126, u127, u128, u129, u130, u131, u132, u133, u134, u135, u136, u137, u138, u139, u140, u141, u142, u143, u144, u145, u146, u147, u148, u149, u150, u151, u152, u153, u154, u155, u156, u157, u158, u159, u160, u161, u162, u163, u164, u165, u166, u167, u168, u169, u170, u171, u172, u173, u174, u175, u176, u177, u178, u179, u180, u181, u182, u183, u184, u185, u186, u187, u188, u189, u190, u191, u192, u193, u194, u195, u196, c197, c198, c199, c200, c201, c202, c203, c204, c205, c206, c207, c208, c209, c210, c211, c212, c213, c214, c215, c216, c217, c218, c219, c220, c221, c222, c223, c224, c225, c226, c227, c228, c229, c230, c231, c232, c233, c234, c235, c236, c237, c238, c239, c240, c241, c242, c243, c244, c245, c246], []⟩ wr := by
  have m0 : wr.cell? ⟨pm, 0, none⟩ = some (.slice va B.length vc) := cell_lit HS.out.m rfl
  have m1 : wr.cell? ⟨pm, 1, none⟩ = some (.int .u64 1) := cell_lit HS.out.m rfl
  have lm : pm < wr.heap.size := lt_of_heap HS.out.m
  have ne1 : ¬ pm = wr.heap.size + 1 := by omega
  have ne2 : ¬ wr.heap.size + 1 = pm := by omega
  have HLT := Lib.hid hlt
  have HI : Hid (i ≤ 60) := Lib.hid (by omega)
  have hi60 : i ≤ 60 := by omega
  have hltI : (i : Int) < (n : Int) := by omega
  have p1' : ¬ (100 : Int) < (nm.size : Int) := by omega
  have p2' : ¬ (100 : Int) < (pre.size : Int) := by omega
  have HN : Hid (nm.size ≤ 100 ∧ now < 18446744073709551616 ∧ af < 18446744073709551616) := Lib.hid ⟨by omega, hnow, haf⟩
  have L0 := Lib.hid (HS.out.start #[.int .i64 6, .int .i64 st, .string nm, .int .u64 (now : Int), .bool on, .string pre, .int .u64 (af : Int)])
  have HBL : Hid (B.length ≤ 60) := Lib.hid (by have := HS.out.bst.len; have := HI.out; omega)
  clear hlt hn hnow haf hs1 hs2
  conv => arg 2; whnf
  have PC := fun W (h : Hid (LR w W rb i pm wr.heap.size (wr.heap.size + 1) #[.int .i64 6, .int .i64 st, .string nm, .int .u64 (now : Int), .bool on, .string pre, .int .u64 (af : Int)] (.slice va B.length vc) (.slice va B.length vc) B B B)) (hq : W.heap.size = wr.heap.size + 1 + 1) => lr_restoreQ nm st now on pre af HN.out.2.1 HN.out.2.2 h HI.out HN.out.1 #[.string nm, .int .i64 st, .int .u64 (now : Int), .bool on, .string pre, .int .u64 (af : Int)] 46 (wr.heap.size + 1 + 1) hq
  have RC := fun (W : World) (h : RB W (.slice va B.length vc) B) => Restore14_c _ 1 B nm st now on pre af W h (by have := HBL.out; omega) (by have := HN.out.1; omega)
  generalize ((rsR B nm st now on pre af).1 : Int) = E at *
  have RCH := Lib.hid RC
  clear RC m0 m1
  have m0 : wr.cell? ⟨pm, 0, none⟩ = some (.slice va B.length vc) := cell_lit HS.out.m rfl
  have m1 : wr.cell? ⟨pm, 1, none⟩ = some (.int .u64 1) := cell_lit HS.out.m rfl
  go_wp2_with fail
  refine (PC _ L0 (by simp)).mono ?_
  rintro e w3 ⟨rfl, H3⟩
  obtain ⟨BP, L3, hp, hq⟩ := H3.out
  obtain ⟨q0, q1, q2, q3, q4, q5⟩ := cells6 hq
  have L3H := Lib.hid L3
  have HP := Lib.hid hp
  obtain ⟨⟨m0, m1, mf⟩, ⟨b0, b1, b2, b3, b4, b5, b6⟩, ⟨n0, n1, nf⟩, lm3, lb3, ln3⟩ := L3.cells
  clear PC L0 L3 hp H3 hq d0 d1 d2 d3 d4 d5 d6 hlb lm
  go_wp2_with fail
  refine (RCH.out _ L3H.out.rv).mono ?_
  rintro e w4 ⟨v', rfl, H4⟩
  clear q0 q1 q2 q3 q4 q5 m0 m1 mf b0 b1 b2 b3 b4 b5 b6 n0 n1 nf lm3 lb3 ln3
  obtain ⟨B', hr, ho⟩ := H4.out
  have eB := RefO.eq HP.out ho
  subst eB
  have L5 := L3H.out.both HP.out hr ho
  obtain ⟨va', vc', rfl⟩ := hr.1.lit
  have L4 := L3H.out.below hr.2.1
  obtain ⟨⟨m0, m1, mf⟩, ⟨b0, b1, b2, b3, b4, b5, b6⟩, ⟨n0, n1, nf⟩, lm3, lb3, ln3⟩ := L4.cells
  have L6 := Lib.hid L5.fin
  clear L4 L5 hr ho H4 RCH
  go_wp2_with fail
  exact HQ _ _ _ _ L6 _ _ _ _ _ _ _ _ _ _ _ _ _ _ _ _ _ _ _ _ _ _ _ _ _ _ _ _ _ _ _ _ _ _ _ _ _ _ _ _ _ _ _ _ _ _ _ _ _ _ _ _ _ _ _ _ _ _ _ _ _ _ _ _ _ _ _ _ _ _ _ _ _ _ _ _ _ _ _ _ _ _ _ _ _ _ _ _ _ _ _ _ _ _ _ _ _ _ _ _ _ _ _ _ _ _ _ _ _ _ _ _ _ _ _ _ _ _ _ _ _ _ _ _ _ _ _ _ _ _ _ _ _ _ _ _ _ _ _ _ _ _ _ _ _ _ _ _ _ _ _ _ _ _ _ _ _ _ _ _ _ _ _ _ _ _ _ _
end Go.Proofs.YtaibjcjphmhgmaaGreatDoor
namespace Go.Proofs.YtaibjcjphmhgmaaGreatDoor
set_option linter.unusedVariables false
set_option maxRecDepth 1000000
set_option maxHeartbeats 4000000
open Go.RowKit
theorem rd_drop (w wr : World) (rb pm i n bb off cap : Nat) (va : Option Addr) (vc : Nat) (B : List Bk) (st : Int) (nm pre : ByteArray) (now af : Nat) (on : Bool)
    (HS : Hid (LS w wr rb i pm (.slice va B.length vc) B)) (hlt : i < n) (hn : n ≤ 60) (hnow : now < 18446744073709551616) (haf : af < 18446744073709551616) (hs1 : nm.size ≤ 100) (hs2 : pre.size ≤ 100)
    (d0 : wr.cell? ⟨bb, off + i * 7, none⟩ = some (.int .i64 4)) (d1 : wr.cell? ⟨bb, off + i * 7 + 1, none⟩ = some (.int .i64 st)) (d2 : wr.cell? ⟨bb, off + i * 7 + 2, none⟩ = some (.string nm)) (d3 : wr.cell? ⟨bb, off + i * 7 + 3, none⟩ = some (.int .u64 (now : Int))) (d4 : wr.cell? ⟨bb, off + i * 7 + 4, none⟩ = some (.bool on)) (d5 : wr.cell? ⟨bb, off + i * 7 + 5, none⟩ = some (.string pre)) (d6 : wr.cell? ⟨bb, off + i * 7 + 6, none⟩ = some (.int .u64 (af : Int))) (hlb : bb < wr.heap.size) 
    (c0 c1 c3 c4 c7 c15 c16 c17 c18 c19 c20 c21 c22 c23 c24 c25 c26 c27 c28 c29 c30 c31 c32 c33 c197 c198 c199 c200 c201 c202 c203 c204 c205 c206 c207 c208 c209 c210 c211 c212 c213 c214 c215 c216 c217 c218 c219 c220 c221 c222 c223 c224 c225 c226 c227 c228 c229 c230 c231 c232 c233 c234 c235 c236 c237 c238 c239 c240 c241 c242 c243 c244 c245 c246 u2 u8 u9 u10 u11 u12 u13 u14 u37 u38 u39 u40 u41 u42 u43 u44 u45 u46 u47 u48 u49 u50 u51 u52 u53 u54 u55 u56 u57 u58 u59 u60 u61 u62 u63 u64 u65 u66 u67 u68 u69 u70 u71 u72 u73 u74 u75 u76 u77 u78 u79 u80 u81 u82 u83 u84 u85 u86 u87 u88 u89 u90 u91 u92 u93 u94 u95 u96 u97 u98 u99 u100 u101 u102 u103 u104 u105 u106 u107 u108 u109 u110 u111 u112 u113 u114 u115 u116 u117 u118 u119 u120 u121 u122 u123 u124 u125 u126 u127 u128 u129 u130 u131 u132 u133 u134 u135 u136 u137 u138 u139 u140 u141 u142 u143 u144 u145 u146 u147 u148 u149 u150 u151 u152 u153 u154 u155 u156 u157 u158 u159 u160 u161 u162 u163 u164 u165 u166 u167 u168 u169 u170 u171 u172 u173 u174 u175 u176 u177 u178 u179 u180 u181 u182 u183 u184 u185 u186 u187 u188 u189 u190 u191 u192 u193 u194 u195 u196 : Value) (K K1 : Act → World → Prop) (PP : Ending → World → Prop)
    (HQ : ∀ (va' : Option Addr) (vc' : Nat) (B' : List Bk) (w' : World), Hid (LS w w' rb (i + 1) pm (.slice va' B'.length vc') B') → ∀ (v2 v8 v9 v10 v11 v12 v13 v14 v37 v38 v39 v40 v41 v42 v43 v44 v45 v46 v47 v48 v49 v50 v51 v52 v53 v54 v55 v56 v57 v58 v59 v60 v61 v62 v63 v64 v65 v66 v67 v68 v69 v70 v71 v72 v73 v74 v75 v76 v77 v78 v79 v80 v81 v82 v83 v84 v85 v86 v87 v88 v89 v90 v91 v92 v93 v94 v95 v96 v97 v98 v99 v100 v101 v102 v103 v104 v105 v106 v107 v108 v109 v110 v111 v112 v113 v114 v115 v116 v117 v118 v119 v120 v121 v122 v123 v124 v125 v126 v127 v128 v129 v130 v131 v132 v133 v134 v135 v136 v137 v138 v139 v140 v141 v142 v143 v144 v145 v146 v147 v148 v149 v150 v151 v152 v153 v154 v155 v156 v157 v158 v159 v160 v161 v162 v163 v164 v165 v166 v167 v168 v169 v170 v171 v172 v173 v174 v175 v176 v177 v178 v179 v180 v181 v182 v183 v184 v185 v186 v187 v188 v189 v190 v191 v192 v193 v194 v195 v196 : Value), K ⟨#[c0, c1, v2, c3, c4, .pointer (some ⟨rb, 0, none⟩), .pointer (some ⟨pm, 0, none⟩), c7, v8, v9, v10, v11, v12, v13, v14, c15, c16, c17, c18, c19, c20, c21, c22, c23, c24, c25, c26, c27, c28, c29, c30, c31, c32, c33, .slice (some ⟨bb, off, none⟩) n cap, .int .i64 (n : Int), .int .i64 ((i : Int) + 1), v37, v38, v39, v40, v41, v42, v43, v44, v45, v46, v47, v48, v49, v50, v51, v52, v53, v54, v55, v56, v57, v58, v59, v60, v61, v62, v63, v64, v65, v66, v67, v68, v69, v70, v71, v72, v73, v74, v75, v76, v77, v78, v79, v80, v81, v82, v83, v84, v85, v86, v87, v88, v89, v90, v91, v92, v93, v94, v95, v96, v97, v98, v99, v100, v101, v102, v103, v104, v105, v106, v107, v108, v109, v110, v111, v112, v113, v114, v115, v116, v117, v118, v119, v120, v121, v122, v123, v124, v125, v126, v127, v128, v129, v130, v131, v132, v133, v134, v135, v136, v137, v138, v139, v140, v141, v142, v143, v144, v145, v146, v147, v148, v149, v150, v151, v152, v153, v154, v155, v156, v157, v158, v159, v160, v161, v162, v163, v164, v165, v166, v167, v168, v169, v170, v171, v172, v173, v174, v175, v176, v177, v178, v179, v180, v181, v182, v183, v184, v185, v186, v187, v188, v189, v190, v191, v192, v193, v194, v195, v196, c197, c198, c199, c200, c201, c202, c203, c204, c205, c206, c207, c208, c209, c210, c211, c212, c213, c214, c215, c216, c217, c218, c219, c220, c221, c222, c223, c224, c225, c226, c227, c228, c229, c230, c231, c232, c233, c234, c235, c236, c237, c238, c239, c240, c241, c242, c243, c244, c245, c246], []⟩ w') :
    Code.wp Tryz.prog loopBody (Exit.then K (Exit.inBlock 0 (Exit.then K1 (bodyPost Tryz.prog Tryz.f3 PP)))) ⟨#[c0, c1, u2, c3, c4, .pointer (some ⟨rb, 0, none⟩), .pointer (some ⟨pm, 0, none⟩), c7, u8, u9, u10, u11, u12, u13, u14, c15, c16, c17, c18, c19, c20, c21, c22, c23, c24, c25, c26, c27, c28, c29, c30, c31, c32, c33, .slice (some ⟨bb, off, none⟩) n cap, .int .i64 (n : Int), .int .i64 (i : Int), u37, u38, u39, u40, u41, u42, u43, u44, u45, u46, u47, u48, u49, u50, u51, u52, u53, u54, u55, u56, u57, u58, u59, u60, u61, u62, u63, u64, u65, u66, u67, u68, u69, u70, u71, u72, u73, u74, u75, u76, u77, u78, u79, u80, u81, u82, u83, u84, u85, u86, u87, u88, u89, u90, u91, u92, u93, u94, u95, u96, u97, u98, u99, u100, u101, u102, u103, u104, u105, u106, u107, u108, u109, u110, u111, u112, u113, u114, u115, u116, u117, u118, u119, u120, u121, u122, u123, u124, u125, u126, u127, u128, u129, u130, u131, u132, u133, u134, u135, u136, u137, u138, u139, u140, u141, u142, u143, u144, u145, u146, u147, u148, u149, u150, u151, u152, u153, u154, u155, u156, u157, u158, u159, u160, u161, u162, u163, u164, u165, u166, u167, u168, u169, u170, u171, u172, u173, u174, u175, u176, u177, u178, u179, u180, u181, u182, u183, u184, u185, u186, u187, u188, u189, u190, u191, u192, u193, u194, u195, u196, c197, c198, c199, c200, c201, c202, c203, c204, c205, c206, c207, c208, c209, c210, c211, c212, c213, c214, c215, c216, c217, c218, c219, c220, c221, c222, c223, c224, c225, c226, c227, c228, c229, c230, c231, c232, c233, c234, c235, c236, c237, c238, c239, c240, c241, c242, c243, c244, c245, c246], []⟩ wr := by
  have m0 : wr.cell? ⟨pm, 0, none⟩ = some (.slice va B.length vc) := cell_lit HS.out.m rfl
  have m1 : wr.cell? ⟨pm, 1, none⟩ = some (.int .u64 1) := cell_lit HS.out.m rfl
  have lm : pm < wr.heap.size := lt_of_heap HS.out.m
  have ne1 : ¬ pm = wr.heap.size + 1 := by omega
  have ne2 : ¬ wr.heap.size + 1 = pm := by omega
  have HLT := Lib.hid hlt
  have HI : Hid (i ≤ 60) := Lib.hid (by omega)
  have hi60 : i ≤ 60 := by omega
  have hltI : (i : Int) < (n : Int) := by omega
  have p1' : ¬ (100 : Int) < (nm.size : Int) := by omega
  have p2' : ¬ (100 : Int) < (pre.size : Int) := by omega
  have HN : Hid (nm.size ≤ 100 ∧ now < 18446744073709551616 ∧ af < 18446744073709551616) := Lib.hid ⟨by omega, hnow, haf⟩
  have L0 := Lib.hid (HS.out.start #[.int .i64 4, .int .i64 st, .string nm, .int .u64 (now : Int), .bool on, .string pre, .int .u64 (af : Int)])
  have HBL : Hid (B.length ≤ 60) := Lib.hid (by have := HS.out.bst.len; have := HI.out; omega)
  clear hlt hn hnow haf hs1 hs2
  conv => arg 2; whnf
  have PC := fun W (h : Hid (LR w W rb i pm wr.heap.size (wr.heap.size + 1) #[.int .i64 4, .int .i64 st, .string nm, .int .u64 (now : Int), .bool on, .string pre, .int .u64 (af : Int)] (.slice va B.length vc) (.slice va B.length vc) B B B)) => lr_drop nm h HI.out HN.out.1
  have RC := fun (W : World) (h : RB W (.slice va B.length vc) B) => Drop14_c _ 1 B nm W h (by have := HBL.out; omega) (by have := HN.out.1; omega)
  generalize (errB B nm : Int) = E at *
  have RCH := Lib.hid RC
  clear RC m0 m1
  have m0 : wr.cell? ⟨pm, 0, none⟩ = some (.slice va B.length vc) := cell_lit HS.out.m rfl
  have m1 : wr.cell? ⟨pm, 1, none⟩ = some (.int .u64 1) := cell_lit HS.out.m rfl
  go_wp2_with fail
  refine (PC _ L0).mono ?_
  rintro e w3 ⟨rfl, H3⟩
  obtain ⟨BP, L3, hp⟩ := H3.out
  have L3H := Lib.hid L3
  have HP := Lib.hid hp
  obtain ⟨⟨m0, m1, mf⟩, ⟨b0, b1, b2, b3, b4, b5, b6⟩, ⟨n0, n1, nf⟩, lm3, lb3, ln3⟩ := L3.cells
  clear PC L0 L3 hp H3 d0 d1 d2 d3 d4 d5 d6 hlb lm
  go_wp2_with fail
  refine (RCH.out _ L3H.out.rv).mono ?_
  rintro e w4 ⟨v', rfl, H4⟩
  clear m0 m1 mf b0 b1 b2 b3 b4 b5 b6 n0 n1 nf lm3 lb3 ln3
  obtain ⟨B', hr, ho⟩ := H4.out
  have eB := RefD.eq HP.out.1 HP.out.2 ho
  subst eB
  have L5 := L3H.out.bothD HP.out.1 HP.out.2 hr ho
  obtain ⟨va', vc', rfl⟩ := hr.1.lit
  have L4 := L3H.out.below hr.2.1
  obtain ⟨⟨m0, m1, mf⟩, ⟨b0, b1, b2, b3, b4, b5, b6⟩, ⟨n0, n1, nf⟩, lm3, lb3, ln3⟩ := L4.cells
  have L6 := Lib.hid L5.fin
  clear L4 L5 hr ho H4 RCH
  go_wp2_with fail
  exact HQ _ _ _ _ L6 _ _ _ _ _ _ _ _ _ _ _ _ _ _ _ _ _ _ _ _ _ _ _ _ _ _ _ _ _ _ _ _ _ _ _ _ _ _ _ _ _ _ _ _ _ _ _ _ _ _ _ _ _ _ _ _ _ _ _ _ _ _ _ _ _ _ _ _ _ _ _ _ _ _ _ _ _ _ _ _ _ _ _ _ _ _ _ _ _ _ _ _ _ _ _ _ _ _ _ _ _ _ _ _ _ _ _ _ _ _ _ _ _ _ _ _ _ _ _ _ _ _ _ _ _ _ _ _ _ _ _ _ _ _ _ _ _ _ _ _ _ _ _ _ _ _ _ _ _ _ _ _ _ _ _ _ _ _ _ _ _ _ _ _ _ _ _ _
end Go.Proofs.YtaibjcjphmhgmaaGreatDoor
