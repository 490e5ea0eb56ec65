/- Parts of the proof of RecipeBuilds, joined: RfsI, RcpS, RcpT, RcpU, RcpX, RcpY, RcpN, RcpO, RcpP, RcpZ, BldA, BldP, BldB. No condition. -/
import Derived.Test.YtdcjhpafipbpkaaGreatDoorRb17
import Derived.Deep.RegionHeld3
set_option linter.unusedSimpArgs false
set_option linter.unusedVariables false
set_option linter.unusedSectionVars false
namespace Go.Proofs.YtdcjhpafipbpkaaGreatDoor
set_option maxRecDepth 100000
set_option maxHeartbeats 4000000
open Go.RowKit
theorem rC_len (C : List Ck) : (rC C).length = C.length := by unfold rC; simp
theorem rL_len (L : List Lg) : (rL L).length = L.length := by unfold rL; simp
theorem rC_get {C : List Ck} {i : Nat} (h : i < C.length) : (rC C)[i]'(by rw [rC_len]; exact h) = (C[i].id, C[i].text, C[i].cnt) := by simp [rC]
theorem chkC_get : ∀ {C : List Ck} {k : Nat} (h : k < C.length), (chkC C)[k * 3]? = some (.string C[k].id) ∧ (chkC C)[k * 3 + 1]? = some (.int .i64 (C[k].text.size : Int)) ∧ (chkC C)[k * 3 + 2]? = some (.int .i64 C[k].cnt)
  | [], k, h => by simp at h
  | c :: C, 0, h => ⟨rfl, rfl, rfl⟩
  | c :: C, k + 1, h => by
    have ih := chkC_get (C := C) (k := k) (by simpa using h)
    have e : chkC (c :: C) = .string c.id :: .int .i64 (c.text.size : Int) :: .int .i64 c.cnt :: chkC C := rfl
    rw [e, show (k + 1) * 3 = k * 3 + 1 + 1 + 1 by omega]
    simp only [List.getElem?_cons_succ, List.getElem_cons_succ]
    exact ih
theorem Kept.cell {K : Nat → Prop} {w w' : World} (h : Kept K w w') {b : Nat} (hb : K b) {i : Nat} {v : Value} (hc : w.cell? ⟨b, i, none⟩ = some v) : w'.cell? ⟨b, i, none⟩ = some v := by
  rw [← hc]; simp only [World.cell?, h b hb]
section
variable (w1 w w0 : World) (K : Nat → Prop) (sb rb ti tl n N a nx : Nat) (C : List Ck) (L : List Lg) (X : List (Nat × ByteArray))
theorem Holds_k (v : Value) (h : Hid (Chs w1 w0 w K sb rb ti tl n N a C L nx X)) (hN : a ≤ N ∧ N ≤ 1000) (hC : C.length ≤ 100000) (hL : L.length ≤ 100000) (hx : ∀ c ∈ C, (c.page, c.text) ∈ X) (hst : StR w v (rC C) (rL L)) (hloc : StLoc K v) :
    Calls Tryz.prog 37 #[.pointer (some ⟨sb, 0, none⟩), v] w fun e w' => e = .returned (.bool true) ∧ Hid (Chs w1 w0 w' K sb rb ti tl n N a C L nx X) := by
  obtain ⟨va, vl, rfl, hA, hLg⟩ := hst
  obtain ⟨aA, cA, rfl, -⟩ := hA.form
  obtain ⟨aL, cL, rfl, -⟩ := hLg.form
  rw [rC_len, rL_len] at *
  obtain ⟨wb, hwb⟩ : ∃ x, w.alloc (.cells #[.slice aA C.length cA, .slice aL L.length cL] 52) = x := ⟨_, rfl⟩
  have hB : Below w.heap.size w wb := by rw [← hwb]; exact (Below.refl _ _).alloc (Nat.le_refl _) _
  have hbl : wb.heap[w.heap.size]? = some (.cells #[.slice aA C.length cA, .slice aL L.length cL] 52 (0, 0)) := by rw [← hwb]; exact heap_alloc_new _ _
  have M0 := Lib.hid (h.out.new hB w.heap.size (Nat.le_refl _) (lt_of_heap hbl))
  have AL := All_k w1 wb wb _ sb rb ti tl n N a nx C L X M0 hN (by omega)
  have HK0 := Lib.hid (h.out.keep hB)
  have HBL := Lib.hid hbl
  have HHK := Lib.hid h.out.kept
  have HRA : Hid (∀ i (hi : i < C.length), ∃ b off, aA = some ⟨b, off, none⟩ ∧ K b ∧ ∀ W, Kept K w W → W.cell? ⟨b, off + i * 3, none⟩ = some (.string C[i].id) ∧ W.cell? ⟨b, off + i * 3 + 1, none⟩ = some (.string C[i].text) ∧ W.cell? ⟨b, off + i * 3 + 2, none⟩ = some (.int .i64 C[i].cnt)) := Lib.hid fun i hi => by
    obtain ⟨c0, c1, c2⟩ := ckC_get (C := rC C) (k := i) (by rw [rC_len]; exact hi)
    rw [rC_get hi] at c0 c1 c2
    obtain ⟨b, off, rfl, hb, hc⟩ := hA.get c0
    obtain ⟨va', vl', e', hl1, -⟩ := hloc
    cases e'
    have hKb := hl1 b rfl
    exact ⟨b, off, rfl, hKb, fun W hW => ⟨hW.cell hKb (hc _ _ c0), hW.cell hKb (hc _ _ c1), hW.cell hKb (hc _ _ c2)⟩⟩
  have HSR := Lib.hid h.out.ok.2.1
  have HNN := Lib.hid hN
  have HXX := Lib.hid hx
  have HCL := Lib.hid hC
  have HLL := Lib.hid hL
  have HOK := Lib.hid h.out.ok.1
  clear hA hLg hB hbl hN hx hloc hC hL
  go_enter Tryz.func37, Tryz.ntmps37
  go_wp2_with fail
  refine AL.mono ?_
  rintro e w2 ⟨vr, rfl, H2⟩
  have M2 := Lib.hid H2.out.2.1
  have WT := Waits_k w1 w2 w2 _ sb rb ti tl n N a nx C L X M2 HNN.out (by have := HLL.out; omega)
  have HK2 := Lib.hid H2.out.2.2
  have HRO := Lib.hid H2.out.1
  obtain ⟨ra, rc, rfl⟩ : ∃ ra rc, vr = .slice ra C.length rc := by
    rcases H2.out.1.2 with ⟨rfl, h0⟩ | ⟨g, cap, cur, rfl, -⟩
    · exact ⟨_, _, by rw [h0]⟩
    · exact ⟨_, _, rfl⟩
  clear AL H2 M0 hwb
  go_wp2_with fail
  refine WT.mono ?_
  rintro e w3 ⟨rfl, H3⟩
  have hk3 := HK2.out.trans (H3.out.kept.mono fun k hk => Or.inl hk)
  have x0 := hk3.cell (.inr rfl) (cell_lit HBL.out (i := 0) rfl)
  have x1 := hk3.cell (.inr rfl) (cell_lit HBL.out (i := 1) rfl)
  have hcl : C.length ≤ 100000 := HCL.out
  have hll : L.length ≤ 100000 := HLL.out
  have HK3 := Lib.hid hk3
  have HRR : Hid (∀ i (hi : i < C.length), ∃ g, ra = some ⟨g, 0, none⟩ ∧ ∀ W, Kept (fun k => (K k ∨ k = w.heap.size) ∨ (Value.slice ra C.length rc).ownBlock = some k) w3 W → W.cell? ⟨g, i * 3, none⟩ = some (.string C[i].id) ∧ W.cell? ⟨g, i * 3 + 1, none⟩ = some (.int .i64 (C[i].text.size : Int)) ∧ W.cell? ⟨g, i * 3 + 2, none⟩ = some (.int .i64 C[i].cnt)) := Lib.hid fun i hi => by
    obtain ⟨g, rfl⟩ : ∃ g, ra = some ⟨g, 0, none⟩ := by
      rcases HRO.out.2 with ⟨e, h0⟩ | ⟨g, cap, cur, e, -⟩
      · omega
      · cases e; exact ⟨g, rfl⟩
    obtain ⟨c0, c1, c2⟩ := chkC_get hi
    have d0 := HRO.out.cells rfl _ _ c0
    have d1 := HRO.out.cells rfl _ _ c1
    have d2 := HRO.out.cells rfl _ _ c2
    rw [addr_addO, Nat.zero_add] at d0 d1 d2
    refine ⟨g, rfl, fun W hW => ?_⟩
    have hh := H3.out.kept.trans hW
    exact ⟨hh.cell (.inr rfl) d0, hh.cell (.inr rfl) d1, hh.cell (.inr rfl) d2⟩
  have R0 : Hid (Chs w1 w3 w3 (fun k => (K k ∨ k = w.heap.size) ∨ (Value.slice ra C.length rc).ownBlock = some k) sb rb ti tl n N a C L nx X) := Lib.hid H3.out.reset
  clear WT H3 M2 hk3
  go_wp2_with fail
  go_loopg [47] C.length (fun g s47 wr => ∃ i : Nat, g = C.length - i ∧ i ≤ C.length ∧ s47 = .int .i64 (i : Int) ∧ Hid (Chs w1 w3 wr (fun k => (K k ∨ k = w.heap.size) ∨ (Value.slice ra C.length rc).ownBlock = some k) sb rb ti tl n N a C L nx X))
  case atStart => exact ⟨0, rfl, Nat.zero_le _, rfl, R0⟩
  case round =>
    obtain ⟨i, rfl, hi, rfl, HI⟩ := hrel
    clear R0 x0 x1
    have hkr := HI.out.kept
    have hx0 := hkr.cell (.inl (.inr rfl)) (HK3.out.cell (.inr rfl) (cell_lit HBL.out (i := 0) rfl))
    by_cases hlt : i < C.length
    · obtain ⟨b, off, rfl, hb, hA⟩ := HRA.out i hlt
      obtain ⟨g, rfl, hR⟩ := HRR.out i hlt
      obtain ⟨r0, r1, r2⟩ := hR wr hkr
      obtain ⟨wy, hwy⟩ : ∃ x, wr.alloc (.cells #[.string C[i].id, .int .i64 (C[i].text.size : Int), .int .i64 C[i].cnt] 106) = x := ⟨_, rfl⟩
      obtain ⟨wx, hwx⟩ : ∃ x, wy.alloc (.cells #[.string C[i].id, .string C[i].text, .int .i64 C[i].cnt] 175) = x := ⟨_, rfl⟩
      have hby : Below wr.heap.size wr wy := by rw [← hwy]; exact (Below.refl _ _).alloc (Nat.le_refl _) _
      have hys : wy.heap.size = wr.heap.size + 1 := by rw [← hwy]; simp
      have hbx : Below wr.heap.size wr wx := by rw [← hwx]; exact hby.alloc hby.size _
      have hxs : wx.heap.size = wr.heap.size + 1 + 1 := by rw [← hwx, ← hys]; simp
      have hky : Kept K w wy := ((HK0.out.trans (HK3.out.mono fun k hk => .inl hk)).trans (hkr.mono fun k hk => .inl (.inl hk))).trans ((HI.out.mono (K' := K) fun k hk => .inl (.inl hk)).keep hby)
      obtain ⟨a0, a1, a2⟩ := hA wy hky
      have hxy := (HI.out.keep hby).cell (.inl (.inr rfl)) hx0
      have hy : wy.heap[wr.heap.size]? = some (.cells #[.string C[i].id, .int .i64 (C[i].text.size : Int), .int .i64 C[i].cnt] 106 (0, 0)) := by rw [← hwy]; exact heap_alloc_new _ _
      have hyx : wx.heap[wr.heap.size]? = some (.cells #[.string C[i].id, .int .i64 (C[i].text.size : Int), .int .i64 C[i].cnt] 106 (0, 0)) := by rw [← hy, ← hwx]; exact ((Below.refl wy.heap.size wy).alloc (Nat.le_refl _) _).block _ (by omega)
      have hxx : wx.heap[wr.heap.size + 1]? = some (.cells #[.string C[i].id, .string C[i].text, .int .i64 C[i].cnt] 175 (0, 0)) := by rw [← hwx, ← hys]; exact heap_alloc_new _ _
      have HX : Hid (Chs w1 wx wx (fun k => ((K k ∨ k = w.heap.size) ∨ (Value.slice (some ⟨g, 0, none⟩) C.length rc).ownBlock = some k) ∨ (wr.heap.size ≤ k ∧ k < wx.heap.size)) sb rb ti tl n N a C L nx X) := Lib.hid (HI.out.updN (F := fun _ => False) ⟨hbx.os, hbx.tape, hbx.output, hbx.size, fun k hk _ => hbx.block k hk⟩ fun _ h => h.elim)
      have GT := Get_yes w1 wx wx _ sb rb ti tl n N a nx C L X C[i].id C[i] HX HNN.out (by have := (HOK.out C[i] (List.getElem_mem hlt)).id; omega) (cAt_of HSR.out (List.getElem_mem hlt)) (HXX.out C[i] (List.getElem_mem hlt))
      have z0 := cell_lit hyx (i := 0) rfl
      have HYX := Lib.hid (And.intro hyx hxx)
      have HKX := Lib.hid (hkr.trans (HI.out.keep hbx))
      have HGO : Hid (∀ w6, Chs w1 wx w6 (fun k => ((K k ∨ k = w.heap.size) ∨ (Value.slice (some ⟨g, 0, none⟩) C.length rc).ownBlock = some k) ∨ (wr.heap.size ≤ k ∧ k < wx.heap.size)) sb rb ti tl n N a C L nx X → Chs w1 w3 w6 (fun k => (K k ∨ k = w.heap.size) ∨ (Value.slice (some ⟨g, 0, none⟩) C.length rc).ownBlock = some k) sb rb ti tl n N a C L nx X) := Lib.hid fun w6 h6 => (h6.mono fun k hk => .inl hk).to HKX.out
      have HB2 := Lib.hid (And.intro hys hxs)
      clear HI hkr hA hR hky hby hbx hy hyx hxx HX hb
      go_wp2_with fail
      refine GT.mono ?_
      rintro e w6 ⟨rfl, H6⟩
      have hk6 := H6.out.kept
      have hin : ∀ j, j < 2 → (wr.heap.size ≤ wr.heap.size + j ∧ wr.heap.size + j < wx.heap.size) := fun j hj => by have := HB2.out.2; omega
      have y0 : w6.cell? ⟨wr.heap.size, 0, none⟩ = some (.string C[i].id) := hk6.cell (.inr (hin 0 (by omega))) (cell_lit HYX.out.1 (i := 0) rfl)
      have y1 : w6.cell? ⟨wr.heap.size, 1, none⟩ = some (.int .i64 (C[i].text.size : Int)) := hk6.cell (.inr (hin 0 (by omega))) (cell_lit HYX.out.1 (i := 1) rfl)
      have y2 : w6.cell? ⟨wr.heap.size, 2, none⟩ = some (.int .i64 C[i].cnt) := hk6.cell (.inr (hin 0 (by omega))) (cell_lit HYX.out.1 (i := 2) rfl)
      have v0 : w6.cell? ⟨wr.heap.size + 1, 0, none⟩ = some (.string C[i].id) := hk6.cell (.inr (hin 1 (by omega))) (cell_lit HYX.out.2 (i := 0) rfl)
      have v1 : w6.cell? ⟨wr.heap.size + 1, 1, none⟩ = some (.string C[i].text) := hk6.cell (.inr (hin 1 (by omega))) (cell_lit HYX.out.2 (i := 1) rfl)
      have v2 : w6.cell? ⟨wr.heap.size + 1, 2, none⟩ = some (.int .i64 C[i].cnt) := hk6.cell (.inr (hin 1 (by omega))) (cell_lit HYX.out.2 (i := 2) rfl)
      have HE := Lib.hid (HGO.out w6 H6.out)
      have hts : C[i].text.size ≤ 128 := (HOK.out C[i] (List.getElem_mem hlt)).t2
      have HLT := Lib.hid hlt
      clear GT H6 hk6 hin r0 r1 r2 a0 a1 a2 hxy hwx hwy hx0 z0
      generalize C[i].id = ky at *
      generalize C[i].text = tx at *
      generalize C[i].cnt = ct at *
      go_wp2_with fail
      go_roundg (C.length - (i + 1))
      case measure => have := HLT.out; omega
      case rel => exact ⟨i + 1, rfl, HLT.out, by congr 1, HE⟩
    · have hie : i = C.length := by omega
      subst hie
      go_wp2_with fail
      have HE : Hid (Chs w1 w0 wr K sb rb ti tl n N a C L nx X) := Lib.hid ((HI.out.mono fun k hk => .inl (.inl hk)).to ((HHK.out.trans HK0.out).trans (HK3.out.mono fun k hk => .inl hk)))
      go_ret
      exact ⟨rfl, HE⟩
end
theorem RefEnds_c (size frm n : Int) (w : World) (h : 0 ≤ size ∧ size ≤ 1000000) (h1 : -9223372036854775808 ≤ frm ∧ frm < 9223372036854775808) (h2 : -9223372036854775808 ≤ n ∧ n < 9223372036854775808) :
    Calls Tryz.prog 34 #[.int .i64 size, .int .i64 frm, .int .i64 n] w fun e w' => e = .returned (.tuple #[.int .i64 (endsL size frm n).1, .int .i64 (endsL size frm n).2]) ∧ Below w.heap.size w w' := by
  by_cases c1 : n < 1
  · have d1 : decide (n < 1) = true := decide_eq_true c1
    have HE := Lib.hid (show endsL size frm n = (0, 0) by unfold endsL; rw [if_pos (.inl c1)])
    clear c1 h h1 h2
    go_enter Tryz.func34, Tryz.ntmps34
    go_wp2_with fail
    go_ret2
    exact ⟨by rw [HE.out]; rfl, Below.refl _ _⟩
  have d1 : decide (n < 1) = false := decide_eq_false c1
  by_cases c2 : size ≤ frm
  · have d2 : decide (frm ≥ size) = true := decide_eq_true c2
    have HE := Lib.hid (show endsL size frm n = (0, 0) by unfold endsL; rw [if_pos (.inr c2)])
    clear c1 c2 h h1 h2
    go_enter Tryz.func34, Tryz.ntmps34
    go_wp2_with fail
    go_ret2
    exact ⟨by rw [HE.out]; rfl, Below.refl _ _⟩
  have d2 : decide (frm ≥ size) = false := decide_eq_false c2
  have hE0 : endsL size frm n = (max frm 0, max (if frm < 0 ∨ n < size - frm then min (frm + n) size else size) (max frm 0)) := by unfold endsL; rw [if_neg (fun h => h.elim c1 c2)]
  by_cases c3 : frm < 0
  · have d3 : decide (frm < 0) = true := decide_eq_true c3
    have HE := Lib.hid (show endsL size frm n = (max frm 0, max (min (frm + n) size) (max frm 0)) by rw [hE0, if_pos (.inl c3)])
    have e1 : wrap64 (frm + n) = frm + n := by unfold wrap64; omega
    clear c1 c2 c3 hE0 h h1 h2
    go_enter Tryz.func34, Tryz.ntmps34
    go_wp2_with fail
    go_ret2
    exact ⟨by rw [HE.out]; rfl, Below.refl _ _⟩
  have d3 : decide (frm < 0) = false := decide_eq_false c3
  have e0 : wrap64 (size - frm) = size - frm := by unfold wrap64; omega
  by_cases c4 : n < size - frm
  · have d4 : decide (n < size - frm) = true := decide_eq_true c4
    have HE := Lib.hid (show endsL size frm n = (max frm 0, max (min (frm + n) size) (max frm 0)) by rw [hE0, if_pos (.inr c4)])
    have e1 : wrap64 (frm + n) = frm + n := by unfold wrap64; omega
    clear c1 c2 c3 c4 hE0 h h1 h2
    go_enter Tryz.func34, Tryz.ntmps34
    go_wp2_with fail
    go_ret2
    exact ⟨by rw [HE.out]; rfl, Below.refl _ _⟩
  · have d4 : decide (n < size - frm) = false := decide_eq_false c4
    have HE := Lib.hid (show endsL size frm n = (max frm 0, max size (max frm 0)) by rw [hE0, if_neg (fun h => h.elim c3 c4)])
    clear c1 c2 c3 c4 hE0 h h1 h2
    go_enter Tryz.func34, Tryz.ntmps34
    go_wp2_with fail
    go_ret2
    exact ⟨by rw [HE.out]; rfl, Below.refl _ _⟩
set_option maxHeartbeats 1000000
set_option maxHeartbeats 4000000
theorem SameR_t (a b : Value) (l : List Rf) (w : World) (ha : RefsAt w a l) (hb : RefsAt w b l) :
    Calls Tryz.prog 26 #[a, b] w fun e w' => e = .returned (.bool true) ∧ Below w.heap.size w w' := by
  have HA := Lib.hid ha
  have HB := Lib.hid hb
  have HLN := Lib.hid ha.len
  obtain ⟨x, cx, rfl⟩ := ha.form
  obtain ⟨y, cy, rfl⟩ := hb.form
  clear ha hb
  go_enter Tryz.func26, Tryz.ntmps26
  go_wp2_with fail
  go_loopg [14] l.length (fun g s5 wr => ∃ k : Nat, g = l.length - k ∧ k ≤ l.length ∧ s5 = .int .i64 (k : Int) ∧ Hid (Below w.heap.size w wr))
  case atStart => exact ⟨0, by omega, Nat.zero_le _, rfl, Lib.hid (Below.refl _ _)⟩
  case round =>
    obtain ⟨k, rfl, hk, rfl, HW⟩ := hrel
    by_cases hlt : k < l.length
    · obtain ⟨b1, o1, rfl, c1, c2, hb1⟩ := ((HA.out).below HW.out).get k hlt
      obtain ⟨b2, o2, rfl, d1, d2, hb2⟩ := ((HB.out).below HW.out).get k hlt
      have HWR := Lib.hid (wrap_up hlt HLN.out)
      generalize l[k] = f at *
      obtain ⟨n, S⟩ := f
      simp only at c1 c2 d1 d2
      have HW2 : Hid (∀ o, Below w.heap.size w (wr.alloc o).drew) := Lib.hid fun o => (HW.out.alloc HW.out.size o).drew
      clear HW
      go_wp2_with fail
      go_region
      go_wp2_with fail
      go_roundg (l.length - (k + 1))
      case measure => omega
      case rel => exact ⟨k + 1, rfl, by omega, congrArg (Value.int .i64) HWR.out, Lib.hid (HW2.out _)⟩
    · obtain rfl : k = l.length := by omega
      go_wp2_with fail
      go_ret
      exact ⟨rfl, HW.out⟩
def sumS (l : List ByteArray) : Nat := (l.map ByteArray.size).sum
theorem sumS_take {l : List ByteArray} {i : Nat} (h : i < l.length) : sumS (l.take (i + 1)) = sumS (l.take i) + l[i].size := by
  unfold sumS; rw [List.take_succ_eq_append_getElem h, List.map_append, List.sum_append]; simp
theorem sumS_le (l : List ByteArray) (i : Nat) : sumS (l.take i) ≤ sumS l := by
  have : sumS l = sumS (l.take i) + sumS (l.drop i) := by
    conv => lhs; rw [← List.take_append_drop i l]
    simp only [sumS, List.map_append, List.sum_append]
  omega
def StrsIn (w : World) (v : Value) (l : List ByteArray) : Prop := ∃ a cap, v = .slice a l.length cap ∧ ∀ i (hi : i < l.length), ∃ b off, a = some ⟨b, off, none⟩ ∧ b < w.heap.size ∧ w.cell? ⟨b, off + i, none⟩ = some (.string l[i])
theorem StrsIn.below {w w' : World} {v : Value} {l : List ByteArray} (h : StrsIn w v l) (hb : Below w.heap.size w w') : StrsIn w' v l := by
  obtain ⟨a, c, rfl, hc⟩ := h
  refine ⟨a, c, rfl, fun i hi => ?_⟩
  obtain ⟨b, off, e, h3, h1⟩ := hc i hi
  exact ⟨b, off, e, Nat.lt_of_lt_of_le h3 hb.size, (hb.cell (p := ⟨b, off + i, none⟩) h3).trans h1⟩
theorem Short_c (v : Value) (l : List ByteArray) (w : World) (n : Nat) (h : StrsIn w v l) (hl : l.length ≤ 4) (hs : ∀ s ∈ l, s.size ≤ maxLen) (hn : n ≤ 1000) :
    Calls Tryz.prog 36 #[v, .int .i64 (n : Int)] w fun e w' => e = .returned (.bool (decide (sumS l ≤ n))) ∧ Hid (Below w.heap.size w w') := by
  obtain ⟨a, cap, rfl, hc⟩ := h
  have HC := Lib.hid hc
  have HS := Lib.hid hs
  have HN := Lib.hid hn
  clear hc hs
  have R0 : Hid (Below w.heap.size w w) := Lib.hid (Below.refl _ _)
  go_enter Tryz.func36, Tryz.ntmps36
  go_wp2_with fail
  go_loopg [1, 9] l.length (fun g s1 s9 wr => ∃ i : Nat, g = l.length - i ∧ i ≤ l.length ∧ s9 = .int .i64 (i : Int) ∧ s1 = .int .i64 ((n : Int) - (sumS (l.take i) : Int)) ∧ Hid (sumS (l.take i) ≤ n) ∧ Hid (Below w.heap.size w wr))
  case atStart => exact ⟨0, rfl, Nat.zero_le _, rfl, by simp [sumS], Lib.hid (by simp [sumS]), R0⟩
  case round =>
    obtain ⟨i, rfl, hi, rfl, rfl, HP, HB⟩ := hrel
    clear R0
    by_cases hlt : i < l.length
    · obtain ⟨b, off, rfl, hbl, hc⟩ := HC.out i hlt
      have hc2 : wr.cell? ⟨b, off + i, none⟩ = some (.string l[i]) := (HB.out.cell (p := ⟨b, off + i, none⟩) hbl).trans hc
      have hsz := HS.out l[i] (List.getElem_mem hlt)
      unfold maxLen at hsz
      have hst := sumS_take hlt
      have hle := sumS_le l (i + 1)
      have hp := HP.out
      obtain ⟨m, hm⟩ : ∃ m : Int, (n : Int) - (sumS (l.take i) : Int) = m := ⟨_, rfl⟩
      rw [hm]
      have hm1 : 0 ≤ m ∧ m ≤ 1000 := by omega
      have e1 : wrap64 (m - (l[i].size : Int)) = m - (l[i].size : Int) := by unfold wrap64; omega
      have HWR := Lib.hid (wrap_up hlt (by omega))
      by_cases hneg : m - (l[i].size : Int) < 0
      · have HF := Lib.hid (show decide (sumS l ≤ n) = false by rw [decide_eq_false_iff_not]; omega)
        have hd : decide (m - (l[i].size : Int) < 0) = true := decide_eq_true hneg
        generalize l[i] = t at *
        clear hc hbl hp hst hle hm hneg hsz
        go_wp2_with fail
        go_ret
        rw [HF.out]
        exact ⟨rfl, HB⟩
      · have HM := Lib.hid (show m - (l[i].size : Int) = (n : Int) - (sumS (l.take (i + 1)) : Int) by omega)
        have HP2 := Lib.hid (show sumS (l.take (i + 1)) ≤ n by omega)
        have hd : decide (m - (l[i].size : Int) < 0) = false := decide_eq_false hneg
        have HLT := Lib.hid hlt
        generalize l[i] = t at *
        clear hc hbl hp hst hle hm hneg hsz HP
        go_wp2_with fail
        go_roundg (l.length - (i + 1))
        case measure => have := HLT.out; omega
        case rel => exact ⟨i + 1, rfl, HLT.out, by congr 1, congrArg (Value.int .i64) (e1.trans HM.out), HP2, HB⟩
    · obtain rfl : i = l.length := by omega
      have hp := HP.out
      rw [List.take_length] at hp
      have HT := Lib.hid (show decide (sumS l ≤ n) = true from decide_eq_true hp)
      clear hp
      go_wp2_with fail
      go_ret
      rw [HT.out]
      exact ⟨rfl, HB⟩
theorem cutS_big (r : List UInt8) : ∀ p ∈ (cutS r).1, 16 ≤ p.length := by
  refine snoc_cut (P := fun r => ∀ p ∈ (cutS r).1, 16 ≤ p.length) (fun p hp => by simp [cutS] at hp) (fun r c ih => ?_) r
  by_cases h : endL ((cutS r).2 ++ [c]) = true
  · rw [cutS_yes h]
    intro p hp
    simp only [List.mem_append, List.mem_singleton] at hp
    rcases hp with hp | rfl
    · exact ih p hp
    · unfold endL at h
      simp only [Bool.or_eq_true, Bool.and_eq_true, decide_eq_true_eq] at h
      omega
  · rw [cutS_no h]; exact ih
theorem parts16_len : ∀ {L : List (List UInt8)}, (∀ p ∈ L, 16 ≤ p.length) → 16 * L.length ≤ L.flatten.length
  | [], _ => by simp
  | p :: L, h => by
    have h1 := parts16_len (L := L) fun q hq => h q (by simp [hq])
    have h2 := h p (by simp)
    rw [List.flatten_cons, List.length_append, List.length_cons]; omega
theorem cutT_len (s : List UInt8) : 16 * (cutT s).length ≤ s.length + 16 := by
  have h1 := parts16_len (cutS_big s)
  have h2 := (cutS_parts s).2
  have h3 : (cutS s).1.flatten.length + (cutS s).2.length = s.length := by rw [← List.length_append, h2]
  have h4 : (cutT s).length ≤ (cutS s).1.length + 1 := by
    unfold cutT
    rw [List.length_append]
    split <;> simp
  omega
theorem RefsOf.app {C : List Ck} : ∀ {P Q : List (List UInt8)} {R S : List Rf}, RefsOf C P R → RefsOf C Q S → RefsOf C (P ++ Q) (R ++ S)
  | [], Q, [], S, _, h => h
  | _ :: _, Q, _ :: _, S, g, h => ⟨g.1, RefsOf.app g.2 h⟩
  | [], _, _ :: _, _, g, _ => g.elim
  | _ :: _, _, [], _, g, _ => g.elim
structure BlL (w1 : World) (B sb rb ti tl : Nat) (l : List ByteArray) (i : Nat) (va v0 v1 : Value) (wh : ByteArray) (K : Nat → Prop) (C : List Ck) (L : List Lg) (X : List (Nat × ByteArray)) (P : List (List UInt8)) (R : List Rf) (wr : World) : Prop where
  st : RcX w1 wr wr K sb rb ti tl 30000 1000 P.length C L X
  box : wr.heap[B]? = some (.cells #[v0, v1] 52 (0, 0))
  kb : K B
  ref : StR wr (.agg #[v0, v1]) (rC C) (rL L)
  loc : StLoc (fun k => K k ∧ k ≠ B ∧ va.ownBlock ≠ some k) (.agg #[v0, v1])
  row : wr.ownsRow (B + 1) 57 2 va R.length (rcells R)
  own : ∀ j, va.ownBlock = some j → K j
  lo : w1.heap.size ≤ B ∧ sb < B ∧ ti < B ∧ tl < B
  refs : RefsOf C P R
  parts : Parts P
  text : wh.data.toList = P.flatten
  size : wh.size = sumS (l.take i)
  len : 16 * P.length ≤ wh.size + 16 * i
theorem StR.kept {w w' : World} {K : Nat → Prop} {v : Value} {C : List RCk} {L : List REn} (h : StR w v C L) (hl : StLoc K v) (hs : w.heap.size ≤ w'.heap.size) (hk : Kept K w w') : StR w' v C L := by
  obtain ⟨va, vl, rfl, h1, h2⟩ := h
  obtain ⟨va', vl', e, g1, g2⟩ := hl
  cases e
  exact ⟨va, vl, rfl, h1.keep hs fun g hg => hk g (g1 g hg), h2.keep hs fun g hg => hk g (g2 g hg)⟩
theorem RcX.to_reset {w1 w0 w : World} {K : Nat → Prop} {sb rb ti tl n N m : Nat} {C : List Ck} {L : List Lg} {X : List (Nat × ByteArray)} (h : RcX w1 w0 w K sb rb ti tl n N m C L X) : RcX w1 w w K sb rb ti tl n N m C L X := h.map fun a g => g.reset
theorem BlL.next {w1 wr w4 w5 w7 w9 : World} {B sb rb ti tl i : Nat} {l : List ByteArray} {va va' v0 v1 v0' v1' vb : Value} {wh t : ByteArray} {K : Nat → Prop} {C C' : List Ck} {L L' : List Lg} {X X' : List (Nat × ByteArray)} {P : List (List UInt8)} {R R' : List Rf}
    (h : BlL w1 B sb rb ti tl l i va v0 v1 wh K C L X P R wr) (hi : i < l.length) (ht : l[i] = t)
    (q1 : KpAll C X L (cutT t.data.toList) R' C' X' L') (q2 : w4.ownsRow wr.heap.size 57 2 vb (cutT t.data.toList).length (rcells R'))
    (q3 : RcX w1 w4 w4 (fun j => K j ∨ vb.ownBlock = some j) sb rb ti tl 30000 1000 (P.length + (cutT t.data.toList).length) C' L' X') (q4 : Kept K wr w4)
    (h5 : StR w5 (.agg #[v0', v1']) (rC C') (rL L')) (b5 : Below w4.heap.size w4 w5) (l5 : ∀ D, StLoc D (.agg #[v0, v1]) → StLoc (fun b => D b ∨ w4.heap.size ≤ b) (.agg #[v0', v1'])) (b7 : Below w5.heap.size w5 w7)
    (o9 : w9.ownsRow (B + 1) 57 2 va' (R ++ R').length (rcells (R ++ R'))) (g9 : ((w7.setCell ⟨B, 0, none⟩ v0').setCell ⟨B, 1, none⟩ v1').grownBy w9 va.ownBlock) (a9 : va'.ownBlock = va.ownBlock ∨ va'.ownBlock = some w7.heap.size) :
    ∃ K', BlL w1 B sb rb ti tl l (i + 1) va' v0' v1' (wh ++ t) K' C' L' X' (P ++ cutT t.data.toList) (R ++ R') w9 ∧ (∀ j, vb.ownBlock = some j → K' j) ∧ Kept (fun j => vb.ownBlock = some j) w4 w9 := by
  have b7' : Below w4.heap.size w4 w7 := b5.trans (b7.mono b5.size)
  have hBlt : B < w4.heap.size := q3.klt (.inl h.kb)
  have hown : ∀ k, va.ownBlock = some k → B + 1 ≤ k ∧ k < w4.heap.size := fun k e => ⟨(h.row.lt k e).1, q3.klt (.inl (h.own k e))⟩
  have hownr : ∀ k, va.ownBlock = some k → k < wr.heap.size := fun k e => (h.row.lt k e).2
  have hBr := lt_of_heap h.box
  have hU : Upd (fun k => k = B ∨ va.ownBlock = some k) w7 w9 := (((Upd.refl _ w7).setCell (p := ⟨B, 0, none⟩) (.inl (.inl rfl)) v0').setCell (p := ⟨B, 1, none⟩) (.inl (.inl rfl)) v1').grown g9 fun k e => .inl (.inr e)
  have s7 := q3.new b7'
  have s9 := s7.updN hU fun k e => by
    have hl := h.lo
    rcases e with rfl | e
    · exact ⟨.inl (.inl h.kb), hl.1, by omega, by omega, by omega⟩
    · have := hown k e
      exact ⟨.inl (.inl (h.own k e)), by omega, by omega, by omega, by omega⟩
  have hbx7 : w7.heap[B]? = some (.cells #[v0, v1] 52 (0, 0)) := (b7'.block B (by omega)).trans ((q4 B h.kb).trans h.box)
  have hbx8 := heap_set_lit (i := 1) (heap_set_lit (i := 0) hbx7 v0') v1'
  have hbx9 : w9.heap[B]? = some (.cells #[v0', v1'] 52 (0, 0)) := (g9.block B (lt_of_heap hbx8) fun e => by have := hown B e.symm; omega).trans hbx8
  have hlt5 := h5.lt
  have hloc5 := (l5 _ h.loc).and hlt5
  have s57 : w5.heap.size ≤ w7.heap.size := b7.size
  have s45 : w4.heap.size ≤ w5.heap.size := b5.size
  have k59 : ∀ k, (((K k ∧ k ≠ B ∧ va.ownBlock ≠ some k) ∨ w4.heap.size ≤ k) ∧ k < w5.heap.size) → w9.heap[k]? = w5.heap[k]? := fun k hk => by
    refine (hU.block k (by omega) ?_).trans (b7.block k hk.2)
    rintro (rfl | e)
    · rcases hk.1 with ⟨-, h2, -⟩ | h2
      · exact h2 rfl
      · omega
    · rcases hk.1 with ⟨-, -, h2⟩ | h2
      · exact h2 e
      · have := hown k e; omega
  have hK9 : ∀ k, vb.ownBlock = some k → wr.heap.size ≤ k ∧ k < w4.heap.size := fun k e => q2.lt k e
  refine ⟨fun k => ((K k ∨ vb.ownBlock = some k) ∨ (w4.heap.size ≤ k ∧ k < w7.heap.size)) ∨ (w7.heap.size ≤ k ∧ k < w9.heap.size), ⟨by rw [List.length_append]; exact s9, hbx9, .inl (.inl (.inl h.kb)), h5.kept hloc5 (by have := hU.size; omega) k59, hloc5.mono fun k hk => ⟨?_, ?_, ?_⟩, o9, fun j e => ?_, h.lo, ?_, ?_, ?_, ?_, ?_⟩, fun j e => .inl (.inl (.inr e)), fun j e => ?_⟩
  · rcases hk.1 with h2 | h2
    · exact .inl (.inl (.inl h2.1))
    · exact .inl (.inr ⟨h2, by omega⟩)
  · rcases hk.1 with h2 | h2
    · exact h2.2.1
    · omega
  · intro e
    rcases a9 with a | a
    · rw [a] at e
      rcases hk.1 with h2 | h2
      · exact h2.2.2 e
      · have := hown k e; omega
    · rw [a] at e; cases e; omega
  · rcases a9 with a | a
    · rw [a] at e; exact .inl (.inl (.inl (h.own j e)))
    · have := (o9.lt j e).2
      rw [a] at e; cases e
      exact .inr ⟨Nat.le_refl _, this⟩
  · exact (h.refs.mono q1.good.2).app q1.good.1
  · intro p hp
    simp only [List.mem_append] at hp
    exact hp.elim (h.parts p) ((cutT_ok _).1 p)
  · rw [List.flatten_append, ← h.text, (cutT_ok t.data.toList).2.1]; simp
  · rw [sumS_take hi, ← h.size, ht]; simp
  · have h1 := h.len
    have h2 := cutT_len t.data.toList
    have h3 : t.data.toList.length = t.size := (Lib.size_eq t).symm
    rw [List.length_append]
    have h4 : (wh ++ t).size = wh.size + t.size := by simp
    omega
  · have := hK9 j e
    refine (hU.block j (by have := b7'.size; omega) ?_).trans (b7'.block j this.2)
    rintro (rfl | e2)
    · omega
    · have := hownr j e2; omega
theorem StR.keepW {w w' : World} {K : Nat → Prop} {v : Value} {C : List RCk} {L : List REn} (h : StR w v C L) (hl : StLoc K v) (hk : Kept K w w') (hs : ∀ k, K k → k < w'.heap.size) : StR w' v C L := by
  obtain ⟨va, vl, rfl, h1, h2⟩ := h
  obtain ⟨va', vl', e, g1, g2⟩ := hl
  cases e
  have : ∀ {v : Value} {n sz : Nat} {xs : List Value}, RdRow w v n sz xs → (∀ g, v.ownBlock = some g → K g) → RdRow w' v n sz xs := fun h hg => by
    obtain ⟨a, c, rfl, h1, h2, h3, h4⟩ := h
    refine ⟨_, _, rfl, h1, h2, h3, fun ad e => ?_⟩
    obtain ⟨b, off, e1, h5, h6⟩ := h4 ad e
    subst e e1
    have hb := hg b rfl
    refine ⟨b, off, rfl, hs b hb, fun j u hu => ?_⟩
    rw [← h6 j u hu]
    simp only [World.cell?, hk b hb]
  exact ⟨va, vl, rfl, this h1 g1, this h2 g2⟩
theorem BlL.same {w1 w9 w10 : World} {B sb rb ti tl i : Nat} {l : List ByteArray} {va v0 v1 : Value} {wh : ByteArray} {K : Nat → Prop} {C : List Ck} {L : List Lg} {X : List (Nat × ByteArray)} {P : List (List UInt8)} {R : List Rf} (h : BlL w1 B sb rb ti tl l i va v0 v1 wh K C L X P R w9) (h2 : RcX w1 w9 w10 K sb rb ti tl 30000 1000 P.length C L X) : BlL w1 B sb rb ti tl l i va v0 v1 wh K C L X P R w10 := by
  have hk := h2.kept
  exact ⟨h2.to_reset, (hk B h.kb).trans h.box, h.kb, h.ref.keepW (h.loc.mono fun k hk => hk.1) hk fun k e => h2.klt e, h.loc, own_same h.row fun j e => hk j (h.own j e), h.own, h.lo, h.refs, h.parts, h.text, h.size, h.len⟩
theorem putR_len (C : List RCk) (t : ByteArray) : (putR C t).1.length ≤ C.length + 1 := by
  unfold putR
  split
  · exact Nat.le_succ _
  · split
    · exact Nat.le_succ _
    · split
      · show (insR C _).length ≤ C.length + 1
        rw [ins_len]; exact Nat.le_refl _
      · exact Nat.le_succ _
theorem bldR_clen (C : List RCk) (L : List REn) (ps : List ByteArray) : (bldR C L ps).1.length ≤ C.length + ps.length := by
  have : ∀ (ps : List ByteArray) (s : List RCk × List REn × List Rf), (ps.foldl stepR s).1.length ≤ s.1.length + ps.length := by
    intro ps
    induction ps with
    | nil => intro s; simp
    | cons p ps ih =>
      intro s
      rw [List.foldl_cons]
      have h1 := ih (stepR s p)
      have h2 : (stepR s p).1.length ≤ s.1.length + 1 := putR_len s.1 p
      rw [List.length_cons]; omega
  exact this ps (C, L, [])
theorem BlL.start {w2 w3 : World} {sb rb ti tl : Nat} (l : List ByteArray) (h : RcX w2 w3 w3 (fun _ => False) sb rb ti tl 30000 1000 0 [] [] []) {wb : World} (hb : Below w3.heap.size w3 wb) (hx : wb.heap[w3.heap.size]? = some (.cells #[.slice none 0 0, .slice none 0 0] 52 (0, 0))) :
    BlL w2 w3.heap.size sb rb ti tl l 0 (.slice none 0 0) (.slice none 0 0) (.slice none 0 0) ⟨#[]⟩ (fun k => False ∨ (w3.heap.size ≤ k ∧ k < wb.heap.size)) [] [] [] [] [] wb := by
  have hs := h.sbk
  exact ⟨h.new hb, hx, .inr ⟨Nat.le_refl _, lt_of_heap hx⟩, StR.nil _, ⟨_, _, rfl, fun g e => (by cases e), fun g e => (by cases e)⟩, World.ownsRow_nil _ _ _ _, fun j e => (by cases e), ⟨h.bel.size, lt_of_heap hs.1, lt_of_heap hs.2.1, lt_of_heap hs.2.2⟩, trivial, fun p hp => (by cases hp), rfl, rfl, by simp⟩
theorem bytes_all {C : List Ck} {R : List Rf} (t : ByteArray) (h : RefsOf C (cutT t.data.toList) R) (h4 : R.length ≤ 4000) : bytesL C R 0 (t.size : Int) = (t, 0) := by
  have hp := cutT_ok t.data.toList
  rw [bytesL_of h hp.1 h4, hp.2.1]
  have hl : t.data.toList.length = t.size := (Lib.size_eq t).symm
  rw [hl]
  have e : (endsL (t.size : Int) 0 (t.size : Int)).1.toNat = 0 ∧ (endsL (t.size : Int) 0 (t.size : Int)).2.toNat = t.size := by
    unfold endsL
    split
    · refine ⟨rfl, ?_⟩; show (0 : Int).toNat = t.size; omega
    · split <;> exact ⟨by show (max (0 : Int) 0).toNat = 0; omega, by simp only; omega⟩
  rw [e.1, e.2, List.drop_zero, List.take_of_length_le (by omega)]
  rfl
theorem rcells_len (R : List Rf) : (rcells R).length = R.length * 2 := by
  induction R with
  | nil => rfl
  | cons p R ih => simp only [rcells, List.flatMap_cons, List.length_append, List.length_cons, List.length_nil] at ih ⊢; omega
theorem rcells_app (R S : List Rf) : rcells (R ++ S) = rcells R ++ rcells S := by simp [rcells]
theorem rcells_one (R : List Rf) : ∀ u ∈ rcells R, u.oneCell' = true := by
  intro u hu
  simp only [rcells, List.mem_flatMap] at hu
  obtain ⟨p, -, hu⟩ := hu
  simp only [List.mem_cons, List.not_mem_nil, or_false] at hu
  rcases hu with rfl | rfl <;> rfl
theorem pages3 : 24 * 1000 ≤ pagesN 30000 := by decide
theorem RecipeBuilds_k (v : Value) (l : List ByteArray) (w : World) (h : StrsIn w v l) (hs : ∀ s ∈ l, s.size ≤ maxLen) (frm n : Int) (h1 : -9223372036854775808 ≤ frm ∧ frm < 9223372036854775808) (h2 : -9223372036854775808 ≤ n ∧ n < 9223372036854775808) :
    Calls Tryz.prog 7 #[v, .int .i64 frm, .int .i64 n] w fun e w' => e = .returned (.bool true) ∧ Hid (Below w.heap.size w w') := by
  obtain ⟨jR, hjR, hR0, hR1, hR2⟩ := info_parts infoR
  have AW := awake12_c w
  have SH : Hid (∀ w1, Below w.heap.size w w1 → l.length ≤ 4 → Calls Tryz.prog 36 #[v, .int .i64 600] w1 fun e w' => e = .returned (.bool (decide (sumS l ≤ 600))) ∧ Hid (Below w1.heap.size w1 w')) := Lib.hid fun w1 hb hl => Short_c v l w1 600 (h.below hb) hl hs (by decide)
  have ST : Hid (∀ w2, Calls Tryz.prog 23 #[.int .i64 30000] w2 fun e w' => ∃ sb rb ti tl, e = .returned (.pointer (some ⟨sb, 0, none⟩)) ∧ Hid (RcX w2 w' w' (fun _ => False) sb rb ti tl 30000 1000 0 [] [] [])) := Lib.hid fun w2 => Store_c 30000 1000 w2 (by decide) (by decide) pages3
  have HV := Lib.hid h
  have H1 := Lib.hid h1
  have H2 := Lib.hid h2
  obtain ⟨a, cap, rfl, hc⟩ := h
  have HC := Lib.hid hc
  clear hc
  clear h1 h2 hs
  go_enter Tryz.func7, Tryz.ntmps7
  go_wp2_with fail
  refine AW.mono ?_
  rintro e w1 ⟨rfl, HB1⟩
  clear AW
  by_cases hlen : 4 < l.length
  · clear SH ST
    go_wp2_with fail
    go_ret
    exact ⟨rfl, HB1⟩
  · have S1 := SH.out w1 HB1.out (by omega)
    have HLN := Lib.hid hlen
    clear SH
    go_wp2_with fail
    refine S1.mono ?_
    rintro e w2 ⟨rfl, HB2⟩
    have HW2 := Lib.hid (HB1.out.trans (HB2.out.mono HB1.out.size))
    clear S1 HB2 HB1
    by_cases hsm : sumS l ≤ 600
    · rw [decide_eq_true hsm]
      have ST2 := ST.out w2
      have HSM := Lib.hid hsm
      clear ST hsm
      go_wp2_with fail
      refine ST2.mono ?_
      rintro e w3 ⟨sb, rb, ti, tl, rfl, H3⟩
      obtain ⟨B, hB⟩ : ∃ B, w3.heap.size = B := ⟨_, rfl⟩
      clear ST2
      have M0 : Hid (∃ K, BlL w2 B sb rb ti tl l 0 (.slice none 0 0) (.slice none 0 0) (.slice none 0 0) ⟨#[]⟩ K [] [] [] [] [] (w3.alloc (.cells #[.slice none 0 0, .slice none 0 0] 52))) := Lib.hid ⟨_, by
        rw [← hB]
        exact BlL.start l H3.out ((Below.refl _ _).alloc (Nat.le_refl _) _) (heap_alloc_new _ _)⟩
      clear H3
      go_wp2_with fail
      go_loopg [9, 10, 38] l.length (fun g s9 s10 s38 wr => ∃ (i : Nat) (va v0 v1 : Value) (wh : ByteArray) (K : Nat → Prop) (C : List Ck) (L : List Lg) (X : List (Nat × ByteArray)) (P : List (List UInt8)) (R : List Rf), g = l.length - i ∧ i ≤ l.length ∧ s38 = .int .i64 (i : Int) ∧ va = s9 ∧ s10 = .string wh ∧ Hid (BlL w2 B sb rb ti tl l i va v0 v1 wh K C L X P R wr))
      case atStart => obtain ⟨K0, hM0⟩ := M0.out; exact ⟨0, _, _, _, _, _, _, _, _, _, _, rfl, Nat.zero_le _, rfl, rfl, rfl, Lib.hid hM0⟩
      case round =>
        obtain ⟨i, va, v0, v1, wh, K, C, L, X, P, R, rfl, hi, rfl, rfl, rfl, HI⟩ := hrel
        clear M0
        by_cases hlt : i < l.length
        · obtain ⟨b, off, rfl, hbl, hc⟩ := HC.out i hlt
          have hc2 : wr.cell? ⟨b, off + i, none⟩ = some (.string l[i]) := ((HW2.out.trans (HI.out.st.bel.mono HW2.out.size)).cell (p := ⟨b, off + i, none⟩) hbl).trans hc
          have hsz : l[i].size ≤ 600 := by
            have h1 := sumS_take hlt
            have h2 := sumS_le l (i + 1)
            have := HSM.out
            omega
          have hpl : P.length + (cutT l[i].data.toList).length ≤ 41 := by
            have h1 := HI.out.len
            have h2 := cutT_len l[i].data.toList
            have h3 : l[i].data.toList.length = l[i].size := (Lib.size_eq _).symm
            have h4 := HI.out.size
            have h5 := sumS_take hlt
            have h6 := sumS_le l (i + 1)
            have h7 := HSM.out
            have h8 := HLN.out
            omega
          have hwl : wh.size ≤ 600 := by
            have h4 := HI.out.size
            have h6 := sumS_le l i
            have h7 := HSM.out
            omega
          obtain ⟨t, ht⟩ : ∃ t, l[i] = t := ⟨_, rfl⟩
          rw [ht] at hc2 hsz hpl
          have HT := Lib.hid ht
          have BK := Build_k w2 wr wr K sb rb ti tl 30000 1000 P.length C L X t (Lib.hid HI.out.st) (by omega) (by omega) (by omega)
          have HLT := Lib.hid hlt
          have HPL := Lib.hid hpl
          have HWL := Lib.hid hwl
          have HSZ := Lib.hid hsz
          clear ht hpl hwl hsz hbl hc
          go_wp2_with fail
          refine BK.mono ?_
          rintro e w4 ⟨vb, rfl, HE⟩
          obtain ⟨R', C', X', L', q1, q2, q3, q4⟩ := HE.out
          obtain ⟨qr1, qr2⟩ := q1.ref (cutT_ok t.data.toList).1
          have hst4 : StR w4 (.agg #[v0, v1]) (rC C) (rL L) := HI.out.ref.keepW (HI.out.loc.mono fun k hk => hk.1) q4 fun k hk => q3.klt (.inl hk)
          have hlen4 : (rC C).length ≤ 41 ∧ (rL L).length ≤ 41 := by
            have h1 := HI.out.st.len
            have h2 := HPL.out
            rw [rC_len, rL_len]; omega
          have hcl := HPL.out
          have RB := RefBuild_rc (.agg #[v0, v1]) (rC C) (rL L) t w4 hst4 (by have := HSZ.out; omega) (by omega) (fun k hk => by
            have h1 := bldR_clen (rC C) (rL L) (((cutT t.data.toList).map ofL).take k)
            rw [List.length_take, List.length_map] at h1
            omega) (by omega) qr2
          rw [qr1] at RB
          have hbx4 := (q4 B HI.out.kb).trans HI.out.box
          have d0 := cell_lit hbx4 (i := 0) rfl
          have d1 := cell_lit hbx4 (i := 1) rfl
          have HQ1 := Lib.hid q1
          have HQ2 := Lib.hid q2
          have HQ3 := Lib.hid q3
          have HQ4 := Lib.hid q4
          have HBX4 := Lib.hid hbx4
          clear BK HE q1 q2 q3 q4 qr1 qr2 hst4 hlen4 hbx4 hcl hc2
          go_wp2_with fail
          refine RB.mono ?_
          rintro e w5 ⟨v', vr, rfl, HR5⟩
          obtain ⟨f0, fc0, f1, fc1, rfl⟩ := HR5.out.1.1.form
          obtain ⟨c0, hc0⟩ : ∃ x, (rC C').length = x := ⟨_, rfl⟩
          obtain ⟨c1, hc1⟩ : ∃ x, (rL L').length = x := ⟨_, rfl⟩
          rw [hc0, hc1] at HR5
          rw [hc0, hc1]
          clear hc0 hc1
          clear RB d0 d1
          have hR4 : R'.length ≤ 4000 := by have h1 := HQ1.out.len.1; have h2 := HPL.out; omega
          have hgd := HQ1.out.good.1
          have hins := hgd.ins (cutT_ok t.data.toList).1
          obtain ⟨x4, x5⟩ := refs_of_own HQ2.out HQ1.out.len.1.symm hins (by omega)
          obtain ⟨y4, -⟩ := refs_of_own HR5.out.1.2 HQ1.out.len.1.symm hins (by omega)
          have hb6 : Below w5.heap.size w5 (w5.alloc (.cells #[.slice f0 c0 fc0, .slice f1 c1 fc1] 52)) := (Below.refl _ _).alloc (Nat.le_refl _) _
          have SM := SameR_t vb vr R' (w5.alloc (.cells #[.slice f0 c0 fc0, .slice f1 c1 fc1] 52)) ((x4.below HR5.out.2.1).below hb6) (y4.below hb6)
          have HX4 := Lib.hid x4
          have HX5 := Lib.hid x5
          have HB6 := Lib.hid hb6
          have hbx6 : (w5.alloc (.cells #[.slice f0 c0 fc0, .slice f1 c1 fc1] 52)).heap[w5.heap.size]? = some (.cells #[.slice f0 c0 fc0, .slice f1 c1 fc1] 52 (0, 0)) := heap_alloc_new _ _
          have HBX6 := Lib.hid hbx6
          clear hR4 hgd hins x4 x5 y4 hb6 hbx6
          go_wp2_with fail
          refine SM.mono ?_
          rintro e w7 ⟨rfl, hb7⟩
          have b57 := HB6.out.trans (hb7.mono HB6.out.size)
          have b47 := HR5.out.2.1.trans (b57.mono HR5.out.2.1.size)
          have box7 := (hb7.block _ (lt_of_heap HBX6.out)).trans HBX6.out
          have boxB := (b47.block B (HQ3.out.klt (.inl HI.out.kb))).trans HBX4.out
          have hBl := HQ3.out.klt (.inl HI.out.kb)
          have hBne : B ≠ w5.heap.size := by have := HR5.out.2.1.size; omega
          obtain ⟨t0, t1, t2, t3⟩ := (two_sets boxB box7 hBne (.slice f0 c0 fc0) (.slice f1 c1 fc1) v0 v1).1
          have z0 := cell_lit box7 (i := 0) rfl
          have z1 := cell_lit box7 (i := 1) rfl
          have hw8 : ∀ j, j ≠ B → ((w7.setCell ⟨B, 0, none⟩ (.slice f0 c0 fc0)).setCell ⟨B, 1, none⟩ (.slice f1 c1 fc1)).heap[j]? = w7.heap[j]? := fun j hj => by rw [heap_set_ne _ hj, heap_set_ne _ hj]
          have HO8 : Hid (((w7.setCell ⟨B, 0, none⟩ (.slice f0 c0 fc0)).setCell ⟨B, 1, none⟩ (.slice f1 c1 fc1)).ownsRow (B + 1) 57 2 va R.length (rcells R)) := Lib.hid (own_same HI.out.row fun j e => by
            have h1 := (HI.out.row.lt j e).1
            exact ((hw8 j (by omega)).trans (b47.block j (HQ3.out.klt (.inl (HI.out.own j e))))).trans (HQ4.out j (HI.out.own j e)))
          have HY8 : Hid (Yields ((w7.setCell ⟨B, 0, none⟩ (.slice f0 c0 fc0)).setCell ⟨B, 1, none⟩ (.slice f1 c1 fc1)) vb (cutT t.data.toList).length (rcells R')) := Lib.hid (RdRow.own (own_same HQ2.out fun j e => by
            have h1 := HQ2.out.lt j e
            have h2 := lt_of_heap HI.out.box
            exact (hw8 j (by omega)).trans (b47.block j h1.2))).yields
          have HS8 : Hid (B + 1 ≤ ((w7.setCell ⟨B, 0, none⟩ (.slice f0 c0 fc0)).setCell ⟨B, 1, none⟩ (.slice f1 c1 fc1)).heap.size) := Lib.hid (by have := b47.size; simp; omega)
          have HL8 : Hid (R.length + (cutT t.data.toList).length ≤ maxLen ∧ (R.length + (cutT t.data.toList).length) * 24 ≤ 140737488355328) := Lib.hid (by
            have h1 := HI.out.refs.len
            have h2 := HPL.out
            unfold maxLen; omega)
          have HRL : Hid ((rcells R').length = (cutT t.data.toList).length * 2) := Lib.hid (by rw [rcells_len, HQ1.out.len.1])
          have HNX : Hid (∀ va' w9, w9.ownsRow (B + 1) 57 2 va' (R.length + (cutT t.data.toList).length) (rcells R ++ rcells R') → ((w7.setCell ⟨B, 0, none⟩ (.slice f0 c0 fc0)).setCell ⟨B, 1, none⟩ (.slice f1 c1 fc1)).grownBy w9 va.ownBlock → (va'.ownBlock = va.ownBlock ∨ va'.ownBlock = some ((w7.setCell ⟨B, 0, none⟩ (.slice f0 c0 fc0)).setCell ⟨B, 1, none⟩ (.slice f1 c1 fc1)).heap.size) →
              ∃ K', BlL w2 B sb rb ti tl l (i + 1) va' (.slice f0 c0 fc0) (.slice f1 c1 fc1) (wh ++ t) K' C' L' X' (P ++ cutT t.data.toList) (R ++ R') w9 ∧ (∀ j, vb.ownBlock = some j → K' j) ∧ Kept (fun j => vb.ownBlock = some j) w4 w9) := Lib.hid fun va' w9 ho hg ha =>
            BlL.next HI.out HLT.out HT.out HQ1.out HQ2.out HQ3.out HQ4.out HR5.out.1.1 HR5.out.2.1 HR5.out.2.2 b57 (by rw [List.length_append, rcells_app, HQ1.out.len.1]; exact ho) hg (by simpa using ha)
          clear SM hb7 b57 b47 box7 boxB hBl hBne hw8
          have ha1 : (wh.size + t.size > 9223372036854775807) = False := by have h1 := HWL.out; have h2 := HSZ.out; simp; omega
          have ha2 : (9223372036854775807 < wh.size + t.size) = False := ha1
          have BY : Hid (∀ va' w9 K', BlL w2 B sb rb ti tl l (i + 1) va' (.slice f0 c0 fc0) (.slice f1 c1 fc1) (wh ++ t) K' C' L' X' (P ++ cutT t.data.toList) (R ++ R') w9 → (∀ j, vb.ownBlock = some j → K' j) → Kept (fun j => vb.ownBlock = some j) w4 w9 →
              Calls Tryz.prog 27 #[.pointer (some ⟨sb, 0, none⟩), vb, .int .i64 0, .int .i64 (t.size : Int)] w9 fun e w' => e = .returned (.tuple #[.string t, .int .i64 0]) ∧ Hid (RcX w2 w9 w' K' sb rb ti tl 30000 1000 (P ++ cutT t.data.toList).length C' L' X'))  := Lib.hid fun va' w9 K' hBL hvb hkv => by
            have h1 := HPL.out
            have h2 := HSZ.out
            have h3 := Bytes_c w2 w9 w9 K' sb rb ti tl 30000 1000 (P ++ cutT t.data.toList).length C' L' X' vb R' (Lib.hid hBL.st) (by rw [List.length_append]; omega) (by rw [List.length_append]; omega) (HX4.out.kept hkv HX5.out) (fun b off n c e => hvb b (HX5.out b off n c e)) 0 t.size (by omega) (by omega)
            rw [bytes_all t HQ1.out.good.1 (by have := HQ1.out.len.1; omega)] at h3
            refine h3.mono ?_
            rintro e w' ⟨rfl, h4⟩
            exact ⟨rfl, h4⟩
          clear HQ1 HQ2 HQ3 HQ4 HR5 HX4 HX5 HB6 HBX6 HBX4 HI
          go_wp2_with (first
            | (refine chkA 46 46 ⟨_, _, by with_reducible rfl⟩ ?_
               refine wpList_append_y (by rfl) _ _ _ rfl (B + 1) 57 jR _ 2 24 Tryz.underlying46 hjR hR0 hR1 hR2 rfl (by decide) _ _ _ (by rfl) HO8.out _ _ _ (by rfl) HY8.out HRL.out (rcells_one R') HL8.out.1 HL8.out.2 HS8.out ?_
               intro va' w9 ho9 hg9 ha9
               obtain ⟨K', hBL, hvb, hkv⟩ := HNX.out va' w9 ho9 hg9 ha9
               have BY9 := BY.out va' w9 K' hBL hvb hkv
               have HBL := Lib.hid hBL
               clear ho9 hg9 ha9 hBL hvb hkv BY HNX HO8 HY8 HS8 HL8 HRL t0 t1 t2 t3 z0 z1))
          refine BY9.mono ?_
          rintro e w10 ⟨rfl, H10⟩
          have HN := Lib.hid (HBL.out.same H10.out)
          clear BY9 HBL H10
          go_wp2_with fail
          go_roundg (l.length - (i + 1))
          case measure => have := HLT.out; omega
          case rel => exact ⟨i + 1, _, _, _, _, _, _, _, _, _, _, rfl, HLT.out, by congr 1, rfl, rfl, HN⟩
        · obtain rfl : i = l.length := by omega
          have hwl : wh.size ≤ 600 := by
            have h4 := HI.out.size
            have h6 := sumS_le l l.length
            have h7 := HSM.out
            omega
          have hfl : P.flatten.length = wh.size := by rw [← HI.out.text]; exact (Lib.size_eq wh).symm
          have EN := fun W => RefEnds_c (wh.size : Int) frm n W ⟨by omega, by omega⟩ H1.out H2.out
          have hok := endsL_ok (wh.size : Int) frm n (by omega)
          obtain ⟨lo, hlo⟩ : ∃ x, (endsL (wh.size : Int) frm n).1 = x := ⟨_, rfl⟩
          obtain ⟨hi2, hhi⟩ : ∃ x, (endsL (wh.size : Int) frm n).2 = x := ⟨_, rfl⟩
          rw [hlo, hhi] at EN hok
          obtain ⟨lo', rfl⟩ : ∃ k : Nat, lo = (k : Int) := ⟨lo.toNat, by omega⟩
          obtain ⟨hi', rfl⟩ : ∃ k : Nat, hi2 = (k : Int) := ⟨hi2.toNat, by omega⟩
          have hm41 : P.length ≤ 41 := by
            have h1 := HI.out.len
            have h8 := HLN.out
            omega
          have hRl := HI.out.refs.len
          have hbl : bytesL C R frm n = (wh.extract lo' hi', 0) := by
            rw [bytesL_of HI.out.refs HI.out.parts (by omega), hfl, hlo, hhi, ← HI.out.text]
            refine Prod.ext ?_ rfl
            apply ByteArray.ext
            simp only [ofL, ByteArray.data_extract]
            apply Array.ext'
            simp [List.drop_take]
          have BY : Hid (∀ W, Below wr.heap.size wr W → Calls Tryz.prog 27 #[.pointer (some ⟨sb, 0, none⟩), va, .int .i64 frm, .int .i64 n] W fun e w' => e = .returned (.tuple #[.string (wh.extract lo' hi'), .int .i64 0]) ∧ Hid (RcX w2 wr w' K sb rb ti tl 30000 1000 P.length C L X)) := Lib.hid fun W hb => by
            obtain ⟨x4, x5⟩ := refs_of_own HI.out.row rfl (HI.out.refs.ins HI.out.parts) (by omega)
            have := Bytes_c w2 W wr K sb rb ti tl 30000 1000 P.length C L X va R (Lib.hid (HI.out.st.below hb)) ⟨by omega, by decide⟩ (by omega) (x4.below hb) (fun b off n c e => HI.out.own b (x5 b off n c e)) frm n H1.out H2.out
            rwa [hbl] at this
          have HLH : Hid (lo' ≤ hi' ∧ hi' ≤ wh.size) := Lib.hid (by omega)
          have hl1 := HLH.out
          clear hbl hlo hhi hok hlt hi
          go_wp2_with fail
          refine (EN wr).mono ?_
          rintro e w5 ⟨rfl, hb5⟩
          have BY5 := BY.out w5 hb5
          clear EN BY hb5
          go_wp2_with fail
          refine BY5.mono ?_
          rintro e w6 ⟨rfl, H6⟩
          obtain ⟨a6, ha6, hch⟩ := H6.out.ex
          have hk6 := H6.out.kept
          have hbx6 := (hk6 B HI.out.kb).trans HI.out.box
          have d0 := cell_lit hbx6 (i := 0) rfl
          have d1 := cell_lit hbx6 (i := 1) rfl
          have hst6 := HI.out.ref.keepW (HI.out.loc.mono fun k hk => hk.1) hk6 fun k e => H6.out.klt e
          have hln := H6.out.len
          have HD := Holds_k w2 w6 wr K sb rb ti tl 30000 1000 a6 L.length C L X (.agg #[v0, v1]) (Lib.hid hch) ⟨by omega, by decide⟩ (by omega) (by omega) H6.out.x hst6 (HI.out.loc.mono fun k hk => hk.1)
          clear BY5 H6 hch hk6 hbx6 hst6 hln hm41 hRl hfl HI
          go_wp2_with fail
          refine HD.mono ?_
          rintro e w7 ⟨rfl, H7⟩
          have HF : Hid (Below w.heap.size w w7) := Lib.hid (HW2.out.trans (H7.out.bel.mono HW2.out.size))
          clear HD H7
          go_wp2_with fail
          go_ret
          exact ⟨rfl, HF⟩
    · rw [decide_eq_false hsm]
      clear ST
      go_wp2_with fail
      go_ret
      exact ⟨rfl, HW2⟩
theorem RecipeBuilds_w (v0 v1 v2 : Value) (w : World) (g0 : Reads w 63 v0) (g1 : Reads w 3 v1) (g2 : Reads w 3 v2) : Calls Tryz.prog 7 #[v0, v1, v2] w fun e w' => e = .returned (.bool true) ∧ Below w.heap.size w w' := by
  obtain ⟨l, hl, hm⟩ := reads_strings Tryz.underlying63 (by kernel_rfl) Tryz.underlying9 g0
  obtain ⟨a, cap, rfl, -, -, hc⟩ := hl
  rw [List.length_map] at *
  obtain ⟨x, rfl, h1⟩ := reads_int Tryz.underlying3 g1
  obtain ⟨y, rfl, h2⟩ := reads_int Tryz.underlying3 g2
  have b1 := bounds_i64 h1
  have b2 := bounds_i64 h2
  refine (RecipeBuilds_k _ l w ⟨a, cap, rfl, fun k hk => ?_⟩ hm x y (by omega) (by omega)).mono fun e w' h => ⟨h.1, h.2.out⟩
  obtain ⟨b, off, h1, h2, h3⟩ := hc k (by simpa using hk)
  exact ⟨b, off, h1, h3, by simpa using h2⟩
end Go.Proofs.YtdcjhpafipbpkaaGreatDoor
