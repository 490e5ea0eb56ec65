/- Parts of the proof of RecipeLost, joined: Read, ReadC, RfsB, RcpR, RcpN, RfsJ, LstA, LstB. No condition. -/
import Derived.Test.YtdcjhpafipbpkaaGreatDoorRl6
import Derived.Test.YtdcjhpafipbpkaaGreatDoorRows
import Derived.ProofKit
import Derived.OpenShut
import Derived.ChangeOld
import Derived.Below
import Derived.Deep.Slices
set_option linter.unusedSimpArgs false
set_option linter.unusedVariables false
set_option linter.unusedSectionVars false
namespace Go.Proofs.YtdcjhpafipbpkaaGreatDoor
set_option maxRecDepth 100000
open Go.RowKit
theorem reads_string {w : World} {T : TypeId} {v : Value} (ht : Tryz.prog.underlying T = some .string) (h : Reads w T v) : ∃ s, v = .string s ∧ s.size ≤ maxLen := by
  obtain ⟨H, enc, d, p, base, h1, h2⟩ := h
  obtain ⟨n, rfl, _, _, hs⟩ := ChangeMaps.open_string ht h1 h2
  exact ⟨n, rfl, hs⟩
def ReadsC (w : World) (e : TypeId) (cs : List Value) : Prop := ∃ (H : Type) (enc : TypeId × Value → H) (m : Nat) (y : DataW H × List MemPlace), DataW.trod enc Tryz.prog w 0 (fun _ => true) true m e cs = some y
theorem Reads.c {w : World} {T : TypeId} {v : Value} (h : Reads w T v) : ReadsC w T v.cells.toList := by
  obtain ⟨H, enc, d, p, base, h1, fuel, hf⟩ := h
  exact ⟨H, enc, fuel, _, hf⟩
theorem reads_array {w : World} {T e : TypeId} {v : Value} {n : Nat} (ht : Tryz.prog.underlying T = some (.array n e)) (h : Reads w T v) : ∃ cs : Array Value, v = .agg cs ∧ cs.size = Tryz.prog.cellsOf T ∧ ReadsC w T cs.toList := by
  have hc := h.c
  obtain ⟨H, enc, d, p, base, h1, h2⟩ := h
  simp only [Value.okWide, ht] at h1
  obtain ⟨cs, rfl, hs, _⟩ := h1
  exact ⟨cs, rfl, hs, hc⟩
theorem readsC_array {w : World} {T e : TypeId} {cs : List Value} {n : Nat} (ht : Tryz.prog.underlying T = some (.array n e)) (h : ReadsC w T cs) :
    cs.length = Tryz.prog.cellsOf T ∧ ∀ i, i < n → ReadsC w e ((cs.drop (i * Tryz.prog.cellsOf e)).take (Tryz.prog.cellsOf e)) := by
  obtain ⟨H, enc, m, y, h⟩ := h
  obtain ⟨xs, n, _, _, hl, hx, hf⟩ := DataW.trod_array ht h
  refine ⟨hl, fun i hi => ?_⟩
  have := hf i hi
  rw [List.getElem?_eq_getElem (by omega)] at this
  exact ⟨H, enc, n, _, this⟩
theorem readsC_int {w : World} {T : TypeId} {k : IntKind} {cs : List Value} (ht : Tryz.prog.underlying T = some (.int k)) (h : ReadsC w T cs) : ∃ n, cs = [.int k n] ∧ (Lit.int k n).wf = true := by
  obtain ⟨H, enc, m, y, h⟩ := h
  obtain ⟨b, hb, _, hw⟩ := DataW.trod_int ht h
  exact ⟨b, hb, hw⟩
set_option maxHeartbeats 2000000
def getR (C : List RCk) (id : ByteArray) : ByteArray × Int := match fndR C id with
  | some c => (c.2.1, 0)
  | none => (⟨#[]⟩, 6)
theorem Get_rc (v : Value) (C : List RCk) (L : List REn) (id : ByteArray) (w : World) (h : StR w v C L) (hC : C.length ≤ 1000000) :
    Calls Tryz.prog 86 #[v, .string id] w fun e w' => e = .returned (.tuple #[.string (getR C id).1, .int .i64 (getR C id).2]) ∧ Hid (Below w.heap.size w w') := by
  obtain ⟨va, vl, rfl, h1, h2⟩ := h
  obtain ⟨wb, hwb⟩ : ∃ x, w.alloc (.cells #[va, vl] 52) = x := ⟨_, rfl⟩
  have HB : Hid (Below w.heap.size w wb) := Lib.hid (by rw [← hwb]; exact (Below.refl _ _).alloc (Nat.le_refl _) _)
  have AT := At_rc (.agg #[va, vl]) C L id wb ⟨va, vl, rfl, h1.below HB.out, h2.below HB.out⟩ hC
  have hbl : wb.heap[w.heap.size]? = some (.cells #[va, vl] 52 (0, 0)) := by rw [← hwb]; exact heap_alloc_new _ _
  have HBL := Lib.hid hbl
  have cb := cell_lit hbl (i := 0) rfl
  have cb1 := cell_lit hbl (i := 1) rfl
  have HR := Lib.hid (h1.below HB.out)
  obtain ⟨a, cap, rfl, hcap⟩ := h1.form
  clear h1 h2 hbl hcap
  cases hf : fndR C id with
  | none =>
    have hx := (ixR_none hf).1
    have HE := Lib.hid (show getR C id = (⟨#[]⟩, 6) by unfold getR; rw [hf])
    rw [hx] at AT
    clear hx hf HR
    go_enter Tryz.func86, Tryz.ntmps86
    go_wp2_with fail
    refine AT.mono ?_
    rintro e w2 ⟨rfl, H2⟩
    have HG := Lib.hid (HB.out.trans (H2.out.mono HB.out.size))
    clear AT H2 hwb
    go_wp2_with fail
    go_ret2
    rw [HE.out]
    exact ⟨rfl, HG⟩
  | some c =>
    obtain ⟨i, hi, hc, hx, -⟩ := ixR_some hf
    have HE := Lib.hid (show getR C id = (c.2.1, 0) by unfold getR; rw [hf])
    rw [hx] at AT
    obtain ⟨-, c1, -⟩ := ckC_get hi
    obtain ⟨b, off, rfl, hb, hcell⟩ := HR.out.get c1
    have ck := hcell _ _ c1
    rw [hc] at ck
    have HCK : Hid (∀ w2, Below wb.heap.size wb w2 → w2.cell? ⟨w.heap.size, 0, none⟩ = some (.slice (some ⟨b, off, none⟩) C.length cap) ∧ w2.cell? ⟨b, off + i * 3 + 1, none⟩ = some (.string c.2.1)) := Lib.hid fun w2 h => ⟨(h.cell (p := ⟨w.heap.size, 0, none⟩) (lt_of_heap HBL.out)).trans cb, (h.cell (p := ⟨b, off + i * 3 + 1, none⟩) hb).trans ck⟩
    have hi0 : ((i : Int) < 0) = False := eq_false (by omega)
    clear hx hf HR hcell ck c1 hc hb
    go_enter Tryz.func86, Tryz.ntmps86
    go_wp2_with fail
    refine AT.mono ?_
    rintro e w2 ⟨rfl, H2⟩
    obtain ⟨d0, d1⟩ := HCK.out w2 H2.out
    have HG := Lib.hid (HB.out.trans (H2.out.mono HB.out.size))
    clear AT H2 hwb cb cb1 HCK
    go_wp2_with fail
    go_ret2
    rw [HE.out]
    exact ⟨rfl, HG⟩
theorem RefRight_c (v : Value) (l : List Rf) (w : World) (h : RefsAt w v l) :
    Calls Tryz.prog 84 #[v] w fun e w' => e = .returned (.bool (rightR l)) ∧ Below w.heap.size w w' := by
  have HF := Lib.hid h
  have HLN := Lib.hid h.len
  obtain ⟨a, cap, rfl⟩ := h.form
  clear h
  by_cases h4 : l.length ≤ 4000
  case neg =>
    have HE := Lib.hid (show rightR l = false by unfold rightR; simp [h4])
    have d1 : decide ((l.length : Int) > 4000) = true := decide_eq_true (by omega)
    clear h4
    go_enter Tryz.func84, Tryz.ntmps84
    go_wp2_with fail
    go_ret
    exact ⟨ret_bool HE.out.symm, Below.refl _ _⟩
  have H4 := Lib.hid h4
  have d1 : decide ((l.length : Int) > 4000) = false := decide_eq_false (by omega)
  clear h4
  go_enter Tryz.func84, Tryz.ntmps84
  go_wp2_with fail
  go_loopg [3] l.length (fun g s7 wr => RightRel w l g s7 wr)
  case atStart => exact ⟨0, by omega, Nat.zero_le _, rfl, by simp, Below.refl _ _⟩
  case round =>
    obtain ⟨k, rfl, hk, rfl, hall, hb⟩ := hrel
    by_cases hlt : k < l.length
    · obtain ⟨b, off, rfl, c1, c2, hbl⟩ := (HF.out).get k hlt
      have c1 := (hb.cell (p := ⟨b, off + k * 2, none⟩) hbl).trans c1
      have c2 := (hb.cell (p := ⟨b, off + k * 2 + 1, none⟩) hbl).trans c2
      have Hb := Lib.hid hb
      have HA := Lib.hid (fun h => take_all hlt hall h)
      have HWR := Lib.hid (wrap_up hlt HLN.out)
      have HN := Lib.hid (fun h => not_right (List.getElem_mem hlt) h)
      clear hb hall
      generalize l[k] = p at *
      obtain ⟨i, n⟩ := p
      simp only at c1 c2
      rcases rOk_dec (i, n) with ⟨h1, h2, h3, h4⟩ | ⟨h1, h4⟩ | ⟨h1, h2, h4⟩ | ⟨h1, h2, h3, h4⟩
      · have HT := Lib.hid (HA.out h4)
        simp only at h1 h2 h3
        have hs : ((i.size : Int) != 33) = false := by rw [h1]; rfl
        have d1 : decide (n < 1) = false := decide_eq_false (by omega)
        have d2 : decide (n > 128) = false := decide_eq_false (by omega)
        clear h1 h2 h3 h4 HA HN
        go_wp2_with fail
        go_roundg (l.length - (k + 1))
        case measure => omega
        case rel => exact ⟨k + 1, rfl, by omega, congrArg (Value.int .i64) HWR.out, HT.out, Hb.out⟩
      · have HE := Lib.hid (HN.out h4)
        have hs : ((i.size : Int) != 33) = true := by simp only at h1; simp; omega
        clear h1 h4 HA HN
        go_wp2_with fail
        go_ret
        exact ⟨ret_bool HE.out.symm, Hb.out⟩
      · have HE := Lib.hid (HN.out h4)
        simp only at h1 h2
        have hs : ((i.size : Int) != 33) = false := by rw [h1]; rfl
        have d1 : decide (n < 1) = true := decide_eq_true (by omega)
        clear h1 h2 h4 HA HN
        go_wp2_with fail
        go_ret
        exact ⟨ret_bool HE.out.symm, Hb.out⟩
      · have HE := Lib.hid (HN.out h4)
        simp only at h1 h2 h3
        have hs : ((i.size : Int) != 33) = false := by rw [h1]; rfl
        have d1 : decide (n < 1) = false := decide_eq_false (by omega)
        have d2 : decide (n > 128) = true := decide_eq_true (by omega)
        clear h1 h2 h3 h4 HA HN
        go_wp2_with fail
        go_ret
        exact ⟨ret_bool HE.out.symm, Hb.out⟩
    · obtain rfl : k = l.length := by omega
      rw [List.take_length] at hall
      have Hb := Lib.hid hb
      have HE := Lib.hid (show rightR l = true by unfold rightR; rw [hall]; simp [H4.out])
      clear hall hb
      go_wp2_with fail
      go_ret
      exact ⟨ret_bool HE.out.symm, Hb.out⟩
theorem RefSize_c (v : Value) (l : List Rf) (w : World) (h : RefsAt w v l) :
    Calls Tryz.prog 35 #[v] w fun e w' => e = .returned (.int .i64 (sizeR l)) ∧ Below w.heap.size w w' := by
  have HF := Lib.hid h
  have RC := RefRight_c v l w h
  obtain ⟨a, cap, rfl⟩ := h.form
  clear h
  cases hr : rightR l with
  | false =>
    rw [hr] at RC
    have HE := Lib.hid (show sizeR l = 0 by unfold sizeR; rw [hr]; rfl)
    go_enter Tryz.func35, Tryz.ntmps35
    go_wp2_with fail
    refine RC.mono ?_
    rintro e w1 ⟨rfl, HB⟩
    go_wp2_with fail
    go_ret
    exact ⟨by rw [HE.out]; rfl, HB⟩
  | true =>
    rw [hr] at RC
    obtain ⟨hall, h4⟩ := rightR_parts hr
    have HE := Lib.hid (show sizeR l = sumR l by unfold sizeR; rw [hr]; rfl)
    have HAL := Lib.hid hall
    have H4 := Lib.hid h4
    clear hall h4 hr
    go_enter Tryz.func35, Tryz.ntmps35
    go_wp2_with fail
    refine RC.mono ?_
    rintro e w1 ⟨rfl, HB⟩
    have HB := Lib.hid HB
    clear RC
    go_wp2_with fail
    go_loopg [3, 4] l.length (fun g s3 s11 wr => SizeRel w l g s3 s11 wr)
    case atStart => exact ⟨0, by omega, Nat.zero_le _, rfl, rfl, HB.out⟩
    case round =>
      obtain ⟨k, rfl, hk, rfl, rfl, hb⟩ := hrel
      by_cases hlt : k < l.length
      · obtain ⟨b, off, rfl, c1, c2, hbl⟩ := (HF.out).get k hlt
        have c1 := (hb.cell (p := ⟨b, off + k * 2, none⟩) hbl).trans c1
        have c2 := (hb.cell (p := ⟨b, off + k * 2 + 1, none⟩) hbl).trans c2
        have Hb := Lib.hid hb
        have HWR := Lib.hid (wrap_up hlt (Nat.le_trans H4.out (by decide)))
        have HSM := Lib.hid (sumR_take hlt HAL.out H4.out)
        obtain ⟨m1, hm1⟩ : ∃ m1, sumR (l.take (k + 1)) = m1 := ⟨_, rfl⟩
        rw [hm1] at HSM
        have HM1 := Lib.hid hm1
        clear hm1
        clear hb
        generalize sumR (l.take k) = m0 at *
        generalize l[k] = p at *
        obtain ⟨i, n⟩ := p
        simp only at c1 c2
        go_wp2_with fail
        go_roundg (l.length - (k + 1))
        case measure => omega
        case rel => exact ⟨k + 1, rfl, by omega, congrArg (Value.int .i64) (HSM.out.trans HM1.out.symm), congrArg (Value.int .i64) HWR.out, Hb.out⟩
      · obtain rfl : k = l.length := by omega
        rw [List.take_length]
        have Hb := Lib.hid hb
        clear hb
        go_wp2_with fail
        go_ret
        exact ⟨by rw [HE.out]; rfl, Hb.out⟩
set_option maxHeartbeats 4000000
theorem part_c (at_ len lo hi : Int) (w : World) (h1 : 0 ≤ at_ ∧ at_ ≤ 1000000) (h2 : 0 ≤ len ∧ len ≤ 1000000) (h3 : 0 ≤ lo ∧ lo ≤ 1000000) (h4 : 0 ≤ hi ∧ hi ≤ 1000000) :
    Calls Tryz.prog 85 #[.int .i64 at_, .int .i64 len, .int .i64 lo, .int .i64 hi] w fun e w' => e = .returned (.tuple #[.int .i64 (pA lo at_), .int .i64 (pB hi at_ len)]) ∧ Below w.heap.size w w' := by
  have e1 : wrap64 (max lo at_ - at_) = pA lo at_ := by unfold wrap64 pA; omega
  have e2 : wrap64 (at_ + len) = at_ + len := by unfold wrap64; omega
  have e3 : wrap64 (min hi (at_ + len) - at_) = pB hi at_ len := by unfold wrap64 pB; omega
  clear h1 h2 h3 h4
  go_enter Tryz.func85, Tryz.ntmps85
  go_wp2_with fail
  go_ret2
  exact ⟨by rw [← e1, ← e3, ← e2]; rfl, Below.refl _ _⟩
theorem getR_rC (C : List Ck) (id : ByteArray) : getR (rC C) id = match cAt C id with | some c => (c.text, 0) | none => (⟨#[]⟩, 6) := by
  unfold getR
  rw [fnd_rC]
  cases cAt C id <;> rfl
theorem RefBytes_c (v vr : Value) (C : List Ck) (L : List REn) (l : List Rf) (w : World) (h : StR w v (rC C) L) (hC : C.length ≤ 100000) (hT : ∀ c ∈ C, c.text.size ≤ 128) (hv : RefsAt w vr l) (frm n : Int) (h1 : -9223372036854775808 ≤ frm ∧ frm < 9223372036854775808) (h2 : -9223372036854775808 ≤ n ∧ n < 9223372036854775808) :
    Calls Tryz.prog 28 #[v, vr, .int .i64 frm, .int .i64 n] w fun e w' => e = .returned (.tuple #[.string (bytesL C l frm n).1, .int .i64 (bytesL C l frm n).2]) ∧ Hid (Below w.heap.size w w') := by
  have HST := Lib.hid h
  obtain ⟨va', vl', rfl, hh1, hh2⟩ := h
  obtain ⟨a0, n0, rfl, -⟩ := hh1.form
  obtain ⟨b0, m0, rfl, -⟩ := hh2.form
  clear hh1 hh2
  obtain ⟨wb, hwb⟩ : ∃ x, w.alloc (.cells #[.slice a0 (rC C).length n0, .slice b0 L.length m0] 52) = x := ⟨_, rfl⟩
  have HB : Hid (Below w.heap.size w wb) := Lib.hid (by rw [← hwb]; exact (Below.refl _ _).alloc (Nat.le_refl _) _)
  have hbl : wb.heap[w.heap.size]? = some (.cells #[.slice a0 (rC C).length n0, .slice b0 L.length m0] 52 (0, 0)) := by rw [← hwb]; exact heap_alloc_new _ _
  have HBL := Lib.hid hbl
  have HF := Lib.hid hv
  have RC := RefRight_c vr l wb (hv.below HB.out)
  cases hr : rightR l with
  | false =>
    rw [hr] at RC
    have HE := Lib.hid (show bytesL C l frm n = (⟨#[]⟩, 1) by unfold bytesL; rw [hr]; rfl)
    clear hv h1 h2 hr hbl
    go_enter Tryz.func28, Tryz.ntmps28
    go_wp2_with fail
    refine RC.mono ?_
    rintro e w1 ⟨rfl, HB1⟩
    have HG := Lib.hid (HB.out.trans (HB1.mono HB.out.size))
    clear RC HB1 hwb
    go_wp2_with fail
    go_ret2
    exact ⟨by rw [HE.out]; rfl, HG⟩
  | true =>
    rw [hr] at RC
    obtain ⟨hall, h4⟩ := rightR_parts hr
    have hsb := sumR_bound hall
    obtain ⟨lo, hlo⟩ : ∃ lo, (endsL (sumR l) frm n).1 = lo := ⟨_, rfl⟩
    obtain ⟨hi, hhi⟩ : ∃ hi, (endsL (sumR l) frm n).2 = hi := ⟨_, rfl⟩
    have hok := endsL_ok (sumR l) frm n hsb.1
    have HE : Hid (∀ o, byL C lo hi 0 l = some o → bytesL C l frm n = (ofL o, 0)) := Lib.hid fun o ho => by unfold bytesL; rw [if_pos hr, hlo, hhi, ho]
    have HE6 : Hid (byL C lo hi 0 l = none → bytesL C l frm n = (⟨#[]⟩, 6)) := Lib.hid fun ho => by unfold bytesL; rw [if_pos hr, hlo, hhi, ho]
    have EN := fun w => RefEnds_c (sumR l) frm n w (by omega) h1 h2
    rw [hlo, hhi] at hok EN
    have HOK := Lib.hid (show 0 ≤ lo ∧ lo ≤ 1000000 ∧ 0 ≤ hi ∧ hi ≤ 1000000 by omega)
    have SZ : Hid (∀ w1, Below wb.heap.size wb w1 → Calls Tryz.prog 35 #[vr] w1 fun e w' => e = .returned (.int .i64 (sumR l)) ∧ Below w1.heap.size w1 w') := Lib.hid fun w1 hb => by
      have := RefSize_c vr l w1 ((hv.below HB.out).below hb)
      rwa [show sizeR l = sumR l by unfold sizeR; rw [hr]; rfl] at this
    have HR := Lib.hid hr
    have HAL := Lib.hid hall
    have HLN := Lib.hid h4
    have HTT := Lib.hid hT
    have HCC := Lib.hid hC
    obtain ⟨a, cap, rfl⟩ := hv.form
    clear hv h1 h2 hr hall h4 hsb hlo hhi hok hbl hT hC
    generalize sumR l = sz at *
    generalize hcl : (rC C).length = cl at *
    go_enter Tryz.func28, Tryz.ntmps28
    go_wp2_with fail
    refine RC.mono ?_
    rintro e w1 ⟨rfl, HB1⟩
    have HB1 := Lib.hid HB1
    have S1 := SZ.out w1 HB1.out
    clear RC SZ hwb
    go_wp2_with fail
    refine S1.mono ?_
    rintro e w2 ⟨rfl, HB2⟩
    have HB2 := Lib.hid (HB1.out.trans (HB2.mono HB1.out.size))
    have E2 := EN w2
    clear S1 HB1 EN
    go_wp2_with fail
    refine E2.mono ?_
    rintro e w3 ⟨rfl, HB3⟩
    have R0 : Hid (Below wb.heap.size wb w3) := Lib.hid (HB2.out.trans (HB3.mono HB2.out.size))
    clear E2 HB2 HB3
    go_wp2_with fail
    go_loopg [12, 13, 14] l.length (fun g s12 s13 s14 wr => ∃ (k : Nat) (out : List UInt8), g = l.length - k ∧ k ≤ l.length ∧ s12 = .string (ofL out) ∧ s13 = .int .i64 (atK l k) ∧ s14 = .int .i64 (k : Int) ∧ Hid (byL C lo hi 0 (l.take k) = some out ∧ out.length ≤ 128 * k) ∧ Hid (Below wb.heap.size wb wr))
    case atStart => exact ⟨0, [], rfl, Nat.zero_le _, rfl, rfl, rfl, Lib.hid ⟨rfl, by simp⟩, R0⟩
    case round =>
      obtain ⟨k, out, rfl, hk, rfl, rfl, rfl, HO, HI⟩ := hrel
      clear R0
      by_cases hlt : k < l.length
      · obtain ⟨b, off, rfl, c1, c2, hbw⟩ := (HF.out).get k hlt
        have hbwb := Nat.lt_of_lt_of_le hbw HB.out.size
        have c1 := (HI.out.cell (p := ⟨b, off + k * 2, none⟩) hbwb).trans ((HB.out.cell (p := ⟨b, off + k * 2, none⟩) hbw).trans c1)
        have c2 := (HI.out.cell (p := ⟨b, off + k * 2 + 1, none⟩) hbwb).trans ((HB.out.cell (p := ⟨b, off + k * 2 + 1, none⟩) hbw).trans c2)
        have hblr := Nat.lt_of_lt_of_le hbwb HI.out.size
        have hat := atK_bound HR.out k
        have hat1 := atK_bound HR.out (k + 1)
        have hsu := atK_succ hlt
        rw [hsu] at hat1
        have hp := (List.all_eq_true.1 HAL.out) _ (List.getElem_mem hlt)
        simp only [rOk, Bool.and_eq_true, decide_eq_true_eq] at hp
        have HWR := Lib.hid (wrap_up hlt (Nat.le_trans HLN.out (by decide)))
        have hT := byL_take (C := C) (lo := lo) (hi := hi) hlt
        rw [HO.out.1] at hT
        have HNON : Hid (by1 C lo hi (atK l k) l[k] = none → byL C lo hi 0 l = none) := Lib.hid fun h => byL_none (k + 1) hlt (by rw [hT, h]; rfl)
        have HSOM : Hid (∀ x, by1 C lo hi (atK l k) l[k] = some x → byL C lo hi 0 (l.take (k + 1)) = some (out ++ x)) := Lib.hid fun x h => by rw [hT, h]; rfl
        have HSU := Lib.hid hsu
        have PT := fun W => part_c (atK l k) l[k].2 lo hi W (by omega) (by omega) (by have := HOK.out; omega) (by have := HOK.out; omega)
        have e3 : wrap64 (atK l k + l[k].2) = atK l (k + 1) := by rw [hsu]; unfold wrap64; omega
        have hA : 0 ≤ pA lo (atK l k) := by unfold pA; omega
        have hB : pB hi (atK l k) l[k].2 ≤ l[k].2 := by unfold pB; omega
        have HBY : Hid (by1 C lo hi (atK l k) l[k] = if pA lo (atK l k) < pB hi (atK l k) l[k].2 then (cAt C l[k].1).bind fun c => if (c.text.size : Int) = l[k].2 then some (c.text.extract (pA lo (atK l k)).toNat (pB hi (atK l k) l[k].2).toNat).data.toList else none else some []) := Lib.hid rfl
        have HOL := HO.out.2
        have hk4 : k ≤ 4000 := Nat.le_trans hk HLN.out
        obtain ⟨at1, hat1'⟩ : ∃ x, atK l (k + 1) = x := ⟨_, rfl⟩
        have HA1 := Lib.hid hat1'
        rw [hat1'] at e3
        clear hat hat1 hsu hT hat1'
        clear HSU HR HAL HOK HO
        obtain ⟨bo, hbo⟩ : ∃ x, by1 C lo hi (atK l k) l[k] = x := ⟨_, rfl⟩
        rw [hbo] at HNON HSOM HBY
        clear hbo
        generalize l[k] = p at *
        obtain ⟨i, q⟩ := p
        simp only at c1 c2 PT HBY e3 hp hB
        generalize pA lo (atK l k) = A at *
        generalize pB hi (atK l k) q = B at *
        generalize atK l k = at_ at *
        have CEL : Hid (∀ W, Below wr.heap.size wr W → W.cell? ⟨b, off + k * 2, none⟩ = some (.string i) ∧ W.cell? ⟨b, off + k * 2 + 1, none⟩ = some (.int .i64 q) ∧ W.cell? ⟨w.heap.size, 0, none⟩ = some (.slice a0 cl n0) ∧ W.cell? ⟨w.heap.size, 1, none⟩ = some (.slice b0 L.length m0)) := Lib.hid fun W hb => by
          have hbx : W.heap[w.heap.size]? = some (.cells #[.slice a0 cl n0, .slice b0 L.length m0] 52 (0, 0)) := ((HI.out.trans (hb.mono HI.out.size)).block _ (lt_of_heap HBL.out)).trans HBL.out
          exact ⟨(hb.cell (p := ⟨b, off + k * 2, none⟩) hblr).trans c1, (hb.cell (p := ⟨b, off + k * 2 + 1, none⟩) hblr).trans c2, cell_lit hbx rfl, cell_lit hbx rfl⟩
        go_wp2_with fail
        refine (PT _).mono ?_
        rintro e w4 ⟨rfl, HB4⟩
        obtain ⟨d1, d2, d3, d4⟩ := CEL.out w4 HB4
        by_cases hab : A < B
        · have dab : decide (A ≥ B) = false := decide_eq_false (by omega)
          have hbe := HBY.out
          rw [if_pos hab] at hbe
          have HB4' := Lib.hid HB4
          have GT : Hid (∀ W, Below w4.heap.size w4 W → Calls Tryz.prog 86 #[.agg #[.slice a0 cl n0, .slice b0 L.length m0], .string i] W fun e w' => e = .returned (.tuple #[.string (getR (rC C) i).1, .int .i64 (getR (rC C) i).2]) ∧ (w'.cell? ⟨w.heap.size, 0, none⟩ = some (.slice a0 cl n0) ∧ w'.cell? ⟨w.heap.size, 1, none⟩ = some (.slice b0 L.length m0) ∧ w'.cell? ⟨b, off + k * 2, none⟩ = some (.string i) ∧ w'.cell? ⟨b, off + k * 2 + 1, none⟩ = some (.int .i64 q)) ∧ Hid (Below wb.heap.size wb w')) := Lib.hid fun W hW => by
            have hbW : Below wb.heap.size wb W := HI.out.trans ((HB4.trans (hW.mono HB4.size)).mono HI.out.size)
            refine (Get_rc (.agg #[.slice a0 cl n0, .slice b0 L.length m0]) (rC C) L i W ((HST.out.below HB.out).below hbW) (by unfold rC; rw [List.length_map]; have := HCC.out; omega)).mono ?_
            rintro e w' ⟨rfl, hb⟩
            have h1 := CEL.out w' (HB4.trans ((hW.trans (hb.out.mono hW.size)).mono HB4.size))
            exact ⟨rfl, ⟨h1.2.2.1, h1.2.2.2, h1.1, h1.2.1⟩, Lib.hid (hbW.trans (hb.out.mono hbW.size))⟩
          have G4 := GT.out _ (Below.refl w4.heap.size w4).drew
          rw [getR_rC] at G4
          have hTi := fun c (h : cAt C i = some c) => HTT.out c (cAt_some h).1
          clear PT GT CEL HB4
          cases hf : cAt C i with
          | none =>
            rw [hf] at G4 hbe
            have HEE := Lib.hid (HE6.out (HNON.out hbe))
            clear hf hbe HNON HSOM HBY hab hA hB hp HOL hk4 hTi HE HE6
            go_wp2_with fail
            go_region_held3 (fun w' => w'.cell? ⟨w.heap.size, 0, none⟩ = some (.slice a0 cl n0) ∧ w'.cell? ⟨w.heap.size, 1, none⟩ = some (.slice b0 L.length m0) ∧ w'.cell? ⟨b, off + k * 2, none⟩ = some (.string i) ∧ w'.cell? ⟨b, off + k * 2 + 1, none⟩ = some (.int .i64 q)) (go_keep) ((first
              | (go_at_call 86
                 refine Calls.at_args G4 (by with_reducible rfl) ?_
                 rintro e w5 ⟨rfl, hk5, HG5⟩)))
            all_goals (
              have HG := Lib.hid (HB.out.trans (HG5.out.mono HB.out.size))
              go_wp2_with fail
              go_ret2
              exact ⟨by rw [HEE.out]; rfl, HG⟩)
          | some c =>
            rw [hf] at G4 hbe
            simp only [Option.bind_some] at hbe
            simp only at G4
            have hts := hTi c hf
            obtain ⟨t, ht⟩ : ∃ t, c.text = t := ⟨_, rfl⟩
            rw [ht] at G4 hbe hts
            by_cases hs : (t.size : Int) = q
            · rw [if_pos hs] at hbe
              have hos : (ofL out).size = out.length := ofL_size out
              have HX : Hid (∃ (x y : Nat) (z : ByteArray), A = (x : Int) ∧ B = (y : Int) ∧ (x ≤ y ∧ y ≤ t.size) ∧ t.extract x y = z ∧ ((ofL out).size + z.size > 9223372036854775807) = False ∧ Hid (byL C lo hi 0 (l.take (k + 1)) = some (out ++ z.data.toList) ∧ (out ++ z.data.toList).length ≤ 128 * (k + 1)) ∧ Hid (ofL out ++ z = ofL (out ++ z.data.toList))) := Lib.hid (by
                refine ⟨A.toNat, B.toNat, _, by omega, by omega, by omega, rfl, ?_, Lib.hid ⟨HSOM.out _ hbe, ?_⟩, Lib.hid ?_⟩
                · have hzs : (t.extract A.toNat B.toNat).size ≤ 128 := by rw [ByteArray.size_extract]; omega
                  exact eq_false (by omega)
                · have hzs : (t.extract A.toNat B.toNat).size ≤ 128 := by rw [ByteArray.size_extract]; omega
                  rw [List.length_append, ← Lib.size_eq]; omega
                · apply ByteArray.ext
                  simp [ofL])
              have hne : ((t.size : Int) != q) = false := by simp [hs]
              clear hf hbe HNON HSOM HBY hab hp HOL hk4 hTi HE HE6 ht hos hA hB hts hs
              go_wp2_with fail
              go_region_held3 (fun w' => w'.cell? ⟨w.heap.size, 0, none⟩ = some (.slice a0 cl n0) ∧ w'.cell? ⟨w.heap.size, 1, none⟩ = some (.slice b0 L.length m0) ∧ w'.cell? ⟨b, off + k * 2, none⟩ = some (.string i) ∧ w'.cell? ⟨b, off + k * 2 + 1, none⟩ = some (.int .i64 q)) (go_keep) ((first
                | (go_at_call 86
                   refine Calls.at_args G4 (by with_reducible rfl) ?_
                   rintro e w5 ⟨rfl, hk5, HG5⟩)))
              all_goals (
                obtain ⟨x, y, z, rfl, rfl, hxy, hz, ha1, HNX, HOZ⟩ := HX.out
                generalize ofL out = os at *
                go_wp2_with fail
                go_roundg (l.length - (k + 1))
                case measure => omega
                case rel => exact ⟨k + 1, _, rfl, hlt, congrArg Value.string HOZ.out, congrArg (Value.int .i64) HA1.out.symm, congrArg (Value.int .i64) HWR.out, HNX, HG5⟩)
            · rw [if_neg hs] at hbe
              have HEE := Lib.hid (HE6.out (HNON.out hbe))
              have hne : ((t.size : Int) != q) = true := by simpa using hs
              clear hf hbe HNON HSOM HBY hab hA hB hp HOL hk4 hTi HE HE6 hs hts ht
              go_wp2_with fail
              go_region_held3 (fun w' => w'.cell? ⟨w.heap.size, 0, none⟩ = some (.slice a0 cl n0) ∧ w'.cell? ⟨w.heap.size, 1, none⟩ = some (.slice b0 L.length m0) ∧ w'.cell? ⟨b, off + k * 2, none⟩ = some (.string i) ∧ w'.cell? ⟨b, off + k * 2 + 1, none⟩ = some (.int .i64 q)) (go_keep) ((first
                | (go_at_call 86
                   refine Calls.at_args G4 (by with_reducible rfl) ?_
                   rintro e w5 ⟨rfl, hk5, HG5⟩)))
              all_goals (
                have HG := Lib.hid (HB.out.trans (HG5.out.mono HB.out.size))
                go_wp2_with fail
                go_ret2
                exact ⟨by rw [HEE.out]; rfl, HG⟩)
        · have dab : decide (A ≥ B) = true := decide_eq_true (by omega)
          have HN : Hid (byL C lo hi 0 (l.take (k + 1)) = some out ∧ out.length ≤ 128 * (k + 1)) := Lib.hid ⟨by
            have h := HBY.out
            rw [if_neg hab] at h
            simpa using HSOM.out [] h, by omega⟩
          have HB5 := Lib.hid (HI.out.trans (HB4.mono HI.out.size))
          clear PT HNON HSOM HBY CEL hab HB4 hA hB hp HOL hk4
          go_wp2_with fail
          go_roundg (l.length - (k + 1))
          case measure => omega
          case rel => exact ⟨k + 1, out, rfl, hlt, rfl, congrArg (Value.int .i64) (e3.trans HA1.out.symm), congrArg (Value.int .i64) HWR.out, HN, HB5⟩
      · obtain rfl : k = l.length := by omega
        have HG := Lib.hid (HB.out.trans (HI.out.mono HB.out.size))
        have ho := HO.out.1
        rw [List.take_length] at ho
        have HEE := Lib.hid (HE.out _ ho)
        clear HI HO ho hlt hk HE HE6
        go_wp2_with fail
        go_ret2
        exact ⟨by rw [HEE.out]; rfl, HG⟩
theorem reads_twoN {w : World} {v : Value} (h : Reads w 44 v) : ∃ s t : Int, v = .agg #[.int .i64 s, .int .i64 t] ∧ (Lit.int .i64 s).wf = true ∧ (Lit.int .i64 t).wf = true := by
  obtain ⟨cs, rfl, hs, hc⟩ := reads_array Tryz.underlying44 h
  have hs : cs.size = 2 := hs.trans (by kernel_rfl)
  have c1 : Tryz.prog.cellsOf 3 = 1 := by kernel_rfl
  obtain ⟨_, hf⟩ := readsC_array Tryz.underlying44 hc
  rw [c1] at hf
  obtain ⟨l, rfl⟩ : ∃ l : List Value, cs = l.toArray := ⟨cs.toList, by simp⟩
  match l, hs with
  | [a, b], _ =>
    obtain ⟨s, e1, h1⟩ := readsC_int Tryz.underlying3 (hf 0 (by decide))
    obtain ⟨t, e2, h2⟩ := readsC_int Tryz.underlying3 (hf 1 (by decide))
    simp at e1 e2
    subst e1 e2
    exact ⟨s, t, rfl, h1, h2⟩
theorem rcells_set1 : ∀ (R : List Rf) (k : Nat) (hk : k < R.length) (x : ByteArray), (rcells R).set (k * 2) (.string x) = rcells (R.set k (x, R[k].2))
  | [], k, hk, x => by simp at hk
  | p :: R, 0, hk, x => rfl
  | p :: R, k + 1, hk, x => by
    have ih := rcells_set1 R k (by simpa using hk) x
    have e : ∀ (q : Rf) (R : List Rf), rcells (q :: R) = .string q.1 :: .int .i64 q.2 :: rcells R := fun _ _ => rfl
    rw [e, show (k + 1) * 2 = k * 2 + 1 + 1 by omega, List.set_cons_succ, List.set_cons_succ, ih, List.set_cons_succ, e]
    rfl
theorem rcells_set2 : ∀ (R : List Rf) (k : Nat) (hk : k < R.length) (q : Int), (rcells R).set (k * 2 + 1) (.int .i64 q) = rcells (R.set k (R[k].1, q))
  | [], k, hk, x => by simp at hk
  | p :: R, 0, hk, x => rfl
  | p :: R, k + 1, hk, x => by
    have ih := rcells_set2 R k (by simpa using hk) x
    have e : ∀ (q : Rf) (R : List Rf), rcells (q :: R) = .string q.1 :: .int .i64 q.2 :: rcells R := fun _ _ => rfl
    rw [e, show (k + 1) * 2 + 1 = k * 2 + 1 + 1 + 1 by omega, List.set_cons_succ, List.set_cons_succ, ih, List.set_cons_succ, e]
    rfl
structure LsL (w2 : World) (K : Nat → Prop) (sb rb ti tl m : Nat) (C : List Ck) (L : List Lg) (X : List (Nat × ByteArray)) (v : Value) (B : Nat) (x0 x1 : Value) (R : List Rf) (W : World) : Prop where
  st : RcX w2 W W K sb rb ti tl 30000 1000 m C L X
  row : W.ownsRow 0 57 2 v R.length (rcells R)
  ins : ∀ p ∈ R, RfIn p
  len : R.length ≤ 1000
  own : ∀ b, v.ownBlock = some b → K b ∧ w2.heap.size ≤ b ∧ b ≠ sb ∧ b ≠ ti ∧ b ≠ tl
  ref : StR W (.agg #[x0, x1]) (rC C) (rL L)
  loc : StLoc (fun k => K k ∧ v.ownBlock ≠ some k) (.agg #[x0, x1])
  m : m ≤ 250
  box : W.heap[B]? = some (.cells #[x0, x1] 52 (0, 0))
  kb : K B ∧ v.ownBlock ≠ some B
theorem turn_idx (k : Int) (n : Nat) (hn : 0 < n) (hb : n ≤ 1000000) : ∃ (r : Int) (i : Nat), Int.tmod k n = r ∧ wrap64 (r + n) = r + n ∧ Int.tmod (r + n) n = (i : Int) ∧ i < n := by
  have h1 : -(n : Int) < Int.tmod k n := Int.lt_tmod_of_pos k (by omega)
  have h2 : Int.tmod k n < n := Int.tmod_lt_of_pos k (by omega)
  have h3 : 0 ≤ Int.tmod (Int.tmod k n + n) n := Int.tmod_nonneg _ (by omega)
  have h4 : Int.tmod (Int.tmod k n + n) n < n := Int.tmod_lt_of_pos _ (by omega)
  exact ⟨_, (Int.tmod (Int.tmod k n + n) n).toNat, rfl, by unfold wrap64; omega, by omega, by omega⟩
section
variable {w2 W W' : World} {K : Nat → Prop} {sb rb ti tl m : Nat} {C : List Ck} {L : List Lg} {X : List (Nat × ByteArray)} {v x0 x1 : Value} {B : Nat} {R R' : List Rf}
theorem LsL.set {g cap j : Nat} {u : Value} (h : LsL w2 K sb rb ti tl m C L X v B x0 x1 R W) (hv : v = .slice (some ⟨g, 0, none⟩) R.length cap) (hR : (rcells R).set j u = rcells R') (hl : R'.length = R.length) (hin : ∀ p ∈ R', RfIn p) : LsL w2 K sb rb ti tl m C L X v B x0 x1 R' (W.setCell ⟨g, j, none⟩ u) := by
  subst hv
  have ho := h.own g rfl
  refine ⟨(h.st.updN (F := fun k => k = g) (Upd.setCell (S := fun k => k = g) (Upd.refl _ W) (p := ⟨g, j, none⟩) (.inl rfl) u) fun k hk => by subst hk; exact ho).mono fun k hk => .inl hk, ?_, hin, by rw [hl]; exact h.len, h.own, h.ref.setLoc h.loc (fun hk => hk.2 rfl) u, h.loc, h.m, (heap_set_ne _ fun e => h.kb.2 (by rw [e]; rfl)).trans h.box, h.kb⟩
  have := (h.row.stored j u).1
  rw [hR] at this
  rw [hl]
  exact this
theorem LsL.refs (h : LsL w2 K sb rb ti tl m C L X v B x0 x1 R W) : RefsAt W v R ∧ ∀ b off n c, v = .slice (some ⟨b, off, none⟩) n c → K b := by
  obtain ⟨x4, x5⟩ := refs_of_own h.row rfl h.ins (by have := h.len; omega)
  exact ⟨x4, fun b off n c e => (h.own b (x5 b off n c e)).1⟩
theorem LsL.bytes (h : LsL w2 K sb rb ti tl m C L X v B x0 x1 R W) (frm num : Int) (h1 : -9223372036854775808 ≤ frm ∧ frm < 9223372036854775808) (h2 : -9223372036854775808 ≤ num ∧ num < 9223372036854775808) :
    Calls Tryz.prog 27 #[.pointer (some ⟨sb, 0, none⟩), v, .int .i64 frm, .int .i64 num] W fun e w' => e = .returned (.tuple #[.string (bytesL C R frm num).1, .int .i64 (bytesL C R frm num).2]) ∧ Hid (LsL w2 K sb rb ti tl m C L X v B x0 x1 R w') := by
  have hm := h.m
  obtain ⟨x4, x5⟩ := h.refs
  refine (Bytes_c w2 W W K sb rb ti tl 30000 1000 m C L X v R (Lib.hid h.st) ⟨by omega, by decide⟩ hm x4 x5 frm num h1 h2).mono ?_
  rintro e w' ⟨rfl, hE⟩
  have hk := hE.out.kept
  exact ⟨rfl, Lib.hid ⟨hE.out.to_reset, own_same h.row fun j e => hk j (h.own j e).1, h.ins, h.len, h.own, h.ref.keepW (h.loc.mono fun k hk => hk.1) hk fun k e => hE.out.klt e, h.loc, h.m, (hk B h.kb.1).trans h.box, h.kb⟩⟩
theorem LsL.refb (h : LsL w2 K sb rb ti tl m C L X v B x0 x1 R W) (frm num : Int) (h1 : -9223372036854775808 ≤ frm ∧ frm < 9223372036854775808) (h2 : -9223372036854775808 ≤ num ∧ num < 9223372036854775808) :
    Calls Tryz.prog 28 #[.agg #[x0, x1], v, .int .i64 frm, .int .i64 num] W fun e w' => e = .returned (.tuple #[.string (bytesL C R frm num).1, .int .i64 (bytesL C R frm num).2]) ∧ Hid (Below W.heap.size W w') := by
  have hm := h.m
  have hC : ∀ c ∈ C, c.text.size ≤ 128 := fun c hc => by
    obtain ⟨a, -, h2⟩ := h.st.ex
    exact (h2.ok.1 c hc).t2
  have hl := h.st.len
  exact RefBytes_c (.agg #[x0, x1]) v C (rL L) R W h.ref (by omega) hC h.refs.1 frm num h1 h2
end
theorem StLoc.nil : StLoc (fun _ => False) (.agg #[.slice none 0 0, .slice none 0 0]) := ⟨_, _, rfl, fun g e => (by cases e), fun g e => (by cases e)⟩
theorem LsL.start {w2 w3 w4 w5 w7 : World} {sb rb ti tl : Nat} {P : List (List UInt8)} {R : List Rf} {C : List Ck} {X : List (Nat × ByteArray)} {L : List Lg} {vb x0 x1 : Value}
    (h3 : RcX w2 w3 w3 (fun _ => False) sb rb ti tl 30000 1000 0 [] [] []) (q1 : KpAll [] [] [] P R C X L) (hP : Parts P) (hP2 : P.length ≤ 200) (q2 : w4.ownsRow w3.heap.size 57 2 vb P.length (rcells R))
    (q3 : RcX w2 w4 w4 (fun j => False ∨ vb.ownBlock = some j) sb rb ti tl 30000 1000 (0 + P.length) C L X)
    (r1 : StR w5 (.agg #[x0, x1]) (rC C) (rL L)) (r2 : Below w4.heap.size w4 w5) (r3 : ∀ D, StLoc D (.agg #[.slice none 0 0, .slice none 0 0]) → StLoc (fun b => D b ∨ w4.heap.size ≤ b) (.agg #[x0, x1]))
    (hb7 : Below (w5.alloc (.cells #[x0, x1] 52)).heap.size (w5.alloc (.cells #[x0, x1] 52)) w7) :
    LsL w2 (fun j => (False ∨ vb.ownBlock = some j) ∨ (w4.heap.size ≤ j ∧ j < w7.heap.size)) sb rb ti tl (0 + P.length) C L X vb w5.heap.size x0 x1 R w7 := by
  have b6 : Below w5.heap.size w5 (w5.alloc (.cells #[x0, x1] 52)) := (Below.refl _ _).alloc (Nat.le_refl _) _
  have b57 : Below w5.heap.size w5 w7 := b6.trans (hb7.mono b6.size)
  have b47 : Below w4.heap.size w4 w7 := r2.trans (b57.mono r2.size)
  have hlen := q1.len.1
  have hs := h3.sbk
  have hw := h3.bel.size
  have s6 : (w5.alloc (.cells #[x0, x1] 52)).heap.size = w5.heap.size + 1 := by simp
  have s7 := hb7.size
  have s5 := r2.size
  have l0 := lt_of_heap hs.1
  have l1 := lt_of_heap hs.2.1
  have l2 := lt_of_heap hs.2.2
  have lv := fun j e => q2.lt j e
  refine ⟨q3.new b47, ?_, q1.good.1.ins hP, by omega, fun b e => ⟨.inl (.inr e), ?_⟩, r1.below b57, ?_, by omega, ?_, .inr ⟨s5, by omega⟩, fun e => ?_⟩
  · rw [hlen]
    exact own_le (own_same q2 fun j e => b47.block j (lv j e).2) (Nat.zero_le _)
  · have := lv b e; omega
  · refine ((r3 _ StLoc.nil).and r1.lt).mono fun j hj => ?_
    rcases hj.1 with h | h
    · exact h.elim
    · exact ⟨.inr ⟨h, by omega⟩, fun e => by have := lv j e; omega⟩
  · exact (hb7.block _ (by omega)).trans (heap_alloc_new _ _)
  · have := lv _ e; omega
theorem RecipeLost_k (t : ByteArray) (k frm n : Int) (w : World) (hk : -9223372036854775808 ≤ k ∧ k < 9223372036854775808) (h1 : -9223372036854775808 ≤ frm ∧ frm < 9223372036854775808) (h2 : -9223372036854775808 ≤ n ∧ n < 9223372036854775808) :
    Calls Tryz.prog 4 #[.string t, .int .i64 k, .agg #[.int .i64 frm, .int .i64 n]] w fun e w' => e = .returned (.bool true) ∧ Hid (Below w.heap.size w w') := by
  have AW := awake12_c
  have ST : Hid (∀ w2, Calls Tryz.prog 23 #[.int .i64 30000] w2 fun e w' => ∃ sb rb ti tl, e = .returned (.pointer (some ⟨sb, 0, none⟩)) ∧ Hid (RcX w2 w' w' (fun _ => False) sb rb ti tl 30000 1000 0 [] [] [])) := Lib.hid fun w2 => Store_c 30000 1000 w2 (by decide) (by decide) pages3
  have HK := Lib.hid hk
  have H1 := Lib.hid h1
  have H2 := Lib.hid h2
  have a0 : (w.alloc (.cells #[.int .i64 frm, .int .i64 n] 44)).cell? ⟨w.heap.size, 0, none⟩ = some (.int .i64 frm) := cell_lit (heap_alloc_new _ _) rfl
  have a1 : (w.alloc (.cells #[.int .i64 frm, .int .i64 n] 44)).cell? ⟨w.heap.size, 1, none⟩ = some (.int .i64 n) := cell_lit (heap_alloc_new _ _) rfl
  have HA : Hid (Below w.heap.size w (w.alloc (.cells #[.int .i64 frm, .int .i64 n] 44)).drew) := Lib.hid ((Below.refl _ _).alloc (Nat.le_refl _) _).drew
  obtain ⟨wa, hwa⟩ : ∃ x, w.alloc (.cells #[.int .i64 frm, .int .i64 n] 44) = x := ⟨_, rfl⟩
  rw [hwa] at a0 a1 HA
  clear hk h1 h2
  go_enter Tryz.func4, Tryz.ntmps4
  go_wp2_with fail
  clear hwa
  go_region
  go_wp2_with fail
  refine (AW _).mono ?_
  rintro e w1 ⟨rfl, HB1⟩
  have HW1 : Hid (Below w.heap.size w w1) := Lib.hid (HA.out.trans (HB1.out.mono HA.out.size))
  clear AW HB1 HA a0 a1
  by_cases hlen : 300 < t.size
  · have d0 : decide ((t.size : Int) > 300) = true := decide_eq_true (by omega)
    clear ST hlen
    go_wp2_with fail
    go_ret
    exact ⟨rfl, HW1⟩
  · have d0 : decide ((t.size : Int) > 300) = false := decide_eq_false (by omega)
    have S1 := ST.out w1
    have hpl : (cutT t.data.toList).length ≤ 20 := by
      have h2 := cutT_len t.data.toList
      have h3 : t.data.toList.length = t.size := (Lib.size_eq _).symm
      omega
    have HPL := Lib.hid hpl
    have HTS : Hid (t.size ≤ 300) := Lib.hid (by omega)
    clear ST hlen hpl
    go_wp2_with fail
    refine S1.mono ?_
    rintro e w3 ⟨sb, rb, ti, tl, rfl, H3⟩
    have BK := Build_k w1 w3 w3 (fun _ => False) sb rb ti tl 30000 1000 0 [] [] [] t H3 (by have := HTS.out; omega) (by have := HPL.out; omega) (by have := HPL.out; omega)
    clear S1 d0
    go_wp2_with fail
    refine BK.mono ?_
    rintro e w4 ⟨vb, rfl, HE⟩
    obtain ⟨R, C, X, L, q1, q2, q3, q4⟩ := HE.out
    obtain ⟨qr1, qr2⟩ := q1.ref (cutT_ok t.data.toList).1
    have RB := RefBuild_rc (.agg #[.slice none 0 0, .slice none 0 0]) [] [] t w4 (StR.nil w4) (by have := HTS.out; omega) (by have := HPL.out; omega) (fun k hk => by
      have h1 := bldR_clen [] [] (((cutT t.data.toList).map ofL).take k)
      rw [List.length_take, List.length_map, List.length_nil] at h1
      have := HPL.out
      omega) (by have := HPL.out; simp; omega) qr2
    rw [show bldR [] [] (List.map ofL (cutT t.data.toList)) = (rC C, rL L, R) from qr1] at RB
    have HQ1 := Lib.hid q1
    have HQ2 := Lib.hid q2
    have HQ3 := Lib.hid q3
    clear BK HE q1 q2 q3 q4 qr1 qr2
    go_wp2_with fail
    refine RB.mono ?_
    rintro e w5 ⟨v', vr, rfl, HR5⟩
    obtain ⟨f0, fc0, f1, fc1, rfl⟩ := HR5.out.1.1.form
    obtain ⟨c0, hc0⟩ : ∃ x, (rC C).length = x := ⟨_, rfl⟩
    obtain ⟨c1, hc1⟩ : ∃ x, (rL L).length = x := ⟨_, rfl⟩
    rw [hc0, hc1] at HR5
    rw [hc0, hc1]
    clear RB hc0 hc1
    have hR4 : R.length ≤ 4000 := by have h1 := HQ1.out.len.1; have h2 := HPL.out; omega
    have hins := HQ1.out.good.1.ins (cutT_ok t.data.toList).1
    obtain ⟨x4, x5⟩ := refs_of_own HQ2.out HQ1.out.len.1.symm hins (by omega)
    obtain ⟨y4, -⟩ := refs_of_own HR5.out.1.2 HQ1.out.len.1.symm hins (by omega)
    have hb6 : Below w5.heap.size w5 (w5.alloc (.cells #[.slice f0 c0 fc0, .slice f1 c1 fc1] 52)) := (Below.refl _ _).alloc (Nat.le_refl _) _
    have SM := SameR_t vb vr R (w5.alloc (.cells #[.slice f0 c0 fc0, .slice f1 c1 fc1] 52)) ((x4.below HR5.out.2.1).below hb6) (y4.below hb6)
    clear hR4 hins x4 x5 y4 hb6
    go_wp2_with fail
    refine SM.mono ?_
    rintro e w7 ⟨rfl, hb7⟩
    have L7 := Lib.hid (LsL.start H3.out HQ1.out (cutT_ok t.data.toList).1 (by have := HPL.out; omega) HQ2.out HQ3.out HR5.out.1.1 HR5.out.2.1 HR5.out.2.2 hb7)
    have HOK : Hid (∀ i (hi : i < R.length), R[i].1.size = 33 ∧ 1 ≤ R[i].2 ∧ R[i].2 ≤ 128) := Lib.hid fun i hi => by
      have := (List.all_eq_true.1 (HQ1.out.good.1.right (cutT_ok t.data.toList).1)) _ (List.getElem_mem hi)
      simpa only [rOk, Bool.and_eq_true, decide_eq_true_eq] using this
    clear SM hb7 HQ1 HQ2 HQ3 HR5 H3
    obtain ⟨va, vc, hvb⟩ : ∃ va vc, vb = .slice va R.length vc := by
      rcases L7.out.row.2 with ⟨e, h0⟩ | ⟨g, cap, cur, e, -⟩
      · exact ⟨_, _, by rw [e, h0]⟩
      · exact ⟨_, _, e⟩
    subst hvb
    generalize (fun j => (False ∨ (Value.slice va R.length vc).ownBlock = some j) ∨ w4.heap.size ≤ j ∧ j < w7.heap.size) = K at L7
    generalize 0 + (cutT t.data.toList).length = m at L7
    generalize w5.heap.size = B at *
    have BYT : Hid (∀ R2 W, LsL w1 K sb rb ti tl m C L X (.slice va R.length vc) B (.slice f0 c0 fc0) (.slice f1 c1 fc1) R2 W → ∀ bl, bytesL C R2 frm n = bl → Calls Tryz.prog 27 #[.pointer (some ⟨sb, 0, none⟩), .slice va R.length vc, .int .i64 frm, .int .i64 n] W fun e w' => e = .returned (.tuple #[.string bl.1, .int .i64 bl.2]) ∧ (w'.cell? ⟨B, 0, none⟩ = some (.slice f0 c0 fc0) ∧ w'.cell? ⟨B, 1, none⟩ = some (.slice f1 c1 fc1)) ∧ Hid (LsL w1 K sb rb ti tl m C L X (.slice va R.length vc) B (.slice f0 c0 fc0) (.slice f1 c1 fc1) R2 w')) := Lib.hid fun R2 W hW bl hbl => by
      refine (hW.bytes frm n H1.out H2.out).mono ?_
      rintro e w' ⟨rfl, hE⟩
      rw [hbl]
      exact ⟨rfl, ⟨cell_lit hE.out.box rfl, cell_lit hE.out.box rfl⟩, hE⟩
    have RBT : Hid (∀ R2 W, LsL w1 K sb rb ti tl m C L X (.slice va R.length vc) B (.slice f0 c0 fc0) (.slice f1 c1 fc1) R2 W → ∀ bl, bytesL C R2 frm n = bl → Calls Tryz.prog 28 #[.agg #[.slice f0 c0 fc0, .slice f1 c1 fc1], .slice va R.length vc, .int .i64 frm, .int .i64 n] W fun e w' => e = .returned (.tuple #[.string bl.1, .int .i64 bl.2]) ∧ Hid (Below w.heap.size w w')) := Lib.hid fun R2 W hW bl hbl => by
      refine (hW.refb frm n H1.out H2.out).mono ?_
      rintro e w' ⟨rfl, hE⟩
      rw [hbl]
      have hb := hW.st.bel
      exact ⟨rfl, Lib.hid ((HW1.out.trans (hb.mono HW1.out.size)).trans (hE.out.mono (HW1.out.trans (hb.mono HW1.out.size)).size))⟩
    by_cases hin : 0 ≤ k ∧ k < R.length
    · obtain ⟨i, rfl⟩ : ∃ i : Nat, k = i := ⟨k.toNat, by omega⟩
      have hi : i < R.length := by omega
      obtain ⟨g, cap', hv, -⟩ := own_form L7.out.row (by omega)
      cases hv
      have cg := (L7.out.row.cellAt (i * 2) (by omega)).trans (rcells_get hi).1
      have fg := L7.out.row.frozenAt (i * 2)
      have d1 : decide ((i : Int) ≥ 0) = true := decide_eq_true (by omega)
      have d2 : decide ((i : Int) < (R.length : Int)) = true := decide_eq_true (by omega)
      have hi0 : (0 : Int) ≤ (i : Int) := by omega
      obtain ⟨id, hid⟩ : ∃ id, R[i].1 = id := ⟨_, rfl⟩
      rw [hid] at cg
      have hsz : id.size = 33 := by
        have := (HOK.out i hi).1
        rwa [hid] at this
      obtain ⟨z, hz⟩ : ∃ z, id.extract 1 33 = z := ⟨_, rfl⟩
      have hzs : z.size = 32 := by rw [← hz, ByteArray.size_extract]; omega
      have ha1 : ((⟨#[120]⟩ : ByteArray).size + z.size > 9223372036854775807) = False := by rw [hzs]; simp; decide
      have L8 := Lib.hid (L7.out.set (j := i * 2) (u := .string ((⟨#[120]⟩ : ByteArray) ++ z)) (R' := R.set i ((⟨#[120]⟩ : ByteArray) ++ z, R[i].2)) rfl (rcells_set1 R i hi _) (by simp) fun p hp => by
        rcases List.mem_or_eq_of_mem_set hp with h | rfl
        · exact L7.out.ins p h
        · exact L7.out.ins R[i] (List.getElem_mem hi))
      generalize R.set i ((⟨#[120]⟩ : ByteArray) ++ z, R[i].2) = R2 at *
      obtain ⟨bl, hbl⟩ : ∃ bl, bytesL C R2 frm n = bl := ⟨_, rfl⟩
      have B8 := BYT.out _ _ L8.out bl hbl
      clear BYT L7
      go_wp2_with fail
      refine B8.mono ?_
      rintro e w9 ⟨rfl, ⟨z0, z1⟩, H9⟩
      have R9 := RBT.out _ _ H9.out bl hbl
      clear B8 H9 hbl RBT
      obtain ⟨bs, be⟩ := bl
      simp only at R9
      go_wp2_with fail
      refine R9.mono ?_
      rintro e w10 ⟨rfl, HF⟩
      clear R9
      go_wp2_with fail
      go_ret
      exact ⟨by simp, HF⟩
    · have hd : decide (k ≥ 0) = false ∨ (decide (k ≥ 0) = true ∧ decide (k < (R.length : Int)) = false) := by
        by_cases h : 0 ≤ k
        · exact .inr ⟨decide_eq_true h, decide_eq_false fun h2 => hin ⟨h, h2⟩⟩
        · exact .inl (decide_eq_false h)
      by_cases hz : R.length = 0
      · have d3 : decide ((R.length : Int) > 0) = false := decide_eq_false (by omega)
        have d4 : (0 < R.length) = False := eq_false (by omega)
        obtain ⟨bl, hbl⟩ : ∃ bl, bytesL C R frm n = bl := ⟨_, rfl⟩
        have B8 := BYT.out _ _ L7.out bl hbl
        clear hin hz
        rcases hd with d1 | ⟨d1, d2⟩
        all_goals (
          clear BYT L7
          go_wp2_with fail
          refine B8.mono ?_
          rintro e w9 ⟨rfl, ⟨z0, z1⟩, H9⟩
          have R9 := RBT.out _ _ H9.out bl hbl
          clear B8 H9 hbl RBT
          obtain ⟨bs, be⟩ := bl
          simp only at R9
          go_wp2_with fail
          refine R9.mono ?_
          rintro e w10 ⟨rfl, HF⟩
          clear R9
          go_wp2_with fail
          go_ret
          exact ⟨by simp, HF⟩)
      · have d3 : decide ((R.length : Int) > 0) = true := decide_eq_true (by omega)
        obtain ⟨r, i, hr, e1, hr2, hi⟩ := turn_idx k R.length (by omega) (by have := L7.out.len; omega)
        obtain ⟨g, cap', hv, -⟩ := own_form L7.out.row (by omega)
        cases hv
        have cg := (L7.out.row.cellAt (i * 2 + 1) (by omega)).trans (rcells_get hi).2
        have fg := L7.out.row.frozenAt (i * 2 + 1)
        have hok := HOK.out i hi
        obtain ⟨q, hq⟩ : ∃ q, R[i].2 = q := ⟨_, rfl⟩
        rw [hq] at cg hok
        have e2 : wrap64 (q - 1) = q - 1 := by unfold wrap64; omega
        obtain ⟨mx, hmx⟩ : ∃ mx, max (q - 1) 1 = mx := ⟨_, rfl⟩
        have L8 := Lib.hid (L7.out.set (j := i * 2 + 1) (u := .int .i64 mx) (R' := R.set i (R[i].1, mx)) rfl (rcells_set2 R i hi _) (by simp) fun p hp => by
          rcases List.mem_or_eq_of_mem_set hp with h | rfl
          · exact L7.out.ins p h
          · unfold RfIn; simp only; omega)
        have hll : R.length ≤ 1000 := L7.out.len
        generalize R.set i (R[i].1, mx) = R2 at *
        obtain ⟨bl, hbl⟩ : ∃ bl, bytesL C R2 frm n = bl := ⟨_, rfl⟩
        have B8 := BYT.out _ _ L8.out bl hbl
        clear hin hz hok hq
        rcases hd with d1 | ⟨d1, d2⟩
        all_goals (
          clear BYT L7
          go_wp2_with fail
          refine B8.mono ?_
          rintro e w9 ⟨rfl, ⟨z0, z1⟩, H9⟩
          have R9 := RBT.out _ _ H9.out bl hbl
          clear B8 H9 hbl RBT
          obtain ⟨bs, be⟩ := bl
          simp only at R9
          go_wp2_with fail
          refine R9.mono ?_
          rintro e w10 ⟨rfl, HF⟩
          clear R9
          go_wp2_with fail
          go_ret
          exact ⟨by simp, HF⟩)
theorem RecipeLost_w (v0 v1 v2 : Value) (w : World) (g0 : Reads w 9 v0) (g1 : Reads w 3 v1) (g2 : Reads w 44 v2) : Calls Tryz.prog 4 #[v0, v1, v2] w fun e w' => e = .returned (.bool true) ∧ Below w.heap.size w w' := by
  obtain ⟨t, rfl, -⟩ := reads_string Tryz.underlying9 g0
  obtain ⟨k, rfl, hk⟩ := reads_int Tryz.underlying3 g1
  obtain ⟨x, y, rfl, h1, h2⟩ := reads_twoN g2
  have b0 := bounds_i64 hk
  have b1 := bounds_i64 h1
  have b2 := bounds_i64 h2
  exact (RecipeLost_k t k x y w (by omega) (by omega) (by omega)).mono fun e w' h => ⟨h.1, h.2.out⟩
end Go.Proofs.YtdcjhpafipbpkaaGreatDoor
