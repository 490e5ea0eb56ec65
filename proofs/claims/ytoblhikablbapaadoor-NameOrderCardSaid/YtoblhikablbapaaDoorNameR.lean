/- name: the reference's functions: walks. -/
import Derived.Test.YtoblhikablbapaaDoorNameD
namespace Go.Proofs.YtoblhikablbapaaDoor
set_option linter.unusedVariables false
set_option maxRecDepth 100000
set_option maxHeartbeats 2000000
open Go.RowKit
theorem name_cases (c : Nat) : (97 ≤ c ∧ c ≤ 122) ∨ (48 ≤ c ∧ c ≤ 57) ∨ c = 45 ∨ 122 < c ∨ (57 < c ∧ c < 97) ∨ (c < 48 ∧ c ≠ 45) := by omega
theorem head_one (c : UInt8) (r : List UInt8) : (⟨(c :: r).toArray⟩ : ByteArray)[0]? = some c := by
  rw [getElem?_pos _ 0 (by rw [size_mk]; simp)]; rfl
def BkRel (w : World) (s : ByteArray) (g : Nat) (s3 : Value) (wr : World) : Prop := ∃ k, g = s.size - k ∧ k ≤ s.size ∧ s3 = .int .i64 k ∧ (s.data.toList.take k).all nameB = true ∧ w = wr
theorem all_step {l : List UInt8} {k : Nat} (h : k < l.length) : (l.take (k + 1)).all nameB = ((l.take k).all nameB && nameB l[k]) := by
  rw [List.take_succ_eq_append_getElem h, List.all_append]; simp
theorem all_no {l : List UInt8} {k : Nat} (h : k < l.length) (hn : nameB l[k] = false) : l.all nameB = false := by
  rw [List.all_eq_false]; exact ⟨l[k], List.getElem_mem h, by simp [hn]⟩
theorem RBucket_c (s : ByteArray) (w : World) (hs : s.size ≤ 1000000000) :
    Calls Tryd.prog 37 #[.string s] w fun e w' => e = .returned (.bool (bktB s.data.toList)) ∧ w = w' := by
  have hl := Lib.size_eq s
  by_cases h1 : s.size < 3
  · have HE := Lib.hid (show bktB s.data.toList = false by unfold bktB; rw [← hl]; simp; omega)
    clear hl
    go_enter Tryd.func37, Tryd.ntmps37
    go_wp2_with fail
    go_ret
    exact ⟨ret_bool HE.out.symm, rfl⟩
  · by_cases h2 : 16 < s.size
    · have HE := Lib.hid (show bktB s.data.toList = false by unfold bktB; rw [← hl]; simp; omega)
      clear hl
      go_enter Tryd.func37, Tryd.ntmps37
      go_wp2_with fail
      go_ret
      exact ⟨ret_bool HE.out.symm, rfl⟩
    · have hb : bktB s.data.toList = (endsB s.data.toList && s.data.toList.all nameB) := by unfold bktB; rw [← hl]; simp only [show 3 ≤ s.size by omega, show s.size ≤ 16 by omega, decide_true, Bool.true_and]
      obtain ⟨n, hn⟩ : ∃ n : Nat, s.size = n + 1 := ⟨s.size - 1, by omega⟩
      have hget : ∀ k (h : k < s.size), s.data.toList[k]? = some s[k] := fun k h => by
        rw [List.getElem?_eq_getElem (by rw [← hl]; exact h)]
        have : s[k] = s.data.toList[k]'(by rw [← hl]; exact h) := by simp; rfl
        rw [this]
      have p0 : 0 < s.size := by omega
      have pn : n < s.size := by omega
      have he : endsB s.data.toList = (!((s[0].toNat : Int) == 45) && !((s[n].toNat : Int) == 45)) := by
        have a1 : s.data.toList.head? = some s[0] := by rw [List.head?_eq_getElem?, hget 0 p0]
        have a2 : s.data.toList.getLast? = some s[n] := by
          rw [List.getLast?_eq_getElem?, ← hl]
          have : s.size - 1 = n := by omega
          rw [this, hget n pn]
        have b : ∀ x : UInt8, (some x != some (45 : UInt8)) = !((x.toNat : Int) == 45) := fun x => by
          rw [Bool.eq_iff_iff]
          simp only [bne_iff_ne, ne_eq, Option.some.injEq, Bool.not_eq_true', beq_eq_false_iff_ne]
          exact ⟨fun h e => h (UInt8.toNat_inj.1 (by simpa using Int.ofNat_inj.1 e)), fun h e => h (by rw [e]; rfl)⟩
        unfold endsB
        rw [a1, a2, b, b]
      rw [he] at hb
      have HG := Lib.hid hget
      have hcase : ∃ q0 q1 : Bool, ((s[0].toNat : Int) == 45) = q0 ∧ ((s[n].toNat : Int) == 45) = q1 := ⟨_, _, rfl, rfl⟩
      obtain ⟨q0, q1, c0, c1⟩ := hcase
      rw [c0, c1] at hb
      have HB := Lib.hid hb
      have hn1 : n ≤ 15 := by omega
      clear he hb hget hl
      cases q0
      · cases q1
        · go_enter Tryd.func37, Tryd.ntmps37
          go_wp2_with fail
          go_loopg [3] s.size (fun g s3 wr => BkRel w s g s3 wr)
          case atStart => exact ⟨0, by omega, Nat.zero_le _, rfl, rfl, rfl⟩
          case round =>
            obtain ⟨k, rfl, hk, rfl, hall, rfl⟩ := hrel
            have HALL := Lib.hid hall
            clear hall c0 c1
            by_cases hlt : k < s.size
            · have hln : k < s.data.toList.length := by rw [← Lib.size_eq]; exact hlt
              have hge : s.data.toList[k] = s[k] := by
                have := HG.out k hlt
                rw [List.getElem?_eq_getElem hln] at this
                exact Option.some.inj this
              have hst := all_step hln
              have hno := all_no hln
              rw [hge] at hst hno
              rw [HALL.out] at hst
              have HST := Lib.hid hst
              have HNO := Lib.hid hno
              have hlt2 : k < n + 1 := by omega
              clear hst hno hge HALL
              generalize hck : s[k] = c at *
              have hidx : True := trivial
              rcases name_cases c.toNat with ⟨a1, a2⟩ | ⟨a1, a2⟩ | a1 | a1 | ⟨a1, a2⟩ | ⟨a1, a2⟩
              · have hc : nameB c = true := by unfold nameB; simp [a1, a2]
                have HR := Lib.hid (show (s.data.toList.take (k + 1)).all nameB = true by rw [HST.out, hc]; rfl)
                clear hc HST HNO
                have b0 : True := trivial
                go_wp2_with fail
                go_roundg (s.size - (k + 1))
                case measure => omega
                case rel => exact ⟨k + 1, rfl, by omega, by simp, HR.out, rfl⟩
              · have hc : nameB c = true := by unfold nameB; simp [a1, a2]
                have HR := Lib.hid (show (s.data.toList.take (k + 1)).all nameB = true by rw [HST.out, hc]; rfl)
                clear hc HST HNO
                have b1 : c.toNat < 97 := by omega
                go_wp2_with fail
                go_roundg (s.size - (k + 1))
                case measure => omega
                case rel => exact ⟨k + 1, rfl, by omega, by simp, HR.out, rfl⟩
              · have hc : nameB c = true := by unfold nameB; simp [a1]
                have HR := Lib.hid (show (s.data.toList.take (k + 1)).all nameB = true by rw [HST.out, hc]; rfl)
                clear hc HST HNO
                have b2 : ((c.toNat : Int) == 45) = true := by simp; omega
                have b3 : c.toNat < 97 := by omega
                have b4 : c.toNat < 48 := by omega
                clear a1
                go_wp2_with fail
                go_roundg (s.size - (k + 1))
                case measure => omega
                case rel => exact ⟨k + 1, rfl, by omega, by simp, HR.out, rfl⟩
              · have hc : nameB c = false := by unfold nameB; simp; omega
                have HE := Lib.hid (show bktB s.data.toList = false by rw [HB.out, HNO.out hc]; rfl)
                clear hc HST HNO
                have b2 : ((c.toNat : Int) == 45) = false := by simp; omega
                have b3 : 97 ≤ c.toNat := by omega
                have b4 : 48 ≤ c.toNat := by omega
                have b5 : 57 < c.toNat := by omega
                have b6 : decide ((c.toNat : Int) ≤ 122) = false := by simp; omega
                have b7 : decide ((c.toNat : Int) ≤ 57) = false := by simp; omega
                go_wp2_with fail
                go_ret
                exact ⟨ret_bool HE.out.symm, rfl⟩
              · have hc : nameB c = false := by unfold nameB; simp; omega
                have HE := Lib.hid (show bktB s.data.toList = false by rw [HB.out, HNO.out hc]; rfl)
                clear hc HST HNO
                have b2 : ((c.toNat : Int) == 45) = false := by simp; omega
                have b4 : 48 ≤ c.toNat := by omega
                have b7 : decide ((c.toNat : Int) ≤ 57) = false := by simp; omega
                go_wp2_with fail
                go_ret
                exact ⟨ret_bool HE.out.symm, rfl⟩
              · have hc : nameB c = false := by unfold nameB; simp; omega
                have HE := Lib.hid (show bktB s.data.toList = false by rw [HB.out, HNO.out hc]; rfl)
                clear hc HST HNO
                have b2 : ((c.toNat : Int) == 45) = false := by simp; omega
                have b3 : c.toNat < 97 := by omega
                clear a2
                go_wp2_with fail
                go_ret
                exact ⟨ret_bool HE.out.symm, rfl⟩
            · obtain rfl : k = s.size := by omega
              have HE := Lib.hid (show bktB s.data.toList = true by
                have := HALL.out
                rw [List.take_of_length_le (by rw [Lib.size_eq]; exact Nat.le_refl _)] at this
                rw [HB.out, this]; rfl)
              clear HALL
              go_wp2_with fail
              go_ret
              exact ⟨ret_bool HE.out.symm, rfl⟩
        · go_enter Tryd.func37, Tryd.ntmps37
          go_wp2_with fail
          go_ret
          exact ⟨ret_bool (by rw [HB.out]; rfl), rfl⟩
      · go_enter Tryd.func37, Tryd.ntmps37
        go_wp2_with fail
        go_ret
        exact ⟨ret_bool (by rw [HB.out]; rfl), rfl⟩
theorem RItem_c (s : ByteArray) (w : World) (hs : s.size ≤ 1000000) :
    Calls Tryd.prog 39 #[.string s] w fun e w' => e = .returned (.bool (itemB s.data.toList)) ∧ Below w.heap.size w w' := by
  obtain ⟨a, b, z, hz, hzs⟩ := cutVal_form s.data.toList
  have C := RCut_c s w (by omega)
  rw [hz] at C
  have hl := Lib.size_eq s
  by_cases h1 : 1 ≤ s.size ∧ s.size ≤ 40
  · have hb : itemB s.data.toList = !z := by
      unfold itemB
      rw [← hl, hzs]
      simp only [h1.1, h1.2, decide_true, Bool.true_and]
      cases cutL s.data.toList <;> rfl
    have HB := Lib.hid hb
    obtain ⟨h1, h2⟩ := h1
    clear hb hz hzs hl
    go_enter Tryd.func39, Tryd.ntmps39
    go_wp2_with fail
    refine C.mono ?_
    rintro e w1 ⟨rfl, hb⟩
    have Hb := Lib.hid hb
    clear hb C
    go_wp2_with fail
    go_ret
    exact ⟨ret_bool HB.out.symm, Hb.out⟩
  · have HE := Lib.hid (show itemB s.data.toList = false by
      unfold itemB; rw [← hl]
      by_cases h0 : 1 ≤ s.size
      · have : ¬ s.size ≤ 40 := fun h => h1 ⟨h0, h⟩
        simp [this]
      · simp [h0])
    by_cases h0 : s.size = 0
    · have h3 : s.size < 1 := by omega
      clear h1 hz hzs hl
      go_enter Tryd.func39, Tryd.ntmps39
      go_wp2_with fail
      refine C.mono ?_
      rintro e w1 ⟨rfl, hb⟩
      have Hb := Lib.hid hb
      clear hb C
      go_wp2_with fail
      go_ret
      exact ⟨ret_bool HE.out.symm, Hb.out⟩
    · have h3 : 1 ≤ s.size := by omega
      have h4 : 40 < s.size := by omega
      clear h1 hz hzs hl
      go_enter Tryd.func39, Tryd.ntmps39
      go_wp2_with fail
      refine C.mono ?_
      rintro e w1 ⟨rfl, hb⟩
      have Hb := Lib.hid hb
      clear hb C
      go_wp2_with fail
      go_ret
      exact ⟨ret_bool HE.out.symm, Hb.out⟩
def RURel (w : World) (kind : UInt8) (ps : List ByteArray) (g : Nat) (s5 s6 : Value) (wr : World) : Prop :=
  ∃ k, g = ps.length - k ∧ k ≤ ps.length ∧ s6 = .int .i64 k ∧ s5 = .string ⟨(kind :: partsL (dat (ps.take k))).toArray⟩ ∧ Below w.heap.size w wr ∧ noZero (dat (ps.take k)) = true ∧ (partsL (dat (ps.take k))).length ≤ k * 1000010
theorem ru_next {w wr : World} {kind : UInt8} {ps : List ByteArray} {k : Nat} (hlt : k < ps.length) {z : ByteArray} (h1 : z = ⟨(kind :: partsL (dat (ps.take k))).toArray⟩) (h2 : Below w.heap.size w wr)
    (h3 : noZero (dat (ps.take k)) = true) (h4 : cutL ps[k].data.toList = none) (h5 : (partsL (dat (ps.take k))).length ≤ k * 1000010) (h6 : ps[k].size ≤ 1000000) : RURel w kind ps (ps.length - (k + 1)) (.string (z ++ ps[k] ++ ⟨#[0]⟩)) (.int .i64 (k + 1)) wr := by
  refine ⟨k + 1, rfl, by omega, by simp, ?_, h2, ?_, ?_⟩
  · rw [dat_snoc hlt, parts_snoc, h1]
    congr 1
    apply ByteArray.ext
    simp
  · rw [dat_snoc hlt, noZero_snoc, h3, h4]; rfl
  · rw [dat_snoc hlt, parts_snoc, List.length_append, List.length_append, ← Lib.size_eq]; simp; omega
theorem RUnder_c (kind : UInt8) (v : Value) (ps : List ByteArray) (w : World) (hv : StrsAt w v ps) (hn : ps.length ≤ 1000) (hz : ∀ p ∈ ps, p.size ≤ 1000000) :
    Calls Tryd.prog 32 #[.int .u8 kind.toNat, v] w fun e w' => e = .returned (.string ⟨(underL kind (dat ps)).toArray⟩) ∧ Below w.heap.size w w' := by
  have HV := Lib.hid hv
  have HZ := Lib.hid hz
  obtain ⟨a, cap, rfl⟩ := hv.form
  have hcv := conv_one kind w.heap.size (w.alloc (.cells #[.int .u8 kind.toNat] 5)) (cell_lit (heap_alloc_new _ _) rfl)
  have R0 : Hid (RURel w kind ps ps.length (.string (one kind)) (.int .i64 0) (w.alloc (.cells #[.int .u8 kind.toNat] 5))) := Lib.hid ⟨0, rfl, Nat.zero_le _, rfl, rfl, (Below.refl w.heap.size w).alloc (Nat.le_refl _) _, rfl, by simp [partsL, dat]⟩
  clear hv hz
  generalize one kind = y at *
  go_enter Tryd.func32, Tryd.ntmps32
  go_wp2_with fail
  go_loopg [5, 6] ps.length (fun g s5 s6 wr => RURel w kind ps g s5 s6 wr)
  case atStart => exact R0.out
  case round =>
    obtain ⟨k, rfl, hk, rfl, rfl, hb, hnz, hlen⟩ := hrel
    clear R0 hcv
    have HB := Lib.hid hb
    have HNZ := Lib.hid hnz
    have HLEN := Lib.hid hlen
    obtain ⟨z, hz⟩ : ∃ z : ByteArray, z = ⟨(kind :: partsL (dat (ps.take k))).toArray⟩ := ⟨_, rfl⟩
    have hzs : z.size ≤ 1001 * 1000010 := by
      rw [hz, size_mk, List.length_cons]
      have : k * 1000010 ≤ 1000 * 1000010 := Nat.mul_le_mul_right _ (by omega)
      omega
    rw [← hz]
    have HZ2 := Lib.hid hz
    clear hb hnz hlen hz
    by_cases hlt : k < ps.length
    · obtain ⟨b, off, rfl, c1, lb⟩ := ((HV.out).below HB.out).get k hlt
      have hsz := HZ.out ps[k] (List.getElem_mem hlt)
      have C := RCut_c ps[k] wr (by omega)
      have HNX := Lib.hid (fun (wr : World) (h2 : Below w.heap.size w wr) (h4 : cutL ps[k].data.toList = none) => ru_next (wr := wr) hlt HZ2.out h2 HNZ.out h4 HLEN.out hsz)
      have HNO := Lib.hid (fun (h4 : cutL ps[k].data.toList ≠ none) => show underL kind (dat ps) = [] by unfold underL; rw [noZero_take hlt h4]; rfl)
      generalize ps[k] = p at *
      cases hc : cutL p.data.toList with
      | none =>
        rw [cutVal_none hc] at C
        have HC := Lib.hid hc
        clear hc
        go_wp2_with fail
        refine C.mono ?_
        rintro e w2 ⟨rfl, hb⟩
        have HB2 := Lib.hid ((HB.out).trans (hb.mono (HB.out).size))
        have c1 : w2.cell? ⟨b, off + k, none⟩ = some (.string p) := (hb.cell (p := ⟨b, off + k, none⟩) lb).trans c1
        clear hb C
        go_wp2_with fail
        go_roundg (ps.length - (k + 1))
        case measure => omega
        case rel => exact HNX.out _ HB2.out HC.out
      | some q =>
        rw [cutVal_some hc] at C
        have HE := Lib.hid (HNO.out (by rw [hc]; simp))
        clear hc
        go_wp2_with fail
        refine C.mono ?_
        rintro e w2 ⟨rfl, hb⟩
        have HB2 := Lib.hid ((HB.out).trans (hb.mono (HB.out).size))
        clear hb C
        go_wp2_with fail
        go_ret
        exact ⟨by rw [HE.out]; rfl, HB2.out⟩
    · obtain rfl : k = ps.length := by omega
      have hnz2 := HNZ.out
      have hz2 := HZ2.out
      rw [List.take_length] at hnz2 hz2
      have HE := Lib.hid (show z = ⟨(underL kind (dat ps)).toArray⟩ by unfold underL; rw [if_pos hnz2, hz2])
      clear hnz2 hz2
      go_wp2_with fail
      go_ret
      exact ⟨ret_str HE.out, HB.out⟩
end Go.Proofs.YtoblhikablbapaaDoor
