/- pack.Write whole; the reference's Write. -/
import Derived.Test.YtoblhikablbapaaDoorPackW
namespace Go.Proofs.YtoblhikablbapaaDoor
set_option linter.unusedVariables false
open Go.RowKit
/-- A record's bytes, or none. -/
def writeL (ks : List UInt8) (fs : List Fld) : Option (List UInt8) := if rightL ks = true ∧ ks.length = fs.length then wrL ks fs else none
theorem writeL_no {ks : List UInt8} {fs : List Fld} (h : rightL ks = false ∨ ks.length ≠ fs.length) : writeL ks fs = none := by
  unfold writeL
  rw [if_neg]
  rintro ⟨a, b⟩
  rcases h with h | h
  · rw [a] at h; exact absurd h (by decide)
  · exact h b
theorem writeL_yes {ks : List UInt8} {fs : List Fld} (h : rightL ks = true) (h2 : ks.length = fs.length) : writeL ks fs = wrL ks fs := by
  unfold writeL
  rw [if_pos ⟨h, h2⟩]
theorem Write_c (s : ByteArray) (v : Value) (fs : List Fld) (w : World) (hs : s.size ≤ 1000) (hv : FldsAt w v fs) (hz : ∀ p ∈ fs, p.2.size ≤ 1000000) :
    Calls Tryd.prog 15 #[.string s, v] w fun e w' => e = .returned (WrOut (writeL s.data.toList fs)) ∧ Below w.heap.size w w' := by
  have hlen : s.data.toList.length = s.size := (Lib.size_eq s).symm
  cases hr : rightL s.data.toList
  · have HE := Lib.hid (wrOut_none (writeL_no (fs := fs) (.inl hr)))
    have rc := Right_c s w (by omega)
    rw [hr] at rc
    clear hr hv hz
    go_enter Tryd.func15, Tryd.ntmps15
    go_wp2_with fail
    refine rc.mono ?_
    rintro e w0 ⟨rfl, hb0⟩
    have HB0 := Lib.hid hb0
    clear rc hb0
    go_wp2_with fail
    go_ret2
    exact ⟨by rw [HE.out]; rfl, HB0.out⟩
  · by_cases hl : s.size = fs.length
    · rw [writeL_yes hr (hlen.trans hl)]
      exact Write_in s v fs w hs hv hr hl hz
    · have HE := Lib.hid (wrOut_none (writeL_no (ks := s.data.toList) (fs := fs) (.inr (by omega))))
      have rc := Right_c s w (by omega)
      rw [hr] at rc
      obtain ⟨a, cap, rfl⟩ := hv.form
      have q1 : ((s.size : Int) == (fs.length : Int)) = false := by simp; omega
      have q2 : ((s.size : Int) != (fs.length : Int)) = true := by simp; omega
      clear hr hv hz hlen hl
      go_enter Tryd.func15, Tryd.ntmps15
      go_wp2_with fail
      refine rc.mono ?_
      rintro e w0 ⟨rfl, hb0⟩
      have HB0 := Lib.hid hb0
      clear rc hb0
      go_wp2_with fail
      go_ret2
      exact ⟨by rw [HE.out]; rfl, HB0.out⟩
/-! The reference's Write. -/
theorem zcat {z y : ByteArray} {a b : List UInt8} (h : z.data.toList = a) (h2 : y.data.toList = b) : z ++ y = ⟨(a ++ b).toArray⟩ := by
  apply ByteArray.ext
  apply Array.ext'
  simp [h, h2]
def RWrRel (w : World) (ks : List UInt8) (fs : List Fld) (g : Nat) (s3 s4 : Value) (wr : World) : Prop :=
  ∃ k acc, g = fs.length - k ∧ k ≤ fs.length ∧ s4 = .int .i64 k ∧ s3 = .string ⟨List.toArray acc⟩ ∧ Below w.heap.size w wr ∧ acc.length ≤ k * 1000010 ∧ wrL ks fs = (wrL (ks.drop k) (fs.drop k)).map (acc ++ ·)
theorem zcat3 {z y S : ByteArray} {a b : List UInt8} (h : z.data.toList = a) (h2 : y.data.toList = b) : (z ++ y) ++ S = ⟨(a ++ (b ++ S.data.toList)).toArray⟩ := by
  apply ByteArray.ext
  apply Array.ext'
  simp [h, h2]
theorem below_drew {w wr w2 : World} {o : Obj} (h : Below w.heap.size w wr) (g : Below (wr.alloc o).drew.heap.size (wr.alloc o).drew w2) : Below w.heap.size w w2 := by
  refine ((h.alloc h.size o).drew).trans (g.mono ?_)
  have := h.size
  show w.heap.size ≤ (wr.alloc o).heap.size
  rw [World.size_alloc]
  omega
theorem rwr_next {w wr : World} {ks : List UInt8} {fs : List Fld} {k : Nat} {acc' : List UInt8} {v : Value} (hlt : k < fs.length) (h1 : v = .string ⟨acc'.toArray⟩) (h2 : acc'.length ≤ (k + 1) * 1000010) (h3 : Below w.heap.size w wr)
    (h4 : wrL ks fs = (wrL (ks.drop (k + 1)) (fs.drop (k + 1))).map (acc' ++ ·)) : RWrRel w ks fs (fs.length - (k + 1)) v (.int .i64 (k + 1)) wr :=
  ⟨k + 1, acc', rfl, by omega, by simp, h1, h3, h2, h4⟩
theorem kind_right {l : List UInt8} {k : Nat} (h : k < l.length) (hr : rightL l = true) : kindB l[k] = true ∨ l[k] = 114 := by
  induction l generalizing k with
  | nil => simp at h
  | cons c r ih =>
    by_cases hn : r = []
    · subst hn
      have : k = 0 := by simpa using h
      subst this
      simpa [rightL] using hr
    · rw [rightL_cons hn] at hr
      simp only [Bool.and_eq_true] at hr
      cases k with
      | zero => exact .inl hr.1
      | succ k => simpa using ih (k := k) (by simpa using h) hr.2
set_option maxRecDepth 100000 in
set_option maxHeartbeats 4000000 in
theorem RWrite_in (s : ByteArray) (v : Value) (fs : List Fld) (w : World) (hs : s.size ≤ 1000) (hv : FldsAt w v fs) (hr : rightL s.data.toList = true) (hl : s.size = fs.length) (hz : ∀ p ∈ fs, p.2.size ≤ 1000000) :
    Calls Tryd.prog 16 #[.string s, v] w fun e w' => e = .returned (WrOut (wrL s.data.toList fs)) ∧ Below w.heap.size w w' := by
  have HV := Lib.hid hv
  obtain ⟨a, cap, rfl⟩ := hv.form
  have rc := RRight_c s w (by omega)
  rw [hr] at rc
  have HZ := Lib.hid hz
  have HL := Lib.hid hl
  have HR := Lib.hid hr
  have q1 : ((s.size : Int) == (fs.length : Int)) = true := by simp; omega
  have q2 : ((s.size : Int) != (fs.length : Int)) = false := by simp; omega
  clear hv hr hz hl
  go_enter Tryd.func16, Tryd.ntmps16
  go_wp2_with fail
  refine rc.mono ?_
  rintro e w0 ⟨rfl, h0⟩
  subst h0
  have HV0 := HV
  have HB0 := Lib.hid (Below.refl w.heap.size w)
  clear rc
  have R0 := Lib.hid (show RWrRel w s.data.toList fs fs.length (.string ⟨#[]⟩) (.int .i64 0) w from
    ⟨0, [], by omega, Nat.zero_le _, rfl, rfl, Below.refl _ _, by simp, by simp⟩)
  go_wp2_with fail
  go_loopg [6, 7] fs.length (fun g s6 s7 wr => RWrRel w s.data.toList fs g s6 s7 wr)
  case atStart => exact R0.out
  case round =>
    obtain ⟨k, acc, rfl, hk, rfl, rfl, hb, hacc, hw⟩ := hrel
    clear R0
    by_cases hlt : k < fs.length
    · have hks : k < s.size := by rw [HL.out]; exact hlt
      have hks' : k < s.data.toList.length := by simpa using hks
      obtain ⟨fb, fo, rfl, c1, c2, hbl2⟩ := (HV0.out).get k hlt
      have c1 := (hb.cell (p := ⟨fb, fo + k * 2, none⟩) hbl2).trans c1
      have c2 := (hb.cell (p := ⟨fb, fo + k * 2 + 1, none⟩) hbl2).trans c2
      have hN := (HV0.out).2 fs[k] (List.getElem_mem hlt)
      have hS := (HZ.out) fs[k] (List.getElem_mem hlt)
      have HST := Lib.hid (wrL_step hks' hlt hw)
      have hge : s.data.toList[k] = s[k] := by simp; rfl
      rw [hge] at HST
      have HB := Lib.hid hb
      have HC := Lib.hid (u8_eq_toNat s[k])
      have HQ := Lib.hid (show (⟨List.toArray acc⟩ : ByteArray).data.toList = acc from rfl)
      have hQ : (⟨List.toArray acc⟩ : ByteArray).size ≤ k * 1000010 := hacc
      clear hw hb hge hacc
      generalize (⟨List.toArray acc⟩ : ByteArray) = z at *
      generalize fs[k] = f at *
      obtain ⟨n, S⟩ := f
      simp only at c1 c2 hN hS
      by_cases k110 : s[k] = 110
      · have W : ∀ w, Calls Tryd.prog 57 #[.int .u8 110] w (fun e w' => e = .returned (.int .i64 8) ∧ w = w') := fun w => RWidth_c 110 w
        rw [k110] at HST
        have HW := Lib.hid (wr1_num 110 8 n S rfl rfl)
        skip
        by_cases hS0 : S.toList = []
        · have hn : n < 18446744073709551616 := hN
          have HE := Lib.hid (HST.out.2 (be n 8) (by rw [HW.out, if_neg (wr_no ((toList_nil _).1 hS0) (by simpa using hn))]))
          go_wp2_with (go_at_call 57; refine (W _).mono ?_; rintro e w1 ⟨rfl, rfl⟩)
          refine (RNumber_c n 8 _ hN (by omega)).mono ?_
          rintro e w2 ⟨rfl, g2⟩
          have HQ2 := Lib.hid (show (z ++ ⟨(be n 8).toArray⟩ : ByteArray) = ⟨(acc ++ be n 8).toArray⟩ from zcat HQ.out rfl)
          have HB2 := Lib.hid (((HB.out).alloc (HB.out).size _).trans (g2.mono (by have := HB.out.size; simp; omega)))
          have hbl : (⟨(be n 8).toArray⟩ : ByteArray).size = 8 := be_length n 8
          clear g2
          generalize (⟨(be n 8).toArray⟩ : ByteArray) = y at *
          have R1 := Lib.hid (rwr_next hlt (show (Value.string (z ++ y)) = _ by rw [HQ2.out]) (by rw [List.length_append, be_length, ← HQ.out, ← Lib.size_eq]; omega) HB2.out HE.out)
          go_wp2_with fail
          go_roundg (fs.length - (k + 1))
          case measure => omega
          case rel => exact R1.out
        · have HE := Lib.hid (wrOut_none (HST.out.1 (by rw [HW.out, if_pos (Or.inl (fun h => hS0 ((toList_nil _).2 h)))])))
          go_wp2_with (go_at_call 57; refine (W _).mono ?_; rintro e w1 ⟨rfl, rfl⟩)
          go_ret2
          exact ⟨by rw [HE.out]; rfl, (HB0.out).trans (((HB.out).alloc (HB.out).size _).mono (HB0.out).size)⟩
      · by_cases k104 : s[k] = 104
        · have W : ∀ w, Calls Tryd.prog 57 #[.int .u8 104] w (fun e w' => e = .returned (.int .i64 4) ∧ w = w') := fun w => RWidth_c 104 w
          rw [k104] at HST
          have HW := Lib.hid (wr1_num 104 4 n S rfl rfl)
          skip
          by_cases hS0 : S.toList = []
          · by_cases hn : n < 4294967296
            · have HE := Lib.hid (HST.out.2 (be n 4) (by rw [HW.out, if_neg (wr_no ((toList_nil _).1 hS0) (by simpa using hn))]))
              have qn : decide ((n : Int) ≥ 4294967296) = false := by simp; omega
              have qn' : decide ((4294967296 : Int) ≤ n) = false := qn
              clear hn
              go_wp2_with (go_at_call 57; refine (W _).mono ?_; rintro e w1 ⟨rfl, rfl⟩)
              refine (RNumber_c n 4 _ hN (by omega)).mono ?_
              rintro e w2 ⟨rfl, g2⟩
              have HQ2 := Lib.hid (show (z ++ ⟨(be n 4).toArray⟩ : ByteArray) = ⟨(acc ++ be n 4).toArray⟩ from zcat HQ.out rfl)
              have HB2 := Lib.hid (((HB.out).alloc (HB.out).size _).trans (g2.mono (by have := HB.out.size; simp; omega)))
              have hbl : (⟨(be n 4).toArray⟩ : ByteArray).size = 4 := be_length n 4
              clear g2
              generalize (⟨(be n 4).toArray⟩ : ByteArray) = y at *
              have R1 := Lib.hid (rwr_next hlt (show (Value.string (z ++ y)) = _ by rw [HQ2.out]) (by rw [List.length_append, be_length, ← HQ.out, ← Lib.size_eq]; omega) HB2.out HE.out)
              go_wp2_with fail
              go_roundg (fs.length - (k + 1))
              case measure => omega
              case rel => exact R1.out
            · have HE := Lib.hid (wrOut_none (HST.out.1 (by rw [HW.out, if_pos (Or.inr (by simpa using hn))])))
              have qn : decide ((n : Int) ≥ 4294967296) = true := by simp; omega
              have qn' : decide ((4294967296 : Int) ≤ n) = true := qn
              clear hn
              go_wp2_with (go_at_call 57; refine (W _).mono ?_; rintro e w1 ⟨rfl, rfl⟩)
              go_ret2
              exact ⟨by rw [HE.out]; rfl, (HB0.out).trans (((HB.out).alloc (HB.out).size _).mono (HB0.out).size)⟩
          · have HE := Lib.hid (wrOut_none (HST.out.1 (by rw [HW.out, if_pos (Or.inl (fun h => hS0 ((toList_nil _).2 h)))])))
            go_wp2_with (go_at_call 57; refine (W _).mono ?_; rintro e w1 ⟨rfl, rfl⟩)
            go_ret2
            exact ⟨by rw [HE.out]; rfl, (HB0.out).trans (((HB.out).alloc (HB.out).size _).mono (HB0.out).size)⟩
        · by_cases k98 : s[k] = 98
          · have W : ∀ w, Calls Tryd.prog 57 #[.int .u8 98] w (fun e w' => e = .returned (.int .i64 1) ∧ w = w') := fun w => RWidth_c 98 w
            rw [k98] at HST
            have HW := Lib.hid (wr1_num 98 1 n S rfl rfl)
            skip
            by_cases hS0 : S.toList = []
            · by_cases hn : n < 256
              · have HE := Lib.hid (HST.out.2 (be n 1) (by rw [HW.out, if_neg (wr_no ((toList_nil _).1 hS0) (by simpa using hn))]))
                have qn : decide ((n : Int) ≥ 256) = false := by simp; omega
                have qn' : decide ((256 : Int) ≤ n) = false := qn
                clear hn
                go_wp2_with (go_at_call 57; refine (W _).mono ?_; rintro e w1 ⟨rfl, rfl⟩)
                refine (RNumber_c n 1 _ hN (by omega)).mono ?_
                rintro e w2 ⟨rfl, g2⟩
                have HQ2 := Lib.hid (show (z ++ ⟨(be n 1).toArray⟩ : ByteArray) = ⟨(acc ++ be n 1).toArray⟩ from zcat HQ.out rfl)
                have HB2 := Lib.hid (((HB.out).alloc (HB.out).size _).trans (g2.mono (by have := HB.out.size; simp; omega)))
                have hbl : (⟨(be n 1).toArray⟩ : ByteArray).size = 1 := be_length n 1
                clear g2
                generalize (⟨(be n 1).toArray⟩ : ByteArray) = y at *
                have R1 := Lib.hid (rwr_next hlt (show (Value.string (z ++ y)) = _ by rw [HQ2.out]) (by rw [List.length_append, be_length, ← HQ.out, ← Lib.size_eq]; omega) HB2.out HE.out)
                go_wp2_with fail
                go_roundg (fs.length - (k + 1))
                case measure => omega
                case rel => exact R1.out
              · have HE := Lib.hid (wrOut_none (HST.out.1 (by rw [HW.out, if_pos (Or.inr (by simpa using hn))])))
                have qn : decide ((n : Int) ≥ 256) = true := by simp; omega
                have qn' : decide ((256 : Int) ≤ n) = true := qn
                clear hn
                go_wp2_with (go_at_call 57; refine (W _).mono ?_; rintro e w1 ⟨rfl, rfl⟩)
                go_ret2
                exact ⟨by rw [HE.out]; rfl, (HB0.out).trans (((HB.out).alloc (HB.out).size _).mono (HB0.out).size)⟩
            · have HE := Lib.hid (wrOut_none (HST.out.1 (by rw [HW.out, if_pos (Or.inl (fun h => hS0 ((toList_nil _).2 h)))])))
              go_wp2_with (go_at_call 57; refine (W _).mono ?_; rintro e w1 ⟨rfl, rfl⟩)
              go_ret2
              exact ⟨by rw [HE.out]; rfl, (HB0.out).trans (((HB.out).alloc (HB.out).size _).mono (HB0.out).size)⟩
          · by_cases k116 : s[k] = 116
            · have W : ∀ w, Calls Tryd.prog 57 #[.int .u8 116] w (fun e w' => e = .returned (.int .i64 0) ∧ w = w') := fun w => RWidth_c 116 w
              rw [k116] at HST
              by_cases hn : n = 0
              · by_cases hz : 65535 < S.size
                · have HE := Lib.hid (wrOut_none (HST.out.1 (wr1_t_no n S hn hz)))
                  go_wp2_with (go_at_call 57; refine (W _).mono ?_; rintro e w1 ⟨rfl, rfl⟩)
                  go_ret2
                  exact ⟨by rw [HE.out]; rfl, (HB0.out).trans (((HB.out).alloc (HB.out).size _).mono (HB0.out).size)⟩
                · have HE := Lib.hid (HST.out.2 _ (wr1_t n S hn hz))
                  go_wp2_with (go_at_call 57; refine (W _).mono ?_; rintro e w1 ⟨rfl, rfl⟩)
                  have q3 : (wr.alloc (.cells #[.int .u64 0, .string S] 60)).cell? ⟨wr.heap.size, 1, none⟩ = some (.string S) := cell_lit (heap_alloc_new _ _) rfl
                  obtain ⟨y, hy⟩ : ∃ y : ByteArray, y = ⟨(be S.size 2).toArray⟩ := ⟨_, rfl⟩
                  have RN : ∀ w, Calls Tryd.prog 58 #[.int .u64 (IntKind.u64.wrap (S.size : Int)), .int .i64 2] w fun e w' => e = .returned (.string y) ∧ Below w.heap.size w w' := by
                    intro w
                    rw [show IntKind.u64.wrap (S.size : Int) = ((S.size : Nat) : Int) from by simp [IntKind.wrap, IntKind.bits, IntKind.signed]; omega, hy]
                    exact RNumber_c S.size 2 w (by omega) (by omega)
                  have HYS := Lib.hid (show y.size = 2 by rw [hy]; exact be_length _ _)
                  have qs1 : ¬ (9223372036854775807 < ((z.size : Int) + (y.size : Int))) := by have := HYS.out; omega
                  have qs2 : ¬ (9223372036854775807 < ((z.size : Int) + (y.size : Int) + (S.size : Int))) := by have := HYS.out; omega
                  have HQ2 := Lib.hid (show ((z ++ y) ++ S : ByteArray) = ⟨(acc ++ (be S.size 2 ++ S.data.toList)).toArray⟩ from zcat3 HQ.out (by rw [hy]))
                  clear hy
                  go_region_with ((go_at_call 58; refine (RN _).mono ?_; rintro e w2 ⟨rfl, g2⟩; have q4 := (g2.cell (p := ⟨wr.heap.size, 1, none⟩) (by simp)).trans q3; have HB2 := Lib.hid (below_drew (HB.out) g2)))
                  all_goals
                    (go_wp2_with fail
                     go_roundg (fs.length - (k + 1))
                     case measure => omega
                     case rel => exact rwr_next hlt (show (Value.string ((z ++ y) ++ S)) = _ by rw [HQ2.out]) (by simp only [List.length_append, be_length]; have := HQ.out; subst this; have e1 := Lib.size_eq z; have e2 := Lib.size_eq S; omega) HB2.out HE.out)
              · have HE := Lib.hid (wrOut_none (HST.out.1 (wr1_txt_no 116 n S rfl hn)))
                go_wp2_with (go_at_call 57; refine (W _).mono ?_; rintro e w1 ⟨rfl, rfl⟩)
                go_ret2
                exact ⟨by rw [HE.out]; rfl, (HB0.out).trans (((HB.out).alloc (HB.out).size _).mono (HB0.out).size)⟩
            · have KO := Lib.hid (kind_other _ k110 k104 k98)
              have k114 : s[k] = 114 := by
                have := kind_right hks' HR.out
                have hge : s.data.toList[k] = s[k] := by simp; rfl
                rw [hge] at this
                exact this.resolve_left (by simp [kindB, k110, k104, k98, k116])
              have W : ∀ w, Calls Tryd.prog 57 #[.int .u8 114] w (fun e w' => e = .returned (.int .i64 0) ∧ w = w') := fun w => RWidth_c 114 w
              rw [k114] at HST
              clear KO k110 k104 k98 k116
              by_cases hn : n = 0
              · have HE := Lib.hid (HST.out.2 _ (wr1_r 114 n S rfl (by decide) hn))
                have HQ2 := Lib.hid (show (z ++ S : ByteArray) = ⟨(acc ++ S.data.toList).toArray⟩ from zcat HQ.out rfl)
                go_wp2_with (go_at_call 57; refine (W _).mono ?_; rintro e w1 ⟨rfl, rfl⟩)
                go_roundg (fs.length - (k + 1))
                case measure => omega
                case rel => exact rwr_next hlt (show (Value.string (z ++ S)) = _ by rw [HQ2.out]) (by rw [List.length_append, ← HQ.out, ← Lib.size_eq, ← Lib.size_eq]; omega) ((HB.out).alloc (HB.out).size _) HE.out
              · have HE := Lib.hid (wrOut_none (HST.out.1 (wr1_txt_no 114 n S rfl hn)))
                go_wp2_with (go_at_call 57; refine (W _).mono ?_; rintro e w1 ⟨rfl, rfl⟩)
                go_ret2
                exact ⟨by rw [HE.out]; rfl, (HB0.out).trans (((HB.out).alloc (HB.out).size _).mono (HB0.out).size)⟩
    · obtain rfl : k = fs.length := by omega
      have HE := Lib.hid (show WrOut (wrL s.data.toList fs) = .tuple #[.string ⟨acc.toArray⟩, .bool true] by rw [hw, List.drop_length]; cases s.data.toList.drop fs.length <;> simp [wrL, WrOut])
      have HB := Lib.hid hb
      have hsl : ¬ (fs.length < s.size) := by rw [HL.out]; omega
      clear hb hw
      go_wp2_with fail
      go_ret2
      exact ⟨by rw [HE.out]; rfl, (HB0.out).trans ((HB.out).mono (HB0.out).size)⟩
theorem RWrite_c (s : ByteArray) (v : Value) (fs : List Fld) (w : World) (hs : s.size ≤ 1000) (hv : FldsAt w v fs) (hz : ∀ p ∈ fs, p.2.size ≤ 1000000) :
    Calls Tryd.prog 16 #[.string s, v] w fun e w' => e = .returned (WrOut (writeL s.data.toList fs)) ∧ Below w.heap.size w w' := by
  have hlen : s.data.toList.length = s.size := (Lib.size_eq s).symm
  cases hr : rightL s.data.toList
  · have HE := Lib.hid (wrOut_none (writeL_no (fs := fs) (.inl hr)))
    have rc := RRight_c s w (by omega)
    rw [hr] at rc
    clear hr hv hz
    go_enter Tryd.func16, Tryd.ntmps16
    go_wp2_with fail
    refine rc.mono ?_
    rintro e w0 ⟨rfl, h0⟩
    subst h0
    clear rc
    go_wp2_with fail
    go_ret2
    exact ⟨by rw [HE.out]; rfl, Below.refl _ _⟩
  · by_cases hl : s.size = fs.length
    · rw [writeL_yes hr (hlen.trans hl)]
      exact RWrite_in s v fs w hs hv hr hl hz
    · have HE := Lib.hid (wrOut_none (writeL_no (ks := s.data.toList) (fs := fs) (.inr (by omega))))
      have rc := RRight_c s w (by omega)
      rw [hr] at rc
      obtain ⟨a, cap, rfl⟩ := hv.form
      have q1 : ((s.size : Int) == (fs.length : Int)) = false := by simp; omega
      have q2 : ((s.size : Int) != (fs.length : Int)) = true := by simp; omega
      clear hr hv hz hlen hl
      go_enter Tryd.func16, Tryd.ntmps16
      go_wp2_with fail
      refine rc.mono ?_
      rintro e w0 ⟨rfl, h0⟩
      subst h0
      clear rc
      go_wp2_with fail
      go_ret2
      exact ⟨by rw [HE.out]; rfl, Below.refl _ _⟩
end Go.Proofs.YtoblhikablbapaaDoor
