/- NameTokens: Told, the reference's, and the law's walk. -/
import Derived.Test.YtoblhikablbapaaDoorTokG
import Derived.Test.YtoblhikablbapaaDoorNameKeys
import Derived.Test.YtoblhikablbapaaDoorRead
namespace Go.Proofs.YtoblhikablbapaaDoor
set_option linter.unusedVariables false
set_option maxRecDepth 100000
set_option maxHeartbeats 1000000
open Go.RowKit
theorem told_none {t : List UInt8} (h : rawL t = none) : toldL t = none := by unfold toldL; rw [h]
theorem told_short {t p : List UInt8} (h : rawL t = some p) (hp : p.length < 4) : toldL t = none := by unfold toldL; rw [h]; simp only; rw [if_pos (.inl hp)]
theorem told_other {t p : List UInt8} (h : rawL t = some p) (hp : tokenL (p.drop 4) ≠ t) : toldL t = none := by unfold toldL; rw [h]; simp only; rw [if_pos (.inr hp)]
theorem told_yes {t p : List UInt8} (h : rawL t = some p) (h4 : ¬ p.length < 4) (hp : tokenL (p.drop 4) = t) : toldL t = some (p.drop 4) := by
  unfold toldL; rw [h]; simp only
  rw [if_neg]; rintro (h | h)
  · exact h4 h
  · exact h hp
theorem Told_c (t : ByteArray) (w : World) (ht : t.size ≤ 10000) :
    Calls Tryd.prog 50 #[.string t] w fun e w' => e = .returned (rawV (toldL t.data.toList)) ∧ Below w.heap.size w w' := by
  have R1 := Raw_c t w (by omega)
  cases hr : rawL t.data.toList with
  | none =>
    have HE := Lib.hid (told_none hr)
    rw [hr, rawV_none rfl] at R1
    clear hr
    go_enter Tryd.func50, Tryd.ntmps50
    go_wp2_with fail
    refine R1.mono ?_
    rintro e w1 ⟨rfl, hb⟩
    have HB1 := Lib.hid hb
    clear hb R1
    go_wp2_with fail
    go_ret2
    exact ⟨by rw [rawV_none HE.out]; rfl, HB1.out⟩
  | some p =>
    rw [hr, rawV_some rfl] at R1
    have hev := raw_even _ _ hr
    rw [← Lib.size_eq] at hev
    obtain ⟨z, hz⟩ : ∃ z : ByteArray, (⟨p.toArray⟩ : ByteArray) = z := ⟨_, rfl⟩
    have hzs : z.size = p.length := by rw [← hz, size_mk]
    have HZ := Lib.hid hz
    rw [hz] at R1
    by_cases h4 : p.length < 4
    · have HE := Lib.hid (told_short hr h4)
      have hz4 : z.size < 4 := by omega
      clear hr hz hev hzs h4
      go_enter Tryd.func50, Tryd.ntmps50
      go_wp2_with fail
      refine R1.mono ?_
      rintro e w1 ⟨rfl, hb⟩
      have HB1 := Lib.hid hb
      clear hb R1
      go_wp2_with fail
      go_ret2
      exact ⟨by rw [rawV_none HE.out]; rfl, HB1.out⟩
    · obtain ⟨d, hd⟩ : ∃ d : ByteArray, z.extract 4 z.size = d := ⟨_, rfl⟩
      have hdd : d.data.toList = p.drop 4 := by rw [← hd, ex_drop, ← hz]
      have hds : d.size ≤ 10000 := by rw [Lib.size_eq, hdd, List.length_drop]; omega
      have hz4 : 4 ≤ z.size := by omega
      have T1 := Lib.hid (fun w => Token_c d w (by omega))
      obtain ⟨k, hk⟩ : ∃ k : ByteArray, (⟨(tokenL d.data.toList).toArray⟩ : ByteArray) = k := ⟨_, rfl⟩
      have hkd : k.toList = tokenL (p.drop 4) := by rw [← hk, Lib.toList_data, hdd]
      rw [hk] at T1
      by_cases hkt : tokenL (p.drop 4) = t.data.toList
      · have HE := Lib.hid (told_yes hr h4 hkt)
        have hb1 : (k.toList == t.toList) = true := by rw [hkd, hkt, Lib.toList_data, beq_self_eq_true]
        have HD := Lib.hid (show (⟨(p.drop 4).toArray⟩ : ByteArray) = d by rw [← hdd])
        clear hr hz hev hzs h4 hk hkd hkt hdd
        go_enter Tryd.func50, Tryd.ntmps50
        go_wp2_with fail
        refine R1.mono ?_
        rintro e w1 ⟨rfl, hb⟩
        have HB1 := Lib.hid hb
        clear hb R1
        go_wp2_with fail
        refine (T1.out _).mono ?_
        rintro e w2 ⟨rfl, hb⟩
        have HB2 := Lib.hid ((HB1.out).trans (hb.mono (HB1.out).size))
        clear hb
        go_wp2_with fail
        go_ret2
        exact ⟨by rw [rawV_some HE.out, HD.out]; rfl, HB2.out⟩
      · have HE := Lib.hid (told_other hr hkt)
        have hb1 : (k.toList == t.toList) = false := by rw [hkd, Lib.toList_data, beq_eq_false_iff_ne]; exact hkt
        clear hr hz hev hzs h4 hk hkd hkt hdd
        go_enter Tryd.func50, Tryd.ntmps50
        go_wp2_with fail
        refine R1.mono ?_
        rintro e w1 ⟨rfl, hb⟩
        have HB1 := Lib.hid hb
        clear hb R1
        go_wp2_with fail
        refine (T1.out _).mono ?_
        rintro e w2 ⟨rfl, hb⟩
        have HB2 := Lib.hid ((HB1.out).trans (hb.mono (HB1.out).size))
        clear hb
        go_wp2_with fail
        go_ret2
        exact ⟨by rw [rawV_none HE.out]; rfl, HB2.out⟩
theorem TRTold_c (t : ByteArray) (w : World) (ht : t.size ≤ 10000) :
    Calls Tryd.prog 51 #[.string t] w fun e w' => e = .returned (rawV (toldL t.data.toList)) ∧ Below w.heap.size w w' := by
  have R1 := RRaw_c t w (by omega)
  cases hr : rawL t.data.toList with
  | none =>
    have HE := Lib.hid (told_none hr)
    rw [hr, rawV_none rfl] at R1
    clear hr
    go_enter Tryd.func51, Tryd.ntmps51
    go_wp2_with fail
    refine R1.mono ?_
    rintro e w1 ⟨rfl, hb⟩
    have HB1 := Lib.hid hb
    clear hb R1
    go_wp2_with fail
    go_ret2
    exact ⟨by rw [rawV_none HE.out]; rfl, HB1.out⟩
  | some p =>
    rw [hr, rawV_some rfl] at R1
    have hev := raw_even _ _ hr
    rw [← Lib.size_eq] at hev
    obtain ⟨z, hz⟩ : ∃ z : ByteArray, (⟨p.toArray⟩ : ByteArray) = z := ⟨_, rfl⟩
    have hzs : z.size = p.length := by rw [← hz, size_mk]
    have HZ := Lib.hid hz
    rw [hz] at R1
    by_cases h4 : p.length < 4
    · have HE := Lib.hid (told_short hr h4)
      have hz4 : z.size < 4 := by omega
      clear hr hz hev hzs h4
      go_enter Tryd.func51, Tryd.ntmps51
      go_wp2_with fail
      refine R1.mono ?_
      rintro e w1 ⟨rfl, hb⟩
      have HB1 := Lib.hid hb
      clear hb R1
      go_wp2_with fail
      go_ret2
      exact ⟨by rw [rawV_none HE.out]; rfl, HB1.out⟩
    · obtain ⟨d, hd⟩ : ∃ d : ByteArray, z.extract 4 z.size = d := ⟨_, rfl⟩
      have hdd : d.data.toList = p.drop 4 := by rw [← hd, ex_drop, ← hz]
      have hds : d.size ≤ 10000 := by rw [Lib.size_eq, hdd, List.length_drop]; omega
      have hz4 : 4 ≤ z.size := by omega
      have T1 := Lib.hid (fun w => RToken_c d w (by omega))
      obtain ⟨k, hk⟩ : ∃ k : ByteArray, (⟨(tokenL d.data.toList).toArray⟩ : ByteArray) = k := ⟨_, rfl⟩
      have hkd : k.toList = tokenL (p.drop 4) := by rw [← hk, Lib.toList_data, hdd]
      rw [hk] at T1
      by_cases hkt : tokenL (p.drop 4) = t.data.toList
      · have HE := Lib.hid (told_yes hr h4 hkt)
        have hb1 : (k.toList == t.toList) = true := by rw [hkd, hkt, Lib.toList_data, beq_self_eq_true]
        have HD := Lib.hid (show (⟨(p.drop 4).toArray⟩ : ByteArray) = d by rw [← hdd])
        clear hr hz hev hzs h4 hk hkd hkt hdd
        go_enter Tryd.func51, Tryd.ntmps51
        go_wp2_with fail
        refine R1.mono ?_
        rintro e w1 ⟨rfl, hb⟩
        have HB1 := Lib.hid hb
        clear hb R1
        go_wp2_with fail
        refine (T1.out _).mono ?_
        rintro e w2 ⟨rfl, hb⟩
        have HB2 := Lib.hid ((HB1.out).trans (hb.mono (HB1.out).size))
        clear hb
        go_wp2_with fail
        go_ret2
        exact ⟨by rw [rawV_some HE.out, HD.out]; rfl, HB2.out⟩
      · have HE := Lib.hid (told_other hr hkt)
        have hb1 : (k.toList == t.toList) = false := by rw [hkd, Lib.toList_data, beq_eq_false_iff_ne]; exact hkt
        clear hr hz hev hzs h4 hk hkd hkt hdd
        go_enter Tryd.func51, Tryd.ntmps51
        go_wp2_with fail
        refine R1.mono ?_
        rintro e w1 ⟨rfl, hb⟩
        have HB1 := Lib.hid hb
        clear hb R1
        go_wp2_with fail
        refine (T1.out _).mono ?_
        rintro e w2 ⟨rfl, hb⟩
        have HB2 := Lib.hid ((HB1.out).trans (hb.mono (HB1.out).size))
        clear hb
        go_wp2_with fail
        go_ret2
        exact ⟨by rw [rawV_none HE.out]; rfl, HB2.out⟩
theorem NameTokens_c (s t : ByteArray) (w : World) :
    Calls Tryd.prog 12 #[.string s, .string t] w fun e w' => e = .returned (.bool true) ∧ Below w.heap.size w w' := by
  have AW := Lib.hid (fun w => awake13_c w)
  by_cases q1 : 500 < s.size
  · go_enter Tryd.func12, Tryd.ntmps12
    go_wp2_with fail
    refine (AW.out _).mono ?_
    rintro e w1 ⟨rfl, hb⟩
    have HB1 := Lib.hid hb
    clear hb
    go_wp2_with fail
    go_ret
    exact ⟨rfl, HB1.out⟩
  by_cases q2 : 500 < t.size
  · go_enter Tryd.func12, Tryd.ntmps12
    go_wp2_with fail
    refine (AW.out _).mono ?_
    rintro e w1 ⟨rfl, hb⟩
    have HB1 := Lib.hid hb
    clear hb
    go_wp2_with fail
    go_ret
    exact ⟨rfl, HB1.out⟩
  have T1 := Lib.hid (fun w => Token_c s w (by omega))
  have T2 := Lib.hid (fun w => RToken_c s w (by omega))
  obtain ⟨k, hk⟩ : ∃ k : ByteArray, (⟨(tokenL s.data.toList).toArray⟩ : ByteArray) = k := ⟨_, rfl⟩
  have hkd : k.data.toList = tokenL s.data.toList := by rw [← hk]
  have hks : k.size ≤ 2000 := by rw [← hk, size_mk, token_length, ← Lib.size_eq]; omega
  rw [hk] at T1 T2
  have D1 := Lib.hid (fun w => Told_c k w (by omega))
  rw [hkd, told_token, rawV_some rfl, mk_data] at D1
  have D2 := Lib.hid (fun w => Told_c t w (by omega))
  have D3 := Lib.hid (fun w => TRTold_c t w (by omega))
  cases hv : toldL t.data.toList with
  | none =>
    rw [hv, rawV_none rfl] at D2 D3
    clear hv hk hkd hks
    go_enter Tryd.func12, Tryd.ntmps12
    go_wp2_with fail
    refine (AW.out _).mono ?_
    rintro e w1 ⟨rfl, hb⟩
    have HB1 := Lib.hid hb
    clear hb
    go_wp2_with fail
    refine (T1.out _).mono ?_
    rintro e w2 ⟨rfl, hb⟩
    have HB2 := Lib.hid ((HB1.out).trans (hb.mono (HB1.out).size))
    clear hb
    go_wp2_with fail
    refine (D1.out _).mono ?_
    rintro e w3 ⟨rfl, hb⟩
    have HB3 := Lib.hid ((HB2.out).trans (hb.mono (HB2.out).size))
    clear hb
    go_wp2_with fail
    refine (D2.out _).mono ?_
    rintro e w4 ⟨rfl, hb⟩
    have HB4 := Lib.hid ((HB3.out).trans (hb.mono (HB3.out).size))
    clear hb
    go_wp2_with fail
    refine (D3.out _).mono ?_
    rintro e w5 ⟨rfl, hb⟩
    have HB5 := Lib.hid ((HB4.out).trans (hb.mono (HB4.out).size))
    clear hb
    go_wp2_with fail
    refine (T2.out _).mono ?_
    rintro e w6 ⟨rfl, hb⟩
    have HB6 := Lib.hid ((HB5.out).trans (hb.mono (HB5.out).size))
    clear hb
    go_wp2_with fail
    go_ret
    exact ⟨rfl, HB6.out⟩
  | some v =>
    obtain ⟨h1, h2⟩ := token_told hv
    rw [← Lib.size_eq] at h2
    have T3 := Lib.hid (fun w => Token_c ⟨v.toArray⟩ w (by rw [size_mk]; omega))
    simp only at T3
    rw [h1, mk_data] at T3
    rw [hv, rawV_some rfl] at D2 D3
    obtain ⟨x, hx⟩ : ∃ x : ByteArray, (⟨v.toArray⟩ : ByteArray) = x := ⟨_, rfl⟩
    rw [hx] at D2 D3 T3
    clear hv hk hkd hks h1 h2 hx
    go_enter Tryd.func12, Tryd.ntmps12
    go_wp2_with fail
    refine (AW.out _).mono ?_
    rintro e w1 ⟨rfl, hb⟩
    have HB1 := Lib.hid hb
    clear hb
    go_wp2_with fail
    refine (T1.out _).mono ?_
    rintro e w2 ⟨rfl, hb⟩
    have HB2 := Lib.hid ((HB1.out).trans (hb.mono (HB1.out).size))
    clear hb
    go_wp2_with fail
    refine (D1.out _).mono ?_
    rintro e w3 ⟨rfl, hb⟩
    have HB3 := Lib.hid ((HB2.out).trans (hb.mono (HB2.out).size))
    clear hb
    go_wp2_with fail
    refine (D2.out _).mono ?_
    rintro e w4 ⟨rfl, hb⟩
    have HB4 := Lib.hid ((HB3.out).trans (hb.mono (HB3.out).size))
    clear hb
    go_wp2_with fail
    refine (D3.out _).mono ?_
    rintro e w5 ⟨rfl, hb⟩
    have HB5 := Lib.hid ((HB4.out).trans (hb.mono (HB4.out).size))
    clear hb
    go_wp2_with fail
    refine (T2.out _).mono ?_
    rintro e w6 ⟨rfl, hb⟩
    have HB6 := Lib.hid ((HB5.out).trans (hb.mono (HB5.out).size))
    clear hb
    go_wp2_with fail
    refine (T3.out _).mono ?_
    rintro e w7 ⟨rfl, hb⟩
    have HB7 := Lib.hid ((HB6.out).trans (hb.mono (HB6.out).size))
    clear hb
    go_wp2_with fail
    go_ret
    exact ⟨rfl, HB7.out⟩
theorem NameTokens_w (v0 v1 : Value) (w : World) (g0 : Reads w 9 v0) (g1 : Reads w 9 v1) : Calls Tryd.prog 12 #[v0, v1] w fun e w' => e = .returned (.bool true) ∧ Below w.heap.size w w' := by
  obtain ⟨s, rfl, -⟩ := reads_string Tryd.underlying9 g0
  obtain ⟨t, rfl, -⟩ := reads_string Tryd.underlying9 g1
  exact NameTokens_c s t w
end Go.Proofs.YtoblhikablbapaaDoor
