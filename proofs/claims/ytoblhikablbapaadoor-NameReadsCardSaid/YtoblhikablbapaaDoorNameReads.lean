/- NameReads: the walk of the law. (Printed by wip/gennamek.py.) -/
import Derived.Test.YtoblhikablbapaaDoorNameKeys
namespace Go.Proofs.YtoblhikablbapaaDoor
set_option linter.unusedVariables false
set_option maxRecDepth 100000
set_option maxHeartbeats 4000000
open Go.RowKit
theorem size_le_of {k : UInt8} {l b i r : List UInt8} (h : readK k l = some (b, i, r)) : b.length + i.length + r.length ≤ l.length := by
  obtain ⟨h1, h2, h3, h4⟩ := key_read h
  rw [← h4, under_two h1 h2]; simp; omega
theorem read_ver {s : ByteArray} {b i r : List UInt8} (h : readK 118 s.data.toList = some (b, i, r)) : (⟨(versionKeyL b i (fellL r)).toArray⟩ : ByteArray) = s ∧ fellL r < 18446744073709551616 := by
  obtain ⟨h1, h2, h3, h4⟩ := key_read h
  obtain ⟨g1, g2⟩ := falls_fell (s := ⟨r.toArray⟩) (by rw [size_mk]; exact h3)
  have e : versionKeyL b i (fellL r) = s.data.toList := by
    unfold versionKeyL
    rw [if_pos ⟨h1, h2⟩, ← h4]
    congr 1
  rw [e, mk_data]
  exact ⟨rfl, g2⟩
theorem read_upl {s : ByteArray} {b i r : List UInt8} (h : readK 117 s.data.toList = some (b, i, r)) : (⟨(uploadKeyL b i (toldN 0 r)).toArray⟩ : ByteArray) = s ∧ toldN 0 r < 18446744073709551616 := by
  obtain ⟨h1, h2, h3, h4⟩ := key_read h
  obtain ⟨g1, g2⟩ := told_be 8 r h3 (by decide)
  rw [p256] at g2
  have e : uploadKeyL b i (toldN 0 r) = s.data.toList := by
    unfold uploadKeyL
    rw [if_pos ⟨h1, h2⟩, g1, h4]
  rw [e, mk_data]
  exact ⟨rfl, g2⟩
theorem NameReads_c (s : ByteArray) (w : World) :
    Calls Tryd.prog 11 #[.string s] w fun e w' => e = .returned (.bool true) ∧ Below w.heap.size w w' := by
  have AW := Lib.hid (fun w => awake13_c w)
  by_cases q1 : 300 < s.size
  · go_enter Tryd.func11, Tryd.ntmps11
    go_wp2_with fail
    refine (AW.out _).mono ?_
    rintro e w1 ⟨rfl, hb⟩
    have Hb1 := Lib.hid hb
    clear hb
    go_wp2_with fail
    go_ret
    exact ⟨rfl, Hb1.out⟩
  · have R1 := Lib.hid (fun w => ReadVersion_c s w (by omega))
    have R2 := Lib.hid (fun w => RReadVersion_c s w (by omega))
    have R3 := Lib.hid (fun w => ReadUpload_c s w (by omega))
    have R4 := Lib.hid (fun w => RReadUpload_c s w (by omega))
    have hl := Lib.size_eq s
    cases g1 : readK 118 s.data.toList with
    | none =>
      rw [g1] at R1 R2
      simp only [readNV] at R1 R2
      cases g2 : readK 117 s.data.toList with
      | none =>
        rw [g2] at R3 R4
        simp only [readNV] at R3 R4
        clear g1 g2 hl
        go_enter Tryd.func11, Tryd.ntmps11
        go_wp2_with fail
        refine (AW.out _).mono ?_
        rintro e w1 ⟨rfl, hb⟩
        have Hb1 := Lib.hid hb
        clear hb
        go_wp2_with fail
        refine (R1.out _).mono ?_
        rintro e w2 ⟨rfl, hb⟩
        have Hb2 := Lib.hid ((Hb1.out).trans (hb.mono (Hb1.out).size))
        clear hb
        go_wp2_with fail
        refine (R2.out _).mono ?_
        rintro e w3 ⟨rfl, hb⟩
        have Hb3 := Lib.hid ((Hb2.out).trans (hb.mono (Hb2.out).size))
        clear hb
        go_wp2_with fail
        refine (R3.out _).mono ?_
        rintro e w4 ⟨rfl, hb⟩
        have Hb4 := Lib.hid ((Hb3.out).trans (hb.mono (Hb3.out).size))
        clear hb
        go_wp2_with fail
        refine (R4.out _).mono ?_
        rintro e w5 ⟨rfl, hb⟩
        have Hb5 := Lib.hid ((Hb4.out).trans (hb.mono (Hb4.out).size))
        clear hb
        go_wp2_with fail
        go_ret
        exact ⟨rfl, Hb5.out⟩
      | some p =>
        obtain ⟨b, i, r⟩ := p
        rw [g2] at R3 R4
        simp only [readNV] at R3 R4
        have hle := size_le_of g2
        obtain ⟨z1, z2⟩ := read_upl g2
        have KU := Lib.hid (fun w => UploadKey_c ⟨b.toArray⟩ ⟨i.toArray⟩ (toldN 0 r) w (by rw [size_mk]; omega) (by rw [size_mk]; omega) z2)
        simp only at KU
        rw [z1] at KU
        generalize toldN 0 r = m at *
        generalize (⟨b.toArray⟩ : ByteArray) = xb at *
        generalize (⟨i.toArray⟩ : ByteArray) = xi at *
        clear g1 g2 hl hle z1 z2
        go_enter Tryd.func11, Tryd.ntmps11
        go_wp2_with fail
        refine (AW.out _).mono ?_
        rintro e w1 ⟨rfl, hb⟩
        have Hb1 := Lib.hid hb
        clear hb
        go_wp2_with fail
        refine (R1.out _).mono ?_
        rintro e w2 ⟨rfl, hb⟩
        have Hb2 := Lib.hid ((Hb1.out).trans (hb.mono (Hb1.out).size))
        clear hb
        go_wp2_with fail
        refine (R2.out _).mono ?_
        rintro e w3 ⟨rfl, hb⟩
        have Hb3 := Lib.hid ((Hb2.out).trans (hb.mono (Hb2.out).size))
        clear hb
        go_wp2_with fail
        refine (R3.out _).mono ?_
        rintro e w4 ⟨rfl, hb⟩
        have Hb4 := Lib.hid ((Hb3.out).trans (hb.mono (Hb3.out).size))
        clear hb
        go_wp2_with fail
        refine (R4.out _).mono ?_
        rintro e w5 ⟨rfl, hb⟩
        have Hb5 := Lib.hid ((Hb4.out).trans (hb.mono (Hb4.out).size))
        clear hb
        go_wp2_with fail
        refine (KU.out _).mono ?_
        rintro e w6 ⟨rfl, hb⟩
        have Hb6 := Lib.hid ((Hb5.out).trans (hb.mono (Hb5.out).size))
        clear hb
        go_wp2_with fail
        go_ret
        exact ⟨rfl, Hb6.out⟩
    | some p =>
      obtain ⟨b, i, r⟩ := p
      rw [g1] at R1 R2
      simp only [readNV] at R1 R2
      have hle := size_le_of g1
      obtain ⟨z1, z2⟩ := read_ver g1
      have KV := Lib.hid (fun w => VersionKey_c ⟨b.toArray⟩ ⟨i.toArray⟩ (fellL r) w (by rw [size_mk]; omega) (by rw [size_mk]; omega) z2)
      simp only at KV
      rw [z1] at KV
      generalize fellL r = m at *
      generalize (⟨b.toArray⟩ : ByteArray) = xb at *
      generalize (⟨i.toArray⟩ : ByteArray) = xi at *
      clear z1 z2 hle
      cases g2 : readK 117 s.data.toList with
      | none =>
        rw [g2] at R3 R4
        simp only [readNV] at R3 R4
        clear g1 g2 hl
        go_enter Tryd.func11, Tryd.ntmps11
        go_wp2_with fail
        refine (AW.out _).mono ?_
        rintro e w1 ⟨rfl, hb⟩
        have Hb1 := Lib.hid hb
        clear hb
        go_wp2_with fail
        refine (R1.out _).mono ?_
        rintro e w2 ⟨rfl, hb⟩
        have Hb2 := Lib.hid ((Hb1.out).trans (hb.mono (Hb1.out).size))
        clear hb
        go_wp2_with fail
        refine (R2.out _).mono ?_
        rintro e w3 ⟨rfl, hb⟩
        have Hb3 := Lib.hid ((Hb2.out).trans (hb.mono (Hb2.out).size))
        clear hb
        go_wp2_with fail
        refine (R3.out _).mono ?_
        rintro e w4 ⟨rfl, hb⟩
        have Hb4 := Lib.hid ((Hb3.out).trans (hb.mono (Hb3.out).size))
        clear hb
        go_wp2_with fail
        refine (R4.out _).mono ?_
        rintro e w5 ⟨rfl, hb⟩
        have Hb5 := Lib.hid ((Hb4.out).trans (hb.mono (Hb4.out).size))
        clear hb
        go_wp2_with fail
        refine (KV.out _).mono ?_
        rintro e w6 ⟨rfl, hb⟩
        have Hb6 := Lib.hid ((Hb5.out).trans (hb.mono (Hb5.out).size))
        clear hb
        go_wp2_with fail
        go_ret
        exact ⟨rfl, Hb6.out⟩
      | some p =>
        exfalso
        obtain ⟨h1, h2, h3, h4⟩ := key_read g1
        obtain ⟨b', i', r'⟩ := p
        obtain ⟨k1, k2, k3, k4⟩ := key_read g2
        rw [← h4, under_two h1 h2, under_two k1 k2] at k4
        simp at k4
theorem NameReads_w (v0 : Value) (w : World) (g0 : Reads w 9 v0) : Calls Tryd.prog 11 #[v0] w fun e w' => e = .returned (.bool true) ∧ Below w.heap.size w w' := by
  obtain ⟨s, rfl, -⟩ := reads_string Tryd.underlying9 g0
  exact NameReads_c s w
end Go.Proofs.YtoblhikablbapaaDoor
