/- PackParts: the walk of the law. -/
import Derived.Test.YtoblhikablbapaaDoorPackJoins
import Derived.Test.YtoblhikablbapaaDoorPackP3
namespace Go.Proofs.YtoblhikablbapaaDoor
set_option linter.unusedVariables false
open Go.RowKit
set_option maxRecDepth 100000
set_option maxHeartbeats 4000000
theorem partsL (a b s1 s2 : ByteArray) (w : World) (q : 500 < a.size ∨ (a.size ≤ 500 ∧ 500 < b.size) ∨ (a.size ≤ 500 ∧ b.size ≤ 500 ∧ 500 < s1.size) ∨ (a.size ≤ 500 ∧ b.size ≤ 500 ∧ s1.size ≤ 500 ∧ 500 < s2.size)) :
    Calls Tryd.prog 7 #[.string a, .string b, .agg #[.string s1, .string s2]] w fun e w' => e = .returned (.bool true) ∧ Below w.heap.size w w' := by
  have AW := fun w => awake_c w
  rcases q with q | ⟨q1, q⟩ | ⟨q1, q2, q⟩ | ⟨q1, q2, q3, q⟩
  · go_enter Tryd.func7, Tryd.ntmps7
    go_wp2_with fail
    refine (AW _).mono ?_
    rintro e w1 ⟨rfl, hb⟩
    have J1 := Lib.hid (JB.start hb)
    have k0 := J1.out.c0
    have k1 := J1.out.c1
    clear hb
    go_wp2_with fail
    go_ret
    exact ⟨rfl, J1.out.below⟩
  · go_enter Tryd.func7, Tryd.ntmps7
    go_wp2_with fail
    refine (AW _).mono ?_
    rintro e w1 ⟨rfl, hb⟩
    have J1 := Lib.hid (JB.start hb)
    have k0 := J1.out.c0
    have k1 := J1.out.c1
    clear hb
    go_wp2_with fail
    go_ret
    exact ⟨rfl, J1.out.below⟩
  · go_enter Tryd.func7, Tryd.ntmps7
    go_wp2_with fail
    refine (AW _).mono ?_
    rintro e w1 ⟨rfl, hb⟩
    have J1 := Lib.hid (JB.start hb)
    have k0 := J1.out.c0
    have k1 := J1.out.c1
    clear hb
    go_wp2_with fail
    go_ret
    exact ⟨rfl, J1.out.below⟩
  · go_enter Tryd.func7, Tryd.ntmps7
    go_wp2_with fail
    refine (AW _).mono ?_
    rintro e w1 ⟨rfl, hb⟩
    have J1 := Lib.hid (JB.start hb)
    have k0 := J1.out.c0
    have k1 := J1.out.c1
    clear hb
    go_wp2_with fail
    go_ret
    exact ⟨rfl, J1.out.below⟩
theorem part_data (a r : ByteArray) : ((⟨(a.data.toList ++ [0]).toArray⟩ : ByteArray) ++ r).data.toList = a.data.toList ++ 0 :: r.data.toList := by rw [join_data]; simp
theorem part_size (a : ByteArray) : (⟨(a.data.toList ++ [0]).toArray⟩ : ByteArray).size = a.size + 1 := by rw [size_mk, List.length_append, ← Lib.size_eq]; rfl
theorem cutVal_part (a r : ByteArray) (h : cutL a.data.toList = none) : cutVal ((⟨(a.data.toList ++ [0]).toArray⟩ : ByteArray) ++ r).data.toList = .tuple #[.string a, .string r, .bool true] := by
  rw [part_data, cutVal_some (cutL_part h _)]
theorem ne_toList {a b : ByteArray} (h : ¬ a.toList = b.toList) : a.data.toList ≠ b.data.toList := by rwa [← Lib.toList_data, ← Lib.toList_data]
theorem partsM (a b s1 s2 pa pb za1 za2 zb1 zb2 : ByteArray) (oa ob : Bool) (w : World) (q1 : a.size ≤ 500) (q2 : b.size ≤ 500) (q3 : s1.size ≤ 500) (q4 : s2.size ≤ 500)
    (PA : ∀ w, Calls Tryd.prog 24 #[.string a] w (fun e w' => e = .returned (.tuple #[.string pa, .bool oa]) ∧ w = w'))
    (PB : ∀ w, Calls Tryd.prog 24 #[.string b] w (fun e w' => e = .returned (.tuple #[.string pb, .bool ob]) ∧ w = w'))
    (CA : ∀ w, Calls Tryd.prog 25 #[.string a] w (fun e w' => e = .returned (.tuple #[.string za1, .string za2, .bool !oa]) ∧ Below w.heap.size w w'))
    (CB : ∀ w, Calls Tryd.prog 25 #[.string b] w (fun e w' => e = .returned (.tuple #[.string zb1, .string zb2, .bool !ob]) ∧ Below w.heap.size w w'))
    (hpa : oa = false → pa.toList = [])
    (fin : oa = true → ob = true → pa.size ≤ 501 ∧ pb.size ≤ 501 ∧ (∀ w, Calls Tryd.prog 26 #[.string (pa ++ s1)] w (fun e w' => e = .returned (.tuple #[.string a, .string s1, .bool true]) ∧ Below w.heap.size w w')) ∧ (¬ a.toList = b.toList → Op.bytesLess (pa ++ s1).toList (pb ++ s2).toList = Op.bytesLess a.toList b.toList)) :
    Calls Tryd.prog 7 #[.string a, .string b, .agg #[.string s1, .string s2]] w fun e w' => e = .returned (.bool true) ∧ Below w.heap.size w w' := by
  have AW := fun w => awake_c w
  obtain ⟨u1, u2, u3, hu, -⟩ := cutVal_form (a ++ s1).data.toList
  have CC := Lib.hid (show ∀ w, Calls Tryd.prog 26 #[.string (a ++ s1)] w (fun e w' => e = .returned (.tuple #[.string u1, .string u2, .bool u3]) ∧ Below w.heap.size w w') from fun w => by
    have := Cut_c (a ++ s1) w (by rw [ByteArray.size_append]; omega)
    rwa [hu] at this)
  have CD := Lib.hid (show ∀ w, Calls Tryd.prog 25 #[.string (a ++ s1)] w (fun e w' => e = .returned (.tuple #[.string u1, .string u2, .bool u3]) ∧ Below w.heap.size w w') from fun w => by
    have := RCut_c (a ++ s1) w (by rw [ByteArray.size_append]; omega)
    rwa [hu] at this)
  clear hu
  have PA := Lib.hid PA
  have PB := Lib.hid PB
  have CA := Lib.hid CA
  have CB := Lib.hid CB
  cases oa
  · have hp := hpa rfl
    clear hpa fin
    go_enter Tryd.func7, Tryd.ntmps7
    go_wp2_with fail
    refine (AW _).mono ?_
    rintro e w1 ⟨rfl, hb⟩
    have J1 := Lib.hid (JB.start hb)
    have k0 := J1.out.c0
    have k1 := J1.out.c1
    clear hb
    go_wp2_with fail
    refine (PA.out _).mono ?_
    rintro e w2 ⟨rfl, rfl⟩
    go_wp2_with fail
    refine (PB.out _).mono ?_
    rintro e w3 ⟨rfl, rfl⟩
    go_wp2_with fail
    refine (CA.out _).mono ?_
    rintro e w4 ⟨rfl, hb⟩
    have J2 := Lib.hid (J1.out.step hb)
    clear hb J1 k0 k1
    go_wp2_with fail
    refine (CB.out _).mono ?_
    rintro e w5 ⟨rfl, hb⟩
    have J3 := Lib.hid (J2.out.step hb)
    have k0 := J3.out.c0
    clear hb J2
    go_wp2_with fail
    refine (CC.out _).mono ?_
    rintro e w6 ⟨rfl, hb⟩
    have J4 := Lib.hid (J3.out.step hb)
    clear k0
    have k0 := J4.out.c0
    clear hb J3
    go_wp2_with fail
    refine (CD.out _).mono ?_
    rintro e w7 ⟨rfl, hb⟩
    have J5 := Lib.hid (J4.out.step hb)
    clear k0
    have k0 := J5.out.c0
    clear hb J4
    go_wp2_with fail
    go_ret
    exact ⟨rfl, J5.out.below⟩
  · clear hpa
    cases ob
    · clear fin
      go_enter Tryd.func7, Tryd.ntmps7
      go_wp2_with fail
      refine (AW _).mono ?_
      rintro e w1 ⟨rfl, hb⟩
      have J1 := Lib.hid (JB.start hb)
      have k0 := J1.out.c0
      have k1 := J1.out.c1
      clear hb
      go_wp2_with fail
      refine (PA.out _).mono ?_
      rintro e w2 ⟨rfl, rfl⟩
      go_wp2_with fail
      refine (PB.out _).mono ?_
      rintro e w3 ⟨rfl, rfl⟩
      go_wp2_with fail
      refine (CA.out _).mono ?_
      rintro e w4 ⟨rfl, hb⟩
      have J2 := Lib.hid (J1.out.step hb)
      clear hb J1 k0 k1
      go_wp2_with fail
      refine (CB.out _).mono ?_
      rintro e w5 ⟨rfl, hb⟩
      have J3 := Lib.hid (J2.out.step hb)
      have k0 := J3.out.c0
      clear hb J2
      go_wp2_with fail
      refine (CC.out _).mono ?_
      rintro e w6 ⟨rfl, hb⟩
      have J4 := Lib.hid (J3.out.step hb)
      clear k0
      have k0 := J4.out.c0
      clear hb J3
      go_wp2_with fail
      refine (CD.out _).mono ?_
      rintro e w7 ⟨rfl, hb⟩
      have J5 := Lib.hid (J4.out.step hb)
      clear k0
      have k0 := J5.out.c0
      clear hb J4
      go_wp2_with fail
      go_ret
      exact ⟨rfl, J5.out.below⟩
    · obtain ⟨g1, g2, g3, g4⟩ := fin rfl rfl
      have G3 := Lib.hid g3
      clear g3 fin
      by_cases hab : a.toList = b.toList
      · clear g4
        have hab1 : (a.toList == b.toList) = true := by simpa using hab
        clear hab
        go_enter Tryd.func7, Tryd.ntmps7
        go_wp2_with fail
        refine (AW _).mono ?_
        rintro e w1 ⟨rfl, hb⟩
        have J1 := Lib.hid (JB.start hb)
        have k0 := J1.out.c0
        have k1 := J1.out.c1
        clear hb
        go_wp2_with fail
        refine (PA.out _).mono ?_
        rintro e w2 ⟨rfl, rfl⟩
        go_wp2_with fail
        refine (PB.out _).mono ?_
        rintro e w3 ⟨rfl, rfl⟩
        go_wp2_with fail
        refine (CA.out _).mono ?_
        rintro e w4 ⟨rfl, hb⟩
        have J2 := Lib.hid (J1.out.step hb)
        clear hb J1 k0 k1
        go_wp2_with fail
        refine (CB.out _).mono ?_
        rintro e w5 ⟨rfl, hb⟩
        have J3 := Lib.hid (J2.out.step hb)
        have k0 := J3.out.c0
        clear hb J2
        go_wp2_with fail
        refine (CC.out _).mono ?_
        rintro e w6 ⟨rfl, hb⟩
        have J4 := Lib.hid (J3.out.step hb)
        clear k0
        have k0 := J4.out.c0
        clear hb J3
        go_wp2_with fail
        refine (CD.out _).mono ?_
        rintro e w7 ⟨rfl, hb⟩
        have J5 := Lib.hid (J4.out.step hb)
        clear k0
        have k0 := J5.out.c0
        clear hb J4
        go_wp2_with fail
        refine (G3.out _).mono ?_
        rintro e w8 ⟨rfl, hb⟩
        have J6 := Lib.hid (J5.out.step hb)
        clear k0
        have k0 := J6.out.c0
        have k1 := J6.out.c1
        clear hb J5
        go_wp2_with fail
        go_ret
        exact ⟨rfl, J6.out.below⟩
      · have g5 := g4 hab
        have hab1 : (a.toList == b.toList) = false := by simpa using hab
        clear g4 hab
        go_enter Tryd.func7, Tryd.ntmps7
        go_wp2_with fail
        refine (AW _).mono ?_
        rintro e w1 ⟨rfl, hb⟩
        have J1 := Lib.hid (JB.start hb)
        have k0 := J1.out.c0
        have k1 := J1.out.c1
        clear hb
        go_wp2_with fail
        refine (PA.out _).mono ?_
        rintro e w2 ⟨rfl, rfl⟩
        go_wp2_with fail
        refine (PB.out _).mono ?_
        rintro e w3 ⟨rfl, rfl⟩
        go_wp2_with fail
        refine (CA.out _).mono ?_
        rintro e w4 ⟨rfl, hb⟩
        have J2 := Lib.hid (J1.out.step hb)
        clear hb J1 k0 k1
        go_wp2_with fail
        refine (CB.out _).mono ?_
        rintro e w5 ⟨rfl, hb⟩
        have J3 := Lib.hid (J2.out.step hb)
        have k0 := J3.out.c0
        clear hb J2
        go_wp2_with fail
        refine (CC.out _).mono ?_
        rintro e w6 ⟨rfl, hb⟩
        have J4 := Lib.hid (J3.out.step hb)
        clear k0
        have k0 := J4.out.c0
        clear hb J3
        go_wp2_with fail
        refine (CD.out _).mono ?_
        rintro e w7 ⟨rfl, hb⟩
        have J5 := Lib.hid (J4.out.step hb)
        clear k0
        have k0 := J5.out.c0
        clear hb J4
        go_wp2_with fail
        refine (G3.out _).mono ?_
        rintro e w8 ⟨rfl, hb⟩
        have J6 := Lib.hid (J5.out.step hb)
        clear k0
        have k0 := J6.out.c0
        have k1 := J6.out.c1
        clear hb J5
        go_wp2_with fail
        go_ret
        exact ⟨rfl, J6.out.below⟩
theorem PackParts_w (v0 v1 v2 : Value) (w : World) (g0 : Reads w 9 v0) (g1 : Reads w 9 v1) (g2 : Reads w 34 v2) : Calls Tryd.prog 7 #[v0, v1, v2] w fun e w' => e = .returned (.bool true) ∧ Below w.heap.size w w' := by
  obtain ⟨a, rfl, -⟩ := reads_string Tryd.underlying9 g0
  obtain ⟨b, rfl, -⟩ := reads_string Tryd.underlying9 g1
  obtain ⟨s1, s2, rfl, -, -⟩ := reads_two g2
  by_cases q1 : a.size ≤ 500
  · by_cases q2 : b.size ≤ 500
    · by_cases q3 : s1.size ≤ 500
      · by_cases q4 : s2.size ≤ 500
        · have yes : ∀ x : ByteArray, x.size ≤ 500 → cutL x.data.toList = none → (∀ w, Calls Tryd.prog 24 #[.string x] w (fun e w' => e = .returned (.tuple #[.string ⟨(x.data.toList ++ [0]).toArray⟩, .bool true]) ∧ w = w')) ∧
              (∀ w, Calls Tryd.prog 25 #[.string x] w (fun e w' => e = .returned (.tuple #[.string ⟨#[]⟩, .string ⟨#[]⟩, .bool !true]) ∧ Below w.heap.size w w')) := fun x hx h =>
            ⟨fun w => Part_yes x w h (by omega), fun w => by have := RCut_c x w (by omega); rwa [cutVal_none h] at this⟩
          have no : ∀ x : ByteArray, x.size ≤ 500 → ∀ p, cutL x.data.toList = some p → (∀ w, Calls Tryd.prog 24 #[.string x] w (fun e w' => e = .returned (.tuple #[.string ByteArray.empty, .bool false]) ∧ w = w')) ∧
              (∀ w, Calls Tryd.prog 25 #[.string x] w (fun e w' => e = .returned (.tuple #[.string ⟨p.1.toArray⟩, .string ⟨p.2.toArray⟩, .bool !false]) ∧ Below w.heap.size w w')) := fun x hx p h =>
            ⟨fun w => Part_no x w (by rw [h]; simp), fun w => by have := RCut_c x w (by omega); rwa [cutVal_some h] at this⟩
          cases ha : cutL a.data.toList with
          | none =>
            cases hb : cutL b.data.toList with
            | none =>
              refine partsM a b s1 s2 _ _ _ _ _ _ true true w q1 q2 q3 q4 (yes a q1 ha).1 (yes b q2 hb).1 (yes a q1 ha).2 (yes b q2 hb).2 (fun h => by cases h) (fun _ _ => ⟨by rw [part_size]; omega, by rw [part_size]; omega, fun w => ?_, fun h => ?_⟩)
              · have := Cut_c ((⟨(a.data.toList ++ [0]).toArray⟩ : ByteArray) ++ s1) w (by rw [ByteArray.size_append, part_size]; omega)
                rwa [cutVal_part a s1 ha] at this
              · rw [Lib.toList_data, Lib.toList_data, part_data, part_data, less_part _ _ _ _ ha hb (ne_toList h), Lib.toList_data, Lib.toList_data]
            | some p =>
              exact partsM a b s1 s2 _ _ _ _ _ _ true false w q1 q2 q3 q4 (yes a q1 ha).1 (no b q2 p hb).1 (yes a q1 ha).2 (no b q2 p hb).2 (fun h => by cases h) (fun _ h => by cases h)
          | some p =>
            cases hb : cutL b.data.toList with
            | none => exact partsM a b s1 s2 _ _ _ _ _ _ false true w q1 q2 q3 q4 (no a q1 p ha).1 (yes b q2 hb).1 (no a q1 p ha).2 (yes b q2 hb).2 (fun _ => by rw [Lib.toList_data]; rfl) (fun h => by cases h)
            | some r => exact partsM a b s1 s2 _ _ _ _ _ _ false false w q1 q2 q3 q4 (no a q1 p ha).1 (no b q2 r hb).1 (no a q1 p ha).2 (no b q2 r hb).2 (fun _ => by rw [Lib.toList_data]; rfl) (fun h => by cases h)
        · exact partsL a b s1 s2 w (.inr (.inr (.inr ⟨q1, q2, q3, by omega⟩)))
      · exact partsL a b s1 s2 w (.inr (.inr (.inl ⟨q1, q2, by omega⟩)))
    · exact partsL a b s1 s2 w (.inr (.inl ⟨q1, by omega⟩))
  · exact partsL a b s1 s2 w (.inl (by omega))
end Go.Proofs.YtoblhikablbapaaDoor
