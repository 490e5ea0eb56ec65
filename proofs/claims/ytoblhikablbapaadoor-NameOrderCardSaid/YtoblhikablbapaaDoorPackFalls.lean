/- PackFalls: the walk of the law. -/
import Derived.Test.YtoblhikablbapaaDoorPackZ
import Derived.Test.YtoblhikablbapaaDoorPackP3
import Derived.Test.YtoblhikablbapaaDoorReadF
namespace Go.Proofs.YtoblhikablbapaaDoor
set_option linter.unusedVariables false
open Go.RowKit
theorem Fell_no' (s : ByteArray) (w : World) (hs : s.size ≤ 9223372036854775807) (h8 : s.size ≠ 8) :
    Calls Tryd.prog 23 #[.string s] w fun e w' => e = .returned (.tuple #[.int .u64 0, .bool false]) ∧ w = w' := by
  have q1 : ((s.size : Int) == 8) = false := by simp; omega
  have q2 : ((s.size : Int) != 8) = true := by simp; omega
  clear h8
  go_enter Tryd.func23, Tryd.ntmps23
  go_wp2
  go_ret2
  exact ⟨rfl, rfl⟩
theorem packFalls_walk (a b : Nat) (s : ByteArray) (w : World) (ha : a < 18446744073709551616) (hb : b < 18446744073709551616) (hs : s.size ≤ 9223372036854775807) :
    Calls Tryd.prog 6 #[.int .u64 a, .int .u64 b, .string s] w fun e w' => e = .returned (.bool true) ∧ Below w.heap.size w w' := by
  have AW := awake_c w
  have FA : ∀ w, Calls Tryd.prog 22 #[.int .u64 a] w (fun e w' => e = .returned (.string ⟨(fallsL a).toArray⟩) ∧ Below w.heap.size w w') := fun w => Falls_c a w ha
  have FB : ∀ w, Calls Tryd.prog 22 #[.int .u64 b] w (fun e w' => e = .returned (.string ⟨(fallsL b).toArray⟩) ∧ Below w.heap.size w w') := fun w => Falls_c b w hb
  have FE : ∀ w, Calls Tryd.prog 23 #[.string ⟨(fallsL a).toArray⟩] w (fun e w' => e = .returned (.tuple #[.int .u64 a, .bool true]) ∧ Below w.heap.size w w') := fun w => by
    have := Fell_yes ⟨(fallsL a).toArray⟩ w (by rw [size_mk, falls_length])
    rwa [fell_falls ha] at this
  have hx : (⟨(fallsL a).toArray⟩ : ByteArray).size = 8 := by rw [size_mk, falls_length]
  have hl : Op.bytesLess (⟨(fallsL a).toArray⟩ : ByteArray).toList (⟨(fallsL b).toArray⟩ : ByteArray).toList = decide (b < a) := by rw [Lib.toList_data, Lib.toList_data]; exact falls_less ha hb
  generalize (⟨(fallsL a).toArray⟩ : ByteArray) = x at *
  generalize (⟨(fallsL b).toArray⟩ : ByteArray) = y at *
  have HFA := Lib.hid FA
  have HFB := Lib.hid FB
  have HFE := Lib.hid FE
  have x1 : ((x.size : Int) == 8) = true := by simp; omega
  have x2 : ((x.size : Int) != 8) = false := by simp; omega
  have hx0 : x.size ≤ 9223372036854775807 := by omega
  clear FA FB FE ha hb hx
  by_cases hab : b < a
  all_goals
    first
      | rw [show decide (b < a) = true by simpa using hab] at hl
      | rw [show decide (b < a) = false by simpa using hab] at hl
    by_cases h8 : s.size = 8
    · have FS := Lib.hid (fun w => Fell_yes s w h8)
      obtain ⟨f1, f2⟩ := falls_fell h8
      have FF := Lib.hid (show ∀ w, Calls Tryd.prog 22 #[.int .u64 (fellN s)] w (fun e w' => e = .returned (.string s) ∧ Below w.heap.size w w') from fun w => by
        have := Falls_c (fellN s) w f2
        rwa [f1, mk_data] at this)
      have s1 : ((s.size : Int) == 8) = true := by simp; omega
      have s2 : ((s.size : Int) != 8) = false := by simp; omega
      generalize fellN s = n at *
      clear f1 f2 h8
      go_enter Tryd.func6, Tryd.ntmps6
      go_wp2_with fail
      refine AW.mono ?_
      rintro e w1 ⟨rfl, hb⟩
      have H1 := Lib.hid hb
      clear hb AW
      go_wp2_with fail
      refine (HFA.out _).mono ?_
      rintro e w2 ⟨rfl, hb⟩
      have H2 := Lib.hid ((H1.out).trans (hb.mono (H1.out).size))
      clear hb H1
      go_wp2_with fail
      refine (HFB.out _).mono ?_
      rintro e w3 ⟨rfl, hb⟩
      have H3 := Lib.hid ((H2.out).trans (hb.mono (H2.out).size))
      clear hb H2
      go_wp2_with fail
      refine (HFE.out _).mono ?_
      rintro e w4 ⟨rfl, hb⟩
      have H4 := Lib.hid ((H3.out).trans (hb.mono (H3.out).size))
      clear hb H3
      go_wp2_with fail
      refine (FS.out _).mono ?_
      rintro e w5 ⟨rfl, hb⟩
      have H5 := Lib.hid ((H4.out).trans (hb.mono (H4.out).size))
      clear hb H4
      go_wp2_with fail
      refine (FF.out _).mono ?_
      rintro e w6 ⟨rfl, hb⟩
      have H6 := Lib.hid ((H5.out).trans (hb.mono (H5.out).size))
      clear hb H5
      go_wp2_with fail
      go_ret
      exact ⟨rfl, H6.out⟩
    · have FS := Lib.hid (fun w => Fell_no' s w hs h8)
      have s1 : ((s.size : Int) == 8) = false := by simp; omega
      have s2 : ((s.size : Int) != 8) = true := by simp; omega
      clear h8
      go_enter Tryd.func6, Tryd.ntmps6
      go_wp2_with fail
      refine AW.mono ?_
      rintro e w1 ⟨rfl, hb⟩
      have H1 := Lib.hid hb
      clear hb AW
      go_wp2_with fail
      refine (HFA.out _).mono ?_
      rintro e w2 ⟨rfl, hb⟩
      have H2 := Lib.hid ((H1.out).trans (hb.mono (H1.out).size))
      clear hb H1
      go_wp2_with fail
      refine (HFB.out _).mono ?_
      rintro e w3 ⟨rfl, hb⟩
      have H3 := Lib.hid ((H2.out).trans (hb.mono (H2.out).size))
      clear hb H2
      go_wp2_with fail
      refine (HFE.out _).mono ?_
      rintro e w4 ⟨rfl, hb⟩
      have H4 := Lib.hid ((H3.out).trans (hb.mono (H3.out).size))
      clear hb H3
      go_wp2_with fail
      refine (FS.out _).mono ?_
      rintro e w5 ⟨rfl, rfl⟩
      go_wp2_with fail
      go_ret
      exact ⟨rfl, H4.out⟩
theorem PackFalls_w (v0 v1 v2 : Value) (w : World) (g0 : Reads w 36 v0) (g1 : Reads w 36 v1) (g2 : Reads w 9 v2) : Calls Tryd.prog 6 #[v0, v1, v2] w fun e w' => e = .returned (.bool true) ∧ Below w.heap.size w w' := by
  obtain ⟨a, rfl, ha⟩ := reads_int Tryd.underlying36 g0
  obtain ⟨b, rfl, hb⟩ := reads_int Tryd.underlying36 g1
  obtain ⟨s, rfl, hs⟩ := reads_string Tryd.underlying9 g2
  have ha := bounds_u64 ha
  have hb := bounds_u64 hb
  obtain ⟨a, rfl⟩ : ∃ k : Nat, a = k := ⟨a.toNat, by omega⟩
  obtain ⟨b, rfl⟩ : ∃ k : Nat, b = k := ⟨b.toNat, by omega⟩
  exact packFalls_walk a b s w (by omega) (by omega) (by unfold maxLen at hs; omega)
end Go.Proofs.YtoblhikablbapaaDoor
