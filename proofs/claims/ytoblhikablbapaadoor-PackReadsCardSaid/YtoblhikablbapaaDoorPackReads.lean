/- PackReads: the walk of the law. -/
import Derived.Test.YtoblhikablbapaaDoorPackZ
import Derived.Test.YtoblhikablbapaaDoorPackP
namespace Go.Proofs.YtoblhikablbapaaDoor
set_option linter.unusedVariables false
open Go.RowKit
set_option maxRecDepth 100000 in
theorem packReads_walk (s S : ByteArray) (w : World) : Calls Tryd.prog 4 #[.string s, .string S] w fun e w' => e = .returned (.bool true) ∧ Below w.heap.size w w' := by
  have AW := awake_c w
  by_cases h1 : 20 < s.size
  · go_enter Tryd.func4, Tryd.ntmps4
    go_wp2_with fail
    refine AW.mono ?_
    rintro e w1 ⟨rfl, hb⟩
    have HB := Lib.hid hb
    clear hb AW
    go_wp2_with fail
    go_ret
    exact ⟨rfl, HB.out⟩
  · by_cases h2 : 2000 < S.size
    · go_enter Tryd.func4, Tryd.ntmps4
      go_wp2_with fail
      refine AW.mono ?_
      rintro e w1 ⟨rfl, hb⟩
      have HB := Lib.hid hb
      clear hb AW
      go_wp2_with fail
      go_ret
      exact ⟨rfl, HB.out⟩
    · have R1 : ∀ w, Calls Tryd.prog 19 #[.string s, .string S] w (RdPost w (readF s.data.toList S)) := fun w => Read_c s S w (by omega) (by omega)
      have R2 : ∀ w, Calls Tryd.prog 21 #[.string s, .string S] w (RdPost w (readF s.data.toList S)) := fun w => RRead_c s S w (by omega) (by omega)
      cases hR : readF s.data.toList S with
      | none =>
        rw [hR] at R1 R2
        clear hR
        go_enter Tryd.func4, Tryd.ntmps4
        go_wp2_with fail
        refine AW.mono ?_
        rintro e w1 ⟨rfl, hb⟩
        have HB := Lib.hid hb
        clear hb AW
        go_wp2_with fail
        refine (R1 _).mono ?_
        rintro e w2 ⟨rfl, hb⟩
        have HB2 := Lib.hid ((HB.out).trans (hb.mono (HB.out).size))
        clear hb HB
        go_wp2_with fail
        refine (R2 _).mono ?_
        rintro e w3 ⟨rfl, hb⟩
        have HB3 := Lib.hid ((HB2.out).trans (hb.mono (HB2.out).size))
        have S1 := Same_t (.slice none 0 0) (.slice none 0 0) [] w3 ⟨⟨none, 0, rfl, fun k hk => by simp at hk⟩, by simp⟩ ⟨⟨none, 0, rfl, fun k hk => by simp at hk⟩, by simp⟩ (by decide)
        clear hb HB2
        go_wp2_with fail
        refine S1.mono ?_
        rintro e w4 ⟨rfl, hb⟩
        have HB4 := Lib.hid ((HB3.out).trans (hb.mono (HB3.out).size))
        clear hb HB3
        go_wp2_with fail
        go_ret
        exact ⟨rfl, HB4.out⟩
      | some fs =>
        rw [hR] at R1 R2
        obtain ⟨q1, q2, q3⟩ := write_read hR
        have hfl : fs.length ≤ 20 := by rw [q2, ← Lib.size_eq]; omega
        have HW := Lib.hid (show WrOut (writeL s.data.toList fs) = .tuple #[.string S, .bool true] by rw [q1]; rfl)
        have HN : ∀ p ∈ fs, p.1 < 18446744073709551616 := fun p hp => (q3 p hp).1
        have HZ : ∀ p ∈ fs, p.2.size ≤ 1000000 := fun p hp => by have := (q3 p hp).2; omega
        have HNh := Lib.hid HN
        have HZh := Lib.hid HZ
        clear hR q1 q2 q3 HN HZ
        go_enter Tryd.func4, Tryd.ntmps4
        go_wp2_with fail
        refine AW.mono ?_
        rintro e w1 ⟨rfl, hb⟩
        have HB := Lib.hid hb
        clear hb AW
        go_wp2_with fail
        refine (R1 _).mono ?_
        rintro e w2 ⟨v, rfl, ho, hb⟩
        have F2 := flds_of_own ho HNh.out
        have HB2 := Lib.hid ((HB.out).trans (hb.mono (HB.out).size))
        clear hb HB ho
        have FH2 := Lib.hid F2
        clear F2
        go_wp2_with fail
        refine (R2 _).mono ?_
        rintro e w3 ⟨v3, rfl, ho, hb⟩
        have F3 := flds_of_own ho HNh.out
        have F2 := (FH2.out).below hb
        have HB3 := Lib.hid ((HB2.out).trans (hb.mono (HB2.out).size))
        have S1 := Same_t v v3 fs w3 F2 F3 (by omega)
        have FH3 := Lib.hid F2
        clear hb HB2 ho F3 F2 FH2
        go_wp2_with fail
        refine S1.mono ?_
        rintro e w4 ⟨rfl, hb⟩
        have HB4 := Lib.hid ((HB3.out).trans (hb.mono (HB3.out).size))
        have W1 := Write_c s v fs w4 (by omega) ((FH3.out).below hb) HZh.out
        rw [HW.out] at W1
        clear hb HB3
        go_wp2_with fail
        refine W1.mono ?_
        rintro e w5 ⟨rfl, hb⟩
        have HB5 := Lib.hid ((HB4.out).trans (hb.mono (HB4.out).size))
        clear hb HB4
        go_wp2_with fail
        go_ret
        exact ⟨rfl, HB5.out⟩
end Go.Proofs.YtoblhikablbapaaDoor
