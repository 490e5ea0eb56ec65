/- PackWrites: the walk of the law. -/
import Derived.Test.YtoblhikablbapaaDoorPackZ
import Derived.Test.YtoblhikablbapaaDoorPackP2
import Derived.Test.YtoblhikablbapaaDoorReadF
namespace Go.Proofs.YtoblhikablbapaaDoor
set_option linter.unusedVariables false
open Go.RowKit
theorem wr1_len {k : UInt8} {f : Fld} {a : List UInt8} (h : wr1 k f = some a) (hf : f.2.size ≤ 300) : a.length ≤ 302 := by
  unfold wr1 at h
  split at h
  · split at h
    · cases h
    · simp only [Option.some.injEq] at h
      subst h
      rw [be_length]
      unfold widthB; split <;> (try split) <;> (try split) <;> decide
  · split at h
    · cases h
    · split at h
      · split at h
        · cases h
        · simp only [Option.some.injEq] at h
          subst h
          rw [List.length_append, be_length, ← Lib.size_eq]; omega
      · simp only [Option.some.injEq] at h
        subst h
        rw [← Lib.size_eq]; omega
theorem wrL_len : ∀ (ks : List UInt8) (fs : List Fld) (a : List UInt8), wrL ks fs = some a → (∀ p ∈ fs, p.2.size ≤ 300) → a.length ≤ ks.length * 302 := by
  intro ks
  induction ks with
  | nil => intro fs a h _; simp only [wrL, Option.some.injEq] at h; subst h; simp
  | cons k ks ih =>
    intro fs a h hf
    cases fs with
    | nil => simp only [wrL, Option.some.injEq] at h; subst h; simp
    | cons f fs =>
      have e : wrL (k :: ks) (f :: fs) = (match wr1 k f with | none => none | some a => (wrL ks fs).map (a ++ ·)) := rfl
      rw [e] at h
      cases h1 : wr1 k f with
      | none => rw [h1] at h; cases h
      | some b =>
        rw [h1] at h
        dsimp only at h
        cases h2 : wrL ks fs with
        | none => rw [h2] at h; cases h
        | some c =>
          rw [h2] at h
          simp only [Option.map_some, Option.some.injEq] at h
          subst h
          have := wr1_len h1 (hf f (List.mem_cons_self ..))
          have := ih fs c h2 (fun p hp => hf p (List.mem_cons_of_mem _ hp))
          simp only [List.length_append, List.length_cons]
          omega
theorem write_len {ks : List UInt8} {fs : List Fld} {a : List UInt8} (h : writeL ks fs = some a) (hf : ∀ p ∈ fs, p.2.size ≤ 300) (hk : ks.length ≤ 40) : a.length ≤ 20000 := by
  unfold writeL at h
  split at h
  · have := wrL_len ks fs a h hf; omega
  · cases h
theorem few_of {l : List Fld} (h : fewB l = true) : l.length ≤ 20 ∧ ∀ p ∈ l, p.2.size ≤ 300 := by
  simpa [fewB] using h
set_option maxRecDepth 100000 in
theorem packWrites_walk (s : ByteArray) (v : Value) (l : List Fld) (w : World) (hv : FldsAt w v l) : Calls Tryd.prog 3 #[.string s, v] w fun e w' => e = .returned (.bool true) ∧ Below w.heap.size w w' := by
  have AW := awake_c w
  have HV := Lib.hid hv
  by_cases h1 : 20 < s.size
  · clear hv
    go_enter Tryd.func3, Tryd.ntmps3
    go_wp2_with fail
    refine AW.mono ?_
    rintro e w1 ⟨rfl, hb⟩
    have HB := Lib.hid hb
    clear hb AW
    go_wp2_with fail
    go_ret
    exact ⟨rfl, HB.out⟩
  · cases hf : fewB l
    · have HF := Lib.hid hf
      clear hv hf
      go_enter Tryd.func3, Tryd.ntmps3
      go_wp2_with fail
      refine AW.mono ?_
      rintro e w1 ⟨rfl, hb⟩
      have HB := Lib.hid hb
      have F1 := Few_c v l w1 ((HV.out).below hb)
      rw [HF.out] at F1
      clear hb AW
      go_wp2_with fail
      refine F1.mono ?_
      rintro e w2 ⟨rfl, hb⟩
      have HB2 := Lib.hid ((HB.out).trans (hb.mono (HB.out).size))
      clear hb F1
      go_wp2_with fail
      go_ret
      exact ⟨rfl, HB2.out⟩
    · obtain ⟨q1, q2⟩ := few_of hf
      have HF := Lib.hid hf
      have HZ := Lib.hid (show ∀ p ∈ l, p.2.size ≤ 1000000 from fun p hp => Nat.le_trans (q2 p hp) (by decide))
      have HNh := Lib.hid hv.2
      cases hW : writeL s.data.toList l with
      | none =>
        have HW := Lib.hid (show WrOut (writeL s.data.toList l) = .tuple #[.string ⟨#[]⟩, .bool false] by rw [hW]; rfl)
        clear hv hf q2 hW
        go_enter Tryd.func3, Tryd.ntmps3
        go_wp2_with fail
        refine AW.mono ?_
        rintro e w1 ⟨rfl, hb⟩
        have HB := Lib.hid hb
        have F1 := Few_c v l w1 ((HV.out).below hb)
        rw [HF.out] at F1
        clear hb AW
        go_wp2_with fail
        refine F1.mono ?_
        rintro e w2 ⟨rfl, hb⟩
        have HB2 := Lib.hid ((HB.out).trans (hb.mono (HB.out).size))
        have W1 := Write_c s v l w2 (by omega) ((HV.out).below HB2.out) HZ.out
        rw [HW.out] at W1
        clear hb F1 HB
        go_wp2_with fail
        refine W1.mono ?_
        rintro e w3 ⟨rfl, hb⟩
        have HB3 := Lib.hid ((HB2.out).trans (hb.mono (HB2.out).size))
        have W2 := RWrite_c s v l w3 (by omega) ((HV.out).below HB3.out) HZ.out
        rw [HW.out] at W2
        clear hb W1 HB2
        go_wp2_with fail
        refine W2.mono ?_
        rintro e w4 ⟨rfl, hb⟩
        have HB4 := Lib.hid ((HB3.out).trans (hb.mono (HB3.out).size))
        clear hb W2 HB3
        go_wp2_with fail
        refine (Right_c s w4 (by omega)).mono ?_
        rintro e w5 ⟨rfl, hb⟩
        have HB5 := Lib.hid ((HB4.out).trans (hb.mono (HB4.out).size))
        clear hb HB4
        go_wp2_with fail
        refine (RRight_c s w5 (by omega)).mono ?_
        rintro e w6 ⟨rfl, rfl⟩
        go_wp2_with fail
        go_ret
        exact ⟨rfl, HB5.out⟩
      | some bs =>
        have HW := Lib.hid (show WrOut (writeL s.data.toList l) = .tuple #[.string ⟨bs.toArray⟩, .bool true] by rw [hW]; rfl)
        have HR := Lib.hid (read_write hv.2 hW)
        have HL := Lib.hid (write_len hW q2 (by rw [← Lib.size_eq]; omega))
        clear hv hf q2 hW
        go_enter Tryd.func3, Tryd.ntmps3
        go_wp2_with fail
        refine AW.mono ?_
        rintro e w1 ⟨rfl, hb⟩
        have HB := Lib.hid hb
        have F1 := Few_c v l w1 ((HV.out).below hb)
        rw [HF.out] at F1
        clear hb AW
        go_wp2_with fail
        refine F1.mono ?_
        rintro e w2 ⟨rfl, hb⟩
        have HB2 := Lib.hid ((HB.out).trans (hb.mono (HB.out).size))
        have W1 := Write_c s v l w2 (by omega) ((HV.out).below HB2.out) HZ.out
        rw [HW.out] at W1
        clear hb F1 HB
        go_wp2_with fail
        refine W1.mono ?_
        rintro e w3 ⟨rfl, hb⟩
        have HB3 := Lib.hid ((HB2.out).trans (hb.mono (HB2.out).size))
        have W2 := RWrite_c s v l w3 (by omega) ((HV.out).below HB3.out) HZ.out
        rw [HW.out] at W2
        clear hb W1 HB2
        go_wp2_with fail
        refine W2.mono ?_
        rintro e w4 ⟨rfl, hb⟩
        have HB4 := Lib.hid ((HB3.out).trans (hb.mono (HB3.out).size))
        clear hb W2 HB3
        go_wp2_with fail
        refine (Right_c s w4 (by omega)).mono ?_
        rintro e w5 ⟨rfl, hb⟩
        have HB5 := Lib.hid ((HB4.out).trans (hb.mono (HB4.out).size))
        clear hb HB4
        go_wp2_with fail
        refine (RRight_c s w5 (by omega)).mono ?_
        rintro e w6 ⟨rfl, rfl⟩
        have R1 := Read_c s ⟨bs.toArray⟩ w5 (by omega) (by rw [size_mk]; have := HL.out; omega)
        rw [HR.out] at R1
        go_wp2_with fail
        refine R1.mono ?_
        rintro e w6 ⟨v3, rfl, ho, hb⟩
        have F3 := flds_of_own ho HNh.out
        have HB6 := Lib.hid ((HB5.out).trans (hb.mono (HB5.out).size))
        have S1 := Same_t v3 v l w6 F3 ((HV.out).below HB6.out) (by omega)
        clear hb HB5 ho F3 R1
        go_wp2_with fail
        refine S1.mono ?_
        rintro e w7 ⟨rfl, hb⟩
        have HB7 := Lib.hid ((HB6.out).trans (hb.mono (HB6.out).size))
        clear hb HB6 S1
        go_wp2_with fail
        go_ret
        exact ⟨rfl, HB7.out⟩
theorem PackWrites_w (v0 v1 : Value) (w : World) (g0 : Reads w 9 v0) (g1 : Reads w 22 v1) : Calls Tryd.prog 3 #[v0, v1] w fun e w' => e = .returned (.bool true) ∧ Below w.heap.size w w' := by
  obtain ⟨s, rfl, -⟩ := reads_string Tryd.underlying9 g0
  obtain ⟨l, hl, -⟩ := reads_flds g1
  exact packWrites_walk s v1 l w hl
end Go.Proofs.YtoblhikablbapaaDoor
