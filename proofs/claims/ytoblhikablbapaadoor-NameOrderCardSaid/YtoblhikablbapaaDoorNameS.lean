/- name: the reference's keys: walks. (Printed by wip/gennames.py.) -/
import Derived.Test.YtoblhikablbapaaDoorNameR
namespace Go.Proofs.YtoblhikablbapaaDoor
set_option linter.unusedVariables false
set_option maxRecDepth 100000
set_option maxHeartbeats 2000000
open Go.RowKit
theorem RBucketKey_c (s : ByteArray) (w : World) (hs : s.size ≤ 1000000) :
    Calls Tryd.prog 44 #[.string s] w fun e w' => e = .returned (.string ⟨(bucketKeyL s.data.toList).toArray⟩) ∧ Below w.heap.size w w' := by
  have B1 := RBucket_c s w (by omega)
  cases hb : bktB s.data.toList
  · rw [hb] at B1
    have HE := Lib.hid (show bucketKeyL s.data.toList = [] by unfold bucketKeyL; rw [hb]; rfl)
    clear hb
    go_enter Tryd.func44, Tryd.ntmps44
    go_wp2_with fail
    refine B1.mono ?_
    rintro e w1 ⟨rfl, rfl⟩
    clear B1
    go_wp2_with fail
    go_ret
    exact ⟨by rw [HE.out]; rfl, Below.refl _ _⟩
  · rw [hb] at B1
    have HE := Lib.hid (show bucketKeyL s.data.toList = underL 98 (dat [s]) by unfold bucketKeyL; rw [if_pos hb]; rfl)
    clear hb
    go_enter Tryd.func44, Tryd.ntmps44
    go_wp2_with fail
    refine B1.mono ?_
    rintro e w1 ⟨rfl, rfl⟩
    clear B1
    have U : Calls Tryd.prog 32 #[.int .u8 98, .slice (some ⟨w.heap.size, 0, none⟩) 1 1] (w.alloc (.cells #[.string s] 9)) _ := RUnder_c 98 (.slice (some ⟨w.heap.size, 0, none⟩) 1 1) [s] _ (strs_one (heap_alloc_new w _)) (by simp) (by simpa using hs)
    go_wp2_with fail
    refine U.mono ?_
    rintro e w2 ⟨rfl, hb⟩
    have Hb2 := Lib.hid (((Below.refl w.heap.size w).alloc (Nat.le_refl _) (.cells #[.string s] 9)).trans (hb.mono (by simp)))
    clear hb U
    go_wp2_with fail
    go_ret
    exact ⟨ret_str (by rw [HE.out]), Hb2.out⟩
theorem RVersionKey_c (s t : ByteArray) (n : Nat) (w : World) (hs : s.size ≤ 1000000) (ht : t.size ≤ 1000000) (hn : n < 18446744073709551616) :
    Calls Tryd.prog 41 #[.string s, .string t, .int .u64 n] w fun e w' => e = .returned (.string ⟨(versionKeyL s.data.toList t.data.toList n).toArray⟩) ∧ Below w.heap.size w w' := by
  have B1 := RBucket_c s w (by omega)
  cases hb : bktB s.data.toList
  · rw [hb] at B1
    have HE := Lib.hid (show versionKeyL s.data.toList t.data.toList n = [] by unfold versionKeyL; rw [hb]; rfl)
    clear hb
    go_enter Tryd.func41, Tryd.ntmps41
    go_wp2_with fail
    refine B1.mono ?_
    rintro e w1 ⟨rfl, rfl⟩
    clear B1
    go_wp2_with fail
    go_ret
    exact ⟨by rw [HE.out]; rfl, Below.refl _ _⟩
  · rw [hb] at B1
    have I1 := RItem_c t w ht
    cases hi : itemB t.data.toList
    · rw [hi] at I1
      have HE := Lib.hid (show versionKeyL s.data.toList t.data.toList n = [] by unfold versionKeyL; rw [hi, if_neg (by simp)])
      clear hb hi
      go_enter Tryd.func41, Tryd.ntmps41
      go_wp2_with fail
      refine B1.mono ?_
      rintro e w1 ⟨rfl, rfl⟩
      clear B1
      go_wp2_with fail
      refine I1.mono ?_
      rintro e w2 ⟨rfl, hb⟩
      have Hb := Lib.hid hb
      clear hb I1
      go_wp2_with fail
      go_ret
      exact ⟨by rw [HE.out]; rfl, Hb.out⟩
    · rw [hi] at I1
      have HE := Lib.hid (show versionKeyL s.data.toList t.data.toList n = underL 118 (dat [s, t]) ++ fallsL n by unfold versionKeyL; rw [if_pos ⟨hb, hi⟩]; rfl)
      have HU := Lib.hid (under_size (k := 118) hb hi)
      have hw : IntKind.u64.wrap (18446744073709551615 - (n : Int)) = ((18446744073709551615 - n : Nat) : Int) := by simp only [IntKind.wrap, IntKind.bits, IntKind.signed]; simp; omega
      have hw2 : (18446744073709551615 - (n : Int)) % 18446744073709551616 = ((18446744073709551615 - n : Nat) : Int) := by omega
      have hw3 : (18446744073709551615 - (n : Int)) = ((18446744073709551615 - n : Nat) : Int) := by omega
      have F1 : ∀ w, Calls Tryd.prog 58 #[.int .u64 ((18446744073709551615 - n : Nat) : Int), .int .i64 8] w (fun e w' => e = .returned (.string ⟨(fallsL n).toArray⟩) ∧ Below w.heap.size w w') := fun w => RNumber_c (18446744073709551615 - n) 8 w (by omega) (by decide)
      have HF := Lib.hid (show (⟨(fallsL n).toArray⟩ : ByteArray).size = 8 by rw [size_mk]; first | exact falls_length n | exact be_length n 8)
      have HJ := Lib.hid (show (⟨(underL 118 (dat [s, t])).toArray⟩ : ByteArray) ++ ⟨(fallsL n).toArray⟩ = ⟨(underL 118 (dat [s, t]) ++ fallsL n).toArray⟩ from cat_mk _ _)
      generalize (⟨(fallsL n).toArray⟩ : ByteArray) = y at *
      have HF1 := Lib.hid F1
      clear hb hi F1
      go_enter Tryd.func41, Tryd.ntmps41
      go_wp2_with fail
      refine B1.mono ?_
      rintro e w1 ⟨rfl, rfl⟩
      clear B1
      go_wp2_with fail
      refine I1.mono ?_
      rintro e w1 ⟨rfl, hb⟩
      have Hb := Lib.hid hb
      clear hb I1
      have U : Calls Tryd.prog 32 #[.int .u8 118, .slice (some ⟨w1.heap.size, 0, none⟩) 2 2] (w1.alloc (.cells #[.string s, .string t] 9)) _ := RUnder_c 118 (.slice (some ⟨w1.heap.size, 0, none⟩) 2 2) [s, t] _ (strs_two (heap_alloc_new w1 _)) (by simp) (by simpa using ⟨hs, ht⟩)
      go_wp2_with fail
      refine U.mono ?_
      rintro e w2 ⟨rfl, hb⟩
      have Hb2 := Lib.hid ((Hb.out).trans ((((Below.refl w1.heap.size w1).alloc (Nat.le_refl _) (.cells #[.string s, .string t] 9)).trans (hb.mono (by simp))).mono (Hb.out).size))
      have hx : (⟨(underL 118 (dat [s, t])).toArray⟩ : ByteArray).size ≤ 60 := HU.out
      generalize (⟨(underL 118 (dat [s, t])).toArray⟩ : ByteArray) = x at *
      have hy := HF.out
      clear hb U
      go_wp2_with fail
      refine (HF1.out _).mono ?_
      rintro e w3 ⟨rfl, hb⟩
      have Hb3 := Lib.hid ((Hb2.out).trans (hb.mono (Hb2.out).size))
      clear hb
      go_wp2_with fail
      go_ret
      exact ⟨ret_str (by rw [HE.out]; exact HJ.out), Hb3.out⟩
theorem RUploadKey_c (s t : ByteArray) (n : Nat) (w : World) (hs : s.size ≤ 1000000) (ht : t.size ≤ 1000000) (hn : n < 18446744073709551616) :
    Calls Tryd.prog 42 #[.string s, .string t, .int .u64 n] w fun e w' => e = .returned (.string ⟨(uploadKeyL s.data.toList t.data.toList n).toArray⟩) ∧ Below w.heap.size w w' := by
  have B1 := RBucket_c s w (by omega)
  cases hb : bktB s.data.toList
  · rw [hb] at B1
    have HE := Lib.hid (show uploadKeyL s.data.toList t.data.toList n = [] by unfold uploadKeyL; rw [hb]; rfl)
    clear hb
    go_enter Tryd.func42, Tryd.ntmps42
    go_wp2_with fail
    refine B1.mono ?_
    rintro e w1 ⟨rfl, rfl⟩
    clear B1
    go_wp2_with fail
    go_ret
    exact ⟨by rw [HE.out]; rfl, Below.refl _ _⟩
  · rw [hb] at B1
    have I1 := RItem_c t w ht
    cases hi : itemB t.data.toList
    · rw [hi] at I1
      have HE := Lib.hid (show uploadKeyL s.data.toList t.data.toList n = [] by unfold uploadKeyL; rw [hi, if_neg (by simp)])
      clear hb hi
      go_enter Tryd.func42, Tryd.ntmps42
      go_wp2_with fail
      refine B1.mono ?_
      rintro e w1 ⟨rfl, rfl⟩
      clear B1
      go_wp2_with fail
      refine I1.mono ?_
      rintro e w2 ⟨rfl, hb⟩
      have Hb := Lib.hid hb
      clear hb I1
      go_wp2_with fail
      go_ret
      exact ⟨by rw [HE.out]; rfl, Hb.out⟩
    · rw [hi] at I1
      have HE := Lib.hid (show uploadKeyL s.data.toList t.data.toList n = underL 117 (dat [s, t]) ++ be n 8 by unfold uploadKeyL; rw [if_pos ⟨hb, hi⟩]; rfl)
      have HU := Lib.hid (under_size (k := 117) hb hi)
      have F1 : ∀ w, Calls Tryd.prog 58 #[.int .u64 ((n : Nat) : Int), .int .i64 8] w (fun e w' => e = .returned (.string ⟨(be n 8).toArray⟩) ∧ Below w.heap.size w w') := fun w => RNumber_c (n) 8 w (by omega) (by decide)
      have HF := Lib.hid (show (⟨(be n 8).toArray⟩ : ByteArray).size = 8 by rw [size_mk]; first | exact falls_length n | exact be_length n 8)
      have HJ := Lib.hid (show (⟨(underL 117 (dat [s, t])).toArray⟩ : ByteArray) ++ ⟨(be n 8).toArray⟩ = ⟨(underL 117 (dat [s, t]) ++ be n 8).toArray⟩ from cat_mk _ _)
      generalize (⟨(be n 8).toArray⟩ : ByteArray) = y at *
      have HF1 := Lib.hid F1
      clear hb hi F1
      go_enter Tryd.func42, Tryd.ntmps42
      go_wp2_with fail
      refine B1.mono ?_
      rintro e w1 ⟨rfl, rfl⟩
      clear B1
      go_wp2_with fail
      refine I1.mono ?_
      rintro e w1 ⟨rfl, hb⟩
      have Hb := Lib.hid hb
      clear hb I1
      have U : Calls Tryd.prog 32 #[.int .u8 117, .slice (some ⟨w1.heap.size, 0, none⟩) 2 2] (w1.alloc (.cells #[.string s, .string t] 9)) _ := RUnder_c 117 (.slice (some ⟨w1.heap.size, 0, none⟩) 2 2) [s, t] _ (strs_two (heap_alloc_new w1 _)) (by simp) (by simpa using ⟨hs, ht⟩)
      go_wp2_with fail
      refine U.mono ?_
      rintro e w2 ⟨rfl, hb⟩
      have Hb2 := Lib.hid ((Hb.out).trans ((((Below.refl w1.heap.size w1).alloc (Nat.le_refl _) (.cells #[.string s, .string t] 9)).trans (hb.mono (by simp))).mono (Hb.out).size))
      have hx : (⟨(underL 117 (dat [s, t])).toArray⟩ : ByteArray).size ≤ 60 := HU.out
      generalize (⟨(underL 117 (dat [s, t])).toArray⟩ : ByteArray) = x at *
      have hy := HF.out
      clear hb U
      go_wp2_with fail
      refine (HF1.out _).mono ?_
      rintro e w3 ⟨rfl, hb⟩
      have Hb3 := Lib.hid ((Hb2.out).trans (hb.mono (Hb2.out).size))
      clear hb
      go_wp2_with fail
      go_ret
      exact ⟨ret_str (by rw [HE.out]; exact HJ.out), Hb3.out⟩
end Go.Proofs.YtoblhikablbapaaDoor
