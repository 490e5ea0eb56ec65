/- NameKeys: the walk of the law. (Printed by wip/gennamek.py.) -/
import Derived.Test.YtoblhikablbapaaDoorNameT
namespace Go.Proofs.YtoblhikablbapaaDoor
set_option linter.unusedVariables false
set_option maxRecDepth 100000
set_option maxHeartbeats 2000000
open Go.RowKit
theorem awake13_c (w : World) : Calls Tryd.prog 27 #[] w fun e w' => e = .returned (.bool true) ∧ Below w.heap.size w w' := by
  have H1 := Lib.hid (show ∀ w, Calls Tryd.prog 28 #[.string ⟨#[97, 98, 99]⟩, .string ⟨#[107]⟩, .int .u64 7] w (fun e w' => e = .returned (.string ⟨#[118, 97, 98, 99, 0, 107, 0, 255, 255, 255, 255, 255, 255, 255, 248]⟩) ∧ Below w.heap.size w w') from fun w => by
    have := VersionKey_c ⟨#[97, 98, 99]⟩ ⟨#[107]⟩ 7 w (by decide) (by decide) (by decide)
    rwa [show (⟨(versionKeyL (⟨#[97, 98, 99]⟩ : ByteArray).data.toList (⟨#[107]⟩ : ByteArray).data.toList 7).toArray⟩ : ByteArray) = ⟨#[118, 97, 98, 99, 0, 107, 0, 255, 255, 255, 255, 255, 255, 255, 248]⟩ by kernel_rfl] at this)
  have H2 := Lib.hid (show ∀ w, Calls Tryd.prog 45 #[.string ⟨#[118, 97, 98, 99, 0, 107, 0, 255, 255, 255, 255, 255, 255, 255, 248]⟩] w (fun e w' => e = .returned (.tuple #[.string ⟨#[97, 98, 99]⟩, .string ⟨#[107]⟩, .int .u64 7, .bool true]) ∧ Below w.heap.size w w') from fun w => by
    have := ReadVersion_c ⟨#[118, 97, 98, 99, 0, 107, 0, 255, 255, 255, 255, 255, 255, 255, 248]⟩ w (by decide)
    rwa [show readNV (readK 118 (⟨#[118, 97, 98, 99, 0, 107, 0, 255, 255, 255, 255, 255, 255, 255, 248]⟩ : ByteArray).data.toList) fellL = .tuple #[.string ⟨#[97, 98, 99]⟩, .string ⟨#[107]⟩, .int .u64 7, .bool true] by kernel_rfl] at this)
  have H3 := Lib.hid (show ∀ w, Calls Tryd.prog 43 #[.string ⟨#[97, 98, 99]⟩] w (fun e w' => e = .returned (.string ⟨#[98, 97, 98, 99, 0]⟩) ∧ Below w.heap.size w w') from fun w => by
    have := BucketKey_c ⟨#[97, 98, 99]⟩ w (by decide)
    rwa [show (⟨(bucketKeyL (⟨#[97, 98, 99]⟩ : ByteArray).data.toList).toArray⟩ : ByteArray) = ⟨#[98, 97, 98, 99, 0]⟩ by kernel_rfl] at this)
  have H4 := Lib.hid (show ∀ w, Calls Tryd.prog 36 #[.string ⟨#[97, 98]⟩] w (fun e w' => e = .returned (.bool false) ∧ Below w.heap.size w w') from fun w => by
    have := Bucket_c ⟨#[97, 98]⟩ w (by decide)
    rwa [show bktB (⟨#[97, 98]⟩ : ByteArray).data.toList = false by kernel_rfl] at this)
  have H5 := Lib.hid (show ∀ w, Calls Tryd.prog 31 #[.string ⟨#[97, 255]⟩] w (fun e w' => e = .returned (.string ⟨#[98]⟩) ∧ Below w.heap.size w w') from fun w => by
    have := Behind_c ⟨#[97, 255]⟩ w (by decide)
    rwa [show (⟨(behindL (⟨#[97, 255]⟩ : ByteArray).data.toList).toArray⟩ : ByteArray) = ⟨#[98]⟩ by kernel_rfl] at this)
  go_enter Tryd.func27, Tryd.ntmps27
  go_wp2_with fail
  refine (H1.out _).mono ?_
  rintro e w1 ⟨rfl, hb⟩
  have Hb1 := Lib.hid hb
  clear hb
  go_wp2_with fail
  refine (H2.out _).mono ?_
  rintro e w2 ⟨rfl, hb⟩
  have Hb2 := Lib.hid ((Hb1.out).trans (hb.mono (Hb1.out).size))
  clear hb
  go_wp2_with fail
  refine (H3.out _).mono ?_
  rintro e w3 ⟨rfl, hb⟩
  have Hb3 := Lib.hid ((Hb2.out).trans (hb.mono (Hb2.out).size))
  clear hb
  go_wp2_with fail
  refine (H4.out _).mono ?_
  rintro e w4 ⟨rfl, hb⟩
  have Hb4 := Lib.hid ((Hb3.out).trans (hb.mono (Hb3.out).size))
  clear hb
  go_wp2_with fail
  refine (H5.out _).mono ?_
  rintro e w5 ⟨rfl, hb⟩
  have Hb5 := Lib.hid ((Hb4.out).trans (hb.mono (Hb4.out).size))
  clear hb
  go_wp2_with fail
  go_ret
  exact ⟨rfl, Hb5.out⟩
theorem key_facts (s t : ByteArray) (n : Nat) (hn : n < 18446744073709551616) (h : bktB s.data.toList = true ∧ itemB t.data.toList = true) :
    readNV (readK 118 (versionKeyL s.data.toList t.data.toList n)) fellL = .tuple #[.string s, .string t, .int .u64 n, .bool true] ∧
    readNV (readK 117 (uploadKeyL s.data.toList t.data.toList n)) (toldN 0) = .tuple #[.string s, .string t, .int .u64 n, .bool true] ∧
    readNV (readK 118 (uploadKeyL s.data.toList t.data.toList n)) fellL = .tuple #[.string ⟨#[]⟩, .string ⟨#[]⟩, .int .u64 0, .bool false] ∧
    (versionKeyL s.data.toList t.data.toList n).length ≤ 96 ∧ (versionKeyL s.data.toList t.data.toList n).isEmpty = false ∧ (uploadKeyL s.data.toList t.data.toList n).length ≤ 96 := by
  have lb := bkt_len h.1
  have li := item_len h.2
  rw [← Lib.size_eq] at lb li
  have e1 : versionKeyL s.data.toList t.data.toList n = underL 118 [s.data.toList, t.data.toList] ++ fallsL n := by unfold versionKeyL; rw [if_pos h]
  have e2 : uploadKeyL s.data.toList t.data.toList n = underL 117 [s.data.toList, t.data.toList] ++ be n 8 := by unfold uploadKeyL; rw [if_pos h]
  have f1 : fellL (fallsL n) = n := fell_falls hn
  have f2 : toldN 0 (be n 8) = n := told_of_be 8 n (by decide) (by rw [p256]; exact hn)
  rw [e1, e2, read_key h.1 h.2 (falls_length n), read_key h.1 h.2 (be_length n 8)]
  refine ⟨?_, ?_, ?_, ?_, ?_, ?_⟩
  · show Value.tuple #[.string ⟨s.data.toList.toArray⟩, .string ⟨t.data.toList.toArray⟩, .int .u64 (fellL (fallsL n) : Nat), .bool true] = _
    rw [f1, mk_data, mk_data]
  · show Value.tuple #[.string ⟨s.data.toList.toArray⟩, .string ⟨t.data.toList.toArray⟩, .int .u64 (toldN 0 (be n 8) : Nat), .bool true] = _
    rw [f2, mk_data, mk_data]
  · rw [under_two h.1 h.2]
    rfl
  · rw [under_two h.1 h.2]; simp [falls_length]; omega
  · rw [under_two h.1 h.2]; rfl
  · rw [under_two h.1 h.2]; simp [be_length]; omega
theorem keys_bad (s t : ByteArray) (n : Nat) (h : ¬ (bktB s.data.toList = true ∧ itemB t.data.toList = true)) : versionKeyL s.data.toList t.data.toList n = [] ∧ uploadKeyL s.data.toList t.data.toList n = [] := by
  unfold versionKeyL uploadKeyL
  rw [if_neg h, if_neg h]
  exact ⟨rfl, rfl⟩
theorem NameKeys_c (s t : ByteArray) (n : Nat) (w : World) (hn : n < 18446744073709551616) :
    Calls Tryd.prog 10 #[.string s, .string t, .int .u64 n] w fun e w' => e = .returned (.bool true) ∧ Below w.heap.size w w' := by
  have AW := Lib.hid (fun w => awake13_c w)
  by_cases q1 : 300 < s.size
  · go_enter Tryd.func10, Tryd.ntmps10
    go_wp2_with fail
    refine (AW.out _).mono ?_
    rintro e w1 ⟨rfl, hb⟩
    have Hb1 := Lib.hid hb
    clear hb
    go_wp2_with fail
    go_ret
    exact ⟨rfl, Hb1.out⟩
  · by_cases q2 : 300 < t.size
    · go_enter Tryd.func10, Tryd.ntmps10
      go_wp2_with fail
      refine (AW.out _).mono ?_
      rintro e w1 ⟨rfl, hb⟩
      have Hb1 := Lib.hid hb
      clear hb
      go_wp2_with fail
      go_ret
      exact ⟨rfl, Hb1.out⟩
    · have KV := Lib.hid (fun w => VersionKey_c s t n w (by omega) (by omega) hn)
      have KU := Lib.hid (fun w => UploadKey_c s t n w (by omega) (by omega) hn)
      have RKV := Lib.hid (fun w => RVersionKey_c s t n w (by omega) (by omega) hn)
      have RKU := Lib.hid (fun w => RUploadKey_c s t n w (by omega) (by omega) hn)
      have KB := Lib.hid (fun w => BucketKey_c s w (by omega))
      have RKB := Lib.hid (fun w => RBucketKey_c s w (by omega))
      have B1 := Lib.hid (fun w => Bucket_c s w (by omega))
      have B2 := Lib.hid (fun w => RBucket_c s w (by omega))
      have I1 := Lib.hid (fun w => Item_c t w)
      have I2 := Lib.hid (fun w => RItem_c t w (by omega))
      generalize (⟨(bucketKeyL s.data.toList).toArray⟩ : ByteArray) = kb at *
      by_cases hv : bktB s.data.toList = true ∧ itemB t.data.toList = true
      · obtain ⟨f1, f2, f3, f4, f5, f6⟩ := key_facts s t n hn hv
        have R1 := Lib.hid (fun w => ReadVersion_c ⟨(versionKeyL s.data.toList t.data.toList n).toArray⟩ w (by rw [size_mk]; omega))
        have R2 := Lib.hid (fun w => ReadUpload_c ⟨(uploadKeyL s.data.toList t.data.toList n).toArray⟩ w (by rw [size_mk]; omega))
        have R3 := Lib.hid (fun w => ReadVersion_c ⟨(uploadKeyL s.data.toList t.data.toList n).toArray⟩ w (by rw [size_mk]; omega))
        simp only at R1 R2 R3
        rw [f1] at R1
        rw [f2] at R2
        rw [f3] at R3
        have hz : (⟨(versionKeyL s.data.toList t.data.toList n).toArray⟩ : ByteArray).size ≤ 96 := by rw [size_mk]; exact f4
        have hz3 : decide ((((⟨(versionKeyL s.data.toList t.data.toList n).toArray⟩ : ByteArray).size : Nat) : Int) ≤ 96) = true := by simp only [decide_eq_true_eq]; omega
        have hz2 : (⟨(versionKeyL s.data.toList t.data.toList n).toArray⟩ : ByteArray).toList.isEmpty = false := by rw [Lib.toList_data]; exact f5
        generalize (⟨(versionKeyL s.data.toList t.data.toList n).toArray⟩ : ByteArray) = v at *
        generalize (⟨(uploadKeyL s.data.toList t.data.toList n).toArray⟩ : ByteArray) = u at *
        rw [hv.1] at B1 B2
        rw [hv.2] at I1 I2
        clear hv f1 f2 f3 f4 f5 f6 hn
        go_enter Tryd.func10, Tryd.ntmps10
        go_wp2_with fail
        refine (AW.out _).mono ?_
        rintro e w1 ⟨rfl, hb⟩
        have Hb1 := Lib.hid hb
        clear hb
        go_wp2_with fail
        refine (B1.out _).mono ?_
        rintro e w2 ⟨rfl, hb⟩
        have Hb2 := Lib.hid ((Hb1.out).trans (hb.mono (Hb1.out).size))
        clear hb
        go_wp2_with fail
        refine (B2.out _).mono ?_
        rintro e w3 ⟨rfl, rfl⟩
        go_wp2_with fail
        refine (I1.out _).mono ?_
        rintro e w4 ⟨rfl, rfl⟩
        go_wp2_with fail
        refine (I2.out _).mono ?_
        rintro e w5 ⟨rfl, hb⟩
        have Hb5 := Lib.hid ((Hb2.out).trans (hb.mono (Hb2.out).size))
        clear hb
        go_wp2_with fail
        refine (KV.out _).mono ?_
        rintro e w6 ⟨rfl, hb⟩
        have Hb6 := Lib.hid ((Hb5.out).trans (hb.mono (Hb5.out).size))
        clear hb
        go_wp2_with fail
        refine (KU.out _).mono ?_
        rintro e w7 ⟨rfl, hb⟩
        have Hb7 := Lib.hid ((Hb6.out).trans (hb.mono (Hb6.out).size))
        clear hb
        go_wp2_with fail
        refine (RKV.out _).mono ?_
        rintro e w8 ⟨rfl, hb⟩
        have Hb8 := Lib.hid ((Hb7.out).trans (hb.mono (Hb7.out).size))
        clear hb
        go_wp2_with fail
        refine (RKU.out _).mono ?_
        rintro e w9 ⟨rfl, hb⟩
        have Hb9 := Lib.hid ((Hb8.out).trans (hb.mono (Hb8.out).size))
        clear hb
        go_wp2_with fail
        refine (KB.out _).mono ?_
        rintro e w10 ⟨rfl, hb⟩
        have Hb10 := Lib.hid ((Hb9.out).trans (hb.mono (Hb9.out).size))
        clear hb
        go_wp2_with fail
        refine (RKB.out _).mono ?_
        rintro e w11 ⟨rfl, hb⟩
        have Hb11 := Lib.hid ((Hb10.out).trans (hb.mono (Hb10.out).size))
        clear hb
        go_wp2_with fail
        refine (R1.out _).mono ?_
        rintro e w12 ⟨rfl, hb⟩
        have Hb12 := Lib.hid ((Hb11.out).trans (hb.mono (Hb11.out).size))
        clear hb
        go_wp2_with fail
        refine (R2.out _).mono ?_
        rintro e w13 ⟨rfl, hb⟩
        have Hb13 := Lib.hid ((Hb12.out).trans (hb.mono (Hb12.out).size))
        clear hb
        go_wp2_with fail
        refine (R3.out _).mono ?_
        rintro e w14 ⟨rfl, hb⟩
        have Hb14 := Lib.hid ((Hb13.out).trans (hb.mono (Hb13.out).size))
        clear hb
        go_wp2_with fail
        go_ret
        exact ⟨rfl, Hb14.out⟩
      · obtain ⟨f1, f2⟩ := keys_bad s t n hv
        rw [f1] at KV RKV
        rw [f2] at KU RKU
        generalize bktB s.data.toList = b1 at *
        generalize itemB t.data.toList = b2 at *
        clear hv f1 f2 hn
        go_enter Tryd.func10, Tryd.ntmps10
        go_wp2_with fail
        refine (AW.out _).mono ?_
        rintro e w1 ⟨rfl, hb⟩
        have Hb1 := Lib.hid hb
        clear hb
        go_wp2_with fail
        refine (B1.out _).mono ?_
        rintro e w2 ⟨rfl, hb⟩
        have Hb2 := Lib.hid ((Hb1.out).trans (hb.mono (Hb1.out).size))
        clear hb
        go_wp2_with fail
        refine (B2.out _).mono ?_
        rintro e w3 ⟨rfl, rfl⟩
        go_wp2_with fail
        refine (I1.out _).mono ?_
        rintro e w4 ⟨rfl, rfl⟩
        go_wp2_with fail
        refine (I2.out _).mono ?_
        rintro e w5 ⟨rfl, hb⟩
        have Hb5 := Lib.hid ((Hb2.out).trans (hb.mono (Hb2.out).size))
        clear hb
        go_wp2_with fail
        refine (KV.out _).mono ?_
        rintro e w6 ⟨rfl, hb⟩
        have Hb6 := Lib.hid ((Hb5.out).trans (hb.mono (Hb5.out).size))
        clear hb
        go_wp2_with fail
        refine (KU.out _).mono ?_
        rintro e w7 ⟨rfl, hb⟩
        have Hb7 := Lib.hid ((Hb6.out).trans (hb.mono (Hb6.out).size))
        clear hb
        go_wp2_with fail
        refine (RKV.out _).mono ?_
        rintro e w8 ⟨rfl, hb⟩
        have Hb8 := Lib.hid ((Hb7.out).trans (hb.mono (Hb7.out).size))
        clear hb
        go_wp2_with fail
        refine (RKU.out _).mono ?_
        rintro e w9 ⟨rfl, hb⟩
        have Hb9 := Lib.hid ((Hb8.out).trans (hb.mono (Hb8.out).size))
        clear hb
        go_wp2_with fail
        refine (KB.out _).mono ?_
        rintro e w10 ⟨rfl, hb⟩
        have Hb10 := Lib.hid ((Hb9.out).trans (hb.mono (Hb9.out).size))
        clear hb
        go_wp2_with fail
        refine (RKB.out _).mono ?_
        rintro e w11 ⟨rfl, hb⟩
        have Hb11 := Lib.hid ((Hb10.out).trans (hb.mono (Hb10.out).size))
        clear hb
        go_wp2_with fail
        go_ret
        exact ⟨rfl, Hb11.out⟩
theorem NameKeys_w (v0 v1 v2 : Value) (w : World) (g0 : Reads w 9 v0) (g1 : Reads w 9 v1) (g2 : Reads w 36 v2) : Calls Tryd.prog 10 #[v0, v1, v2] w fun e w' => e = .returned (.bool true) ∧ Below w.heap.size w w' := by
  obtain ⟨s, rfl, -⟩ := reads_string Tryd.underlying9 g0
  obtain ⟨t, rfl, -⟩ := reads_string Tryd.underlying9 g1
  obtain ⟨a, rfl, ha⟩ := reads_int Tryd.underlying36 g2
  have ha := bounds_u64 ha
  obtain ⟨a, rfl⟩ : ∃ k : Nat, a = k := ⟨a.toNat, by omega⟩
  exact NameKeys_c s t a w (by omega)
end Go.Proofs.YtoblhikablbapaaDoor
