/- name: keys, and what is read of them: walks. -/
import Derived.Test.YtoblhikablbapaaDoorNameA
namespace Go.Proofs.YtoblhikablbapaaDoor
set_option linter.unusedVariables false
set_option maxRecDepth 100000
set_option maxHeartbeats 1000000
open Go.RowKit
theorem results_tmp4 {fn : Func} {t u v x : Tmp} (h : fn.results = #[.tmp t, .tmp u, .tmp v, .tmp x]) (tmps : Array Value) (P : Program) (w : World) :
    (results fn tmps).run P w = .ok (.tuple #[tmps.getD t undef, tmps.getD u undef, tmps.getD v undef, tmps.getD x undef]) w := by
  simp [results, h]
theorem cat_mk (a b : List UInt8) : (⟨a.toArray⟩ ++ ⟨b.toArray⟩ : ByteArray) = ⟨(a ++ b).toArray⟩ := by apply ByteArray.ext; simp
theorem BucketKey_c (s : ByteArray) (w : World) (hs : s.size ≤ 1000000) :
    Calls Tryd.prog 43 #[.string s] w fun e w' => e = .returned (.string ⟨(bucketKeyL s.data.toList).toArray⟩) ∧ Below w.heap.size w w' := by
  have B1 := Bucket_c s w (by omega)
  cases hb : bktB s.data.toList
  · rw [hb] at B1
    have HE := Lib.hid (show bucketKeyL s.data.toList = [] by unfold bucketKeyL; rw [hb]; rfl)
    clear hb
    go_enter Tryd.func43, Tryd.ntmps43
    go_wp2_with fail
    refine B1.mono ?_
    rintro e w1 ⟨rfl, hb⟩
    have Hb := Lib.hid hb
    clear hb B1
    go_wp2_with fail
    go_ret
    exact ⟨by rw [HE.out]; rfl, Hb.out⟩
  · rw [hb] at B1
    have HE := Lib.hid (show bucketKeyL s.data.toList = underL 98 (dat [s]) by unfold bucketKeyL; rw [if_pos hb]; rfl)
    clear hb
    go_enter Tryd.func43, Tryd.ntmps43
    go_wp2_with fail
    refine B1.mono ?_
    rintro e w1 ⟨rfl, hb⟩
    have Hb := Lib.hid hb
    clear hb B1
    have U : Calls Tryd.prog 29 #[.int .u8 98, .slice (some ⟨w1.heap.size, 0, none⟩) 1 1] (w1.alloc (.cells #[.string s] 9)) _ := Under_c 98 (.slice (some ⟨w1.heap.size, 0, none⟩) 1 1) [s] _ (strs_one (heap_alloc_new w1 _)) (by simp) (by simpa using hs)
    go_wp2_with fail
    refine U.mono ?_
    rintro e w2 ⟨rfl, hb⟩
    have Hb2 := Lib.hid ((Hb.out).trans ((((Below.refl w1.heap.size w1).alloc (Nat.le_refl _) (.cells #[.string s] 9)).trans (hb.mono (by simp))).mono (Hb.out).size))
    clear hb U
    go_wp2_with fail
    go_ret
    exact ⟨ret_str (by rw [HE.out]), Hb2.out⟩
theorem write_n (n : Nat) (hn : n < 18446744073709551616) : WrOut (writeL [110] [(n, ⟨#[]⟩)]) = .tuple #[.string ⟨(be n 8).toArray⟩, .bool true] := by
  rw [writeL_yes rfl rfl]
  have : wrL [110] [(n, ⟨#[]⟩)] = some (be n 8) := by
    show (match wr1 110 (n, ⟨#[]⟩) with | none => none | some a => (wrL [] []).map (a ++ ·)) = _
    have h : ¬ ((⟨#[]⟩ : ByteArray).size ≠ 0 ∨ 256 ^ 8 ≤ n) := by
      rw [p256]; rintro (h | h)
      · exact h rfl
      · omega
    rw [wr1_num 110 8 n _ rfl rfl, if_neg h]
    simp [wrL]
  rw [this]; rfl
theorem number8_c (n : Nat) (w : World) (hn : n < 18446744073709551616) :
    Calls Tryd.prog 66 #[.int .u64 n] w fun e w' => e = .returned (.string ⟨(be n 8).toArray⟩) ∧ Below w.heap.size w w' := by
  have W1 := Write_c ⟨#[110]⟩ (.slice (some ⟨w.heap.size, 0, none⟩) 1 1) [(n, ⟨#[]⟩)] (w.alloc (.cells #[.int .u64 n, .string ⟨#[]⟩] 60)) (by decide) (flds_one (heap_alloc_new _ _) hn) (by intro p hp; simp at hp; rcases hp with rfl; exact Nat.zero_le _)
  rw [show (⟨#[110]⟩ : ByteArray).data.toList = [110] from rfl, write_n n hn] at W1
  go_enter Tryd.func66, Tryd.ntmps66
  go_wp2_with fail
  refine W1.mono ?_
  rintro e w1 ⟨rfl, h1⟩
  have H1 := Lib.hid (((Below.refl w.heap.size w).alloc (Nat.le_refl _) (.cells #[.int .u64 n, .string ⟨#[]⟩] 60)).trans (h1.mono (by simp)))
  clear h1 W1
  go_wp2_with fail
  go_ret
  exact ⟨rfl, H1.out⟩
theorem bkt_len {l : List UInt8} (h : bktB l = true) : l.length ≤ 16 := by
  simp only [bktB, Bool.and_eq_true, decide_eq_true_eq] at h; exact h.1.1.2
theorem item_len {l : List UInt8} (h : itemB l = true) : l.length ≤ 40 := by
  simp only [itemB, Bool.and_eq_true, decide_eq_true_eq] at h; exact h.1.2
theorem under_size {k : UInt8} {b i : List UInt8} (hb : bktB b = true) (hi : itemB i = true) : (⟨(underL k [b, i]).toArray⟩ : ByteArray).size ≤ 60 := by
  rw [size_mk, under_two hb hi]
  have := bkt_len hb
  have := item_len hi
  simp; omega
theorem VersionKey_c (s t : ByteArray) (n : Nat) (w : World) (hs : s.size ≤ 1000000) (ht : t.size ≤ 1000000) (hn : n < 18446744073709551616) :
    Calls Tryd.prog 28 #[.string s, .string t, .int .u64 n] w fun e w' => e = .returned (.string ⟨(versionKeyL s.data.toList t.data.toList n).toArray⟩) ∧ Below w.heap.size w w' := by
  have B1 := Bucket_c s w (by omega)
  cases hb : bktB s.data.toList
  · rw [hb] at B1
    have HE := Lib.hid (show versionKeyL s.data.toList t.data.toList n = [] by unfold versionKeyL; rw [hb]; rfl)
    clear hb
    go_enter Tryd.func28, Tryd.ntmps28
    go_wp2_with fail
    refine B1.mono ?_
    rintro e w1 ⟨rfl, hb⟩
    have Hb := Lib.hid hb
    clear hb B1
    go_wp2_with fail
    go_ret
    exact ⟨by rw [HE.out]; rfl, Hb.out⟩
  · rw [hb] at B1
    cases hi : itemB t.data.toList
    · have HE := Lib.hid (show versionKeyL s.data.toList t.data.toList n = [] by unfold versionKeyL; rw [hi, if_neg (by simp)])
      have HI := Lib.hid hi
      clear hb hi
      go_enter Tryd.func28, Tryd.ntmps28
      go_wp2_with fail
      refine B1.mono ?_
      rintro e w1 ⟨rfl, hb⟩
      have Hb := Lib.hid hb
      have I1 := Item_c t w1
      rw [HI.out] at I1
      clear hb B1
      go_wp2_with fail
      refine I1.mono ?_
      rintro e w2 ⟨rfl, rfl⟩
      go_wp2_with fail
      go_ret
      exact ⟨by rw [HE.out]; rfl, Hb.out⟩
    · have HE := Lib.hid (show versionKeyL s.data.toList t.data.toList n = underL 118 (dat [s, t]) ++ fallsL n by unfold versionKeyL; rw [if_pos ⟨hb, hi⟩]; rfl)
      have HU := Lib.hid (under_size (k := 118) hb hi)
      have HI := Lib.hid hi
      have F1 := fun w => Falls_c n w hn
      have HF := Lib.hid (show (⟨(fallsL n).toArray⟩ : ByteArray).size = 8 by rw [size_mk, falls_length])
      have HJ := Lib.hid (show (⟨(underL 118 (dat [s, t])).toArray⟩ : ByteArray) ++ ⟨(fallsL n).toArray⟩ = ⟨(underL 118 (dat [s, t]) ++ fallsL n).toArray⟩ from cat_mk _ _)
      generalize (⟨(fallsL n).toArray⟩ : ByteArray) = y at *
      have HF1 := Lib.hid F1
      clear hb hi F1
      go_enter Tryd.func28, Tryd.ntmps28
      go_wp2_with fail
      refine B1.mono ?_
      rintro e w1 ⟨rfl, hb⟩
      have Hb := Lib.hid hb
      have I1 := Item_c t w1
      rw [HI.out] at I1
      clear hb B1
      go_wp2_with fail
      refine I1.mono ?_
      rintro e w2 ⟨rfl, rfl⟩
      have U : Calls Tryd.prog 29 #[.int .u8 118, .slice (some ⟨w1.heap.size, 0, none⟩) 2 2] (w1.alloc (.cells #[.string s, .string t] 9)) _ := Under_c 118 (.slice (some ⟨w1.heap.size, 0, none⟩) 2 2) [s, t] _ (strs_two (heap_alloc_new w1 _)) (by simp) (by simpa using ⟨hs, ht⟩)
      go_wp2_with fail
      refine U.mono ?_
      rintro e w2 ⟨rfl, hb⟩
      have Hb2 := Lib.hid ((Hb.out).trans ((((Below.refl w1.heap.size w1).alloc (Nat.le_refl _) (.cells #[.string s, .string t] 9)).trans (hb.mono (by simp))).mono (Hb.out).size))
      have hx : (⟨(underL 118 (dat [s, t])).toArray⟩ : ByteArray).size ≤ 60 := HU.out
      generalize (⟨(underL 118 (dat [s, t])).toArray⟩ : ByteArray) = x at *
      have hy := HF.out
      clear hb U
      go_wp2_with fail
      refine (HF1.out _).mono ?_
      rintro e w3 ⟨rfl, hb⟩
      have Hb3 := Lib.hid ((Hb2.out).trans (hb.mono (Hb2.out).size))
      clear hb
      go_wp2_with fail
      go_ret
      exact ⟨ret_str (by rw [HE.out]; exact HJ.out), Hb3.out⟩
theorem UploadKey_c (s t : ByteArray) (n : Nat) (w : World) (hs : s.size ≤ 1000000) (ht : t.size ≤ 1000000) (hn : n < 18446744073709551616) :
    Calls Tryd.prog 40 #[.string s, .string t, .int .u64 n] w fun e w' => e = .returned (.string ⟨(uploadKeyL s.data.toList t.data.toList n).toArray⟩) ∧ Below w.heap.size w w' := by
  have B1 := Bucket_c s w (by omega)
  cases hb : bktB s.data.toList
  · rw [hb] at B1
    have HE := Lib.hid (show uploadKeyL s.data.toList t.data.toList n = [] by unfold uploadKeyL; rw [hb]; rfl)
    clear hb
    go_enter Tryd.func40, Tryd.ntmps40
    go_wp2_with fail
    refine B1.mono ?_
    rintro e w1 ⟨rfl, hb⟩
    have Hb := Lib.hid hb
    clear hb B1
    go_wp2_with fail
    go_ret
    exact ⟨by rw [HE.out]; rfl, Hb.out⟩
  · rw [hb] at B1
    cases hi : itemB t.data.toList
    · have HE := Lib.hid (show uploadKeyL s.data.toList t.data.toList n = [] by unfold uploadKeyL; rw [hi, if_neg (by simp)])
      have HI := Lib.hid hi
      clear hb hi
      go_enter Tryd.func40, Tryd.ntmps40
      go_wp2_with fail
      refine B1.mono ?_
      rintro e w1 ⟨rfl, hb⟩
      have Hb := Lib.hid hb
      have I1 := Item_c t w1
      rw [HI.out] at I1
      clear hb B1
      go_wp2_with fail
      refine I1.mono ?_
      rintro e w2 ⟨rfl, rfl⟩
      go_wp2_with fail
      go_ret
      exact ⟨by rw [HE.out]; rfl, Hb.out⟩
    · have HE := Lib.hid (show uploadKeyL s.data.toList t.data.toList n = underL 117 (dat [s, t]) ++ be n 8 by unfold uploadKeyL; rw [if_pos ⟨hb, hi⟩]; rfl)
      have HU := Lib.hid (under_size (k := 117) hb hi)
      have HI := Lib.hid hi
      have F1 := fun w => number8_c n w hn
      have HF := Lib.hid (show (⟨(be n 8).toArray⟩ : ByteArray).size = 8 by rw [size_mk, be_length])
      have HJ := Lib.hid (show (⟨(underL 117 (dat [s, t])).toArray⟩ : ByteArray) ++ ⟨(be n 8).toArray⟩ = ⟨(underL 117 (dat [s, t]) ++ be n 8).toArray⟩ from cat_mk _ _)
      generalize (⟨(be n 8).toArray⟩ : ByteArray) = y at *
      have HF1 := Lib.hid F1
      clear hb hi F1
      go_enter Tryd.func40, Tryd.ntmps40
      go_wp2_with fail
      refine B1.mono ?_
      rintro e w1 ⟨rfl, hb⟩
      have Hb := Lib.hid hb
      have I1 := Item_c t w1
      rw [HI.out] at I1
      clear hb B1
      go_wp2_with fail
      refine I1.mono ?_
      rintro e w2 ⟨rfl, rfl⟩
      have U : Calls Tryd.prog 29 #[.int .u8 117, .slice (some ⟨w1.heap.size, 0, none⟩) 2 2] (w1.alloc (.cells #[.string s, .string t] 9)) _ := Under_c 117 (.slice (some ⟨w1.heap.size, 0, none⟩) 2 2) [s, t] _ (strs_two (heap_alloc_new w1 _)) (by simp) (by simpa using ⟨hs, ht⟩)
      go_wp2_with fail
      refine U.mono ?_
      rintro e w2 ⟨rfl, hb⟩
      have Hb2 := Lib.hid ((Hb.out).trans ((((Below.refl w1.heap.size w1).alloc (Nat.le_refl _) (.cells #[.string s, .string t] 9)).trans (hb.mono (by simp))).mono (Hb.out).size))
      have hx : (⟨(underL 117 (dat [s, t])).toArray⟩ : ByteArray).size ≤ 60 := HU.out
      generalize (⟨(underL 117 (dat [s, t])).toArray⟩ : ByteArray) = x at *
      have hy := HF.out
      clear hb U
      go_wp2_with fail
      refine (HF1.out _).mono ?_
      rintro e w3 ⟨rfl, hb⟩
      have Hb3 := Lib.hid ((Hb2.out).trans (hb.mono (Hb2.out).size))
      clear hb
      go_wp2_with fail
      go_ret
      exact ⟨ret_str (by rw [HE.out]; exact HJ.out), Hb3.out⟩
end Go.Proofs.YtoblhikablbapaaDoor
