/- name: Token and Told, and the reference's: walks. -/
import Derived.Test.YtoblhikablbapaaDoorTokF
namespace Go.Proofs.YtoblhikablbapaaDoor
set_option linter.unusedVariables false
set_option maxRecDepth 100000
set_option maxHeartbeats 1000000
open Go.RowKit
theorem write_h (n : Nat) (hn : n < 4294967296) : WrOut (writeL [104] [(n, ⟨#[]⟩)]) = .tuple #[.string ⟨(be n 4).toArray⟩, .bool true] := by
  rw [writeL_yes rfl rfl]
  have : wrL [104] [(n, ⟨#[]⟩)] = some (be n 4) := by
    show (match wr1 104 (n, ⟨#[]⟩) with | none => none | some a => (wrL [] []).map (a ++ ·)) = _
    have h : ¬ ((⟨#[]⟩ : ByteArray).size ≠ 0 ∨ 256 ^ 4 ≤ n) := by
      rw [show (256 : Nat) ^ 4 = 4294967296 by decide]; rintro (h | h)
      · exact h rfl
      · omega
    rw [wr1_num 104 4 n _ rfl rfl, if_neg h]
    simp [wrL]
  rw [this]; rfl
theorem Token_c (s : ByteArray) (w : World) (hs : s.size ≤ 100000) :
    Calls Tryd.prog 49 #[.string s] w fun e w' => e = .returned (.string ⟨(tokenL s.data.toList).toArray⟩) ∧ Below w.heap.size w w' := by
  have hx := crcL_lt s.data.toList
  have C1 := Check_c s w (by omega)
  obtain ⟨n, hn0⟩ : ∃ n, 4294967295 - crcL s.data.toList = n := ⟨_, rfl⟩
  have hn : n < 4294967296 := by omega
  rw [hn0] at C1
  have W1 := Write_c ⟨#[104]⟩ (.slice (some ⟨w.heap.size, 0, none⟩) 1 1) [(n, ⟨#[]⟩)] (w.alloc (.cells #[.int .u64 n, .string ⟨#[]⟩] 60)) (by decide) (flds_one (heap_alloc_new _ _) (by omega)) (by intro p hp; simp at hp; rcases hp with rfl; exact Nat.zero_le _)
  rw [show (⟨#[104]⟩ : ByteArray).data.toList = [104] from rfl, write_h n hn] at W1
  have H1 := Lib.hid (fun w => Hex_c ⟨(be n 4).toArray⟩ w (by rw [size_mk, be_length]; omega))
  have H2 := Lib.hid (fun w => Hex_c s w (by omega))
  have HT := Lib.hid (show (⟨(tokenL s.data.toList).toArray⟩ : ByteArray) = ⟨(hexL (be n 4)).toArray⟩ ++ ⟨(hexL s.data.toList).toArray⟩ by rw [cat_mk]; unfold tokenL; rw [hn0, hex_append])
  obtain ⟨b4, hb4⟩ : ∃ b4 : ByteArray, (⟨(be n 4).toArray⟩ : ByteArray) = b4 := ⟨_, rfl⟩
  have hbd : b4.data.toList = be n 4 := by rw [← hb4]
  rw [hb4] at W1 H1
  rw [hbd] at H1
  obtain ⟨x, hx1⟩ : ∃ x : ByteArray, (⟨(hexL (be n 4)).toArray⟩ : ByteArray) = x := ⟨_, rfl⟩
  obtain ⟨y, hy1⟩ : ∃ y : ByteArray, (⟨(hexL s.data.toList).toArray⟩ : ByteArray) = y := ⟨_, rfl⟩
  have sx : x.size = 8 := by rw [← hx1, size_mk, hex_length, be_length]
  have sy : y.size = 2 * s.size := by rw [← hy1, size_mk, hex_length, ← Lib.size_eq]
  have ha1 : (x.size + y.size > 9223372036854775807) = False := eq_false (by omega)
  have ha2 : (9223372036854775807 < x.size + y.size) = False := eq_false (by omega)
  rw [hx1] at H1 HT
  rw [hy1] at H2 HT
  have hcv : (n : Int) % 18446744073709551616 = n := by omega
  have hcv2 : IntKind.u64.wrap (n : Int) = n := by simp only [IntKind.wrap, IntKind.bits, IntKind.signed]; simp; omega
  clear hx hn0 hb4 hbd hx1 hy1
  go_enter Tryd.func49, Tryd.ntmps49
  go_wp2_with fail
  refine C1.mono ?_
  rintro e w1 ⟨rfl, rfl⟩
  clear C1
  go_wp2_with fail
  refine W1.mono ?_
  rintro e w1 ⟨rfl, h1⟩
  have HB1 := Lib.hid (((Below.refl w.heap.size w).alloc (Nat.le_refl _) (.cells #[.int .u64 n, .string ⟨#[]⟩] 60)).trans (h1.mono (by simp)))
  clear h1 W1
  go_wp2_with fail
  refine (H1.out _).mono ?_
  rintro e w2 ⟨rfl, hb⟩
  have HB2 := Lib.hid ((HB1.out).trans (hb.mono (HB1.out).size))
  clear hb
  go_wp2_with fail
  refine (H2.out _).mono ?_
  rintro e w3 ⟨rfl, hb⟩
  have HB3 := Lib.hid ((HB2.out).trans (hb.mono (HB2.out).size))
  clear hb
  go_wp2_with fail
  go_ret
  exact ⟨ret_str HT.out.symm, HB3.out⟩
theorem RToken_c (s : ByteArray) (w : World) (hs : s.size ≤ 100000) :
    Calls Tryd.prog 52 #[.string s] w fun e w' => e = .returned (.string ⟨(tokenL s.data.toList).toArray⟩) ∧ Below w.heap.size w w' := by
  have hx := crcL_lt s.data.toList
  have C1 := RCheck_c s w (by omega)
  obtain ⟨n, hn0⟩ : ∃ n, 4294967295 - crcL s.data.toList = n := ⟨_, rfl⟩
  have hn : n < 4294967296 := by omega
  rw [hn0] at C1
  have W1 := RNumber_c n 4 w (by omega) (by omega)
  have H1 := Lib.hid (fun w => RHex_c ⟨(be n 4).toArray⟩ w (by rw [size_mk, be_length]; omega))
  have H2 := Lib.hid (fun w => RHex_c s w (by omega))
  have HT := Lib.hid (show (⟨(tokenL s.data.toList).toArray⟩ : ByteArray) = ⟨(hexL (be n 4)).toArray⟩ ++ ⟨(hexL s.data.toList).toArray⟩ by rw [cat_mk]; unfold tokenL; rw [hn0, hex_append])
  obtain ⟨b4, hb4⟩ : ∃ b4 : ByteArray, (⟨(be n 4).toArray⟩ : ByteArray) = b4 := ⟨_, rfl⟩
  have hbd : b4.data.toList = be n 4 := by rw [← hb4]
  rw [hb4] at W1 H1
  rw [hbd] at H1
  obtain ⟨x, hx1⟩ : ∃ x : ByteArray, (⟨(hexL (be n 4)).toArray⟩ : ByteArray) = x := ⟨_, rfl⟩
  obtain ⟨y, hy1⟩ : ∃ y : ByteArray, (⟨(hexL s.data.toList).toArray⟩ : ByteArray) = y := ⟨_, rfl⟩
  have sx : x.size = 8 := by rw [← hx1, size_mk, hex_length, be_length]
  have sy : y.size = 2 * s.size := by rw [← hy1, size_mk, hex_length, ← Lib.size_eq]
  have ha1 : (x.size + y.size > 9223372036854775807) = False := eq_false (by omega)
  have ha2 : (9223372036854775807 < x.size + y.size) = False := eq_false (by omega)
  rw [hx1] at H1 HT
  rw [hy1] at H2 HT
  have hcv : (n : Int) % 18446744073709551616 = n := by omega
  have hcv2 : IntKind.u64.wrap (n : Int) = n := by simp only [IntKind.wrap, IntKind.bits, IntKind.signed]; simp; omega
  clear hx hn0 hb4 hbd hx1 hy1
  go_enter Tryd.func52, Tryd.ntmps52
  go_wp2_with fail
  refine C1.mono ?_
  rintro e w1 ⟨rfl, rfl⟩
  clear C1
  go_wp2_with fail
  refine W1.mono ?_
  rintro e w1 ⟨rfl, h1⟩
  have HB1 := Lib.hid h1
  clear h1 W1
  go_wp2_with fail
  refine (H1.out _).mono ?_
  rintro e w2 ⟨rfl, hb⟩
  have HB2 := Lib.hid ((HB1.out).trans (hb.mono (HB1.out).size))
  clear hb
  go_wp2_with fail
  refine (H2.out _).mono ?_
  rintro e w3 ⟨rfl, hb⟩
  have HB3 := Lib.hid ((HB2.out).trans (hb.mono (HB2.out).size))
  clear hb
  go_wp2_with fail
  go_ret
  exact ⟨ret_str HT.out.symm, HB3.out⟩
end Go.Proofs.YtoblhikablbapaaDoor
