/- the reference's Hex: the walk. -/
import Derived.Test.YtoblhikablbapaaDoorTokE
namespace Go.Proofs.YtoblhikablbapaaDoor
set_option linter.unusedVariables false
set_option maxRecDepth 100000
set_option maxHeartbeats 1000000
open Go.RowKit
theorem hex_digits : ∀ n : Nat, n < 16 → (⟨#[48, 49, 50, 51, 52, 53, 54, 55, 56, 57, 97, 98, 99, 100, 101, 102]⟩ : ByteArray).extract n (n + 1) = ⟨#[hexC n]⟩ := by
  intro n hn
  have : ∀ m : Fin 16, (⟨#[48, 49, 50, 51, 52, 53, 54, 55, 56, 57, 97, 98, 99, 100, 101, 102]⟩ : ByteArray).extract m.val (m.val + 1) = ⟨#[hexC m.val]⟩ := by decide +kernel
  exact this ⟨n, hn⟩
def RHRel (w : World) (s : ByteArray) (g : Nat) (s3 s4 : Value) (wr : World) : Prop :=
  ∃ k, g = s.size - k ∧ k ≤ s.size ∧ s4 = .int .i64 k ∧ s3 = .string ⟨(hexL (s.data.toList.take k)).toArray⟩ ∧ Below w.heap.size w wr
theorem RHex_c (s : ByteArray) (w : World) (hs : s.size ≤ 1000000) :
    Calls Tryd.prog 73 #[.string s] w fun e w' => e = .returned (.string ⟨(hexL s.data.toList).toArray⟩) ∧ Below w.heap.size w w' := by
  go_enter Tryd.func73, Tryd.ntmps73
  go_wp2_with fail
  go_loopg [3, 4] s.size (fun g s3 s4 wr => RHRel w s g s3 s4 wr)
  case atStart => exact ⟨0, rfl, Nat.zero_le _, rfl, rfl, Below.refl _ _⟩
  case round =>
    obtain ⟨k, rfl, hk, rfl, rfl, hb⟩ := hrel
    have HB := Lib.hid hb
    clear hb
    obtain ⟨z, hz⟩ : ∃ z : ByteArray, (⟨(hexL (s.data.toList.take k)).toArray⟩ : ByteArray) = z := ⟨_, rfl⟩
    have hzs : z.size ≤ 2000000 := by rw [← hz, size_mk, hex_length, List.length_take]; omega
    rw [hz]
    have HZ := Lib.hid hz
    clear hz
    by_cases hlt : k < s.size
    · obtain ⟨c, hi0, htk⟩ := byte_at hlt
      have hcl := c.toNat_lt
      have hidx := fun w => run_index_str (P := Tryd.prog) 9 s k c Tryd.underlying9 hi0 w
      have HTK := Lib.hid (show hexL (s.data.toList.take (k + 1)) = hexL (s.data.toList.take k) ++ [hexC (c.toNat / 16), hexC (c.toNat % 16)] by rw [htk, hexL_snoc])
      obtain ⟨d1, hd1, hw1⟩ : ∃ d1 : Nat, c.toNat / 16 = d1 ∧ IntKind.u8.wrap ((c.toNat : Int) / 16) = (d1 : Int) := ⟨_, rfl, by simp [IntKind.wrap, IntKind.bits, IntKind.signed]; omega⟩
      obtain ⟨d2, hd2, hw2⟩ : ∃ d2 : Nat, c.toNat % 16 = d2 ∧ (c.toNat : Int).tmod 16 = (d2 : Int) := ⟨_, rfl, by rw [Int.tmod_eq_emod_of_nonneg (by omega)]; rfl⟩
      rw [hd1, hd2] at HTK
      have l1 : d1 < 16 := by omega
      have l2 : d2 < 16 := by omega
      have x1 := hex_digits d1 l1
      have x2 := hex_digits d2 l2
      obtain ⟨q1, hq1⟩ : ∃ q1 : ByteArray, (⟨#[hexC d1]⟩ : ByteArray) = q1 := ⟨_, rfl⟩
      obtain ⟨q2, hq2⟩ : ∃ q2 : ByteArray, (⟨#[hexC d2]⟩ : ByteArray) = q2 := ⟨_, rfl⟩
      have s1 : q1.size = 1 := by rw [← hq1]; rfl
      have s2 : q2.size = 1 := by rw [← hq2]; rfl
      rw [hq1] at x1
      rw [hq2] at x2
      have HQ1 := Lib.hid hq1
      have HQ2 := Lib.hid hq2
      have ha1 : (z.size + q1.size > 9223372036854775807) = False := eq_false (by omega)
      have ha2 : (9223372036854775807 < z.size + q1.size) = False := eq_false (by omega)
      have hzq : (z ++ q1).size = z.size + 1 := by rw [ByteArray.size_append]; omega
      have ha3 : ((z ++ q1).size + q2.size > 9223372036854775807) = False := eq_false (by omega)
      have ha4 : (9223372036854775807 < (z ++ q1).size + q2.size) = False := eq_false (by omega)
      clear hi0 htk hd1 hd2 hq1 hq2
      go_wp2_with fail
      go_region
      go_wp2_with fail
      go_roundg (s.size - (k + 1))
      case measure => omega
      case rel =>
        refine ⟨k + 1, rfl, by omega, by simp, ?_, (HB.out).drew⟩
        rw [HTK.out, ← HQ1.out, ← HQ2.out, ← HZ.out, show (⟨#[hexC d1]⟩ : ByteArray) = ⟨[hexC d1].toArray⟩ from rfl, show (⟨#[hexC d2]⟩ : ByteArray) = ⟨[hexC d2].toArray⟩ from rfl, cat_mk, cat_mk, List.append_assoc]
        rfl
    · obtain rfl : k = s.size := by omega
      have ht : s.data.toList.take s.size = s.data.toList := by rw [Lib.size_eq, List.take_length]
      rw [ht] at HZ
      clear hzs ht
      go_wp2_with fail
      go_ret
      exact ⟨by rw [HZ.out]; rfl, HB.out⟩
end Go.Proofs.YtoblhikablbapaaDoor
