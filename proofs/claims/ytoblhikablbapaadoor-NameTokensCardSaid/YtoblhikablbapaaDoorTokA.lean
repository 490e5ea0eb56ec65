/- Check sums: plain, and the code's. -/
import Derived.Test.YtoblhikablbapaaDoorNameD
import Derived.Laws.BitsAllLaws
namespace Go.Proofs.YtoblhikablbapaaDoor
set_option linter.unusedVariables false
set_option maxRecDepth 100000
open Go.RowKit
def crcStep (x : Nat) : Nat := if x % 2 = 1 then (x / 2) ^^^ 3988292384 else x / 2
def crcN : Nat → Nat → Nat
  | 0, x => x
  | k + 1, x => crcStep (crcN k x)
def crcB (x : Nat) (c : UInt8) : Nat := crcN 8 (x ^^^ c.toNat)
def crcL (l : List UInt8) : Nat := l.foldl crcB 4294967295
theorem crcStep_lt {x : Nat} (h : x < 4294967296) : crcStep x < 4294967296 := by
  unfold crcStep
  split
  · exact Nat.xor_lt_two_pow (n := 32) (by omega) (by omega)
  · omega
theorem crcN_lt {x : Nat} (h : x < 4294967296) : ∀ k, crcN k x < 4294967296
  | 0 => h
  | k + 1 => crcStep_lt (crcN_lt h k)
theorem xor_byte {x : Nat} (h : x < 4294967296) (c : UInt8) : x ^^^ c.toNat < 4294967296 := Nat.xor_lt_two_pow (n := 32) (by omega) (by have := c.toNat_lt; omega)
theorem crcB_lt {x : Nat} (h : x < 4294967296) (c : UInt8) : crcB x c < 4294967296 := crcN_lt (xor_byte h c) 8
theorem crcF_lt : ∀ (l : List UInt8) {x : Nat}, x < 4294967296 → l.foldl crcB x < 4294967296
  | [], _, h => h
  | c :: l, _, h => crcF_lt l (crcB_lt h c)
theorem crcL_lt (l : List UInt8) : crcL l < 4294967296 := crcF_lt l (by decide)
theorem byte_at {s : ByteArray} {k : Nat} (h : k < s.size) : ∃ c, s[k]? = some c ∧ s.data.toList.take (k + 1) = s.data.toList.take k ++ [c] := by
  have hl : k < s.data.toList.length := by rw [← Lib.size_eq]; exact h
  refine ⟨s.data.toList[k], by rw [getElem?_pos _ k h]; rfl, ?_⟩
  rw [List.take_succ_eq_append_getElem hl]
theorem crcL_snoc (l : List UInt8) (c : UInt8) : crcL (l ++ [c]) = crcB (crcL l) c := by
  unfold crcL; rw [List.foldl_append]; rfl
theorem step_one {x : Nat} (h : x < 4294967296) (h1 : x % 2 = 1) : bits .and .u32 (x : Int) 1 = 1 ∧ bits .xor .u32 ((x : Int) / 2) 3988292384 = (crcStep x : Int) := by
  constructor
  · have := u32_and_nat x 1 h (by decide)
    rw [show ((1 : Nat) : Int) = 1 from rfl] at this
    rw [this, Nat.and_one_is_mod, h1]; rfl
  · have := u32_xor_nat (x / 2) 3988292384 (by omega) (by decide)
    rw [show ((3988292384 : Nat) : Int) = 3988292384 from rfl] at this
    rw [show ((x : Int) / 2) = ((x / 2 : Nat) : Int) from rfl, this]; unfold crcStep; rw [if_pos h1]
theorem step_zero {x : Nat} (h : x < 4294967296) (h1 : ¬ x % 2 = 1) : bits .and .u32 (x : Int) 1 = 0 ∧ bits .xor .u32 ((x : Int) / 2) 0 = (crcStep x : Int) := by
  constructor
  · have := u32_and_nat x 1 h (by decide)
    rw [show ((1 : Nat) : Int) = 1 from rfl] at this
    rw [this, Nat.and_one_is_mod, show x % 2 = 0 by omega]; rfl
  · have := u32_xor_nat (x / 2) 0 (by omega) (by decide)
    rw [show ((0 : Nat) : Int) = 0 from rfl] at this
    rw [show ((x : Int) / 2) = ((x / 2 : Nat) : Int) from rfl, this, Nat.xor_zero]; unfold crcStep; rw [if_neg h1]
theorem xor_all {x : Nat} (h : x < 4294967296) : bits .xor .u32 IntKind.u32.max (x : Int) = ((4294967295 - x : Nat) : Int) := by
  rw [show IntKind.u32.max = ((4294967295 : Nat) : Int) from rfl, u32_xor_nat 4294967295 x (by decide) h]
  congr 1
  have e : (BitVec.allOnes 32 ^^^ BitVec.ofNat 32 x).toNat = (~~~ BitVec.ofNat 32 x).toNat := by rw [BitVec.allOnes_xor]
  rw [BitVec.toNat_xor, BitVec.toNat_not, BitVec.toNat_allOnes, BitVec.toNat_ofNat, Nat.mod_eq_of_lt (show x < 2 ^ 32 by omega)] at e
  exact e
theorem Check_c (s : ByteArray) (w : World) (hs : s.size ≤ 1000000) :
    Calls Tryd.prog 69 #[.string s] w fun e w' => e = .returned (.int .u32 ((4294967295 - crcL s.data.toList : Nat) : Int)) ∧ w = w' := by
  go_enter Tryd.func69, Tryd.ntmps69
  go_wp2_with fail
  go_loopg [3, 7] s.size (fun g s3 s7 wr => ∃ k : Nat, g = s.size - k ∧ k ≤ s.size ∧ s7 = .int .i64 k ∧ s3 = .int .u32 (crcL (s.data.toList.take k) : Int) ∧ w = wr)
  case atStart => exact ⟨0, rfl, Nat.zero_le _, rfl, by simp [crcL], rfl⟩
  case round =>
    obtain ⟨k, rfl, hk, rfl, rfl, rfl⟩ := hrel
    by_cases hlt : k < s.size
    · obtain ⟨c, hi0, htk⟩ := byte_at hlt
      have hx := crcL_lt (s.data.toList.take k)
      have HSN := Lib.hid (show crcL (s.data.toList.take (k + 1)) = crcB (crcL (s.data.toList.take k)) c by rw [htk, crcL_snoc])
      have hidx := fun w => run_index_str (P := Tryd.prog) 9 s k c Tryd.underlying9 hi0 w
      clear hi0 htk
      generalize crcL (s.data.toList.take k) = x at *
      have h1 : bits .xor .u32 (x : Int) ((c.toNat : Int) % 4294967296) = ((x ^^^ c.toNat : Nat) : Int) := by
        rw [show ((c.toNat : Int) % 4294967296) = (c.toNat : Int) by have := c.toNat_lt; omega]
        exact u32_xor_nat x c.toNat hx (by have := c.toNat_lt; omega)
      have hz := xor_byte hx c
      have HH1 := Lib.hid h1
      clear h1
      go_wp2_with fail
      rw [HH1.out]
      have HC8 := Lib.hid (show crcN 8 (x ^^^ c.toNat) = crcB x c from rfl)
      generalize x ^^^ c.toNat = y at *
      go_loopg [3, 16] 8 (fun g s3 s16 wr => ∃ j : Nat, g = 8 - j ∧ j ≤ 8 ∧ s16 = .int .i64 j ∧ s3 = .int .u32 (crcN j y : Int) ∧ w = wr)
      case atStart => exact ⟨0, rfl, Nat.zero_le _, rfl, rfl, rfl⟩
      case round =>
        obtain ⟨j, rfl, hj, rfl, rfl, rfl⟩ := hrel
        by_cases hlj : j < 8
        · have hy := crcN_lt hz j
          have HS := Lib.hid (show crcN (j + 1) y = crcStep (crcN j y) from rfl)
          generalize crcN j y = v at *
          by_cases hp : v % 2 = 1
          · obtain ⟨q1, q2⟩ := step_one hy hp
            have HQ := Lib.hid q2
            clear hp q2
            go_wp2_with fail
            go_roundg (8 - (j + 1))
            case measure => omega
            case rel => exact ⟨j + 1, rfl, by omega, by simp, by rw [HS.out, ← HQ.out], rfl⟩
          · obtain ⟨q1, q2⟩ := step_zero hy hp
            have HQ := Lib.hid q2
            clear hp q2
            go_wp2_with fail
            go_roundg (8 - (j + 1))
            case measure => omega
            case rel => exact ⟨j + 1, rfl, by omega, by simp, by rw [HS.out, ← HQ.out], rfl⟩
        · obtain rfl : j = 8 := by omega
          go_wp2_with fail
          go_roundg (s.size - (k + 1))
          case measure => omega
          case rel => exact ⟨k + 1, rfl, by omega, by simp, by rw [HC8.out, ← HSN.out], rfl⟩
    · obtain rfl : k = s.size := by omega
      have ht : s.data.toList.take s.size = s.data.toList := by rw [Lib.size_eq, List.take_length]
      rw [ht]
      obtain ⟨x, hx0⟩ : ∃ x, crcL s.data.toList = x := ⟨_, rfl⟩
      have hx := crcL_lt s.data.toList
      rw [hx0] at hx ⊢
      have HX := Lib.hid hx0
      clear ht hx0
      go_wp2_with fail
      go_ret
      exact ⟨by rw [HX.out, xor_all hx]; rfl, rfl⟩
end Go.Proofs.YtoblhikablbapaaDoor
