/- sums and its reference: walks. -/
import Derived.Test.YtoblhikablbapaaDoorTokP
import Derived.Test.YtoblhikablbapaaDoorApp
namespace Go.Proofs.YtoblhikablbapaaDoor
set_option linter.unusedVariables false
set_option maxRecDepth 100000
open Go.RowKit
theorem Digit_c (n : Nat) (hn : n < 16) (w : World) : Calls Tryd.prog 87 #[.int .u8 n] w fun e w' => e = .returned (.int .u8 ((hexC n).toNat : Int)) ∧ w = w' := by
  by_cases h : 9 < n
  · have HE := Lib.hid (show (hexC n).toNat = 87 + n by unfold hexC; rw [if_neg (by omega), UInt8.toNat_ofNat']; omega)
    go_enter Tryd.func87, Tryd.ntmps87
    go_wp2_with fail
    go_ret
    exact ⟨by rw [HE.out]; simp; omega, rfl⟩
  · have HE := Lib.hid (show (hexC n).toNat = 48 + n by unfold hexC; rw [if_pos (by omega), UInt8.toNat_ofNat']; omega)
    go_enter Tryd.func87, Tryd.ntmps87
    go_wp2_with fail
    go_ret
    exact ⟨by rw [HE.out]; simp, rfl⟩
def numV (c : UInt8) : Nat := (valC c).getD 0
theorem Number_c (c : UInt8) (w : World) : Calls Tryd.prog 88 #[.int .u8 c.toNat] w fun e w' => e = .returned (.tuple #[.int .u8 (numV c : Int), .bool (valC c).isSome]) ∧ w = w' := by
  have hc := c.toNat_lt
  have HV := Lib.hid (show valC c = if 48 ≤ c.toNat ∧ c.toNat ≤ 57 then some (c.toNat - 48) else if 97 ≤ c.toNat ∧ c.toNat ≤ 102 then some (c.toNat - 87) else none from rfl)
  unfold numV
  generalize valC c = v at *
  generalize c.toNat = n at *
  by_cases h1 : n < 48
  · have HE := Lib.hid (show v = none by rw [HV.out, if_neg (by omega), if_neg (by omega)])
    go_enter Tryd.func88, Tryd.ntmps88
    go_wp2_with fail
    go_ret2
    exact ⟨by rw [HE.out]; rfl, rfl⟩
  by_cases h2 : n ≤ 57
  · have HE := Lib.hid (show v = some (n - 48) by rw [HV.out, if_pos (by omega)])
    go_enter Tryd.func88, Tryd.ntmps88
    go_wp2_with fail
    go_ret2
    exact ⟨by rw [HE.out]; simp; omega, rfl⟩
  by_cases h3 : n < 97
  · have HE := Lib.hid (show v = none by rw [HV.out, if_neg (by omega), if_neg (by omega)])
    go_enter Tryd.func88, Tryd.ntmps88
    go_wp2_with fail
    go_ret2
    exact ⟨by rw [HE.out]; rfl, rfl⟩
  by_cases h4 : n ≤ 102
  · have HE := Lib.hid (show v = some (n - 87) by rw [HV.out, if_neg (by omega), if_pos (by omega)])
    go_enter Tryd.func88, Tryd.ntmps88
    go_wp2_with fail
    go_ret2
    exact ⟨by rw [HE.out]; simp; omega, rfl⟩
  · have HE := Lib.hid (show v = none by rw [HV.out, if_neg (by omega), if_neg (by omega)])
    go_enter Tryd.func88, Tryd.ntmps88
    go_wp2_with fail
    go_ret2
    exact ⟨by rw [HE.out]; rfl, rfl⟩
def valO : Option Nat → Int
  | some x => (x : Int)
  | none => -1
def valV (c : UInt8) : Int := valO (valC c)
theorem Value_c (c : UInt8) (w : World) : Calls Tryd.prog 89 #[.int .u8 c.toNat] w fun e w' => e = .returned (.int .i64 (valV c)) ∧ w = w' := by
  have hc := c.toNat_lt
  have HV := Lib.hid (show valC c = if 48 ≤ c.toNat ∧ c.toNat ≤ 57 then some (c.toNat - 48) else if 97 ≤ c.toNat ∧ c.toNat ≤ 102 then some (c.toNat - 87) else none from rfl)
  unfold valV
  generalize valC c = v at *
  generalize c.toNat = n at *
  by_cases h1 : n < 48
  · have HE := Lib.hid (show v = none by rw [HV.out, if_neg (by omega), if_neg (by omega)])
    go_enter Tryd.func89, Tryd.ntmps89
    go_wp2_with fail
    go_ret
    exact ⟨by rw [HE.out]; rfl, rfl⟩
  by_cases h2 : n ≤ 57
  · have HE := Lib.hid (show v = some (n - 48) by rw [HV.out, if_pos (by omega)])
    go_enter Tryd.func89, Tryd.ntmps89
    go_wp2_with fail
    go_ret
    exact ⟨by rw [HE.out]; simp [valO]; omega, rfl⟩
  by_cases h3 : n < 97
  · have HE := Lib.hid (show v = none by rw [HV.out, if_neg (by omega), if_neg (by omega)])
    go_enter Tryd.func89, Tryd.ntmps89
    go_wp2_with fail
    go_ret
    exact ⟨by rw [HE.out]; rfl, rfl⟩
  by_cases h4 : n ≤ 102
  · have HE := Lib.hid (show v = some (n - 87) by rw [HV.out, if_neg (by omega), if_pos (by omega)])
    go_enter Tryd.func89, Tryd.ntmps89
    go_wp2_with fail
    go_ret
    exact ⟨by rw [HE.out]; simp [valO]; omega, rfl⟩
  · have HE := Lib.hid (show v = none by rw [HV.out, if_neg (by omega), if_neg (by omega)])
    go_enter Tryd.func89, Tryd.ntmps89
    go_wp2_with fail
    go_ret
    exact ⟨by rw [HE.out]; rfl, rfl⟩
theorem RCheck_c (s : ByteArray) (w : World) (hs : s.size ≤ 1000000) :
    Calls Tryd.prog 74 #[.string s] w fun e w' => e = .returned (.int .u32 ((4294967295 - crcL s.data.toList : Nat) : Int)) ∧ w = w' := by
  go_enter Tryd.func74, Tryd.ntmps74
  go_wp2_with fail
  go_loopg [3, 4] s.size (fun g s3 s4 wr => ∃ k : Nat, g = s.size - k ∧ k ≤ s.size ∧ s4 = .int .i64 k ∧ s3 = .int .u64 (crcL (s.data.toList.take k) : Int) ∧ w = wr)
  case atStart => exact ⟨0, rfl, Nat.zero_le _, rfl, by simp [crcL], rfl⟩
  case round =>
    obtain ⟨k, rfl, hk, rfl, rfl, rfl⟩ := hrel
    by_cases hlt : k < s.size
    · obtain ⟨c, hi0, htk⟩ := byte_at hlt
      have hx := crcL_lt (s.data.toList.take k)
      have HSN := Lib.hid (show crcL (s.data.toList.take (k + 1)) = crcB (crcL (s.data.toList.take k)) c by rw [htk, crcL_snoc])
      have hidx := fun w => run_index_str (P := Tryd.prog) 9 s k c Tryd.underlying9 hi0 w
      clear hi0 htk
      generalize crcL (s.data.toList.take k) = x at *
      have HH1 := Lib.hid (show bits .xor .u64 (x : Int) (c.toNat : Int) = ((x ^^^ c.toNat : Nat) : Int) from u64_xor_nat x c.toNat (by omega) (by have := c.toNat_lt; omega))
      have hz := xor_byte hx c
      have hcl := c.toNat_lt
      go_wp2_with fail
      have HC8 := Lib.hid (show crcN 8 (x ^^^ c.toNat) = crcB x c from rfl)
      rw [HH1.out]
      generalize x ^^^ c.toNat = y at *
      go_loopg [3, 5] 8 (fun g s3 s5 wr => ∃ j : Nat, g = 8 - j ∧ j ≤ 8 ∧ s5 = .int .i64 j ∧ s3 = .int .u64 (crcN j y : Int) ∧ w = wr)
      case atStart => exact ⟨0, rfl, Nat.zero_le _, rfl, rfl, rfl⟩
      case round =>
        obtain ⟨j, rfl, hj, rfl, rfl, rfl⟩ := hrel
        by_cases hlj : j < 8
        · have hy := crcN_lt hz j
          have HS := Lib.hid (show crcN (j + 1) y = crcStep (crcN j y) from rfl)
          generalize crcN j y = v at *
          by_cases hp : v % 2 = 1
          · have HQ := Lib.hid (show bits .xor .u64 ((v : Int) / 2) 3988292384 = (crcStep v : Int) by
              have := u64_xor_nat (v / 2) 3988292384 (by omega) (by decide)
              rw [show ((3988292384 : Nat) : Int) = 3988292384 from rfl] at this
              rw [show ((v : Int) / 2) = ((v / 2 : Nat) : Int) from rfl, this]; unfold crcStep; rw [if_pos hp])
            have hp2 : ((v : Int) % 2 == 1) = true := by simp; omega
            clear hp
            go_wp2_with fail
            go_roundg (8 - (j + 1))
            case measure => omega
            case rel => exact ⟨j + 1, rfl, by omega, by simp, by rw [HS.out, ← HQ.out], rfl⟩
          · have HQ := Lib.hid (show ((v : Int) / 2) = (crcStep v : Int) by unfold crcStep; rw [if_neg hp]; rfl)
            have hp2 : ((v : Int) % 2 == 1) = false := by simp; omega
            clear hp
            go_wp2_with fail
            go_roundg (8 - (j + 1))
            case measure => omega
            case rel => exact ⟨j + 1, rfl, by omega, by simp, by rw [HS.out, ← HQ.out], rfl⟩
        · obtain rfl : j = 8 := by omega
          go_wp2_with fail
          go_roundg (s.size - (k + 1))
          case measure => omega
          case rel => exact ⟨k + 1, rfl, by omega, by simp, by rw [HC8.out, ← HSN.out], rfl⟩
    · obtain rfl : k = s.size := by omega
      have ht : s.data.toList.take s.size = s.data.toList := by rw [Lib.size_eq, List.take_length]
      rw [ht]
      obtain ⟨x, hx0⟩ : ∃ x, crcL s.data.toList = x := ⟨_, rfl⟩
      have hx := crcL_lt s.data.toList
      rw [hx0] at hx ⊢
      have HX := Lib.hid hx0
      clear ht hx0
      go_wp2_with fail
      go_ret
      exact ⟨by rw [HX.out]; simp; omega, rfl⟩
end Go.Proofs.YtoblhikablbapaaDoor
