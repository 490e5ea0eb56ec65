/- Parts of the proof of ChunksSums, joined: SumA, SumB, SumC, SumD, SumE. No condition. -/
import Derived.Test.YtdcjhpafipbpkaaGreatDoorCk10
import Derived.Laws.BitsAllLaws
import Derived.BigQuiet
import Derived.Deep.QuietTactic
import Derived.StillTailTactics
import Derived.Deep.RegionHeld3
set_option linter.unusedSimpArgs false
set_option linter.unusedVariables false
set_option linter.unusedSectionVars false
namespace Go.Proofs.YtdcjhpafipbpkaaGreatDoor
set_option linter.unusedVariables false
set_option maxRecDepth 100000
set_option maxHeartbeats 1000000
open Go.RowKit
/-- Turned right. -/
def rotr (x k : Nat) : Nat := (x * 2 ^ (32 - k)) % 4294967296 + x / 2 ^ k
theorem rot_or (x k : Nat) (h1 : 1 ≤ k) (h2 : k ≤ 31) (hx : x < 4294967296) : ((x * 2 ^ (32 - k)) % 4294967296) ||| (x / 2 ^ k) = rotr x k := by
  have e : (4294967296 : Nat) = 2 ^ k * 2 ^ (32 - k) := by rw [← Nat.pow_add, show k + (32 - k) = 32 by omega]
  have h3 : (x * 2 ^ (32 - k)) % 4294967296 = (x % 2 ^ k) <<< (32 - k) := by
    rw [e, Nat.mul_mod_mul_right, Nat.shiftLeft_eq]
  have h4 : x / 2 ^ k < 2 ^ (32 - k) := by
    rw [Nat.div_lt_iff_lt_mul (Nat.two_pow_pos k), Nat.mul_comm, ← e]; exact hx
  unfold rotr
  rw [h3, ← Nat.shiftLeft_add_eq_or_of_lt h4]
theorem rot_lt (x k : Nat) (h1 : 1 ≤ k) (h2 : k ≤ 31) (hx : x < 4294967296) : rotr x k < 4294967296 := by
  rw [← rot_or x k h1 h2 hx]
  exact Nat.or_lt_two_pow (n := 32) (Nat.mod_lt _ (by decide)) (Nat.lt_of_le_of_lt (Nat.div_le_self _ _) hx)
theorem rotl_2 (x : Nat) (w : World) (hx : x < 4294967296) : Calls Tryz.prog 252 #[.int .u32 (x : Int), .int .i64 (-2)] w fun e w' => e = .returned (.int .u32 (rotr x 2 : Int)) ∧ w = w' := by
  have a1 : bits .and .u64 (IntKind.u64.wrap (-2)) 31 = 30 := by decide
  have hv := u32_or_nat ((x * 1073741824) % 4294967296) (x / 4) (by omega) (by omega)
  have hr : Hid ((x * 1073741824) % 4294967296 ||| (x / 4) = rotr x 2) := Lib.hid (rot_or x 2 (by decide) (by decide) hx)
  rw [show (((x * 1073741824) % 4294967296 : Nat) : Int) = (x : Int) * 1073741824 % 4294967296 from rfl, show ((x / 4 : Nat) : Int) = (x : Int) / 4 from rfl, hr.out] at hv
  clear hr
  generalize rotr x 2 = R at *
  go_enter Tryz.func252, Tryz.ntmps252
  go_wp2_with fail
  go_ret
  exact ⟨rfl, rfl⟩
theorem rotl_6 (x : Nat) (w : World) (hx : x < 4294967296) : Calls Tryz.prog 252 #[.int .u32 (x : Int), .int .i64 (-6)] w fun e w' => e = .returned (.int .u32 (rotr x 6 : Int)) ∧ w = w' := by
  have a1 : bits .and .u64 (IntKind.u64.wrap (-6)) 31 = 26 := by decide
  have hv := u32_or_nat ((x * 67108864) % 4294967296) (x / 64) (by omega) (by omega)
  have hr : Hid ((x * 67108864) % 4294967296 ||| (x / 64) = rotr x 6) := Lib.hid (rot_or x 6 (by decide) (by decide) hx)
  rw [show (((x * 67108864) % 4294967296 : Nat) : Int) = (x : Int) * 67108864 % 4294967296 from rfl, show ((x / 64 : Nat) : Int) = (x : Int) / 64 from rfl, hr.out] at hv
  clear hr
  generalize rotr x 6 = R at *
  go_enter Tryz.func252, Tryz.ntmps252
  go_wp2_with fail
  go_ret
  exact ⟨rfl, rfl⟩
theorem rotl_7 (x : Nat) (w : World) (hx : x < 4294967296) : Calls Tryz.prog 252 #[.int .u32 (x : Int), .int .i64 (-7)] w fun e w' => e = .returned (.int .u32 (rotr x 7 : Int)) ∧ w = w' := by
  have a1 : bits .and .u64 (IntKind.u64.wrap (-7)) 31 = 25 := by decide
  have hv := u32_or_nat ((x * 33554432) % 4294967296) (x / 128) (by omega) (by omega)
  have hr : Hid ((x * 33554432) % 4294967296 ||| (x / 128) = rotr x 7) := Lib.hid (rot_or x 7 (by decide) (by decide) hx)
  rw [show (((x * 33554432) % 4294967296 : Nat) : Int) = (x : Int) * 33554432 % 4294967296 from rfl, show ((x / 128 : Nat) : Int) = (x : Int) / 128 from rfl, hr.out] at hv
  clear hr
  generalize rotr x 7 = R at *
  go_enter Tryz.func252, Tryz.ntmps252
  go_wp2_with fail
  go_ret
  exact ⟨rfl, rfl⟩
theorem rotl_11 (x : Nat) (w : World) (hx : x < 4294967296) : Calls Tryz.prog 252 #[.int .u32 (x : Int), .int .i64 (-11)] w fun e w' => e = .returned (.int .u32 (rotr x 11 : Int)) ∧ w = w' := by
  have a1 : bits .and .u64 (IntKind.u64.wrap (-11)) 31 = 21 := by decide
  have hv := u32_or_nat ((x * 2097152) % 4294967296) (x / 2048) (by omega) (by omega)
  have hr : Hid ((x * 2097152) % 4294967296 ||| (x / 2048) = rotr x 11) := Lib.hid (rot_or x 11 (by decide) (by decide) hx)
  rw [show (((x * 2097152) % 4294967296 : Nat) : Int) = (x : Int) * 2097152 % 4294967296 from rfl, show ((x / 2048 : Nat) : Int) = (x : Int) / 2048 from rfl, hr.out] at hv
  clear hr
  generalize rotr x 11 = R at *
  go_enter Tryz.func252, Tryz.ntmps252
  go_wp2_with fail
  go_ret
  exact ⟨rfl, rfl⟩
theorem rotl_13 (x : Nat) (w : World) (hx : x < 4294967296) : Calls Tryz.prog 252 #[.int .u32 (x : Int), .int .i64 (-13)] w fun e w' => e = .returned (.int .u32 (rotr x 13 : Int)) ∧ w = w' := by
  have a1 : bits .and .u64 (IntKind.u64.wrap (-13)) 31 = 19 := by decide
  have hv := u32_or_nat ((x * 524288) % 4294967296) (x / 8192) (by omega) (by omega)
  have hr : Hid ((x * 524288) % 4294967296 ||| (x / 8192) = rotr x 13) := Lib.hid (rot_or x 13 (by decide) (by decide) hx)
  rw [show (((x * 524288) % 4294967296 : Nat) : Int) = (x : Int) * 524288 % 4294967296 from rfl, show ((x / 8192 : Nat) : Int) = (x : Int) / 8192 from rfl, hr.out] at hv
  clear hr
  generalize rotr x 13 = R at *
  go_enter Tryz.func252, Tryz.ntmps252
  go_wp2_with fail
  go_ret
  exact ⟨rfl, rfl⟩
theorem rotl_17 (x : Nat) (w : World) (hx : x < 4294967296) : Calls Tryz.prog 252 #[.int .u32 (x : Int), .int .i64 (-17)] w fun e w' => e = .returned (.int .u32 (rotr x 17 : Int)) ∧ w = w' := by
  have a1 : bits .and .u64 (IntKind.u64.wrap (-17)) 31 = 15 := by decide
  have hv := u32_or_nat ((x * 32768) % 4294967296) (x / 131072) (by omega) (by omega)
  have hr : Hid ((x * 32768) % 4294967296 ||| (x / 131072) = rotr x 17) := Lib.hid (rot_or x 17 (by decide) (by decide) hx)
  rw [show (((x * 32768) % 4294967296 : Nat) : Int) = (x : Int) * 32768 % 4294967296 from rfl, show ((x / 131072 : Nat) : Int) = (x : Int) / 131072 from rfl, hr.out] at hv
  clear hr
  generalize rotr x 17 = R at *
  go_enter Tryz.func252, Tryz.ntmps252
  go_wp2_with fail
  go_ret
  exact ⟨rfl, rfl⟩
theorem rotl_18 (x : Nat) (w : World) (hx : x < 4294967296) : Calls Tryz.prog 252 #[.int .u32 (x : Int), .int .i64 (-18)] w fun e w' => e = .returned (.int .u32 (rotr x 18 : Int)) ∧ w = w' := by
  have a1 : bits .and .u64 (IntKind.u64.wrap (-18)) 31 = 14 := by decide
  have hv := u32_or_nat ((x * 16384) % 4294967296) (x / 262144) (by omega) (by omega)
  have hr : Hid ((x * 16384) % 4294967296 ||| (x / 262144) = rotr x 18) := Lib.hid (rot_or x 18 (by decide) (by decide) hx)
  rw [show (((x * 16384) % 4294967296 : Nat) : Int) = (x : Int) * 16384 % 4294967296 from rfl, show ((x / 262144 : Nat) : Int) = (x : Int) / 262144 from rfl, hr.out] at hv
  clear hr
  generalize rotr x 18 = R at *
  go_enter Tryz.func252, Tryz.ntmps252
  go_wp2_with fail
  go_ret
  exact ⟨rfl, rfl⟩
theorem rotl_19 (x : Nat) (w : World) (hx : x < 4294967296) : Calls Tryz.prog 252 #[.int .u32 (x : Int), .int .i64 (-19)] w fun e w' => e = .returned (.int .u32 (rotr x 19 : Int)) ∧ w = w' := by
  have a1 : bits .and .u64 (IntKind.u64.wrap (-19)) 31 = 13 := by decide
  have hv := u32_or_nat ((x * 8192) % 4294967296) (x / 524288) (by omega) (by omega)
  have hr : Hid ((x * 8192) % 4294967296 ||| (x / 524288) = rotr x 19) := Lib.hid (rot_or x 19 (by decide) (by decide) hx)
  rw [show (((x * 8192) % 4294967296 : Nat) : Int) = (x : Int) * 8192 % 4294967296 from rfl, show ((x / 524288 : Nat) : Int) = (x : Int) / 524288 from rfl, hr.out] at hv
  clear hr
  generalize rotr x 19 = R at *
  go_enter Tryz.func252, Tryz.ntmps252
  go_wp2_with fail
  go_ret
  exact ⟨rfl, rfl⟩
theorem rotl_22 (x : Nat) (w : World) (hx : x < 4294967296) : Calls Tryz.prog 252 #[.int .u32 (x : Int), .int .i64 (-22)] w fun e w' => e = .returned (.int .u32 (rotr x 22 : Int)) ∧ w = w' := by
  have a1 : bits .and .u64 (IntKind.u64.wrap (-22)) 31 = 10 := by decide
  have hv := u32_or_nat ((x * 1024) % 4294967296) (x / 4194304) (by omega) (by omega)
  have hr : Hid ((x * 1024) % 4294967296 ||| (x / 4194304) = rotr x 22) := Lib.hid (rot_or x 22 (by decide) (by decide) hx)
  rw [show (((x * 1024) % 4294967296 : Nat) : Int) = (x : Int) * 1024 % 4294967296 from rfl, show ((x / 4194304 : Nat) : Int) = (x : Int) / 4194304 from rfl, hr.out] at hv
  clear hr
  generalize rotr x 22 = R at *
  go_enter Tryz.func252, Tryz.ntmps252
  go_wp2_with fail
  go_ret
  exact ⟨rfl, rfl⟩
theorem rotl_25 (x : Nat) (w : World) (hx : x < 4294967296) : Calls Tryz.prog 252 #[.int .u32 (x : Int), .int .i64 (-25)] w fun e w' => e = .returned (.int .u32 (rotr x 25 : Int)) ∧ w = w' := by
  have a1 : bits .and .u64 (IntKind.u64.wrap (-25)) 31 = 7 := by decide
  have hv := u32_or_nat ((x * 128) % 4294967296) (x / 33554432) (by omega) (by omega)
  have hr : Hid ((x * 128) % 4294967296 ||| (x / 33554432) = rotr x 25) := Lib.hid (rot_or x 25 (by decide) (by decide) hx)
  rw [show (((x * 128) % 4294967296 : Nat) : Int) = (x : Int) * 128 % 4294967296 from rfl, show ((x / 33554432 : Nat) : Int) = (x : Int) / 33554432 from rfl, hr.out] at hv
  clear hr
  generalize rotr x 25 = R at *
  go_enter Tryz.func252, Tryz.ntmps252
  go_wp2_with fail
  go_ret
  exact ⟨rfl, rfl⟩
def great (x a b c : Nat) : Nat := (rotr x a ^^^ rotr x b) ^^^ rotr x c
def small (x a b c : Nat) : Nat := (rotr x a ^^^ rotr x b) ^^^ (x / 2 ^ c)
theorem xor_lt {x y : Nat} (hx : x < 4294967296) (hy : y < 4294967296) : x ^^^ y < 4294967296 := Nat.xor_lt_two_pow (n := 32) hx hy
theorem turned_6 (x : Nat) (w : World) (hx : x < 4294967296) : Calls Tryz.prog 208 #[.int .u32 (x : Int), .int .i64 6, .int .i64 11, .int .i64 25] w fun e w' => e = .returned (.int .u32 (great x 6 11 25 : Int)) ∧ w = w' := by
  have A1 := fun W => rotl_6 x W hx
  have A2 := fun W => rotl_11 x W hx
  have A3 := fun W => rotl_25 x W hx
  have l1 := rot_lt x 6 (by decide) (by decide) hx
  have l2 := rot_lt x 11 (by decide) (by decide) hx
  have l3 := rot_lt x 25 (by decide) (by decide) hx
  have v1 := u32_xor_nat _ _ l1 l2
  have v2 := u32_xor_nat _ _ (xor_lt l1 l2) l3
  have HE : Hid (great x 6 11 25 = (rotr x 6 ^^^ rotr x 11) ^^^ rotr x 25) := Lib.hid rfl
  generalize great x 6 11 25 = R at *
  generalize rotr x 6 ^^^ rotr x 11 = z at *
  generalize rotr x 6 = y1 at *
  generalize rotr x 11 = y2 at *
  generalize rotr x 25 = y3 at *
  clear l1 l2 l3
  go_enter Tryz.func208, Tryz.ntmps208
  go_wp2_with fail
  refine (A1 _).mono ?_
  rintro e w1 ⟨rfl, rfl⟩
  go_wp2_with fail
  refine (A2 _).mono ?_
  rintro e w1 ⟨rfl, rfl⟩
  go_wp2_with fail
  refine (A3 _).mono ?_
  rintro e w1 ⟨rfl, rfl⟩
  go_wp2_with fail
  go_ret
  exact ⟨by rw [HE.out]; rfl, rfl⟩
theorem turned_2 (x : Nat) (w : World) (hx : x < 4294967296) : Calls Tryz.prog 208 #[.int .u32 (x : Int), .int .i64 2, .int .i64 13, .int .i64 22] w fun e w' => e = .returned (.int .u32 (great x 2 13 22 : Int)) ∧ w = w' := by
  have A1 := fun W => rotl_2 x W hx
  have A2 := fun W => rotl_13 x W hx
  have A3 := fun W => rotl_22 x W hx
  have l1 := rot_lt x 2 (by decide) (by decide) hx
  have l2 := rot_lt x 13 (by decide) (by decide) hx
  have l3 := rot_lt x 22 (by decide) (by decide) hx
  have v1 := u32_xor_nat _ _ l1 l2
  have v2 := u32_xor_nat _ _ (xor_lt l1 l2) l3
  have HE : Hid (great x 2 13 22 = (rotr x 2 ^^^ rotr x 13) ^^^ rotr x 22) := Lib.hid rfl
  generalize great x 2 13 22 = R at *
  generalize rotr x 2 ^^^ rotr x 13 = z at *
  generalize rotr x 2 = y1 at *
  generalize rotr x 13 = y2 at *
  generalize rotr x 22 = y3 at *
  clear l1 l2 l3
  go_enter Tryz.func208, Tryz.ntmps208
  go_wp2_with fail
  refine (A1 _).mono ?_
  rintro e w1 ⟨rfl, rfl⟩
  go_wp2_with fail
  refine (A2 _).mono ?_
  rintro e w1 ⟨rfl, rfl⟩
  go_wp2_with fail
  refine (A3 _).mono ?_
  rintro e w1 ⟨rfl, rfl⟩
  go_wp2_with fail
  go_ret
  exact ⟨by rw [HE.out]; rfl, rfl⟩
theorem spread_7 (x : Nat) (w : World) (hx : x < 4294967296) : Calls Tryz.prog 251 #[.int .u32 (x : Int), .int .i64 7, .int .i64 18, .int .i64 3] w fun e w' => e = .returned (.int .u32 (small x 7 18 3 : Int)) ∧ ∃ n, w' = w.drewN n := by
  have A1 := fun W => rotl_7 x W hx
  have A2 := fun W => rotl_18 x W hx
  have l1 := rot_lt x 7 (by decide) (by decide) hx
  have l2 := rot_lt x 18 (by decide) (by decide) hx
  have v1 := u32_xor_nat _ _ l1 l2
  have v2 := u32_xor_nat _ (x / 8) (xor_lt l1 l2) (by omega)
  rw [show ((x / 8 : Nat) : Int) = (x : Int) / 8 from rfl] at v2
  have HE : Hid (small x 7 18 3 = (rotr x 7 ^^^ rotr x 18) ^^^ (x / 8)) := Lib.hid rfl
  have Q1 := fun W => (A1 W).mono (fun _ _ (h : _ ∧ _) => (⟨h.1, h.2.symm⟩ : _ ∧ _))
  have Q2 := fun W => (A2 W).mono (fun _ _ (h : _ ∧ _) => (⟨h.1, h.2.symm⟩ : _ ∧ _))
  clear A1 A2
  generalize small x 7 18 3 = R at *
  generalize rotr x 7 ^^^ rotr x 18 = z at *
  generalize rotr x 7 = y1 at *
  generalize rotr x 18 = y2 at *
  clear l1 l2
  go_enter Tryz.func251, Tryz.ntmps251
  go_wp2_with fail
  go_quiet ((first
    | (go_at_call 252; with_reducible exact Calls.quiet_of_same (Q1 _))
    | (go_at_call 252; with_reducible exact Calls.quiet_of_same (Q2 _))))
  go_wp2_with fail
  go_ret
  exact ⟨by rw [HE.out]; rfl, _, rfl⟩
theorem spread_17 (x : Nat) (w : World) (hx : x < 4294967296) : Calls Tryz.prog 251 #[.int .u32 (x : Int), .int .i64 17, .int .i64 19, .int .i64 10] w fun e w' => e = .returned (.int .u32 (small x 17 19 10 : Int)) ∧ ∃ n, w' = w.drewN n := by
  have A1 := fun W => rotl_17 x W hx
  have A2 := fun W => rotl_19 x W hx
  have l1 := rot_lt x 17 (by decide) (by decide) hx
  have l2 := rot_lt x 19 (by decide) (by decide) hx
  have v1 := u32_xor_nat _ _ l1 l2
  have v2 := u32_xor_nat _ (x / 1024) (xor_lt l1 l2) (by omega)
  rw [show ((x / 1024 : Nat) : Int) = (x : Int) / 1024 from rfl] at v2
  have HE : Hid (small x 17 19 10 = (rotr x 17 ^^^ rotr x 19) ^^^ (x / 1024)) := Lib.hid rfl
  have Q1 := fun W => (A1 W).mono (fun _ _ (h : _ ∧ _) => (⟨h.1, h.2.symm⟩ : _ ∧ _))
  have Q2 := fun W => (A2 W).mono (fun _ _ (h : _ ∧ _) => (⟨h.1, h.2.symm⟩ : _ ∧ _))
  clear A1 A2
  generalize small x 17 19 10 = R at *
  generalize rotr x 17 ^^^ rotr x 19 = z at *
  generalize rotr x 17 = y1 at *
  generalize rotr x 19 = y2 at *
  clear l1 l2
  go_enter Tryz.func251, Tryz.ntmps251
  go_wp2_with fail
  go_quiet ((first
    | (go_at_call 252; with_reducible exact Calls.quiet_of_same (Q1 _))
    | (go_at_call 252; with_reducible exact Calls.quiet_of_same (Q2 _))))
  go_wp2_with fail
  go_ret
  exact ⟨by rw [HE.out]; rfl, _, rfl⟩
def cubesL : List Nat := [4794697085070296209, 13096744586791213989, 4131703405765792241, 10538285296827260629, 15566598207151758081, 2608012711741390275, 8268148720858477054, 11230858888332702068, 16472876343709550470, 1135362055407968716, 3308224257782482090, 6679025011744409818, 10970295157772109421, 12683024718762704839, 14330467156182405447, 489312709404862823, 2861767655337697592, 5560940570391088403, 7280758554198936251, 9350256978237205637, 11727347735703742027, 14000437183109681571, 15101387698198873636, 17586052440550711408, 1847814047869135880, 2830643534987574453, 4115178123771292234, 6601373596217405427, 8399075790807196527, 9568029438005150216, 10430055239000288491, 13761210420988836082]
theorem cubes_at0 (w : World) : (Instr.index 350 (.agg #[.int .u64 4794697085070296209, .int .u64 13096744586791213989, .int .u64 4131703405765792241, .int .u64 10538285296827260629, .int .u64 15566598207151758081, .int .u64 2608012711741390275, .int .u64 8268148720858477054, .int .u64 11230858888332702068, .int .u64 16472876343709550470, .int .u64 1135362055407968716, .int .u64 3308224257782482090, .int .u64 6679025011744409818, .int .u64 10970295157772109421, .int .u64 12683024718762704839, .int .u64 14330467156182405447, .int .u64 489312709404862823, .int .u64 2861767655337697592, .int .u64 5560940570391088403, .int .u64 7280758554198936251, .int .u64 9350256978237205637, .int .u64 11727347735703742027, .int .u64 14000437183109681571, .int .u64 15101387698198873636, .int .u64 17586052440550711408, .int .u64 1847814047869135880, .int .u64 2830643534987574453, .int .u64 4115178123771292234, .int .u64 6601373596217405427, .int .u64 8399075790807196527, .int .u64 9568029438005150216, .int .u64 10430055239000288491, .int .u64 13761210420988836082]) (.int .i64 0)).run Tryz.prog w = .ok (.int .u64 4794697085070296209) w := by kernel_rfl
theorem cubes_at1 (w : World) : (Instr.index 350 (.agg #[.int .u64 4794697085070296209, .int .u64 13096744586791213989, .int .u64 4131703405765792241, .int .u64 10538285296827260629, .int .u64 15566598207151758081, .int .u64 2608012711741390275, .int .u64 8268148720858477054, .int .u64 11230858888332702068, .int .u64 16472876343709550470, .int .u64 1135362055407968716, .int .u64 3308224257782482090, .int .u64 6679025011744409818, .int .u64 10970295157772109421, .int .u64 12683024718762704839, .int .u64 14330467156182405447, .int .u64 489312709404862823, .int .u64 2861767655337697592, .int .u64 5560940570391088403, .int .u64 7280758554198936251, .int .u64 9350256978237205637, .int .u64 11727347735703742027, .int .u64 14000437183109681571, .int .u64 15101387698198873636, .int .u64 17586052440550711408, .int .u64 1847814047869135880, .int .u64 2830643534987574453, .int .u64 4115178123771292234, .int .u64 6601373596217405427, .int .u64 8399075790807196527, .int .u64 9568029438005150216, .int .u64 10430055239000288491, .int .u64 13761210420988836082]) (.int .i64 1)).run Tryz.prog w = .ok (.int .u64 13096744586791213989) w := by kernel_rfl
theorem cubes_at2 (w : World) : (Instr.index 350 (.agg #[.int .u64 4794697085070296209, .int .u64 13096744586791213989, .int .u64 4131703405765792241, .int .u64 10538285296827260629, .int .u64 15566598207151758081, .int .u64 2608012711741390275, .int .u64 8268148720858477054, .int .u64 11230858888332702068, .int .u64 16472876343709550470, .int .u64 1135362055407968716, .int .u64 3308224257782482090, .int .u64 6679025011744409818, .int .u64 10970295157772109421, .int .u64 12683024718762704839, .int .u64 14330467156182405447, .int .u64 489312709404862823, .int .u64 2861767655337697592, .int .u64 5560940570391088403, .int .u64 7280758554198936251, .int .u64 9350256978237205637, .int .u64 11727347735703742027, .int .u64 14000437183109681571, .int .u64 15101387698198873636, .int .u64 17586052440550711408, .int .u64 1847814047869135880, .int .u64 2830643534987574453, .int .u64 4115178123771292234, .int .u64 6601373596217405427, .int .u64 8399075790807196527, .int .u64 9568029438005150216, .int .u64 10430055239000288491, .int .u64 13761210420988836082]) (.int .i64 2)).run Tryz.prog w = .ok (.int .u64 4131703405765792241) w := by kernel_rfl
theorem cubes_at3 (w : World) : (Instr.index 350 (.agg #[.int .u64 4794697085070296209, .int .u64 13096744586791213989, .int .u64 4131703405765792241, .int .u64 10538285296827260629, .int .u64 15566598207151758081, .int .u64 2608012711741390275, .int .u64 8268148720858477054, .int .u64 11230858888332702068, .int .u64 16472876343709550470, .int .u64 1135362055407968716, .int .u64 3308224257782482090, .int .u64 6679025011744409818, .int .u64 10970295157772109421, .int .u64 12683024718762704839, .int .u64 14330467156182405447, .int .u64 489312709404862823, .int .u64 2861767655337697592, .int .u64 5560940570391088403, .int .u64 7280758554198936251, .int .u64 9350256978237205637, .int .u64 11727347735703742027, .int .u64 14000437183109681571, .int .u64 15101387698198873636, .int .u64 17586052440550711408, .int .u64 1847814047869135880, .int .u64 2830643534987574453, .int .u64 4115178123771292234, .int .u64 6601373596217405427, .int .u64 8399075790807196527, .int .u64 9568029438005150216, .int .u64 10430055239000288491, .int .u64 13761210420988836082]) (.int .i64 3)).run Tryz.prog w = .ok (.int .u64 10538285296827260629) w := by kernel_rfl
theorem cubes_at4 (w : World) : (Instr.index 350 (.agg #[.int .u64 4794697085070296209, .int .u64 13096744586791213989, .int .u64 4131703405765792241, .int .u64 10538285296827260629, .int .u64 15566598207151758081, .int .u64 2608012711741390275, .int .u64 8268148720858477054, .int .u64 11230858888332702068, .int .u64 16472876343709550470, .int .u64 1135362055407968716, .int .u64 3308224257782482090, .int .u64 6679025011744409818, .int .u64 10970295157772109421, .int .u64 12683024718762704839, .int .u64 14330467156182405447, .int .u64 489312709404862823, .int .u64 2861767655337697592, .int .u64 5560940570391088403, .int .u64 7280758554198936251, .int .u64 9350256978237205637, .int .u64 11727347735703742027, .int .u64 14000437183109681571, .int .u64 15101387698198873636, .int .u64 17586052440550711408, .int .u64 1847814047869135880, .int .u64 2830643534987574453, .int .u64 4115178123771292234, .int .u64 6601373596217405427, .int .u64 8399075790807196527, .int .u64 9568029438005150216, .int .u64 10430055239000288491, .int .u64 13761210420988836082]) (.int .i64 4)).run Tryz.prog w = .ok (.int .u64 15566598207151758081) w := by kernel_rfl
theorem cubes_at5 (w : World) : (Instr.index 350 (.agg #[.int .u64 4794697085070296209, .int .u64 13096744586791213989, .int .u64 4131703405765792241, .int .u64 10538285296827260629, .int .u64 15566598207151758081, .int .u64 2608012711741390275, .int .u64 8268148720858477054, .int .u64 11230858888332702068, .int .u64 16472876343709550470, .int .u64 1135362055407968716, .int .u64 3308224257782482090, .int .u64 6679025011744409818, .int .u64 10970295157772109421, .int .u64 12683024718762704839, .int .u64 14330467156182405447, .int .u64 489312709404862823, .int .u64 2861767655337697592, .int .u64 5560940570391088403, .int .u64 7280758554198936251, .int .u64 9350256978237205637, .int .u64 11727347735703742027, .int .u64 14000437183109681571, .int .u64 15101387698198873636, .int .u64 17586052440550711408, .int .u64 1847814047869135880, .int .u64 2830643534987574453, .int .u64 4115178123771292234, .int .u64 6601373596217405427, .int .u64 8399075790807196527, .int .u64 9568029438005150216, .int .u64 10430055239000288491, .int .u64 13761210420988836082]) (.int .i64 5)).run Tryz.prog w = .ok (.int .u64 2608012711741390275) w := by kernel_rfl
theorem cubes_at6 (w : World) : (Instr.index 350 (.agg #[.int .u64 4794697085070296209, .int .u64 13096744586791213989, .int .u64 4131703405765792241, .int .u64 10538285296827260629, .int .u64 15566598207151758081, .int .u64 2608012711741390275, .int .u64 8268148720858477054, .int .u64 11230858888332702068, .int .u64 16472876343709550470, .int .u64 1135362055407968716, .int .u64 3308224257782482090, .int .u64 6679025011744409818, .int .u64 10970295157772109421, .int .u64 12683024718762704839, .int .u64 14330467156182405447, .int .u64 489312709404862823, .int .u64 2861767655337697592, .int .u64 5560940570391088403, .int .u64 7280758554198936251, .int .u64 9350256978237205637, .int .u64 11727347735703742027, .int .u64 14000437183109681571, .int .u64 15101387698198873636, .int .u64 17586052440550711408, .int .u64 1847814047869135880, .int .u64 2830643534987574453, .int .u64 4115178123771292234, .int .u64 6601373596217405427, .int .u64 8399075790807196527, .int .u64 9568029438005150216, .int .u64 10430055239000288491, .int .u64 13761210420988836082]) (.int .i64 6)).run Tryz.prog w = .ok (.int .u64 8268148720858477054) w := by kernel_rfl
theorem cubes_at7 (w : World) : (Instr.index 350 (.agg #[.int .u64 4794697085070296209, .int .u64 13096744586791213989, .int .u64 4131703405765792241, .int .u64 10538285296827260629, .int .u64 15566598207151758081, .int .u64 2608012711741390275, .int .u64 8268148720858477054, .int .u64 11230858888332702068, .int .u64 16472876343709550470, .int .u64 1135362055407968716, .int .u64 3308224257782482090, .int .u64 6679025011744409818, .int .u64 10970295157772109421, .int .u64 12683024718762704839, .int .u64 14330467156182405447, .int .u64 489312709404862823, .int .u64 2861767655337697592, .int .u64 5560940570391088403, .int .u64 7280758554198936251, .int .u64 9350256978237205637, .int .u64 11727347735703742027, .int .u64 14000437183109681571, .int .u64 15101387698198873636, .int .u64 17586052440550711408, .int .u64 1847814047869135880, .int .u64 2830643534987574453, .int .u64 4115178123771292234, .int .u64 6601373596217405427, .int .u64 8399075790807196527, .int .u64 9568029438005150216, .int .u64 10430055239000288491, .int .u64 13761210420988836082]) (.int .i64 7)).run Tryz.prog w = .ok (.int .u64 11230858888332702068) w := by kernel_rfl
theorem cubes_at8 (w : World) : (Instr.index 350 (.agg #[.int .u64 4794697085070296209, .int .u64 13096744586791213989, .int .u64 4131703405765792241, .int .u64 10538285296827260629, .int .u64 15566598207151758081, .int .u64 2608012711741390275, .int .u64 8268148720858477054, .int .u64 11230858888332702068, .int .u64 16472876343709550470, .int .u64 1135362055407968716, .int .u64 3308224257782482090, .int .u64 6679025011744409818, .int .u64 10970295157772109421, .int .u64 12683024718762704839, .int .u64 14330467156182405447, .int .u64 489312709404862823, .int .u64 2861767655337697592, .int .u64 5560940570391088403, .int .u64 7280758554198936251, .int .u64 9350256978237205637, .int .u64 11727347735703742027, .int .u64 14000437183109681571, .int .u64 15101387698198873636, .int .u64 17586052440550711408, .int .u64 1847814047869135880, .int .u64 2830643534987574453, .int .u64 4115178123771292234, .int .u64 6601373596217405427, .int .u64 8399075790807196527, .int .u64 9568029438005150216, .int .u64 10430055239000288491, .int .u64 13761210420988836082]) (.int .i64 8)).run Tryz.prog w = .ok (.int .u64 16472876343709550470) w := by kernel_rfl
theorem cubes_at9 (w : World) : (Instr.index 350 (.agg #[.int .u64 4794697085070296209, .int .u64 13096744586791213989, .int .u64 4131703405765792241, .int .u64 10538285296827260629, .int .u64 15566598207151758081, .int .u64 2608012711741390275, .int .u64 8268148720858477054, .int .u64 11230858888332702068, .int .u64 16472876343709550470, .int .u64 1135362055407968716, .int .u64 3308224257782482090, .int .u64 6679025011744409818, .int .u64 10970295157772109421, .int .u64 12683024718762704839, .int .u64 14330467156182405447, .int .u64 489312709404862823, .int .u64 2861767655337697592, .int .u64 5560940570391088403, .int .u64 7280758554198936251, .int .u64 9350256978237205637, .int .u64 11727347735703742027, .int .u64 14000437183109681571, .int .u64 15101387698198873636, .int .u64 17586052440550711408, .int .u64 1847814047869135880, .int .u64 2830643534987574453, .int .u64 4115178123771292234, .int .u64 6601373596217405427, .int .u64 8399075790807196527, .int .u64 9568029438005150216, .int .u64 10430055239000288491, .int .u64 13761210420988836082]) (.int .i64 9)).run Tryz.prog w = .ok (.int .u64 1135362055407968716) w := by kernel_rfl
theorem cubes_at10 (w : World) : (Instr.index 350 (.agg #[.int .u64 4794697085070296209, .int .u64 13096744586791213989, .int .u64 4131703405765792241, .int .u64 10538285296827260629, .int .u64 15566598207151758081, .int .u64 2608012711741390275, .int .u64 8268148720858477054, .int .u64 11230858888332702068, .int .u64 16472876343709550470, .int .u64 1135362055407968716, .int .u64 3308224257782482090, .int .u64 6679025011744409818, .int .u64 10970295157772109421, .int .u64 12683024718762704839, .int .u64 14330467156182405447, .int .u64 489312709404862823, .int .u64 2861767655337697592, .int .u64 5560940570391088403, .int .u64 7280758554198936251, .int .u64 9350256978237205637, .int .u64 11727347735703742027, .int .u64 14000437183109681571, .int .u64 15101387698198873636, .int .u64 17586052440550711408, .int .u64 1847814047869135880, .int .u64 2830643534987574453, .int .u64 4115178123771292234, .int .u64 6601373596217405427, .int .u64 8399075790807196527, .int .u64 9568029438005150216, .int .u64 10430055239000288491, .int .u64 13761210420988836082]) (.int .i64 10)).run Tryz.prog w = .ok (.int .u64 3308224257782482090) w := by kernel_rfl
theorem cubes_at11 (w : World) : (Instr.index 350 (.agg #[.int .u64 4794697085070296209, .int .u64 13096744586791213989, .int .u64 4131703405765792241, .int .u64 10538285296827260629, .int .u64 15566598207151758081, .int .u64 2608012711741390275, .int .u64 8268148720858477054, .int .u64 11230858888332702068, .int .u64 16472876343709550470, .int .u64 1135362055407968716, .int .u64 3308224257782482090, .int .u64 6679025011744409818, .int .u64 10970295157772109421, .int .u64 12683024718762704839, .int .u64 14330467156182405447, .int .u64 489312709404862823, .int .u64 2861767655337697592, .int .u64 5560940570391088403, .int .u64 7280758554198936251, .int .u64 9350256978237205637, .int .u64 11727347735703742027, .int .u64 14000437183109681571, .int .u64 15101387698198873636, .int .u64 17586052440550711408, .int .u64 1847814047869135880, .int .u64 2830643534987574453, .int .u64 4115178123771292234, .int .u64 6601373596217405427, .int .u64 8399075790807196527, .int .u64 9568029438005150216, .int .u64 10430055239000288491, .int .u64 13761210420988836082]) (.int .i64 11)).run Tryz.prog w = .ok (.int .u64 6679025011744409818) w := by kernel_rfl
theorem cubes_at12 (w : World) : (Instr.index 350 (.agg #[.int .u64 4794697085070296209, .int .u64 13096744586791213989, .int .u64 4131703405765792241, .int .u64 10538285296827260629, .int .u64 15566598207151758081, .int .u64 2608012711741390275, .int .u64 8268148720858477054, .int .u64 11230858888332702068, .int .u64 16472876343709550470, .int .u64 1135362055407968716, .int .u64 3308224257782482090, .int .u64 6679025011744409818, .int .u64 10970295157772109421, .int .u64 12683024718762704839, .int .u64 14330467156182405447, .int .u64 489312709404862823, .int .u64 2861767655337697592, .int .u64 5560940570391088403, .int .u64 7280758554198936251, .int .u64 9350256978237205637, .int .u64 11727347735703742027, .int .u64 14000437183109681571, .int .u64 15101387698198873636, .int .u64 17586052440550711408, .int .u64 1847814047869135880, .int .u64 2830643534987574453, .int .u64 4115178123771292234, .int .u64 6601373596217405427, .int .u64 8399075790807196527, .int .u64 9568029438005150216, .int .u64 10430055239000288491, .int .u64 13761210420988836082]) (.int .i64 12)).run Tryz.prog w = .ok (.int .u64 10970295157772109421) w := by kernel_rfl
theorem cubes_at13 (w : World) : (Instr.index 350 (.agg #[.int .u64 4794697085070296209, .int .u64 13096744586791213989, .int .u64 4131703405765792241, .int .u64 10538285296827260629, .int .u64 15566598207151758081, .int .u64 2608012711741390275, .int .u64 8268148720858477054, .int .u64 11230858888332702068, .int .u64 16472876343709550470, .int .u64 1135362055407968716, .int .u64 3308224257782482090, .int .u64 6679025011744409818, .int .u64 10970295157772109421, .int .u64 12683024718762704839, .int .u64 14330467156182405447, .int .u64 489312709404862823, .int .u64 2861767655337697592, .int .u64 5560940570391088403, .int .u64 7280758554198936251, .int .u64 9350256978237205637, .int .u64 11727347735703742027, .int .u64 14000437183109681571, .int .u64 15101387698198873636, .int .u64 17586052440550711408, .int .u64 1847814047869135880, .int .u64 2830643534987574453, .int .u64 4115178123771292234, .int .u64 6601373596217405427, .int .u64 8399075790807196527, .int .u64 9568029438005150216, .int .u64 10430055239000288491, .int .u64 13761210420988836082]) (.int .i64 13)).run Tryz.prog w = .ok (.int .u64 12683024718762704839) w := by kernel_rfl
theorem cubes_at14 (w : World) : (Instr.index 350 (.agg #[.int .u64 4794697085070296209, .int .u64 13096744586791213989, .int .u64 4131703405765792241, .int .u64 10538285296827260629, .int .u64 15566598207151758081, .int .u64 2608012711741390275, .int .u64 8268148720858477054, .int .u64 11230858888332702068, .int .u64 16472876343709550470, .int .u64 1135362055407968716, .int .u64 3308224257782482090, .int .u64 6679025011744409818, .int .u64 10970295157772109421, .int .u64 12683024718762704839, .int .u64 14330467156182405447, .int .u64 489312709404862823, .int .u64 2861767655337697592, .int .u64 5560940570391088403, .int .u64 7280758554198936251, .int .u64 9350256978237205637, .int .u64 11727347735703742027, .int .u64 14000437183109681571, .int .u64 15101387698198873636, .int .u64 17586052440550711408, .int .u64 1847814047869135880, .int .u64 2830643534987574453, .int .u64 4115178123771292234, .int .u64 6601373596217405427, .int .u64 8399075790807196527, .int .u64 9568029438005150216, .int .u64 10430055239000288491, .int .u64 13761210420988836082]) (.int .i64 14)).run Tryz.prog w = .ok (.int .u64 14330467156182405447) w := by kernel_rfl
theorem cubes_at15 (w : World) : (Instr.index 350 (.agg #[.int .u64 4794697085070296209, .int .u64 13096744586791213989, .int .u64 4131703405765792241, .int .u64 10538285296827260629, .int .u64 15566598207151758081, .int .u64 2608012711741390275, .int .u64 8268148720858477054, .int .u64 11230858888332702068, .int .u64 16472876343709550470, .int .u64 1135362055407968716, .int .u64 3308224257782482090, .int .u64 6679025011744409818, .int .u64 10970295157772109421, .int .u64 12683024718762704839, .int .u64 14330467156182405447, .int .u64 489312709404862823, .int .u64 2861767655337697592, .int .u64 5560940570391088403, .int .u64 7280758554198936251, .int .u64 9350256978237205637, .int .u64 11727347735703742027, .int .u64 14000437183109681571, .int .u64 15101387698198873636, .int .u64 17586052440550711408, .int .u64 1847814047869135880, .int .u64 2830643534987574453, .int .u64 4115178123771292234, .int .u64 6601373596217405427, .int .u64 8399075790807196527, .int .u64 9568029438005150216, .int .u64 10430055239000288491, .int .u64 13761210420988836082]) (.int .i64 15)).run Tryz.prog w = .ok (.int .u64 489312709404862823) w := by kernel_rfl
theorem cubes_at16 (w : World) : (Instr.index 350 (.agg #[.int .u64 4794697085070296209, .int .u64 13096744586791213989, .int .u64 4131703405765792241, .int .u64 10538285296827260629, .int .u64 15566598207151758081, .int .u64 2608012711741390275, .int .u64 8268148720858477054, .int .u64 11230858888332702068, .int .u64 16472876343709550470, .int .u64 1135362055407968716, .int .u64 3308224257782482090, .int .u64 6679025011744409818, .int .u64 10970295157772109421, .int .u64 12683024718762704839, .int .u64 14330467156182405447, .int .u64 489312709404862823, .int .u64 2861767655337697592, .int .u64 5560940570391088403, .int .u64 7280758554198936251, .int .u64 9350256978237205637, .int .u64 11727347735703742027, .int .u64 14000437183109681571, .int .u64 15101387698198873636, .int .u64 17586052440550711408, .int .u64 1847814047869135880, .int .u64 2830643534987574453, .int .u64 4115178123771292234, .int .u64 6601373596217405427, .int .u64 8399075790807196527, .int .u64 9568029438005150216, .int .u64 10430055239000288491, .int .u64 13761210420988836082]) (.int .i64 16)).run Tryz.prog w = .ok (.int .u64 2861767655337697592) w := by kernel_rfl
theorem cubes_at17 (w : World) : (Instr.index 350 (.agg #[.int .u64 4794697085070296209, .int .u64 13096744586791213989, .int .u64 4131703405765792241, .int .u64 10538285296827260629, .int .u64 15566598207151758081, .int .u64 2608012711741390275, .int .u64 8268148720858477054, .int .u64 11230858888332702068, .int .u64 16472876343709550470, .int .u64 1135362055407968716, .int .u64 3308224257782482090, .int .u64 6679025011744409818, .int .u64 10970295157772109421, .int .u64 12683024718762704839, .int .u64 14330467156182405447, .int .u64 489312709404862823, .int .u64 2861767655337697592, .int .u64 5560940570391088403, .int .u64 7280758554198936251, .int .u64 9350256978237205637, .int .u64 11727347735703742027, .int .u64 14000437183109681571, .int .u64 15101387698198873636, .int .u64 17586052440550711408, .int .u64 1847814047869135880, .int .u64 2830643534987574453, .int .u64 4115178123771292234, .int .u64 6601373596217405427, .int .u64 8399075790807196527, .int .u64 9568029438005150216, .int .u64 10430055239000288491, .int .u64 13761210420988836082]) (.int .i64 17)).run Tryz.prog w = .ok (.int .u64 5560940570391088403) w := by kernel_rfl
theorem cubes_at18 (w : World) : (Instr.index 350 (.agg #[.int .u64 4794697085070296209, .int .u64 13096744586791213989, .int .u64 4131703405765792241, .int .u64 10538285296827260629, .int .u64 15566598207151758081, .int .u64 2608012711741390275, .int .u64 8268148720858477054, .int .u64 11230858888332702068, .int .u64 16472876343709550470, .int .u64 1135362055407968716, .int .u64 3308224257782482090, .int .u64 6679025011744409818, .int .u64 10970295157772109421, .int .u64 12683024718762704839, .int .u64 14330467156182405447, .int .u64 489312709404862823, .int .u64 2861767655337697592, .int .u64 5560940570391088403, .int .u64 7280758554198936251, .int .u64 9350256978237205637, .int .u64 11727347735703742027, .int .u64 14000437183109681571, .int .u64 15101387698198873636, .int .u64 17586052440550711408, .int .u64 1847814047869135880, .int .u64 2830643534987574453, .int .u64 4115178123771292234, .int .u64 6601373596217405427, .int .u64 8399075790807196527, .int .u64 9568029438005150216, .int .u64 10430055239000288491, .int .u64 13761210420988836082]) (.int .i64 18)).run Tryz.prog w = .ok (.int .u64 7280758554198936251) w := by kernel_rfl
theorem cubes_at19 (w : World) : (Instr.index 350 (.agg #[.int .u64 4794697085070296209, .int .u64 13096744586791213989, .int .u64 4131703405765792241, .int .u64 10538285296827260629, .int .u64 15566598207151758081, .int .u64 2608012711741390275, .int .u64 8268148720858477054, .int .u64 11230858888332702068, .int .u64 16472876343709550470, .int .u64 1135362055407968716, .int .u64 3308224257782482090, .int .u64 6679025011744409818, .int .u64 10970295157772109421, .int .u64 12683024718762704839, .int .u64 14330467156182405447, .int .u64 489312709404862823, .int .u64 2861767655337697592, .int .u64 5560940570391088403, .int .u64 7280758554198936251, .int .u64 9350256978237205637, .int .u64 11727347735703742027, .int .u64 14000437183109681571, .int .u64 15101387698198873636, .int .u64 17586052440550711408, .int .u64 1847814047869135880, .int .u64 2830643534987574453, .int .u64 4115178123771292234, .int .u64 6601373596217405427, .int .u64 8399075790807196527, .int .u64 9568029438005150216, .int .u64 10430055239000288491, .int .u64 13761210420988836082]) (.int .i64 19)).run Tryz.prog w = .ok (.int .u64 9350256978237205637) w := by kernel_rfl
theorem cubes_at20 (w : World) : (Instr.index 350 (.agg #[.int .u64 4794697085070296209, .int .u64 13096744586791213989, .int .u64 4131703405765792241, .int .u64 10538285296827260629, .int .u64 15566598207151758081, .int .u64 2608012711741390275, .int .u64 8268148720858477054, .int .u64 11230858888332702068, .int .u64 16472876343709550470, .int .u64 1135362055407968716, .int .u64 3308224257782482090, .int .u64 6679025011744409818, .int .u64 10970295157772109421, .int .u64 12683024718762704839, .int .u64 14330467156182405447, .int .u64 489312709404862823, .int .u64 2861767655337697592, .int .u64 5560940570391088403, .int .u64 7280758554198936251, .int .u64 9350256978237205637, .int .u64 11727347735703742027, .int .u64 14000437183109681571, .int .u64 15101387698198873636, .int .u64 17586052440550711408, .int .u64 1847814047869135880, .int .u64 2830643534987574453, .int .u64 4115178123771292234, .int .u64 6601373596217405427, .int .u64 8399075790807196527, .int .u64 9568029438005150216, .int .u64 10430055239000288491, .int .u64 13761210420988836082]) (.int .i64 20)).run Tryz.prog w = .ok (.int .u64 11727347735703742027) w := by kernel_rfl
theorem cubes_at21 (w : World) : (Instr.index 350 (.agg #[.int .u64 4794697085070296209, .int .u64 13096744586791213989, .int .u64 4131703405765792241, .int .u64 10538285296827260629, .int .u64 15566598207151758081, .int .u64 2608012711741390275, .int .u64 8268148720858477054, .int .u64 11230858888332702068, .int .u64 16472876343709550470, .int .u64 1135362055407968716, .int .u64 3308224257782482090, .int .u64 6679025011744409818, .int .u64 10970295157772109421, .int .u64 12683024718762704839, .int .u64 14330467156182405447, .int .u64 489312709404862823, .int .u64 2861767655337697592, .int .u64 5560940570391088403, .int .u64 7280758554198936251, .int .u64 9350256978237205637, .int .u64 11727347735703742027, .int .u64 14000437183109681571, .int .u64 15101387698198873636, .int .u64 17586052440550711408, .int .u64 1847814047869135880, .int .u64 2830643534987574453, .int .u64 4115178123771292234, .int .u64 6601373596217405427, .int .u64 8399075790807196527, .int .u64 9568029438005150216, .int .u64 10430055239000288491, .int .u64 13761210420988836082]) (.int .i64 21)).run Tryz.prog w = .ok (.int .u64 14000437183109681571) w := by kernel_rfl
theorem cubes_at22 (w : World) : (Instr.index 350 (.agg #[.int .u64 4794697085070296209, .int .u64 13096744586791213989, .int .u64 4131703405765792241, .int .u64 10538285296827260629, .int .u64 15566598207151758081, .int .u64 2608012711741390275, .int .u64 8268148720858477054, .int .u64 11230858888332702068, .int .u64 16472876343709550470, .int .u64 1135362055407968716, .int .u64 3308224257782482090, .int .u64 6679025011744409818, .int .u64 10970295157772109421, .int .u64 12683024718762704839, .int .u64 14330467156182405447, .int .u64 489312709404862823, .int .u64 2861767655337697592, .int .u64 5560940570391088403, .int .u64 7280758554198936251, .int .u64 9350256978237205637, .int .u64 11727347735703742027, .int .u64 14000437183109681571, .int .u64 15101387698198873636, .int .u64 17586052440550711408, .int .u64 1847814047869135880, .int .u64 2830643534987574453, .int .u64 4115178123771292234, .int .u64 6601373596217405427, .int .u64 8399075790807196527, .int .u64 9568029438005150216, .int .u64 10430055239000288491, .int .u64 13761210420988836082]) (.int .i64 22)).run Tryz.prog w = .ok (.int .u64 15101387698198873636) w := by kernel_rfl
theorem cubes_at23 (w : World) : (Instr.index 350 (.agg #[.int .u64 4794697085070296209, .int .u64 13096744586791213989, .int .u64 4131703405765792241, .int .u64 10538285296827260629, .int .u64 15566598207151758081, .int .u64 2608012711741390275, .int .u64 8268148720858477054, .int .u64 11230858888332702068, .int .u64 16472876343709550470, .int .u64 1135362055407968716, .int .u64 3308224257782482090, .int .u64 6679025011744409818, .int .u64 10970295157772109421, .int .u64 12683024718762704839, .int .u64 14330467156182405447, .int .u64 489312709404862823, .int .u64 2861767655337697592, .int .u64 5560940570391088403, .int .u64 7280758554198936251, .int .u64 9350256978237205637, .int .u64 11727347735703742027, .int .u64 14000437183109681571, .int .u64 15101387698198873636, .int .u64 17586052440550711408, .int .u64 1847814047869135880, .int .u64 2830643534987574453, .int .u64 4115178123771292234, .int .u64 6601373596217405427, .int .u64 8399075790807196527, .int .u64 9568029438005150216, .int .u64 10430055239000288491, .int .u64 13761210420988836082]) (.int .i64 23)).run Tryz.prog w = .ok (.int .u64 17586052440550711408) w := by kernel_rfl
theorem cubes_at24 (w : World) : (Instr.index 350 (.agg #[.int .u64 4794697085070296209, .int .u64 13096744586791213989, .int .u64 4131703405765792241, .int .u64 10538285296827260629, .int .u64 15566598207151758081, .int .u64 2608012711741390275, .int .u64 8268148720858477054, .int .u64 11230858888332702068, .int .u64 16472876343709550470, .int .u64 1135362055407968716, .int .u64 3308224257782482090, .int .u64 6679025011744409818, .int .u64 10970295157772109421, .int .u64 12683024718762704839, .int .u64 14330467156182405447, .int .u64 489312709404862823, .int .u64 2861767655337697592, .int .u64 5560940570391088403, .int .u64 7280758554198936251, .int .u64 9350256978237205637, .int .u64 11727347735703742027, .int .u64 14000437183109681571, .int .u64 15101387698198873636, .int .u64 17586052440550711408, .int .u64 1847814047869135880, .int .u64 2830643534987574453, .int .u64 4115178123771292234, .int .u64 6601373596217405427, .int .u64 8399075790807196527, .int .u64 9568029438005150216, .int .u64 10430055239000288491, .int .u64 13761210420988836082]) (.int .i64 24)).run Tryz.prog w = .ok (.int .u64 1847814047869135880) w := by kernel_rfl
theorem cubes_at25 (w : World) : (Instr.index 350 (.agg #[.int .u64 4794697085070296209, .int .u64 13096744586791213989, .int .u64 4131703405765792241, .int .u64 10538285296827260629, .int .u64 15566598207151758081, .int .u64 2608012711741390275, .int .u64 8268148720858477054, .int .u64 11230858888332702068, .int .u64 16472876343709550470, .int .u64 1135362055407968716, .int .u64 3308224257782482090, .int .u64 6679025011744409818, .int .u64 10970295157772109421, .int .u64 12683024718762704839, .int .u64 14330467156182405447, .int .u64 489312709404862823, .int .u64 2861767655337697592, .int .u64 5560940570391088403, .int .u64 7280758554198936251, .int .u64 9350256978237205637, .int .u64 11727347735703742027, .int .u64 14000437183109681571, .int .u64 15101387698198873636, .int .u64 17586052440550711408, .int .u64 1847814047869135880, .int .u64 2830643534987574453, .int .u64 4115178123771292234, .int .u64 6601373596217405427, .int .u64 8399075790807196527, .int .u64 9568029438005150216, .int .u64 10430055239000288491, .int .u64 13761210420988836082]) (.int .i64 25)).run Tryz.prog w = .ok (.int .u64 2830643534987574453) w := by kernel_rfl
theorem cubes_at26 (w : World) : (Instr.index 350 (.agg #[.int .u64 4794697085070296209, .int .u64 13096744586791213989, .int .u64 4131703405765792241, .int .u64 10538285296827260629, .int .u64 15566598207151758081, .int .u64 2608012711741390275, .int .u64 8268148720858477054, .int .u64 11230858888332702068, .int .u64 16472876343709550470, .int .u64 1135362055407968716, .int .u64 3308224257782482090, .int .u64 6679025011744409818, .int .u64 10970295157772109421, .int .u64 12683024718762704839, .int .u64 14330467156182405447, .int .u64 489312709404862823, .int .u64 2861767655337697592, .int .u64 5560940570391088403, .int .u64 7280758554198936251, .int .u64 9350256978237205637, .int .u64 11727347735703742027, .int .u64 14000437183109681571, .int .u64 15101387698198873636, .int .u64 17586052440550711408, .int .u64 1847814047869135880, .int .u64 2830643534987574453, .int .u64 4115178123771292234, .int .u64 6601373596217405427, .int .u64 8399075790807196527, .int .u64 9568029438005150216, .int .u64 10430055239000288491, .int .u64 13761210420988836082]) (.int .i64 26)).run Tryz.prog w = .ok (.int .u64 4115178123771292234) w := by kernel_rfl
theorem cubes_at27 (w : World) : (Instr.index 350 (.agg #[.int .u64 4794697085070296209, .int .u64 13096744586791213989, .int .u64 4131703405765792241, .int .u64 10538285296827260629, .int .u64 15566598207151758081, .int .u64 2608012711741390275, .int .u64 8268148720858477054, .int .u64 11230858888332702068, .int .u64 16472876343709550470, .int .u64 1135362055407968716, .int .u64 3308224257782482090, .int .u64 6679025011744409818, .int .u64 10970295157772109421, .int .u64 12683024718762704839, .int .u64 14330467156182405447, .int .u64 489312709404862823, .int .u64 2861767655337697592, .int .u64 5560940570391088403, .int .u64 7280758554198936251, .int .u64 9350256978237205637, .int .u64 11727347735703742027, .int .u64 14000437183109681571, .int .u64 15101387698198873636, .int .u64 17586052440550711408, .int .u64 1847814047869135880, .int .u64 2830643534987574453, .int .u64 4115178123771292234, .int .u64 6601373596217405427, .int .u64 8399075790807196527, .int .u64 9568029438005150216, .int .u64 10430055239000288491, .int .u64 13761210420988836082]) (.int .i64 27)).run Tryz.prog w = .ok (.int .u64 6601373596217405427) w := by kernel_rfl
theorem cubes_at28 (w : World) : (Instr.index 350 (.agg #[.int .u64 4794697085070296209, .int .u64 13096744586791213989, .int .u64 4131703405765792241, .int .u64 10538285296827260629, .int .u64 15566598207151758081, .int .u64 2608012711741390275, .int .u64 8268148720858477054, .int .u64 11230858888332702068, .int .u64 16472876343709550470, .int .u64 1135362055407968716, .int .u64 3308224257782482090, .int .u64 6679025011744409818, .int .u64 10970295157772109421, .int .u64 12683024718762704839, .int .u64 14330467156182405447, .int .u64 489312709404862823, .int .u64 2861767655337697592, .int .u64 5560940570391088403, .int .u64 7280758554198936251, .int .u64 9350256978237205637, .int .u64 11727347735703742027, .int .u64 14000437183109681571, .int .u64 15101387698198873636, .int .u64 17586052440550711408, .int .u64 1847814047869135880, .int .u64 2830643534987574453, .int .u64 4115178123771292234, .int .u64 6601373596217405427, .int .u64 8399075790807196527, .int .u64 9568029438005150216, .int .u64 10430055239000288491, .int .u64 13761210420988836082]) (.int .i64 28)).run Tryz.prog w = .ok (.int .u64 8399075790807196527) w := by kernel_rfl
theorem cubes_at29 (w : World) : (Instr.index 350 (.agg #[.int .u64 4794697085070296209, .int .u64 13096744586791213989, .int .u64 4131703405765792241, .int .u64 10538285296827260629, .int .u64 15566598207151758081, .int .u64 2608012711741390275, .int .u64 8268148720858477054, .int .u64 11230858888332702068, .int .u64 16472876343709550470, .int .u64 1135362055407968716, .int .u64 3308224257782482090, .int .u64 6679025011744409818, .int .u64 10970295157772109421, .int .u64 12683024718762704839, .int .u64 14330467156182405447, .int .u64 489312709404862823, .int .u64 2861767655337697592, .int .u64 5560940570391088403, .int .u64 7280758554198936251, .int .u64 9350256978237205637, .int .u64 11727347735703742027, .int .u64 14000437183109681571, .int .u64 15101387698198873636, .int .u64 17586052440550711408, .int .u64 1847814047869135880, .int .u64 2830643534987574453, .int .u64 4115178123771292234, .int .u64 6601373596217405427, .int .u64 8399075790807196527, .int .u64 9568029438005150216, .int .u64 10430055239000288491, .int .u64 13761210420988836082]) (.int .i64 29)).run Tryz.prog w = .ok (.int .u64 9568029438005150216) w := by kernel_rfl
theorem cubes_at30 (w : World) : (Instr.index 350 (.agg #[.int .u64 4794697085070296209, .int .u64 13096744586791213989, .int .u64 4131703405765792241, .int .u64 10538285296827260629, .int .u64 15566598207151758081, .int .u64 2608012711741390275, .int .u64 8268148720858477054, .int .u64 11230858888332702068, .int .u64 16472876343709550470, .int .u64 1135362055407968716, .int .u64 3308224257782482090, .int .u64 6679025011744409818, .int .u64 10970295157772109421, .int .u64 12683024718762704839, .int .u64 14330467156182405447, .int .u64 489312709404862823, .int .u64 2861767655337697592, .int .u64 5560940570391088403, .int .u64 7280758554198936251, .int .u64 9350256978237205637, .int .u64 11727347735703742027, .int .u64 14000437183109681571, .int .u64 15101387698198873636, .int .u64 17586052440550711408, .int .u64 1847814047869135880, .int .u64 2830643534987574453, .int .u64 4115178123771292234, .int .u64 6601373596217405427, .int .u64 8399075790807196527, .int .u64 9568029438005150216, .int .u64 10430055239000288491, .int .u64 13761210420988836082]) (.int .i64 30)).run Tryz.prog w = .ok (.int .u64 10430055239000288491) w := by kernel_rfl
theorem cubes_at31 (w : World) : (Instr.index 350 (.agg #[.int .u64 4794697085070296209, .int .u64 13096744586791213989, .int .u64 4131703405765792241, .int .u64 10538285296827260629, .int .u64 15566598207151758081, .int .u64 2608012711741390275, .int .u64 8268148720858477054, .int .u64 11230858888332702068, .int .u64 16472876343709550470, .int .u64 1135362055407968716, .int .u64 3308224257782482090, .int .u64 6679025011744409818, .int .u64 10970295157772109421, .int .u64 12683024718762704839, .int .u64 14330467156182405447, .int .u64 489312709404862823, .int .u64 2861767655337697592, .int .u64 5560940570391088403, .int .u64 7280758554198936251, .int .u64 9350256978237205637, .int .u64 11727347735703742027, .int .u64 14000437183109681571, .int .u64 15101387698198873636, .int .u64 17586052440550711408, .int .u64 1847814047869135880, .int .u64 2830643534987574453, .int .u64 4115178123771292234, .int .u64 6601373596217405427, .int .u64 8399075790807196527, .int .u64 9568029438005150216, .int .u64 10430055239000288491, .int .u64 13761210420988836082]) (.int .i64 31)).run Tryz.prog w = .ok (.int .u64 13761210420988836082) w := by kernel_rfl
theorem cubes_at (i : Nat) (h : i < 32) (w : World) : (Instr.index 350 (.agg #[.int .u64 4794697085070296209, .int .u64 13096744586791213989, .int .u64 4131703405765792241, .int .u64 10538285296827260629, .int .u64 15566598207151758081, .int .u64 2608012711741390275, .int .u64 8268148720858477054, .int .u64 11230858888332702068, .int .u64 16472876343709550470, .int .u64 1135362055407968716, .int .u64 3308224257782482090, .int .u64 6679025011744409818, .int .u64 10970295157772109421, .int .u64 12683024718762704839, .int .u64 14330467156182405447, .int .u64 489312709404862823, .int .u64 2861767655337697592, .int .u64 5560940570391088403, .int .u64 7280758554198936251, .int .u64 9350256978237205637, .int .u64 11727347735703742027, .int .u64 14000437183109681571, .int .u64 15101387698198873636, .int .u64 17586052440550711408, .int .u64 1847814047869135880, .int .u64 2830643534987574453, .int .u64 4115178123771292234, .int .u64 6601373596217405427, .int .u64 8399075790807196527, .int .u64 9568029438005150216, .int .u64 10430055239000288491, .int .u64 13761210420988836082]) (.int .i64 (i : Int))).run Tryz.prog w = .ok (.int .u64 (cubesL.getD i 0 : Nat)) w := by
  have : i = 0 ∨ i = 1 ∨ i = 2 ∨ i = 3 ∨ i = 4 ∨ i = 5 ∨ i = 6 ∨ i = 7 ∨ i = 8 ∨ i = 9 ∨ i = 10 ∨ i = 11 ∨ i = 12 ∨ i = 13 ∨ i = 14 ∨ i = 15 ∨ i = 16 ∨ i = 17 ∨ i = 18 ∨ i = 19 ∨ i = 20 ∨ i = 21 ∨ i = 22 ∨ i = 23 ∨ i = 24 ∨ i = 25 ∨ i = 26 ∨ i = 27 ∨ i = 28 ∨ i = 29 ∨ i = 30 ∨ i = 31 := by omega
  rcases this with rfl | rfl | rfl | rfl | rfl | rfl | rfl | rfl | rfl | rfl | rfl | rfl | rfl | rfl | rfl | rfl | rfl | rfl | rfl | rfl | rfl | rfl | rfl | rfl | rfl | rfl | rfl | rfl | rfl | rfl | rfl | rfl
  · exact cubes_at0 w
  · exact cubes_at1 w
  · exact cubes_at2 w
  · exact cubes_at3 w
  · exact cubes_at4 w
  · exact cubes_at5 w
  · exact cubes_at6 w
  · exact cubes_at7 w
  · exact cubes_at8 w
  · exact cubes_at9 w
  · exact cubes_at10 w
  · exact cubes_at11 w
  · exact cubes_at12 w
  · exact cubes_at13 w
  · exact cubes_at14 w
  · exact cubes_at15 w
  · exact cubes_at16 w
  · exact cubes_at17 w
  · exact cubes_at18 w
  · exact cubes_at19 w
  · exact cubes_at20 w
  · exact cubes_at21 w
  · exact cubes_at22 w
  · exact cubes_at23 w
  · exact cubes_at24 w
  · exact cubes_at25 w
  · exact cubes_at26 w
  · exact cubes_at27 w
  · exact cubes_at28 w
  · exact cubes_at29 w
  · exact cubes_at30 w
  · exact cubes_at31 w
theorem cubes_c (i : Nat) (h : i < 32) (w : World) : Calls Tryz.prog 253 #[.int .i64 (i : Int)] w fun e w' => e = .returned (.int .u64 (cubesL.getD i 0 : Nat)) ∧ w = w' := by
  have IX := fun W => cubes_at i h W
  generalize cubesL.getD i 0 = R at *
  go_enter Tryz.func253, Tryz.ntmps253
  go_wp2_with fail
  go_ret
  exact ⟨rfl, rfl⟩
theorem cubesL_lt (i : Nat) : cubesL.getD i 0 < 18446744073709551616 := by
  by_cases h : i < 32
  · have : i = 0 ∨ i = 1 ∨ i = 2 ∨ i = 3 ∨ i = 4 ∨ i = 5 ∨ i = 6 ∨ i = 7 ∨ i = 8 ∨ i = 9 ∨ i = 10 ∨ i = 11 ∨ i = 12 ∨ i = 13 ∨ i = 14 ∨ i = 15 ∨ i = 16 ∨ i = 17 ∨ i = 18 ∨ i = 19 ∨ i = 20 ∨ i = 21 ∨ i = 22 ∨ i = 23 ∨ i = 24 ∨ i = 25 ∨ i = 26 ∨ i = 27 ∨ i = 28 ∨ i = 29 ∨ i = 30 ∨ i = 31 := by omega
    rcases this with rfl | rfl | rfl | rfl | rfl | rfl | rfl | rfl | rfl | rfl | rfl | rfl | rfl | rfl | rfl | rfl | rfl | rfl | rfl | rfl | rfl | rfl | rfl | rfl | rfl | rfl | rfl | rfl | rfl | rfl | rfl | rfl <;> decide
  · have : cubesL.getD i 0 = 0 := by unfold List.getD; rw [List.getElem?_eq_none (by have : cubesL.length = 32 := rfl; omega)]; rfl
    rw [this]; decide
def kN (t : Nat) : Nat := if t % 2 = 0 then cubesL.getD (t / 2) 0 / 4294967296 % 4294967296 else cubesL.getD (t / 2) 0 % 4294967296
theorem k_c (t : Nat) (h : t < 64) (w : World) : Calls Tryz.prog 209 #[.int .i64 (t : Int)] w fun e w' => e = .returned (.int .u32 (kN t : Nat)) ∧ w = w' := by
  have CB := fun W => cubes_c (t / 2) (by omega) W
  rw [show ((t / 2 : Nat) : Int) = (t : Int) / 2 from rfl] at CB
  have hc := cubesL_lt (t / 2)
  by_cases h0 : t % 2 = 0
  · have h1 : (t : Int) % 2 = 0 := by omega
    have HE : Hid (kN t = cubesL.getD (t / 2) 0 / 4294967296) := Lib.hid ((if_pos h0).trans (Nat.mod_eq_of_lt (by omega)))
    generalize cubesL.getD (t / 2) 0 = c at *
    generalize kN t = R at *
    clear h0
    go_enter Tryz.func209, Tryz.ntmps209
    go_wp2_with fail
    refine (CB _).mono ?_
    rintro e w1 ⟨rfl, rfl⟩
    go_wp2_with fail
    go_ret
    exact ⟨by rw [HE.out]; rfl, rfl⟩
  · have h1 : (t : Int) % 2 = 1 := by omega
    have HE : Hid (kN t = cubesL.getD (t / 2) 0 % 4294967296) := Lib.hid (if_neg h0)
    generalize cubesL.getD (t / 2) 0 = c at *
    generalize kN t = R at *
    clear h0
    go_enter Tryz.func209, Tryz.ntmps209
    go_wp2_with fail
    refine (CB _).mono ?_
    rintro e w1 ⟨rfl, rfl⟩
    go_wp2_with fail
    go_ret
    exact ⟨by rw [HE.out]; rfl, rfl⟩
end Go.Proofs.YtdcjhpafipbpkaaGreatDoor
namespace Go.Proofs.YtdcjhpafipbpkaaGreatDoor
set_option linter.unusedVariables false
set_option maxRecDepth 100000
set_option maxHeartbeats 1000000
open Go.RowKit
def add32 (a b : Nat) : Nat := (a + b) % 4294967296
theorem add32_lt (a b : Nat) : add32 a b < 4294967296 := Nat.mod_lt _ (by decide)
theorem add32_cast (a b : Nat) : ((a : Int) + (b : Int)) % 4294967296 = ((add32 a b : Nat) : Int) := by unfold add32; omega
/-- All numbers of 32 bits. -/
def All32 (l : List Nat) : Prop := ∀ x ∈ l, x < 4294967296
theorem All32.get {l : List Nat} (h : All32 l) (i : Nat) : l.getD i 0 < 4294967296 := by
  unfold List.getD
  cases e : l[i]? with
  | none => simp
  | some x => simpa using h x (List.mem_of_getElem? e)
theorem All32.set {l : List Nat} (h : All32 l) (i : Nat) {x : Nat} (hx : x < 4294967296) : All32 (l.set i x) := fun y hy => by
  rcases List.mem_or_eq_of_mem_set hy with hy | rfl
  · exact h y hy
  · exact hx
/-- What the number of a round is, from the sixteenth on. -/
def laterX (W : List Nat) (t : Nat) : Nat := add32 (add32 (small (W.getD ((t + 1) % 16) 0) 7 18 3) (W.getD ((t + 9) % 16) 0)) (small (W.getD ((t + 14) % 16) 0) 17 19 10)
def laterN (W : List Nat) (t : Nat) : Nat := add32 (W.getD (t % 16) 0) (laterX W t)
structure V8 where
  a : Nat
  b : Nat
  c : Nat
  d : Nat
  e : Nat
  f : Nat
  g : Nat
  h : Nat
structure V8.Ok (v : V8) : Prop where
  a : v.a < 4294967296
  b : v.b < 4294967296
  c : v.c < 4294967296
  d : v.d < 4294967296
  e : v.e < 4294967296
  f : v.f < 4294967296
  g : v.g < 4294967296
  h : v.h < 4294967296
def V8.up (v : V8) (k w : Nat) : Nat := add32 (add32 (add32 (add32 v.h (great v.e 6 11 25)) (v.g ^^^ (v.e &&& (v.f ^^^ v.g)))) k) w
def V8.over (v : V8) : Nat := add32 (great v.a 2 13 22) ((v.a &&& v.b) ||| (v.c &&& (v.a ||| v.b)))
def V8.next (v : V8) (k w : Nat) : V8 := ⟨add32 (v.up k w) v.over, v.a, v.b, v.c, add32 v.d (v.up k w), v.e, v.f, v.g⟩
theorem V8.next_ok {v : V8} (h : v.Ok) (k w : Nat) : (v.next k w).Ok := ⟨add32_lt _ _, h.a, h.b, h.c, add32_lt _ _, h.e, h.f, h.g⟩
def wAt (W : List Nat) (t : Nat) : Nat := if t < 16 then W.getD (t % 16) 0 else laterN W t
def wNext (W : List Nat) (t : Nat) : List Nat := if t < 16 then W else W.set (t % 16) (laterN W t)
def rndN (v : V8) (W : List Nat) : Nat → V8 × List Nat
  | 0 => (v, W)
  | t + 1 => ((rndN v W t).1.next (kN t) (wAt (rndN v W t).2 t), wNext (rndN v W t).2 t)
theorem wNext_len (W : List Nat) (t : Nat) : (wNext W t).length = W.length := by unfold wNext; split <;> simp
theorem wNext_32 {W : List Nat} (h : All32 W) (t : Nat) : All32 (wNext W t) := by
  unfold wNext; split
  · exact h
  · exact h.set _ (add32_lt _ _)
theorem wAt_lt {W : List Nat} (h : All32 W) (t : Nat) : wAt W t < 4294967296 := by
  unfold wAt; split
  · exact h.get _
  · exact add32_lt _ _
theorem rndN_ok {v : V8} {W : List Nat} (hv : v.Ok) (hW : All32 W) : ∀ t, (rndN v W t).1.Ok ∧ All32 (rndN v W t).2 ∧ (rndN v W t).2.length = W.length
  | 0 => ⟨hv, hW, rfl⟩
  | t + 1 => by
    obtain ⟨h1, h2, h3⟩ := rndN_ok hv hW t
    exact ⟨V8.next_ok h1 _ _, wNext_32 h2 t, (wNext_len _ t).trans h3⟩
def V8.of (h : List Nat) : V8 := ⟨h.getD 0 0, h.getD 1 0, h.getD 2 0, h.getD 3 0, h.getD 4 0, h.getD 5 0, h.getD 6 0, h.getD 7 0⟩
def V8.list (v : V8) : List Nat := [v.a, v.b, v.c, v.d, v.e, v.f, v.g, v.h]
theorem V8.of_ok {h : List Nat} (hh : All32 h) : (V8.of h).Ok := ⟨hh.get _, hh.get _, hh.get _, hh.get _, hh.get _, hh.get _, hh.get _, hh.get _⟩
/-- Two lists, added up to the ith. -/
def addTo (h v : List Nat) : Nat → List Nat
  | 0 => h
  | i + 1 => (addTo h v i).set i (add32 (h.getD i 0) (v.getD i 0))
theorem addTo_len (h v : List Nat) : ∀ i, (addTo h v i).length = h.length
  | 0 => rfl
  | i + 1 => by simp only [addTo, List.length_set]; exact addTo_len h v i
theorem addTo_32 {h : List Nat} (hh : All32 h) (v : List Nat) : ∀ i, All32 (addTo h v i)
  | 0 => hh
  | i + 1 => (addTo_32 hh v i).set _ (add32_lt _ _)
theorem addTo_get (h v : List Nat) : ∀ i j, i ≤ j → (addTo h v i).getD j 0 = h.getD j 0
  | 0, _, _ => rfl
  | i + 1, j, hj => by
    have ih := addTo_get h v i j (by omega)
    unfold List.getD at *
    simp only [addTo]
    rw [List.getElem?_set_ne (by omega)]
    exact ih
/-- The printer. -/
structure Pn where
  h : List Nat
  W : List Nat
  n : Nat
structure Pn.Wk (p : Pn) : Prop where
  h : p.h.length = 8
  W : p.W.length = 16
  h32 : All32 p.h
  W32 : All32 p.W
structure Pn.Ok (p : Pn) : Prop where
  h : p.h.length = 8
  W : p.W.length = 16
  h32 : All32 p.h
  W32 : All32 p.W
  n : p.n < 64
theorem Pn.Ok.wk {p : Pn} (h : p.Ok) : p.Wk := ⟨h.h, h.W, h.h32, h.W32⟩
def Pn.stirM (p : Pn) (m : Nat) : Pn := ⟨addTo p.h (rndN (V8.of p.h) p.W m).1.list 8, (rndN (V8.of p.h) p.W m).2, p.n⟩
def Pn.stir (p : Pn) : Pn := p.stirM 64
def Pn.zero (p : Pn) : Pn := ⟨p.h, p.W, 0⟩
theorem Pn.stirM_ok {p : Pn} (h8 : p.h.length = 8) (hW : p.W.length = 16) (h32 : All32 p.h) (w32 : All32 p.W) (m : Nat) : (p.stirM m).zero.Ok := by
  obtain ⟨-, h2, h3⟩ := rndN_ok (V8.of_ok h32) w32 m
  exact ⟨(addTo_len _ _ _).trans h8, h3.trans hW, addTo_32 h32 _ _, h2, by show 0 < 64; decide⟩
theorem Pn.stir_ok {p : Pn} (h8 : p.h.length = 8) (hW : p.W.length = 16) (h32 : All32 p.h) (w32 : All32 p.W) : p.stir.zero.Ok := Pn.stirM_ok h8 hW h32 w32 64
/-- A byte more of a number. -/
def more8 (x c : Nat) : Nat := x * 256 % 4294967296 + c
theorem more8_lt (x : Nat) {c : Nat} (h : c < 256) : more8 x c < 4294967296 := by unfold more8; omega
def Pn.fed (p : Pn) (c : Nat) : Pn := ⟨p.h, p.W.set (p.n / 4) (more8 (p.W.getD (p.n / 4) 0) c), p.n + 1⟩
def Pn.put (p : Pn) (c : Nat) : Pn := if p.n + 1 = 64 then (p.fed c).stir.zero else p.fed c
theorem Pn.fed_wk {p : Pn} (h : p.Ok) {c : Nat} (hc : c < 256) : (p.fed c).Wk := ⟨h.h, by simp [Pn.fed, h.W], h.h32, h.W32.set _ (more8_lt _ hc)⟩
theorem Pn.put_ok {p : Pn} (h : p.Ok) {c : Nat} (hc : c < 256) : (p.put c).Ok := by
  have hW : All32 (p.fed c).W := h.W32.set _ (more8_lt _ hc)
  have hl : (p.fed c).W.length = 16 := by simp [Pn.fed, h.W]
  unfold Pn.put
  split
  · exact Pn.stir_ok (p := p.fed c) h.h hl h.h32 hW
  · have := h.n
    exact ⟨h.h, hl, h.h32, hW, by show p.n + 1 < 64; omega⟩
theorem Pn.put_n (p : Pn) (c : Nat) : (p.put c).n = if p.n + 1 = 64 then 0 else p.n + 1 := by
  unfold Pn.put; split <;> rfl
def Pn.puts (p : Pn) (l : List Nat) : Pn := l.foldl Pn.put p
theorem Pn.puts_ok : ∀ {l : List Nat} {p : Pn}, p.Ok → (∀ c ∈ l, c < 256) → (p.puts l).Ok
  | [], _, h, _ => h
  | c :: l, p, h, hl => Pn.puts_ok (l := l) (p := p.put c) (Pn.put_ok h (hl c (by simp))) fun x hx => hl x (by simp [hx])
theorem Pn.puts_snoc (p : Pn) (l : List Nat) (c : Nat) : p.puts (l ++ [c]) = (p.puts l).put c := by simp [Pn.puts]
def pn0 : Pn := ⟨[1779033703, 3144134277, 1013904242, 2773480762, 1359893119, 2600822924, 528734635, 1541459225], List.replicate 16 0, 0⟩
theorem pn0_ok : pn0.Ok := ⟨rfl, rfl, by unfold All32; decide, by unfold All32; decide, by decide⟩
theorem more8_or (x c : Nat) (hc : c < 256) : ((x * 256) % 4294967296) ||| c = more8 x c := by
  have h3 : (x * 256) % 4294967296 = (x % 16777216) <<< 8 := by rw [show (4294967296 : Nat) = 16777216 * 256 from rfl, Nat.mul_mod_mul_right, Nat.shiftLeft_eq]
  unfold more8
  rw [h3, ← Nat.shiftLeft_add_eq_or_of_lt (i := 8) (show c < 2 ^ 8 from hc)]
/-- How many zeros stand ahead of the length. -/
def zerosN (n : Nat) : Nat := (120 - n) % 64
def byteL (s : ByteArray) : List Nat := s.data.toList.map fun c => c.toNat
theorem byteL_lt (s : ByteArray) : ∀ c ∈ byteL s, c < 256 := by
  intro c hc
  obtain ⟨x, -, rfl⟩ := List.mem_map.1 hc
  exact x.toNat_lt
def pnA (s : ByteArray) : Pn := (pn0.puts (byteL s)).put 128
def pnB (s : ByteArray) : Pn := (pnA s).puts (List.replicate (zerosN (pnA s).n) 0)
def sizeL (n : Nat) : List Nat := (List.range 8).map fun i => n * 8 / 2 ^ (56 - 8 * i) % 256
def pnC (s : ByteArray) : Pn := (pnB s).puts (sizeL s.size)
theorem sizeL_lt (n : Nat) : ∀ c ∈ sizeL n, c < 256 := by
  intro c hc
  obtain ⟨x, -, rfl⟩ := List.mem_map.1 hc
  exact Nat.mod_lt _ (by decide)
theorem pnA_ok (s : ByteArray) : (pnA s).Ok := Pn.put_ok (Pn.puts_ok pn0_ok (byteL_lt s)) (by decide)
theorem pnB_ok (s : ByteArray) : (pnB s).Ok := Pn.puts_ok (pnA_ok s) fun c hc => by rw [List.eq_of_mem_replicate hc]; decide
theorem pnC_ok (s : ByteArray) : (pnC s).Ok := Pn.puts_ok (pnB_ok s) (sizeL_lt _)
def outL (h : List Nat) : List UInt8 := (List.range 32).map fun i => UInt8.ofNat (h.getD (i / 4) 0 / 2 ^ (24 - i % 4 * 8))
/-- The fingerprint. -/
def prB (s : ByteArray) : ByteArray := ⟨(outL (pnC s).h).toArray⟩
theorem prB_size (s : ByteArray) : (prB s).size = 32 := by
  show (outL (pnC s).h).toArray.size = 32
  simp [outL]
/-- The printer's cells. -/
def pnCells (h W : List Nat) (n : Nat) : List Value := h.map (fun (x : Nat) => Value.int .u32 (x : Int)) ++ (W.map (fun (x : Nat) => Value.int .u32 (x : Int)) ++ [.int .i64 (n : Int)])
theorem pnCells_h {h W : List Nat} {n : Nat} (h8 : h.length = 8) {i : Nat} (hi : i < 8) : (pnCells h W n)[i]? = some (.int .u32 (h.getD i 0 : Nat)) := by
  unfold pnCells List.getD
  rw [List.getElem?_append_left (by simp; omega), List.getElem?_map, List.getElem?_eq_getElem (by omega)]; simp
theorem pnCells_w {h W : List Nat} {n : Nat} (h8 : h.length = 8) (hW : W.length = 16) {i : Nat} (hi : i < 16) : (pnCells h W n)[8 + i]? = some (.int .u32 (W.getD i 0 : Nat)) := by
  unfold pnCells List.getD
  rw [List.getElem?_append_right (by simp; omega), List.length_map, h8, show 8 + i - 8 = i by omega, List.getElem?_append_left (by simp; omega), List.getElem?_map, List.getElem?_eq_getElem (by omega)]; simp
theorem pnCells_n {h W : List Nat} {n : Nat} (h8 : h.length = 8) (hW : W.length = 16) : (pnCells h W n)[24]? = some (.int .i64 (n : Int)) := by
  unfold pnCells
  rw [List.getElem?_append_right (by simp; omega), List.length_map, h8, List.getElem?_append_right (by simp; omega), List.length_map, hW]; rfl
theorem pnCells_set_h {h W : List Nat} {n : Nat} (h8 : h.length = 8) {i : Nat} (hi : i < 8) (x : Nat) : (pnCells h W n).set i (.int .u32 (x : Int)) = pnCells (h.set i x) W n := by
  unfold pnCells
  rw [List.set_append_left _ _ (by simp; omega), List.map_set]
theorem pnCells_set_w {h W : List Nat} {n : Nat} (h8 : h.length = 8) (hW : W.length = 16) {i : Nat} (hi : i < 16) (x : Nat) : (pnCells h W n).set (8 + i) (.int .u32 (x : Int)) = pnCells h (W.set i x) n := by
  unfold pnCells
  rw [List.set_append_right _ _ (by simp; omega), List.length_map, h8, show 8 + i - 8 = i by omega, List.set_append_left _ _ (by simp; omega), List.map_set]
theorem pnCells_set_n {h W : List Nat} {n : Nat} (h8 : h.length = 8) (hW : W.length = 16) (m : Nat) : (pnCells h W n).set 24 (.int .i64 (m : Int)) = pnCells h W m := by
  unfold pnCells
  rw [List.set_append_right _ _ (by simp; omega), List.length_map, h8, List.set_append_right _ _ (by simp; omega), List.length_map, hW]; rfl
end Go.Proofs.YtdcjhpafipbpkaaGreatDoor
namespace Go.Proofs.YtdcjhpafipbpkaaGreatDoor
set_option linter.unusedVariables false
set_option maxRecDepth 100000
set_option maxHeartbeats 2000000
open Go.RowKit
/-- The printer in its block. -/
def PB (w : World) (b : Nat) (p : Pn) : Prop := w.heap[b]? = some (.cells (pnCells p.h p.W p.n).toArray 210 (0, 0))
section
variable {w w' : World} {b : Nat} {p : Pn}
theorem PB.lt (h : PB w b p) : b < w.heap.size := lt_of_heap h
theorem PB.frozen (h : PB w b p) (i : Nat) : w.frozen? ⟨b, i, none⟩ = false := frozen_lit h i
theorem PB.ch (h : PB w b p) (hp : p.Wk) {i : Nat} (hi : i < 8) : w.cell? ⟨b, i, none⟩ = some (.int .u32 (p.h.getD i 0 : Nat)) := cell_lit h (by rw [List.getElem?_toArray]; exact pnCells_h hp.h hi)
theorem PB.cw (h : PB w b p) (hp : p.Wk) {i : Nat} (hi : i < 16) : w.cell? ⟨b, 8 + i, none⟩ = some (.int .u32 (p.W.getD i 0 : Nat)) := cell_lit h (by rw [List.getElem?_toArray]; exact pnCells_w hp.h hp.W hi)
theorem PB.cn (h : PB w b p) (hp : p.Wk) : w.cell? ⟨b, 24, none⟩ = some (.int .i64 (p.n : Int)) := cell_lit h (by rw [List.getElem?_toArray]; exact pnCells_n hp.h hp.W)
theorem PB.sh (h : PB w b p) (hp : p.Wk) {i : Nat} (hi : i < 8) (x : Nat) : PB (w.setCell ⟨b, i, none⟩ (.int .u32 (x : Int))) b ⟨p.h.set i x, p.W, p.n⟩ := by
  have := heap_set_lit (i := i) h (.int .u32 (x : Int))
  rw [List.setIfInBounds_toArray, pnCells_set_h hp.h hi] at this
  exact this
theorem PB.sw (h : PB w b p) (hp : p.Wk) {i : Nat} (hi : i < 16) (x : Nat) : PB (w.setCell ⟨b, 8 + i, none⟩ (.int .u32 (x : Int))) b ⟨p.h, p.W.set i x, p.n⟩ := by
  have := heap_set_lit (i := 8 + i) h (.int .u32 (x : Int))
  rw [List.setIfInBounds_toArray, pnCells_set_w hp.h hp.W hi] at this
  exact this
theorem PB.sn (h : PB w b p) (hp : p.Wk) (m : Nat) : PB (w.setCell ⟨b, 24, none⟩ (.int .i64 (m : Int))) b ⟨p.h, p.W, m⟩ := by
  have := heap_set_lit (i := 24) h (.int .i64 (m : Int))
  rw [List.setIfInBounds_toArray, pnCells_set_n hp.h hp.W] at this
  exact this
theorem PB.of (h : PB w b p) (e : w'.heap[b]? = w.heap[b]?) : PB w' b p := e.trans h
end
theorem Upd.drewN' {S : Nat → Prop} {a w : World} (h : Upd S a w) (q : Nat) : Upd S a (w.drewN q) := ⟨h.os, h.tape, h.output, h.size, h.block⟩
theorem later_c (b : Nat) (p : Pn) (t : Nat) (w : World) (hp : p.Wk) (hb : PB w b p) (ht : t < 64) :
    Calls Tryz.prog 207 #[.pointer (some ⟨b, 0, none⟩), .int .i64 (t : Int)] w fun e w' => e = .returned (.int .u32 (laterN p.W t : Nat)) ∧ Hid (PB w' b ⟨p.h, p.W.set (t % 16) (laterN p.W t), p.n⟩ ∧ Upd (fun k => k = b) w w') := by
  obtain ⟨i0, hi0⟩ : ∃ i, t % 16 = i := ⟨_, rfl⟩
  obtain ⟨i1, hi1⟩ : ∃ i, (t + 1) % 16 = i := ⟨_, rfl⟩
  obtain ⟨i2, hi2⟩ : ∃ i, (t + 9) % 16 = i := ⟨_, rfl⟩
  obtain ⟨i3, hi3⟩ : ∃ i, (t + 14) % 16 = i := ⟨_, rfl⟩
  have c0 := hb.cw hp (show i0 < 16 by omega)
  have c1 := hb.cw hp (show i1 < 16 by omega)
  have c2 := hb.cw hp (show i2 < 16 by omega)
  have c3 := hb.cw hp (show i3 < 16 by omega)
  have l0 := hp.W32.get i0
  have l1 := hp.W32.get i1
  have l3 := hp.W32.get i3
  have D : Hid ((i1 < 16 ∧ i1 ≠ i0) ∧ (i2 < 16 ∧ i2 ≠ i0) ∧ (i3 < 16 ∧ i3 ≠ i0) ∧ i0 < 16) := Lib.hid (by omega)
  have e0 : (t : Int) % 16 = (i0 : Int) := by omega
  have e1 : ((t : Int) + 1) % 16 = (i1 : Int) := by omega
  have e2 : ((t : Int) + 9) % 16 = (i2 : Int) := by omega
  have e3 : ((t : Int) + 14) % 16 = (i3 : Int) := by omega
  have m0 : Int.tmod (t : Int) 16 = (i0 : Int) := by rw [Int.tmod_eq_emod_of_nonneg (by omega)]; exact e0
  have m1 : Int.tmod ((t : Int) + 1) 16 = (i1 : Int) := by rw [Int.tmod_eq_emod_of_nonneg (by omega)]; exact e1
  have m2 : Int.tmod ((t : Int) + 9) 16 = (i2 : Int) := by rw [Int.tmod_eq_emod_of_nonneg (by omega)]; exact e2
  have m3 : Int.tmod ((t : Int) + 14) 16 = (i3 : Int) := by rw [Int.tmod_eq_emod_of_nonneg (by omega)]; exact e3
  have n1 : IntKind.i64.wrap ((t : Int) + 1) = (t : Int) + 1 := by simp [IntKind.wrap, IntKind.bits, IntKind.signed]; omega
  have n2 : IntKind.i64.wrap ((t : Int) + 9) = (t : Int) + 9 := by simp [IntKind.wrap, IntKind.bits, IntKind.signed]; omega
  have n3 : IntKind.i64.wrap ((t : Int) + 14) = (t : Int) + 14 := by simp [IntKind.wrap, IntKind.bits, IntKind.signed]; omega
  have k0 : (i0 : Int) < 16 := by omega
  have k1 : (i1 : Int) < 16 := by omega
  have k2 : (i2 : Int) < 16 := by omega
  have k3 : (i3 : Int) < 16 := by omega
  have hL : laterN p.W t = add32 (p.W.getD i0 0) (add32 (add32 (small (p.W.getD i1 0) 7 18 3) (p.W.getD i2 0)) (small (p.W.getD i3 0) 17 19 10)) := by
    unfold laterN laterX; rw [hi0, hi1, hi2, hi3]
  have HL := Lib.hid hL
  have HE := Lib.hid hb
  have HP := Lib.hid hp
  have HI0 : Hid (i0 < 16) := Lib.hid D.out.2.2.2
  rw [hi0]
  have fz : w.frozen? ⟨b, 8 + i0, none⟩ = false := hb.frozen _
  have lb := hb.lt
  have U0 : Hid (Upd (fun _ => False) w w.drew) := Lib.hid (Upd.refl _ _).drew
  generalize hx0 : p.W.getD i0 0 = x0 at *
  generalize hx1 : p.W.getD i1 0 = x1 at *
  generalize hx2 : p.W.getD i2 0 = x2 at *
  generalize hx3 : p.W.getD i3 0 = x3 at *
  obtain ⟨y1, hy1⟩ : ∃ y, small x1 7 18 3 = y := ⟨_, rfl⟩
  obtain ⟨y3, hy3⟩ : ∃ y, small x3 17 19 10 = y := ⟨_, rfl⟩
  have HS : Hid (∀ (W : World), Upd (fun _ => False) w W → (W.cell? ⟨b, 8 + i1, none⟩ = some (.int .u32 (x1 : Int)) ∧ W.cell? ⟨b, 8 + i2, none⟩ = some (.int .u32 (x2 : Int)) ∧ W.cell? ⟨b, 8 + i3, none⟩ = some (.int .u32 (x3 : Int)) ∧ W.frozen? ⟨b, 8 + i0, none⟩ = false) ∧ W.cell? ⟨b, 8 + i0, none⟩ = some (.int .u32 (x0 : Int)) ∧ b < W.heap.size) := Lib.hid fun W hW => by
    have e : W.heap[b]? = w.heap[b]? := hW.block b lb fun h => h
    exact ⟨⟨(World.cell?_of_block e).trans c1, (World.cell?_of_block e).trans c2, (World.cell?_of_block e).trans c3, (hb.of e).frozen _⟩, (World.cell?_of_block e).trans c0, (hb.of e).lt⟩
  have SP7 : Hid (∀ (W : World), Upd (fun _ => False) w W → Calls Tryz.prog 251 #[.int .u32 (x1 : Int), .int .i64 7, .int .i64 18, .int .i64 3] W fun e w' => e = .returned (.int .u32 (small x1 7 18 3 : Int)) ∧ (w'.cell? ⟨b, 8 + i1, none⟩ = some (.int .u32 (x1 : Int)) ∧ w'.cell? ⟨b, 8 + i2, none⟩ = some (.int .u32 (x2 : Int)) ∧ w'.cell? ⟨b, 8 + i3, none⟩ = some (.int .u32 (x3 : Int)) ∧ w'.frozen? ⟨b, 8 + i0, none⟩ = false) ∧ (w'.cell? ⟨b, 8 + i0, none⟩ = some (.int .u32 (x0 : Int)) ∧ b < w'.heap.size) ∧ Hid (Upd (fun _ => False) w w')) := Lib.hid fun W hW => by
    refine (spread_7 x1 _ l1).mono ?_
    rintro e w' ⟨rfl, k, rfl⟩
    obtain ⟨h1, h2, h3⟩ := HS.out _ (hW.drewN' k)
    exact ⟨rfl, h1, ⟨h2, h3⟩, Lib.hid (hW.drewN' k)⟩
  have SP17 : Hid (∀ (W : World), Upd (fun _ => False) w W → Calls Tryz.prog 251 #[.int .u32 (x3 : Int), .int .i64 17, .int .i64 19, .int .i64 10] W fun e w' => e = .returned (.int .u32 (small x3 17 19 10 : Int)) ∧ (w'.cell? ⟨b, 8 + i1, none⟩ = some (.int .u32 (x1 : Int)) ∧ w'.cell? ⟨b, 8 + i2, none⟩ = some (.int .u32 (x2 : Int)) ∧ w'.cell? ⟨b, 8 + i3, none⟩ = some (.int .u32 (x3 : Int)) ∧ w'.frozen? ⟨b, 8 + i0, none⟩ = false) ∧ (w'.cell? ⟨b, 8 + i0, none⟩ = some (.int .u32 (x0 : Int)) ∧ b < w'.heap.size) ∧ Hid (Upd (fun _ => False) w w')) := Lib.hid fun W hW => by
    refine (spread_17 x3 _ l3).mono ?_
    rintro e w' ⟨rfl, k, rfl⟩
    obtain ⟨h1, h2, h3⟩ := HS.out _ (hW.drewN' k)
    exact ⟨rfl, h1, ⟨h2, h3⟩, Lib.hid (hW.drewN' k)⟩
  rw [hy1] at SP7 HL
  rw [hy3] at SP17 HL
  have a1 := add32_cast y1 x2
  have a2 := add32_cast (add32 y1 x2) y3
  have a3 := add32_cast x0 (add32 (add32 y1 x2) y3)
  have b1 : IntKind.u32.wrap ((y1 : Int) + (x2 : Int)) = ((add32 y1 x2 : Nat) : Int) := a1
  have b2 : IntKind.u32.wrap ((add32 y1 x2 : Nat) + (y3 : Int)) = ((add32 (add32 y1 x2) y3 : Nat) : Int) := a2
  have b3 : IntKind.u32.wrap ((x0 : Int) + (add32 (add32 y1 x2) y3 : Nat)) = ((add32 x0 (add32 (add32 y1 x2) y3) : Nat) : Int) := a3
  have HL2 := Lib.hid HL.out
  generalize add32 y1 x2 = z1 at *
  generalize add32 z1 y3 = z2 at *
  have lz3 := add32_lt x0 z2
  generalize add32 x0 z2 = z3 at *
  have HK : Hid (∀ (W : World), Upd (fun _ => False) w W → ((W.setCell ⟨b, 8 + i0, none⟩ (.int .u32 (z3 : Int))).cell? ⟨b, 8 + i1, none⟩ = some (.int .u32 (x1 : Int)) ∧ (W.setCell ⟨b, 8 + i0, none⟩ (.int .u32 (z3 : Int))).cell? ⟨b, 8 + i2, none⟩ = some (.int .u32 (x2 : Int)) ∧ (W.setCell ⟨b, 8 + i0, none⟩ (.int .u32 (z3 : Int))).cell? ⟨b, 8 + i3, none⟩ = some (.int .u32 (x3 : Int)) ∧ (W.setCell ⟨b, 8 + i0, none⟩ (.int .u32 (z3 : Int))).frozen? ⟨b, 8 + i0, none⟩ = false)) := Lib.hid fun W hW => by
    have e : W.heap[b]? = w.heap[b]? := hW.block b lb fun h => h
    have h1 := (hb.of e).sw hp HI0.out z3
    have ok : Pn.Wk ⟨p.h, p.W.set i0 z3, p.n⟩ := ⟨hp.h, by rw [List.length_set]; exact hp.W, hp.h32, hp.W32.set _ lz3⟩
    have g : ∀ i, i < 16 → i ≠ i0 → (W.setCell ⟨b, 8 + i0, none⟩ (.int .u32 (z3 : Int))).cell? ⟨b, 8 + i, none⟩ = some (.int .u32 (p.W.getD i 0 : Nat)) := fun i hi hne => by
      have := h1.cw ok hi
      simp only at this
      rwa [show (p.W.set i0 z3).getD i 0 = p.W.getD i 0 by unfold List.getD; rw [List.getElem?_set_ne (Ne.symm hne)]] at this
    exact ⟨by rw [← hx1]; exact g i1 D.out.1.1 D.out.1.2, by rw [← hx2]; exact g i2 D.out.2.1.1 D.out.2.1.2, by rw [← hx3]; exact g i3 D.out.2.2.1.1 D.out.2.2.1.2, h1.frozen _⟩
  clear hb hp hL hx0 hx1 hx2 hx3 lz3 hi0 hi1 hi2 hi3 ht hy1 hy3 HL
  go_enter Tryz.func207, Tryz.ntmps207
  go_wp2_with fail
  refine wp_region_noPanic ?_
  refine wp_region_held_drew (S := (fun (w' : World) => w'.cell? ⟨b, 8 + i1, none⟩ = some (.int .u32 (x1 : Int)) ∧ w'.cell? ⟨b, 8 + i2, none⟩ = some (.int .u32 (x2 : Int)) ∧ w'.cell? ⟨b, 8 + i3, none⟩ = some (.int .u32 (x3 : Int)) ∧ w'.frozen? ⟨b, 8 + i0, none⟩ = false)) (by kernel_rfl) ?_ (fun hHeld => ?_)
  · exact (HS.out _ U0.out).1
  refine' wpAnyH_take (i := 0) (v := ?v0) rfl (by kernel_rfl) (by kernel_rfl) (by kernel_rfl) (fun _ _ _ h => h) (Or.inl ⟨by rfl, ?hy0⟩) (by assumption) ?_
  case hy0 => (intro w hSw; (try dsimp only at hSw); go_simp; try with_reducible rfl)
  try simp only [Act.put, List.setIfInBounds_toArray, List.set_cons_zero, List.set_cons_succ, List.getElem_toArray, List.getElem_cons_zero]
  refine' wpAnyH_take (i := 1) (v := ?v1) rfl (by kernel_rfl) (by kernel_rfl) (by kernel_rfl) (fun _ _ _ h => h) (Or.inl ⟨by rfl, ?hy1⟩) (by assumption) ?_
  case hy1 => (intro w hSw; (try dsimp only at hSw); go_simp; try with_reducible rfl)
  try simp only [Act.put, List.setIfInBounds_toArray, List.set_cons_zero, List.set_cons_succ, List.getElem_toArray, List.getElem_cons_succ, List.getElem_cons_zero]
  refine' wpAnyH_take (i := 2) (v := ?v2) rfl (by kernel_rfl) (by kernel_rfl) (by kernel_rfl) (fun _ _ _ h => h) (Or.inl ⟨by rfl, ?hy2⟩) (by assumption) ?_
  case hy2 => (intro w hSw; (try dsimp only at hSw); go_simp; try with_reducible rfl)
  try simp only [Act.put, List.setIfInBounds_toArray, List.set_cons_zero, List.set_cons_succ, List.getElem_toArray, List.getElem_cons_succ, List.getElem_cons_zero]
  refine' wpAnyH_take (i := 3) (v := ?v3) rfl (by kernel_rfl) (by kernel_rfl) (by kernel_rfl) (fun _ _ _ h => h) (Or.inl ⟨by rfl, ?hy3⟩) (by assumption) ?_
  case hy3 => (intro w hSw; (try dsimp only at hSw); go_simp; try with_reducible rfl)
  try simp only [Act.put, List.setIfInBounds_toArray, List.set_cons_zero, List.set_cons_succ, List.getElem_toArray, List.getElem_cons_succ, List.getElem_cons_zero]
  refine' wpAnyH_take (i := 4) (v := ?v4) rfl (by kernel_rfl) (by kernel_rfl) (by kernel_rfl) (fun _ _ _ h => h) (Or.inl ⟨by rfl, ?hy4⟩) (by assumption) ?_
  case hy4 => (intro w hSw; (try dsimp only at hSw); go_simp; try with_reducible rfl)
  try simp only [Act.put, List.setIfInBounds_toArray, List.set_cons_zero, List.set_cons_succ, List.getElem_toArray, List.getElem_cons_succ, List.getElem_cons_zero]
  refine' wpAnyH_take (i := 6) (v := ?v6) rfl (by kernel_rfl) (by kernel_rfl) (by kernel_rfl) (fun _ _ _ h => h) (Or.inl ⟨by rfl, ?hy6⟩) (by assumption) ?_
  case hy6 => (intro w hSw; (try dsimp only at hSw); go_simp; try with_reducible rfl)
  try simp only [Act.put, List.setIfInBounds_toArray, List.set_cons_zero, List.set_cons_succ, List.getElem_toArray, List.getElem_cons_succ, List.getElem_cons_zero]
  refine' wpAnyH_take (i := 7) (v := ?v7) rfl (by kernel_rfl) (by kernel_rfl) (by kernel_rfl) (fun _ _ _ h => h) (Or.inl ⟨by rfl, ?hy7⟩) (by assumption) ?_
  case hy7 => (intro w hSw; (try dsimp only at hSw); go_simp; try with_reducible rfl)
  try simp only [Act.put, List.setIfInBounds_toArray, List.set_cons_zero, List.set_cons_succ, List.getElem_toArray, List.getElem_cons_succ, List.getElem_cons_zero]
  refine' wpAnyH_take (i := 8) (v := ?v8) rfl (by kernel_rfl) (by kernel_rfl) (by kernel_rfl) (fun _ _ _ h => h) (Or.inl ⟨by rfl, ?hy8⟩) (by assumption) ?_
  case hy8 => (intro w hSw; (try dsimp only at hSw); go_simp; try with_reducible rfl)
  try simp only [Act.put, List.setIfInBounds_toArray, List.set_cons_zero, List.set_cons_succ, List.getElem_toArray, List.getElem_cons_succ, List.getElem_cons_zero]
  refine' wpAnyH_take (i := 9) (v := ?v9) rfl (by kernel_rfl) (by kernel_rfl) (by kernel_rfl) (fun _ _ _ h => h) (Or.inl ⟨by rfl, ?hy9⟩) (by assumption) ?_
  case hy9 => (intro w hSw; (try dsimp only at hSw); go_simp; try with_reducible rfl)
  try simp only [Act.put, List.setIfInBounds_toArray, List.set_cons_zero, List.set_cons_succ, List.getElem_toArray, List.getElem_cons_succ, List.getElem_cons_zero]
  refine' wpAnyH_take (i := 10) (v := ?v10) rfl (by kernel_rfl) (by kernel_rfl) (by kernel_rfl) (fun _ _ _ h => h) (Or.inl ⟨by rfl, ?hy10⟩) (by assumption) ?_
  case hy10 => (intro w hSw; (try dsimp only at hSw); go_simp; try with_reducible rfl)
  try simp only [Act.put, List.setIfInBounds_toArray, List.set_cons_zero, List.set_cons_succ, List.getElem_toArray, List.getElem_cons_succ, List.getElem_cons_zero]
  refine' wpAnyH_take (i := 11) (v := ?v11) rfl (by kernel_rfl) (by kernel_rfl) (by kernel_rfl) (fun _ _ _ h => h) (Or.inl ⟨by rfl, ?hy11⟩) (by assumption) ?_
  case hy11 => (intro w hSw; (try dsimp only at hSw); go_simp; try with_reducible rfl)
  try simp only [Act.put, List.setIfInBounds_toArray, List.set_cons_zero, List.set_cons_succ, List.getElem_toArray, List.getElem_cons_succ, List.getElem_cons_zero]
  refine' wpAnyH_take (i := 12) (v := ?v12) rfl (by kernel_rfl) (by kernel_rfl) (by kernel_rfl) (fun _ _ _ h => h) (Or.inl ⟨by rfl, ?hy12⟩) (by assumption) ?_
  case hy12 => (intro w hSw; (try dsimp only at hSw); go_simp; try with_reducible rfl)
  try simp only [Act.put, List.setIfInBounds_toArray, List.set_cons_zero, List.set_cons_succ, List.getElem_toArray, List.getElem_cons_succ, List.getElem_cons_zero]
  refine' wpAnyH_take (i := 14) (v := ?v14) rfl (by kernel_rfl) (by kernel_rfl) (by kernel_rfl) (fun _ _ _ h => h) (Or.inl ⟨by rfl, ?hy14⟩) (by assumption) ?_
  case hy14 => (intro w hSw; (try dsimp only at hSw); go_simp; try with_reducible rfl)
  try simp only [Act.put, List.setIfInBounds_toArray, List.set_cons_zero, List.set_cons_succ, List.getElem_toArray, List.getElem_cons_succ, List.getElem_cons_zero]
  refine' wpAnyH_take (i := 15) (v := ?v15) rfl (by kernel_rfl) (by kernel_rfl) (by kernel_rfl) (fun _ _ _ h => h) (Or.inl ⟨by rfl, ?hy15⟩) (by assumption) ?_
  case hy15 => (intro w hSw; (try dsimp only at hSw); go_simp; try with_reducible rfl)
  try simp only [Act.put, List.setIfInBounds_toArray, List.set_cons_zero, List.set_cons_succ, List.getElem_toArray, List.getElem_cons_succ, List.getElem_cons_zero]
  refine' wpAnyH_take (i := 16) (v := ?v16) rfl (by kernel_rfl) (by kernel_rfl) (by kernel_rfl) (fun _ _ _ h => h) (Or.inl ⟨by rfl, ?hy16⟩) (by assumption) ?_
  case hy16 => (intro w hSw; (try dsimp only at hSw); go_simp; try with_reducible rfl)
  try simp only [Act.put, List.setIfInBounds_toArray, List.set_cons_zero, List.set_cons_succ, List.getElem_toArray, List.getElem_cons_succ, List.getElem_cons_zero]
  refine' wpAnyH_take (i := 17) (v := ?v17) rfl (by kernel_rfl) (by kernel_rfl) (by kernel_rfl) (fun _ _ _ h => h) (Or.inl ⟨by rfl, ?hy17⟩) (by assumption) ?_
  case hy17 => (intro w hSw; (try dsimp only at hSw); go_simp; try with_reducible rfl)
  try simp only [Act.put, List.setIfInBounds_toArray, List.set_cons_zero, List.set_cons_succ, List.getElem_toArray, List.getElem_cons_succ, List.getElem_cons_zero]
  refine' wpAnyH_take (i := 18) (v := ?v18) rfl (by kernel_rfl) (by kernel_rfl) (by kernel_rfl) (fun _ _ _ h => h) (Or.inl ⟨by rfl, ?hy18⟩) (by assumption) ?_
  case hy18 => (intro w hSw; (try dsimp only at hSw); go_simp; try with_reducible rfl)
  try simp only [Act.put, List.setIfInBounds_toArray, List.set_cons_zero, List.set_cons_succ, List.getElem_toArray, List.getElem_cons_succ, List.getElem_cons_zero]
  refine' wpAnyH_take (i := 19) (v := ?v19) rfl (by kernel_rfl) (by kernel_rfl) (by kernel_rfl) (fun _ _ _ h => h) (Or.inl ⟨by rfl, ?hy19⟩) (by assumption) ?_
  case hy19 => (intro w hSw; (try dsimp only at hSw); go_simp; try with_reducible rfl)
  try simp only [Act.put, List.setIfInBounds_toArray, List.set_cons_zero, List.set_cons_succ, List.getElem_toArray, List.getElem_cons_succ, List.getElem_cons_zero]
  refine' wpAnyH_take (i := 20) (v := ?v20) rfl (by kernel_rfl) (by kernel_rfl) (by kernel_rfl) (fun _ _ _ h => h) (Or.inl ⟨by rfl, ?hy20⟩) (by assumption) ?_
  case hy20 => (intro w hSw; (try dsimp only at hSw); go_simp; try with_reducible rfl)
  try simp only [Act.put, List.setIfInBounds_toArray, List.set_cons_zero, List.set_cons_succ, List.getElem_toArray, List.getElem_cons_succ, List.getElem_cons_zero]
  refine' wpAnyH_take (i := 22) (v := ?v22) rfl (by kernel_rfl) (by kernel_rfl) (by kernel_rfl) (fun _ _ _ h => h) (Or.inl ⟨by rfl, ?hy22⟩) (by assumption) ?_
  case hy22 => (intro w hSw; (try dsimp only at hSw); go_simp; try with_reducible rfl)
  try simp only [Act.put, List.setIfInBounds_toArray, List.set_cons_zero, List.set_cons_succ, List.getElem_toArray, List.getElem_cons_succ, List.getElem_cons_zero]
  refine' wpAnyH_take (i := 23) (v := ?v23) rfl (by kernel_rfl) (by kernel_rfl) (by kernel_rfl) (fun _ _ _ h => h) (Or.inl ⟨by rfl, ?hy23⟩) (by assumption) ?_
  case hy23 => (intro w hSw; (try dsimp only at hSw); go_simp; try with_reducible rfl)
  try simp only [Act.put, List.setIfInBounds_toArray, List.set_cons_zero, List.set_cons_succ, List.getElem_toArray, List.getElem_cons_succ, List.getElem_cons_zero]
  refine' wpAnyH_take (i := 24) (v := ?v24) rfl (by kernel_rfl) (by kernel_rfl) (by kernel_rfl) (fun _ _ _ h => h) (Or.inl ⟨by rfl, ?hy24⟩) (by assumption) ?_
  case hy24 => (intro w hSw; (try dsimp only at hSw); go_simp; try with_reducible rfl)
  try simp only [Act.put, List.setIfInBounds_toArray, List.set_cons_zero, List.set_cons_succ, List.getElem_toArray, List.getElem_cons_succ, List.getElem_cons_zero]
  refine' wpAnyH_take (i := 25) (v := ?v25) rfl (by kernel_rfl) (by kernel_rfl) (by kernel_rfl) (fun _ _ _ h => h) (Or.inl ⟨by rfl, ?hy25⟩) (by assumption) ?_
  case hy25 => (intro w hSw; (try dsimp only at hSw); go_simp; try with_reducible rfl)
  try simp only [Act.put, List.setIfInBounds_toArray, List.set_cons_zero, List.set_cons_succ, List.getElem_toArray, List.getElem_cons_succ, List.getElem_cons_zero]
  refine' wpAnyH_take (i := 26) (v := ?v26) rfl (by kernel_rfl) (by kernel_rfl) (by kernel_rfl) (fun _ _ _ h => h) (Or.inl ⟨by rfl, ?hy26⟩) (by assumption) ?_
  case hy26 => (intro w hSw; (try dsimp only at hSw); go_simp; try with_reducible rfl)
  try simp only [Act.put, List.setIfInBounds_toArray, List.set_cons_zero, List.set_cons_succ, List.getElem_toArray, List.getElem_cons_succ, List.getElem_cons_zero]
  refine' wpAnyH_take (i := 27) (v := ?v27) rfl (by kernel_rfl) (by kernel_rfl) (by kernel_rfl) (fun _ _ _ h => h) (Or.inl ⟨by rfl, ?hy27⟩) (by assumption) ?_
  case hy27 => (intro w hSw; (try dsimp only at hSw); go_simp; try with_reducible rfl)
  try simp only [Act.put, List.setIfInBounds_toArray, List.set_cons_zero, List.set_cons_succ, List.getElem_toArray, List.getElem_cons_succ, List.getElem_cons_zero]
  refine' wpAnyH_take (i := 28) (v := ?v28) rfl (by kernel_rfl) (by kernel_rfl) (by kernel_rfl) (fun _ _ _ h => h) (Or.inl ⟨by rfl, ?hy28⟩) (by assumption) ?_
  case hy28 => (intro w hSw; (try dsimp only at hSw); go_simp; try with_reducible rfl)
  try simp only [Act.put, List.setIfInBounds_toArray, List.set_cons_zero, List.set_cons_succ, List.getElem_toArray, List.getElem_cons_succ, List.getElem_cons_zero]
  refine' wpAnyH_take (i := 32) (v := ?v32) rfl (by kernel_rfl) (by kernel_rfl) (by kernel_rfl) (fun _ _ _ h => h) (Or.inl ⟨by rfl, ?hy32⟩) (by assumption) ?_
  case hy32 => (intro w hSw; (try dsimp only at hSw); go_simp; try with_reducible rfl)
  try simp only [Act.put, List.setIfInBounds_toArray, List.set_cons_zero, List.set_cons_succ, List.getElem_toArray, List.getElem_cons_succ, List.getElem_cons_zero]
  refine wpAnyH_ready (rs := [5, 13]) (by kernel_rfl) (by simp) ?_
  refine AllReadyH.cons rfl (fun K hK => ?_) (AllReadyH.cons rfl (fun K hK => ?_) AllReadyH.nil)
  · go_simp
    refine hK.out _ _ ?_ (fun hHeld => ?_)
    · exact (HS.out _ U0.out).1
    clear hK K
    try simp only [Act.put, List.setIfInBounds_toArray, List.set_cons_zero, List.set_cons_succ, List.getElem_toArray, List.getElem_cons_succ, List.getElem_cons_zero]
    refine wpAnyH_ready (rs := [13]) (by kernel_rfl) (by simp) ?_
    refine AllReadyH.cons rfl (fun K hK => ?_) AllReadyH.nil
    go_simp
    go_at_call 251
    refine Calls.at_args (SP7.out _ U0.out) (by with_reducible rfl) ?_
    rintro e w3 ⟨rfl, hk3, h03, G3⟩
    refine hK.out _ _ ?_ (fun hHeld => ?_)
    · exact hk3
    clear hK K
    try simp only [Act.put, List.setIfInBounds_toArray, List.set_cons_zero, List.set_cons_succ, List.getElem_toArray, List.getElem_cons_succ, List.getElem_cons_zero]
    refine' wpAnyH_take (i := 21) (v := ?v21) rfl (by kernel_rfl) (by kernel_rfl) (by kernel_rfl) (fun _ _ _ h => h) (Or.inl ⟨by rfl, ?hy21⟩) (by assumption) ?_
    case hy21 => (intro w hSw; (try dsimp only at hSw); go_simp; try with_reducible rfl)
    try simp only [Act.put, List.setIfInBounds_toArray, List.set_cons_zero, List.set_cons_succ, List.getElem_toArray, List.getElem_cons_succ, List.getElem_cons_zero]
    refine wpAnyH_ready (rs := [29]) (by kernel_rfl) (by simp) ?_
    refine AllReadyH.cons rfl (fun K hK => ?_) AllReadyH.nil
    go_simp
    go_at_call 251
    refine Calls.at_args (SP17.out _ G3.out) (by with_reducible rfl) ?_
    rintro e w4 ⟨rfl, hk4, h04, G4⟩
    refine hK.out _ _ ?_ (fun hHeld => ?_)
    · exact hk4
    clear hK K
    try simp only [Act.put, List.setIfInBounds_toArray, List.set_cons_zero, List.set_cons_succ, List.getElem_toArray, List.getElem_cons_succ, List.getElem_cons_zero]
    refine' wpAnyH_take (i := 30) (v := ?v30) rfl (by kernel_rfl) (by kernel_rfl) (by kernel_rfl) (fun _ _ _ h => h) (Or.inl ⟨by rfl, ?hy30⟩) (by assumption) ?_
    case hy30 => (intro w hSw; (try dsimp only at hSw); go_simp; try with_reducible rfl)
    try simp only [Act.put, List.setIfInBounds_toArray, List.set_cons_zero, List.set_cons_succ, List.getElem_toArray, List.getElem_cons_succ, List.getElem_cons_zero]
    refine' wpAnyH_take (i := 31) (v := ?v31) rfl (by kernel_rfl) (by kernel_rfl) (by kernel_rfl) (fun _ _ _ h => h) (Or.inl ⟨by rfl, ?hy31⟩) (by assumption) ?_
    case hy31 => (intro w hSw; (try dsimp only at hSw); go_simp; try with_reducible rfl)
    try simp only [Act.put, List.setIfInBounds_toArray, List.set_cons_zero, List.set_cons_succ, List.getElem_toArray, List.getElem_cons_succ, List.getElem_cons_zero]
    refine' wpAnyH_take (i := 33) (v := ?v33) rfl (by kernel_rfl) (by kernel_rfl) (by kernel_rfl) (fun _ _ _ h => h) (Or.inl ⟨by rfl, ?hy33⟩) (by assumption) ?_
    case hy33 => (intro w hSw; (try dsimp only at hSw); go_simp; try with_reducible rfl)
    try simp only [Act.put, List.setIfInBounds_toArray, List.set_cons_zero, List.set_cons_succ, List.getElem_toArray, List.getElem_cons_succ, List.getElem_cons_zero]
    refine wpAnyH_ready (rs := [34]) (by kernel_rfl) (by simp) ?_
    refine AllReadyH.cons rfl (fun K hK => ?_) AllReadyH.nil
    go_simp
    refine hK.out _ _ ?_ (fun hHeld => ?_)
    · exact HK.out _ G4.out
    clear hK K
    try simp only [Act.put, List.setIfInBounds_toArray, List.set_cons_zero, List.set_cons_succ, List.getElem_toArray, List.getElem_cons_succ, List.getElem_cons_zero]
    refine wpAnyH_done (by kernel_rfl) ?_ _
    refine NoPanic.normal ?_
    have P4 : PB w4 b p := HE.out.of (G4.out.block b lb fun h => h)
    have P5 := Lib.hid (P4.sw HP.out HI0.out z3)
    have d0 : (w4.setCell ⟨b, 8 + i0, none⟩ (.int .u32 (z3 : Int))).cell? ⟨b, 8 + i0, none⟩ = some (.int .u32 (z3 : Int)) := cell_lit P5.out (by
      rw [List.getElem?_toArray, pnCells_w (W := p.W.set i0 z3) HP.out.h (by rw [List.length_set]; exact HP.out.W) HI0.out]
      unfold List.getD
      rw [List.getElem?_set_self (by rw [HP.out.W]; exact HI0.out)]; rfl)
    have U5 : Hid (Upd (fun k => k = b) w (w4.setCell ⟨b, 8 + i0, none⟩ (.int .u32 (z3 : Int)))) := Lib.hid (Upd.setCell (S := fun k => k = b) (p := ⟨b, 8 + i0, none⟩) (G4.out.mono fun _ _ h => h.elim) (.inl rfl) _)
    have l5 : b < (w4.setCell ⟨b, 8 + i0, none⟩ (.int .u32 (z3 : Int))).heap.size := P5.out.lt
    clear hk3 h03 G3 hk4 h04 G4 P4 c0 c1 c2 c3 SP7 SP17 HS HK
    go_wp2_with fail
    go_ret
    exact ⟨by rw [HL2.out]; rfl, Lib.hid ⟨by rw [HL2.out]; exact P5.out, U5.out⟩⟩
  ·
    go_simp
    go_at_call 251
    refine Calls.at_args (SP7.out _ U0.out) (by with_reducible rfl) ?_
    rintro e w3 ⟨rfl, hk3, h03, G3⟩
    refine hK.out _ _ ?_ (fun hHeld => ?_)
    · exact hk3
    clear hK K
    try simp only [Act.put, List.setIfInBounds_toArray, List.set_cons_zero, List.set_cons_succ, List.getElem_toArray, List.getElem_cons_succ, List.getElem_cons_zero]
    refine' wpAnyH_take (i := 21) (v := ?v21) rfl (by kernel_rfl) (by kernel_rfl) (by kernel_rfl) (fun _ _ _ h => h) (Or.inl ⟨by rfl, ?hy21⟩) (by assumption) ?_
    case hy21 => (intro w hSw; (try dsimp only at hSw); go_simp; try with_reducible rfl)
    try simp only [Act.put, List.setIfInBounds_toArray, List.set_cons_zero, List.set_cons_succ, List.getElem_toArray, List.getElem_cons_succ, List.getElem_cons_zero]
    refine wpAnyH_ready (rs := [5, 29]) (by kernel_rfl) (by simp) ?_
    refine AllReadyH.cons rfl (fun K hK => ?_) (AllReadyH.cons rfl (fun K hK => ?_) AllReadyH.nil)
    ·
      go_simp
      refine hK.out _ _ ?_ (fun hHeld => ?_)
      · exact hk3
      clear hK K
      try simp only [Act.put, List.setIfInBounds_toArray, List.set_cons_zero, List.set_cons_succ, List.getElem_toArray, List.getElem_cons_succ, List.getElem_cons_zero]
      refine wpAnyH_ready (rs := [29]) (by kernel_rfl) (by simp) ?_
      refine AllReadyH.cons rfl (fun K hK => ?_) AllReadyH.nil
      go_simp
      go_at_call 251
      refine Calls.at_args (SP17.out _ G3.out) (by with_reducible rfl) ?_
      rintro e w4 ⟨rfl, hk4, h04, G4⟩
      refine hK.out _ _ ?_ (fun hHeld => ?_)
      · exact hk4
      clear hK K
      try simp only [Act.put, List.setIfInBounds_toArray, List.set_cons_zero, List.set_cons_succ, List.getElem_toArray, List.getElem_cons_succ, List.getElem_cons_zero]
      refine' wpAnyH_take (i := 30) (v := ?v30) rfl (by kernel_rfl) (by kernel_rfl) (by kernel_rfl) (fun _ _ _ h => h) (Or.inl ⟨by rfl, ?hy30⟩) (by assumption) ?_
      case hy30 => (intro w hSw; (try dsimp only at hSw); go_simp; try with_reducible rfl)
      try simp only [Act.put, List.setIfInBounds_toArray, List.set_cons_zero, List.set_cons_succ, List.getElem_toArray, List.getElem_cons_succ, List.getElem_cons_zero]
      refine' wpAnyH_take (i := 31) (v := ?v31) rfl (by kernel_rfl) (by kernel_rfl) (by kernel_rfl) (fun _ _ _ h => h) (Or.inl ⟨by rfl, ?hy31⟩) (by assumption) ?_
      case hy31 => (intro w hSw; (try dsimp only at hSw); go_simp; try with_reducible rfl)
      try simp only [Act.put, List.setIfInBounds_toArray, List.set_cons_zero, List.set_cons_succ, List.getElem_toArray, List.getElem_cons_succ, List.getElem_cons_zero]
      refine' wpAnyH_take (i := 33) (v := ?v33) rfl (by kernel_rfl) (by kernel_rfl) (by kernel_rfl) (fun _ _ _ h => h) (Or.inl ⟨by rfl, ?hy33⟩) (by assumption) ?_
      case hy33 => (intro w hSw; (try dsimp only at hSw); go_simp; try with_reducible rfl)
      try simp only [Act.put, List.setIfInBounds_toArray, List.set_cons_zero, List.set_cons_succ, List.getElem_toArray, List.getElem_cons_succ, List.getElem_cons_zero]
      refine wpAnyH_ready (rs := [34]) (by kernel_rfl) (by simp) ?_
      refine AllReadyH.cons rfl (fun K hK => ?_) AllReadyH.nil
      go_simp
      refine hK.out _ _ ?_ (fun hHeld => ?_)
      · exact HK.out _ G4.out
      clear hK K
      try simp only [Act.put, List.setIfInBounds_toArray, List.set_cons_zero, List.set_cons_succ, List.getElem_toArray, List.getElem_cons_succ, List.getElem_cons_zero]
      refine wpAnyH_done (by kernel_rfl) ?_ _
      refine NoPanic.normal ?_
      have P4 : PB w4 b p := HE.out.of (G4.out.block b lb fun h => h)
      have P5 := Lib.hid (P4.sw HP.out HI0.out z3)
      have d0 : (w4.setCell ⟨b, 8 + i0, none⟩ (.int .u32 (z3 : Int))).cell? ⟨b, 8 + i0, none⟩ = some (.int .u32 (z3 : Int)) := cell_lit P5.out (by
        rw [List.getElem?_toArray, pnCells_w (W := p.W.set i0 z3) HP.out.h (by rw [List.length_set]; exact HP.out.W) HI0.out]
        unfold List.getD
        rw [List.getElem?_set_self (by rw [HP.out.W]; exact HI0.out)]; rfl)
      have U5 : Hid (Upd (fun k => k = b) w (w4.setCell ⟨b, 8 + i0, none⟩ (.int .u32 (z3 : Int)))) := Lib.hid (Upd.setCell (S := fun k => k = b) (p := ⟨b, 8 + i0, none⟩) (G4.out.mono fun _ _ h => h.elim) (.inl rfl) _)
      have l5 : b < (w4.setCell ⟨b, 8 + i0, none⟩ (.int .u32 (z3 : Int))).heap.size := P5.out.lt
      clear hk3 h03 G3 hk4 h04 G4 P4 c0 c1 c2 c3 SP7 SP17 HS HK
      go_wp2_with fail
      go_ret
      exact ⟨by rw [HL2.out]; rfl, Lib.hid ⟨by rw [HL2.out]; exact P5.out, U5.out⟩⟩
    ·
      go_simp
      go_at_call 251
      refine Calls.at_args (SP17.out _ G3.out) (by with_reducible rfl) ?_
      rintro e w4 ⟨rfl, hk4, h04, G4⟩
      refine hK.out _ _ ?_ (fun hHeld => ?_)
      · exact hk4
      clear hK K
      try simp only [Act.put, List.setIfInBounds_toArray, List.set_cons_zero, List.set_cons_succ, List.getElem_toArray, List.getElem_cons_succ, List.getElem_cons_zero]
      refine' wpAnyH_take (i := 30) (v := ?v30) rfl (by kernel_rfl) (by kernel_rfl) (by kernel_rfl) (fun _ _ _ h => h) (Or.inl ⟨by rfl, ?hy30⟩) (by assumption) ?_
      case hy30 => (intro w hSw; (try dsimp only at hSw); go_simp; try with_reducible rfl)
      try simp only [Act.put, List.setIfInBounds_toArray, List.set_cons_zero, List.set_cons_succ, List.getElem_toArray, List.getElem_cons_succ, List.getElem_cons_zero]
      refine wpAnyH_ready (rs := [5]) (by kernel_rfl) (by simp) ?_
      refine AllReadyH.cons rfl (fun K hK => ?_) AllReadyH.nil
      go_simp
      refine hK.out _ _ ?_ (fun hHeld => ?_)
      · exact hk4
      clear hK K
      try simp only [Act.put, List.setIfInBounds_toArray, List.set_cons_zero, List.set_cons_succ, List.getElem_toArray, List.getElem_cons_succ, List.getElem_cons_zero]
      refine' wpAnyH_take (i := 31) (v := ?v31) rfl (by kernel_rfl) (by kernel_rfl) (by kernel_rfl) (fun _ _ _ h => h) (Or.inl ⟨by rfl, ?hy31⟩) (by assumption) ?_
      case hy31 => (intro w hSw; (try dsimp only at hSw); go_simp; try with_reducible rfl)
      try simp only [Act.put, List.setIfInBounds_toArray, List.set_cons_zero, List.set_cons_succ, List.getElem_toArray, List.getElem_cons_succ, List.getElem_cons_zero]
      refine' wpAnyH_take (i := 33) (v := ?v33) rfl (by kernel_rfl) (by kernel_rfl) (by kernel_rfl) (fun _ _ _ h => h) (Or.inl ⟨by rfl, ?hy33⟩) (by assumption) ?_
      case hy33 => (intro w hSw; (try dsimp only at hSw); go_simp; try with_reducible rfl)
      try simp only [Act.put, List.setIfInBounds_toArray, List.set_cons_zero, List.set_cons_succ, List.getElem_toArray, List.getElem_cons_succ, List.getElem_cons_zero]
      refine wpAnyH_ready (rs := [34]) (by kernel_rfl) (by simp) ?_
      refine AllReadyH.cons rfl (fun K hK => ?_) AllReadyH.nil
      go_simp
      refine hK.out _ _ ?_ (fun hHeld => ?_)
      · exact HK.out _ G4.out
      clear hK K
      try simp only [Act.put, List.setIfInBounds_toArray, List.set_cons_zero, List.set_cons_succ, List.getElem_toArray, List.getElem_cons_succ, List.getElem_cons_zero]
      refine wpAnyH_done (by kernel_rfl) ?_ _
      refine NoPanic.normal ?_
      have P4 : PB w4 b p := HE.out.of (G4.out.block b lb fun h => h)
      have P5 := Lib.hid (P4.sw HP.out HI0.out z3)
      have d0 : (w4.setCell ⟨b, 8 + i0, none⟩ (.int .u32 (z3 : Int))).cell? ⟨b, 8 + i0, none⟩ = some (.int .u32 (z3 : Int)) := cell_lit P5.out (by
        rw [List.getElem?_toArray, pnCells_w (W := p.W.set i0 z3) HP.out.h (by rw [List.length_set]; exact HP.out.W) HI0.out]
        unfold List.getD
        rw [List.getElem?_set_self (by rw [HP.out.W]; exact HI0.out)]; rfl)
      have U5 : Hid (Upd (fun k => k = b) w (w4.setCell ⟨b, 8 + i0, none⟩ (.int .u32 (z3 : Int)))) := Lib.hid (Upd.setCell (S := fun k => k = b) (p := ⟨b, 8 + i0, none⟩) (G4.out.mono fun _ _ h => h.elim) (.inl rfl) _)
      have l5 : b < (w4.setCell ⟨b, 8 + i0, none⟩ (.int .u32 (z3 : Int))).heap.size := P5.out.lt
      clear hk3 h03 G3 hk4 h04 G4 P4 c0 c1 c2 c3 SP7 SP17 HS HK
      go_wp2_with fail
      go_ret
      exact ⟨by rw [HL2.out]; rfl, Lib.hid ⟨by rw [HL2.out]; exact P5.out, U5.out⟩⟩
end Go.Proofs.YtdcjhpafipbpkaaGreatDoor
namespace Go.Proofs.YtdcjhpafipbpkaaGreatDoor
set_option linter.unusedVariables false
set_option maxRecDepth 100000
set_option maxHeartbeats 2000000
open Go.RowKit
theorem idx8_0 (a b c d e f g h : Int) (w : World) : (Instr.index 207 (.agg #[.int .u32 a, .int .u32 b, .int .u32 c, .int .u32 d, .int .u32 e, .int .u32 f, .int .u32 g, .int .u32 h]) (.int .i64 0)).run Tryz.prog w = .ok (.int .u32 a) w := by kernel_rfl
theorem idx8_1 (a b c d e f g h : Int) (w : World) : (Instr.index 207 (.agg #[.int .u32 a, .int .u32 b, .int .u32 c, .int .u32 d, .int .u32 e, .int .u32 f, .int .u32 g, .int .u32 h]) (.int .i64 1)).run Tryz.prog w = .ok (.int .u32 b) w := by kernel_rfl
theorem idx8_2 (a b c d e f g h : Int) (w : World) : (Instr.index 207 (.agg #[.int .u32 a, .int .u32 b, .int .u32 c, .int .u32 d, .int .u32 e, .int .u32 f, .int .u32 g, .int .u32 h]) (.int .i64 2)).run Tryz.prog w = .ok (.int .u32 c) w := by kernel_rfl
theorem idx8_3 (a b c d e f g h : Int) (w : World) : (Instr.index 207 (.agg #[.int .u32 a, .int .u32 b, .int .u32 c, .int .u32 d, .int .u32 e, .int .u32 f, .int .u32 g, .int .u32 h]) (.int .i64 3)).run Tryz.prog w = .ok (.int .u32 d) w := by kernel_rfl
theorem idx8_4 (a b c d e f g h : Int) (w : World) : (Instr.index 207 (.agg #[.int .u32 a, .int .u32 b, .int .u32 c, .int .u32 d, .int .u32 e, .int .u32 f, .int .u32 g, .int .u32 h]) (.int .i64 4)).run Tryz.prog w = .ok (.int .u32 e) w := by kernel_rfl
theorem idx8_5 (a b c d e f g h : Int) (w : World) : (Instr.index 207 (.agg #[.int .u32 a, .int .u32 b, .int .u32 c, .int .u32 d, .int .u32 e, .int .u32 f, .int .u32 g, .int .u32 h]) (.int .i64 5)).run Tryz.prog w = .ok (.int .u32 f) w := by kernel_rfl
theorem idx8_6 (a b c d e f g h : Int) (w : World) : (Instr.index 207 (.agg #[.int .u32 a, .int .u32 b, .int .u32 c, .int .u32 d, .int .u32 e, .int .u32 f, .int .u32 g, .int .u32 h]) (.int .i64 6)).run Tryz.prog w = .ok (.int .u32 g) w := by kernel_rfl
theorem idx8_7 (a b c d e f g h : Int) (w : World) : (Instr.index 207 (.agg #[.int .u32 a, .int .u32 b, .int .u32 c, .int .u32 d, .int .u32 e, .int .u32 f, .int .u32 g, .int .u32 h]) (.int .i64 7)).run Tryz.prog w = .ok (.int .u32 h) w := by kernel_rfl
theorem idx8 (v : V8) (i : Nat) (hi : i < 8) (w : World) : (Instr.index 207 (.agg #[.int .u32 v.a, .int .u32 v.b, .int .u32 v.c, .int .u32 v.d, .int .u32 v.e, .int .u32 v.f, .int .u32 v.g, .int .u32 v.h]) (.int .i64 (i : Int))).run Tryz.prog w = .ok (.int .u32 (v.list.getD i 0 : Nat)) w := by
  have : i = 0 ∨ i = 1 ∨ i = 2 ∨ i = 3 ∨ i = 4 ∨ i = 5 ∨ i = 6 ∨ i = 7 := by omega
  rcases this with rfl | rfl | rfl | rfl | rfl | rfl | rfl | rfl
  · exact idx8_0 _ _ _ _ _ _ _ _ w
  · exact idx8_1 _ _ _ _ _ _ _ _ w
  · exact idx8_2 _ _ _ _ _ _ _ _ w
  · exact idx8_3 _ _ _ _ _ _ _ _ w
  · exact idx8_4 _ _ _ _ _ _ _ _ w
  · exact idx8_5 _ _ _ _ _ _ _ _ w
  · exact idx8_6 _ _ _ _ _ _ _ _ w
  · exact idx8_7 _ _ _ _ _ _ _ _ w
theorem and_lt' {x y : Nat} (hx : x < 4294967296) : x &&& y < 4294967296 := Nat.lt_of_le_of_lt Nat.and_le_left hx
theorem or_lt' {x y : Nat} (hx : x < 4294967296) (hy : y < 4294967296) : x ||| y < 4294967296 := Nat.or_lt_two_pow (n := 32) hx hy
theorem list_lt {v : V8} (h : v.Ok) : All32 v.list := fun x hx => by
  simp only [V8.list, List.mem_cons, List.not_mem_nil, or_false] at hx
  rcases hx with rfl | rfl | rfl | rfl | rfl | rfl | rfl | rfl
  · exact h.a
  · exact h.b
  · exact h.c
  · exact h.d
  · exact h.e
  · exact h.f
  · exact h.g
  · exact h.h
/-- Where the rounds are. -/
def RndAt (w wr : World) (b : Nat) (p : Pn) (i : Nat) (v : V8) (W : List Nat) : Prop := rndN (V8.of p.h) p.W i = (v, W) ∧ PB wr b ⟨p.h, W, p.n⟩ ∧ Upd (fun k => k = b) w wr
theorem RndAt.ok {w wr : World} {b : Nat} {p : Pn} {i : Nat} {v : V8} {W : List Nat} (h : RndAt w wr b p i v W) (hp : p.Wk) : v.Ok ∧ Pn.Wk ⟨p.h, W, p.n⟩ := by
  obtain ⟨h1, h2, h3⟩ := rndN_ok (V8.of_ok hp.h32) hp.W32 i
  rw [h.1] at h1 h2 h3
  exact ⟨h1, hp.h, h3.trans hp.W, hp.h32, h2⟩
theorem RndAt.step {w wr w' : World} {b : Nat} {p : Pn} {i : Nat} {v v' : V8} {W W' : List Nat} (h : RndAt w wr b p i v W) (hv : v.next (kN i) (wAt W i) = v') (hW : wNext W i = W') (hb : PB w' b ⟨p.h, W', p.n⟩) (hu : Upd (fun k => k = b) w w') : RndAt w w' b p (i + 1) v' W' := by
  refine ⟨?_, hb, hu⟩
  show ((rndN (V8.of p.h) p.W i).1.next (kN i) (wAt (rndN (V8.of p.h) p.W i).2 i), wNext (rndN (V8.of p.h) p.W i).2 i) = _
  rw [h.1]
  show (v.next (kN i) (wAt W i), wNext W i) = _
  rw [hv, hW]
theorem stir_c (b : Nat) (p : Pn) (w : World) (hp : p.Wk) (hb : PB w b p) :
    Calls Tryz.prog 167 #[.pointer (some ⟨b, 0, none⟩)] w fun e w' => e = .returned (.tuple #[]) ∧ Hid (PB w' b p.stir ∧ Upd (fun k => k = b) w w') := by
  have c0 := hb.ch hp (show 0 < 8 by decide)
  have c1 := hb.ch hp (show 1 < 8 by decide)
  have c2 := hb.ch hp (show 2 < 8 by decide)
  have c3 := hb.ch hp (show 3 < 8 by decide)
  have c4 := hb.ch hp (show 4 < 8 by decide)
  have c5 := hb.ch hp (show 5 < 8 by decide)
  have c6 := hb.ch hp (show 6 < 8 by decide)
  have c7 := hb.ch hp (show 7 < 8 by decide)
  have HP := Lib.hid hp
  have R0 : Hid (∀ n, RndAt w (w.drewN n) b p 0 (V8.of p.h) p.W) := Lib.hid fun n => ⟨rfl, hb.of rfl, (Upd.refl _ _).drewN' n⟩
  obtain ⟨v0, hv0⟩ : ∃ v, V8.of p.h = v := ⟨_, rfl⟩
  rw [show p.h.getD 0 0 = v0.a by rw [← hv0]; rfl] at c0
  rw [show p.h.getD 1 0 = v0.b by rw [← hv0]; rfl] at c1
  rw [show p.h.getD 2 0 = v0.c by rw [← hv0]; rfl] at c2
  rw [show p.h.getD 3 0 = v0.d by rw [← hv0]; rfl] at c3
  rw [show p.h.getD 4 0 = v0.e by rw [← hv0]; rfl] at c4
  rw [show p.h.getD 5 0 = v0.f by rw [← hv0]; rfl] at c5
  rw [show p.h.getD 6 0 = v0.g by rw [← hv0]; rfl] at c6
  rw [show p.h.getD 7 0 = v0.h by rw [← hv0]; rfl] at c7
  rw [hv0] at R0
  clear hp hb hv0
  go_enter Tryz.func167, Tryz.ntmps167
  go_wp2_with fail
  go_quiet (fail)
  have R1 := Lib.hid (R0.out nq)
  generalize w.drewN nq = wq at *
  go_wp2_with fail
  go_loopg [2, 3, 4, 5, 6, 7, 8, 9, 10, 11, 12, 13, 56] 64 (fun g s2 s3 s4 s5 s6 s7 s8 s9 s10 s11 s12 s13 s56 wr => ∃ (i : Nat) (v : V8) (W : List Nat), g = 64 - i ∧ i ≤ 64 ∧ s56 = .int .i64 (i : Int) ∧ s2 = .int .u32 (v.a : Int) ∧ s3 = .int .u32 (v.b : Int) ∧ s4 = .int .u32 (v.c : Int) ∧ s5 = .int .u32 (v.d : Int) ∧ s6 = .int .u32 (v.e : Int) ∧ s7 = .int .u32 (v.f : Int) ∧ s8 = .int .u32 (v.g : Int) ∧ s9 = .int .u32 (v.h : Int) ∧ Hid (RndAt w wr b p i v W))
  case atStart => exact ⟨0, v0, p.W, rfl, Nat.zero_le _, rfl, rfl, rfl, rfl, rfl, rfl, rfl, rfl, rfl, R1⟩
  case round =>
    obtain ⟨i, v, W, rfl, hi, rfl, rfl, rfl, rfl, rfl, rfl, rfl, rfl, rfl, HR⟩ := hrel
    clear R0 R1 c0 c1 c2 c3 c4 c5 c6 c7
    by_cases hlt : i < 64
    · obtain ⟨hv, hpw⟩ := HR.out.ok HP.out
      have hPB := HR.out.2.1
      have cw := hPB.cw hpw (show i % 16 < 16 by omega)
      simp only at cw
      have LT : Hid (16 ≤ i → Calls Tryz.prog 207 #[.pointer (some ⟨b, 0, none⟩), .int .i64 (i : Int)] wr fun e w' => e = .returned (.int .u32 (wAt W i : Nat)) ∧ Hid (PB w' b ⟨p.h, wNext W i, p.n⟩ ∧ Upd (fun k => k = b) w w')) := Lib.hid fun h16 => by
        refine (later_c b ⟨p.h, W, p.n⟩ i wr hpw hPB (by omega)).mono ?_
        rintro e w' ⟨rfl, hE⟩
        refine ⟨?_, Lib.hid ⟨?_, HR.out.2.2.trans hE.out.2⟩⟩
        · unfold wAt; rw [if_neg (by omega)]
        · unfold wNext; rw [if_neg (by omega)]; exact hE.out.1
      have HW16 : Hid (i < 16 → wAt W i = W.getD (i % 16) 0 ∧ wNext W i = W) := Lib.hid fun h => ⟨by unfold wAt; rw [if_pos h], by unfold wNext; rw [if_pos h]⟩
      have lw := wAt_lt hpw.W32 i
      simp only at lw
      obtain ⟨j, hj⟩ : ∃ j, i % 16 = j := ⟨_, rfl⟩
      have kj : (j : Int) < 16 := by omega
      have ej : (i : Int) % 16 = (j : Int) := by omega
      rw [hj] at cw HW16
      have HN : Hid (v.next (kN i) (wAt W i) = ⟨add32 (v.up (kN i) (wAt W i)) v.over, v.a, v.b, v.c, add32 v.d (v.up (kN i) (wAt W i)), v.e, v.f, v.g⟩) := Lib.hid rfl
      have HU : Hid (v.up (kN i) (wAt W i) = add32 (add32 (add32 (add32 v.h (great v.e 6 11 25)) (v.g ^^^ (v.e &&& (v.f ^^^ v.g)))) (kN i)) (wAt W i)) := Lib.hid rfl
      have HO : Hid (v.over = add32 (great v.a 2 13 22) ((v.a &&& v.b) ||| (v.c &&& (v.a ||| v.b)))) := Lib.hid rfl
      have T6 := fun W => turned_6 v.e W hv.e
      have T2 := fun W => turned_2 v.a W hv.a
      have KC := fun W => k_c i hlt W
      have t1 := u32_xor_nat v.f v.g hv.f hv.g
      have l1 := xor_lt hv.f hv.g
      have t2 := u32_and_nat v.e (v.f ^^^ v.g) hv.e l1
      have l2 := and_lt' (y := v.f ^^^ v.g) hv.e
      have t3 := u32_xor_nat v.g (v.e &&& (v.f ^^^ v.g)) hv.g l2
      have t4 := u32_and_nat v.a v.b hv.a hv.b
      have l4 := and_lt' (y := v.b) hv.a
      have t5 := u32_or_nat v.a v.b hv.a hv.b
      have l5 := or_lt' hv.a hv.b
      have t6 := u32_and_nat v.c (v.a ||| v.b) hv.c l5
      have l6 := and_lt' (y := v.a ||| v.b) hv.c
      have t7 := u32_or_nat _ _ l4 l6
      have s1 := add32_cast v.h (great v.e 6 11 25)
      have s2 := add32_cast (add32 v.h (great v.e 6 11 25)) (v.g ^^^ (v.e &&& (v.f ^^^ v.g)))
      have s3 := add32_cast (add32 (add32 v.h (great v.e 6 11 25)) (v.g ^^^ (v.e &&& (v.f ^^^ v.g)))) (kN i)
      have s4 := add32_cast (add32 (add32 (add32 v.h (great v.e 6 11 25)) (v.g ^^^ (v.e &&& (v.f ^^^ v.g)))) (kN i)) (wAt W i)
      have s5 := add32_cast (great v.a 2 13 22) ((v.a &&& v.b) ||| (v.c &&& (v.a ||| v.b)))
      have s6 := add32_cast v.d (v.up (kN i) (wAt W i))
      have s7 := add32_cast (v.up (kN i) (wAt W i)) v.over
      rw [← HU.out] at s4
      rw [← HO.out] at s5
      have HLT := Lib.hid hlt
      have HST : Hid (∀ w', PB w' b ⟨p.h, wNext W i, p.n⟩ → Upd (fun k => k = b) w w' → RndAt w w' b p (i + 1) (v.next (kN i) (wAt W i)) (wNext W i)) := Lib.hid fun w' h1 h2 => HR.out.step rfl rfl h1 h2
      have H0 : Hid (wNext W i = W → PB wr b ⟨p.h, wNext W i, p.n⟩ ∧ Upd (fun k => k = b) w wr) := Lib.hid fun h => by rw [h]; exact ⟨HR.out.2.1, HR.out.2.2⟩
      rw [HN.out] at HST
      clear hv hpw hPB hj l1 l2 l4 l5 l6 lw HU HO HN HR hi
      generalize v.up (kN i) (wAt W i) = up at *
      generalize v.over = over at *
      generalize great v.e 6 11 25 = g6 at *
      generalize great v.a 2 13 22 = g2 at *
      generalize v.g ^^^ (v.e &&& (v.f ^^^ v.g)) = x3 at *
      generalize v.e &&& (v.f ^^^ v.g) = x2 at *
      generalize v.f ^^^ v.g = x1 at *
      generalize (v.a &&& v.b) ||| (v.c &&& (v.a ||| v.b)) = y4 at *
      generalize v.c &&& (v.a ||| v.b) = y3 at *
      generalize v.a ||| v.b = y2 at *
      generalize v.a &&& v.b = y1 at *
      generalize add32 v.h g6 = z1 at *
      generalize add32 z1 x3 = z2 at *
      generalize kN i = kk at *
      generalize add32 z2 kk = z3 at *
      generalize add32 v.d up = nd at *
      generalize add32 up over = na at *
      by_cases h16 : i < 16
      · obtain ⟨e1, e2⟩ := HW16.out h16
        obtain ⟨p1, p2⟩ := H0.out e2
        have HF := Lib.hid (HST.out _ p1 p2)
        have hq : ¬ (15 : Int) < (i : Int) := by omega
        rw [e1] at s4
        clear e1 e2 p1 p2 h16 hlt HW16 H0 HST LT
        generalize W.getD j 0 = xw at *
        go_wp2_with fail
        refine (T6 _).mono ?_
        rintro e wa ⟨rfl, rfl⟩
        go_wp2_with fail
        refine (KC _).mono ?_
        rintro e wa ⟨rfl, rfl⟩
        go_wp2_with fail
        refine (T2 _).mono ?_
        rintro e wa ⟨rfl, rfl⟩
        go_wp2_with fail
        go_roundg (64 - (i + 1))
        case measure => have := HLT.out; omega
        case rel => exact ⟨i + 1, _, _, rfl, HLT.out, by congr 1, by first | rfl | exact congrArg (Value.int IntKind.u32) s7, rfl, rfl, rfl, by first | rfl | exact congrArg (Value.int IntKind.u32) s6, rfl, rfl, rfl, HF⟩
      · have hl64 : (i : Int) < 64 := by omega
        have hq : (15 : Int) < (i : Int) := by omega
        have LTw := LT.out (by omega)
        clear h16 hlt HW16 H0 LT
        generalize W.getD j 0 = xw at *
        generalize wAt W i = xv at *
        go_wp2_with fail
        refine LTw.mono ?_
        rintro e wa ⟨rfl, hE⟩
        have HF := Lib.hid (HST.out _ hE.out.1 hE.out.2)
        clear hE LTw cw
        go_wp2_with fail
        refine (T6 _).mono ?_
        rintro e wb ⟨rfl, rfl⟩
        go_wp2_with fail
        refine (KC _).mono ?_
        rintro e wb ⟨rfl, rfl⟩
        go_wp2_with fail
        refine (T2 _).mono ?_
        rintro e wb ⟨rfl, rfl⟩
        go_wp2_with fail
        go_roundg (64 - (i + 1))
        case measure => have := HLT.out; omega
        case rel => exact ⟨i + 1, _, _, rfl, HLT.out, by congr 1, by first | rfl | exact congrArg (Value.int IntKind.u32) s7, rfl, rfl, rfl, by first | rfl | exact congrArg (Value.int IntKind.u32) s6, rfl, rfl, rfl, HF⟩
    · obtain rfl : i = 64 := by omega
      obtain ⟨hv, hpw⟩ := HR.out.ok HP.out
      have HLV := Lib.hid (list_lt hv)
      have IX := fun (j : Nat) (hj : j < 8) W => idx8 v j hj W
      obtain ⟨l, hl⟩ : ∃ l, v.list = l := ⟨_, rfl⟩
      have HW : Hid (W.length = 16 ∧ All32 W) := Lib.hid ⟨hpw.W, hpw.W32⟩
      have HST : Hid (p.stir = ⟨addTo p.h l 8, W, p.n⟩) := Lib.hid (by
        show (⟨addTo p.h (rndN (V8.of p.h) p.W 64).1.list 8, (rndN (V8.of p.h) p.W 64).2, p.n⟩ : Pn) = _
        rw [HR.out.1, hl])
      rw [hl] at IX HLV
      have Q0 : Hid (PB wr b ⟨addTo p.h l 0, W, p.n⟩ ∧ Upd (fun k => k = b) w wr) := Lib.hid ⟨HR.out.2.1, HR.out.2.2⟩
      have HIX := Lib.hid IX
      clear hv hpw HR hlt hi hl IX
      generalize v.a = va at *
      generalize v.b = vb at *
      generalize v.c = vc at *
      generalize v.d = vd at *
      generalize v.e = ve at *
      generalize v.f = vf at *
      generalize v.g = vg at *
      generalize v.h = vh at *
      go_wp2_with fail
      go_loopg [14, 15, 122] 8 (fun g s14 s15 s122 wr => ∃ (j : Nat), g = 8 - j ∧ j ≤ 8 ∧ s122 = .int .i64 (j : Int) ∧ Hid (PB wr b ⟨addTo p.h l j, W, p.n⟩ ∧ Upd (fun k => k = b) w wr))
      case atStart => exact ⟨0, rfl, Nat.zero_le _, rfl, Q0⟩
      case round =>
        obtain ⟨j, rfl, hj, rfl, HQ⟩ := hrel
        clear Q0
        by_cases hlt : j < 8
        · have hok : Pn.Wk ⟨addTo p.h l j, W, p.n⟩ := ⟨(addTo_len _ _ _).trans HP.out.h, HW.out.1, addTo_32 HP.out.h32 _ _, HW.out.2⟩
          have cj := HQ.out.1.ch hok hlt
          simp only at cj
          rw [addTo_get p.h l j j (Nat.le_refl _)] at cj
          have fz := HQ.out.1.frozen j
          have lb := HQ.out.1.lt
          have ix := HIX.out j hlt
          have hj8 : (j : Int) < 8 := by omega
          have s1 := add32_cast (p.h.getD j 0) (l.getD j 0)
          have HN : Hid (∀ n, PB ((wr.drewN n).setCell ⟨b, j, none⟩ (.int .u32 (add32 (p.h.getD j 0) (l.getD j 0) : Nat))) b ⟨addTo p.h l (j + 1), W, p.n⟩ ∧ Upd (fun k => k = b) w ((wr.drewN n).setCell ⟨b, j, none⟩ (.int .u32 (add32 (p.h.getD j 0) (l.getD j 0) : Nat)))) := Lib.hid fun n => ⟨(HQ.out.1.of (w' := wr.drewN n) rfl).sh hok hlt _, Upd.setCell (S := fun k => k = b) (p := ⟨b, j, none⟩) (HQ.out.2.drewN' n) (.inl rfl) _⟩
          have HLT := Lib.hid hlt
          clear hok hlt hj HQ
          generalize p.h.getD j 0 = x0 at *
          generalize l.getD j 0 = x1 at *
          generalize add32 x0 x1 = x2 at *
          go_wp2_with fail
          go_region
          all_goals go_wp2_with fail
          all_goals go_roundg (8 - (j + 1))
          all_goals (first
            | (case measure => have := HLT.out; omega)
            | (case rel => exact ⟨j + 1, rfl, HLT.out, by congr 1, Lib.hid (HN.out _)⟩)
            | (case rel => exact ⟨j + 1, rfl, HLT.out, by congr 1, Lib.hid (HN.out 1)⟩))
        · obtain rfl : j = 8 := by omega
          have HG : Hid (PB wr b p.stir ∧ Upd (fun k => k = b) w wr) := Lib.hid (by rw [HST.out]; exact HQ.out)
          clear hlt hj HQ
          go_wp2_with fail
          go_end0
          exact ⟨rfl, HG⟩
end Go.Proofs.YtdcjhpafipbpkaaGreatDoor
namespace Go.Proofs.YtdcjhpafipbpkaaGreatDoor
set_option linter.unusedVariables false
set_option maxRecDepth 100000
set_option maxHeartbeats 2000000
open Go.RowKit
theorem Pn.zero_wk {q : Pn} (h : q.zero.Ok) : q.Wk := ⟨h.h, h.W, h.h32, h.W32⟩
theorem Pn.stir_wk {p : Pn} (h : p.Wk) : p.stir.Wk := Pn.zero_wk (Pn.stir_ok h.h h.W h.h32 h.W32)
theorem pput_c (b : Nat) (p : Pn) (c : Nat) (w : World) (hp : p.Ok) (hc : c < 256) (hb : PB w b p) :
    Calls Tryz.prog 116 #[.pointer (some ⟨b, 0, none⟩), .int .u8 (c : Int)] w fun e w' => e = .returned (.tuple #[]) ∧ Hid (PB w' b (p.put c) ∧ Upd (fun k => k = b) w w') := by
  obtain ⟨q, hq⟩ : ∃ q, p.n / 4 = q := ⟨_, rfl⟩
  have hn := hp.n
  have hq16 : q < 16 := by omega
  have cn := hb.cn hp.wk
  have hx := more8_or (p.W.getD q 0) c hc
  have hxl := more8_lt (p.W.getD q 0) hc
  have hv := u32_or_nat (p.W.getD q 0 * 256 % 4294967296) c (Nat.mod_lt _ (by decide)) (by omega)
  rw [hx] at hv
  rw [show ((p.W.getD q 0 * 256 % 4294967296 : Nat) : Int) = ((p.W.getD q 0 : Nat) : Int) * 256 % 4294967296 from rfl] at hv
  have ec : (c : Int) % 4294967296 = (c : Int) := by omega
  have eq4 : (p.n : Int) / 4 = (q : Int) := by omega
  have kq : (q : Int) < 16 := by omega
  have kn : IntKind.i64.wrap ((p.n : Int) + 1) = (p.n : Int) + 1 := by simp [IntKind.wrap, IntKind.bits, IntKind.signed]; omega
  have HFW : Hid ((p.fed c).Wk) := Lib.hid (Pn.fed_wk hp hc)
  have HF : Hid (p.fed c = ⟨p.h, p.W.set q (more8 (p.W.getD q 0) c), p.n + 1⟩) := Lib.hid (by unfold Pn.fed; rw [hq])
  have HPUT : Hid (p.put c = if p.n + 1 = 64 then (p.fed c).stir.zero else p.fed c) := Lib.hid rfl
  have HP := Lib.hid hp.wk
  have HQ := Lib.hid hq16
  have P0 : Hid (∀ n, PB (w.drewN n) b p ∧ Upd (fun k => k = b) w (w.drewN n)) := Lib.hid fun n => ⟨hb.of (w' := w.drewN n) rfl, (Upd.refl _ _).drewN' n⟩
  have lb := hb.lt
  have hnn : Hid (p.n < 64) := Lib.hid hn
  clear hp hc hb hx hn hq hq16
  go_enter Tryz.func116, Tryz.ntmps116
  go_wp2_with fail
  go_quiet (fail)
  have P1 := Lib.hid (P0.out nq)
  generalize w.drewN nq = w0 at *
  obtain ⟨w1, hw1⟩ : ∃ w1, w0.setCell ⟨b, 8 + q, none⟩ (.int .u32 (more8 (p.W.getD q 0) c : Nat)) = w1 := ⟨_, rfl⟩
  obtain ⟨w2, hw2⟩ : ∃ w2, w1.setCell ⟨b, 24, none⟩ (.int .i64 ((p.n : Int) + 1)) = w2 := ⟨_, rfl⟩
  have Q1 : PB w1 b ⟨p.h, p.W.set q (more8 (p.W.getD q 0) c), p.n⟩ := by rw [← hw1]; exact P1.out.1.sw HP.out HQ.out _
  have W1 : Pn.Wk ⟨p.h, p.W.set q (more8 (p.W.getD q 0) c), p.n⟩ := ⟨HP.out.h, by rw [List.length_set]; exact HP.out.W, HP.out.h32, HP.out.W32.set _ hxl⟩
  have Q2 : PB w2 b (p.fed c) := by
    rw [← hw2, HF.out]
    have := Q1.sn W1 (p.n + 1)
    simpa using this
  have U2 : Hid (Upd (fun k => k = b) w w2) := Lib.hid (by
    rw [← hw2, ← hw1]
    exact Upd.setCell (p := ⟨b, 24, none⟩) (Upd.setCell (p := ⟨b, 8 + q, none⟩) P1.out.2 (.inl rfl) _) (.inl rfl) _)
  have d0 := P1.out.1.cw HP.out HQ.out
  have f0 := P1.out.1.frozen (8 + q)
  have l0 := P1.out.1.lt
  have d1 : w1.cell? ⟨b, 24, none⟩ = some (.int .i64 (p.n : Int)) := Q1.cn W1
  have f1 := Q1.frozen 24
  have l1 := Q1.lt
  have d2 : w2.cell? ⟨b, 24, none⟩ = some (.int .i64 ((p.n : Int) + 1)) := by
    have := Q2.cn HFW.out
    rw [HF.out] at this
    simpa using this
  have f2 := Q2.frozen 24
  have l2 := Q2.lt
  have HQ2 := Lib.hid Q2
  have ST := stir_c b (p.fed c) w2 HFW.out Q2
  clear Q1 W1 Q2 P1 P0 hxl cn lb
  generalize more8 (p.W.getD q 0) c = xv at *
  generalize p.W.getD q 0 = x0 at *
  by_cases h64 : p.n + 1 = 64
  · have hk : ((p.n : Int) + 1 == 64) = true := by simp; omega
    have hk2 : (p.n : Int) + 1 = 64 := by omega
    rw [hk2] at hw2 d2 hk kn
    rw [if_pos h64] at HPUT
    have SW : Hid ((p.fed c).stir.Wk) := Lib.hid (Pn.stir_wk HFW.out)
    clear h64 HF HFW HQ2
    generalize (p.fed c).stir = ps at *
    go_wp2_with fail
    refine ST.mono ?_
    rintro e w3 ⟨rfl, hE⟩
    have f3 := hE.out.1.frozen 24
    have l3 := hE.out.1.lt
    have HG : Hid (PB (w3.setCell ⟨b, 24, none⟩ (.int .i64 0)) b (p.put c) ∧ Upd (fun k => k = b) w (w3.setCell ⟨b, 24, none⟩ (.int .i64 0))) := Lib.hid ⟨by rw [HPUT.out]; exact hE.out.1.sn SW.out 0, Upd.setCell (S := fun k => k = b) (p := ⟨b, 24, none⟩) (U2.out.trans hE.out.2) (.inl rfl) _⟩
    have d3 : ∃ v, w3.cell? ⟨b, 24, none⟩ = some v := ⟨_, hE.out.1.cn SW.out⟩
    obtain ⟨v3, d3⟩ := d3
    clear ST hE HPUT U2
    go_wp2_with fail
    go_end0
    exact ⟨rfl, HG⟩
  · have hk : ((p.n : Int) + 1 == 64) = false := by simp; omega
    rw [if_neg h64] at HPUT
    have HG : Hid (PB w2 b (p.put c) ∧ Upd (fun k => k = b) w w2) := Lib.hid ⟨by rw [HPUT.out]; exact HQ2.out, U2.out⟩
    clear h64 ST HQ2 U2 HPUT HF HFW
    go_wp2_with fail
    go_end0
    exact ⟨rfl, HG⟩
end Go.Proofs.YtdcjhpafipbpkaaGreatDoor
