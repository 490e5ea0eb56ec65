/- the reference's Hex and Raw: walks. -/
import Derived.Test.YtoblhikablbapaaDoorTokD
namespace Go.Proofs.YtoblhikablbapaaDoor
set_option linter.unusedVariables false
set_option maxRecDepth 100000
set_option maxHeartbeats 1000000
open Go.RowKit
theorem run_one_byte (c : Int) (w : World) : (convert 62 9 (.slice (some ⟨w.heap.size, 0, none⟩) 1 1)).run Tryd.prog (w.alloc (.cells #[.int .u8 c] 5)) = .ok (.string (strOfNums [c])) (w.alloc (.cells #[.int .u8 c] 5)) := by
  refine run_convert_bytes_arg _ 62 5 Tryd.underlying62 Tryd.underlying5 w.heap.size 0 1 1 [c] rfl (fun i hi => ?_) 9 Tryd.underlying9
  obtain rfl : i = 0 := by omega
  exact cell_lit (heap_alloc_new _ _) rfl
def RRRel (w : World) (s : ByteArray) (g : Nat) (s4 s5 : Value) (wr : World) : Prop :=
  ∃ k p, g = s.size - k ∧ 2 * k ≤ s.size ∧ s5 = .int .i64 (2 * (k : Int)) ∧ rawL (s.data.toList.take (2 * k)) = some p ∧ p.length = k ∧ s4 = .string ⟨p.toArray⟩ ∧ Below w.heap.size w wr
theorem valV_some {c : UInt8} (h : (valC c).isSome = true) : valV c = (numV c : Int) := by
  obtain ⟨a, ha⟩ := Option.isSome_iff_exists.1 h
  unfold valV numV
  rw [ha]; rfl
theorem valV_none {c : UInt8} (h : (valC c).isSome = false) : valV c = -1 := by
  rw [Option.isSome_eq_false_iff, Option.isNone_iff_eq_none] at h
  unfold valV
  rw [h]; rfl
theorem RRaw_c (s : ByteArray) (w : World) (hs : s.size ≤ 1000000) :
    Calls Tryd.prog 72 #[.string s] w fun e w' => e = .returned (rawV (rawL s.data.toList)) ∧ Below w.heap.size w w' := by
  have HR0 : Hid (RRRel w s s.size (.string ⟨#[]⟩) (.int .i64 0) w) := Lib.hid ⟨0, [], rfl, Nat.zero_le _, rfl, rfl, rfl, rfl, Below.refl _ _⟩
  go_enter Tryd.func72, Tryd.ntmps72
  go_wp2_with fail
  go_loopg [4, 5] s.size (fun g s4 s5 wr => RRRel w s g s4 s5 wr)
  case atStart => exact HR0.out
  case round =>
    obtain ⟨k, p, rfl, hk, rfl, hp, rfl, rfl, hb⟩ := hrel
    clear HR0
    have HB := Lib.hid hb
    have HP := Lib.hid hp
    clear hb hp
    have hpl : p.length ≤ 500000 := by omega
    obtain ⟨z, hz⟩ : ∃ z : ByteArray, (⟨p.toArray⟩ : ByteArray) = z := ⟨_, rfl⟩
    have hzs : z.size = p.length := by rw [← hz, size_mk]
    rw [hz]
    by_cases hlt : 2 * p.length + 1 < s.size
    · obtain ⟨x, y, hx, hy, ht, r, hsr⟩ := pair_at (s := s) (k := p.length) hlt
      have HRW := Lib.hid (show rawL s.data.toList = (rawL (x :: y :: r)).map (p ++ ·) by rw [hsr]; exact raw_split _ _ _ HP.out)
      have HTK := Lib.hid (show rawL (s.data.toList.take (2 * (p.length + 1))) = (rawL [x, y]).map (p ++ ·) by rw [ht]; exact raw_split _ _ _ HP.out)
      have i1 : ∀ w, (Instr.index 9 (.string s) (.int .i64 (2 * (p.length : Int)))).run Tryd.prog w = .ok (.int .u8 (x.toNat : Int)) w := fun w => by
        have := run_index_str (P := Tryd.prog) 9 s (2 * p.length) x Tryd.underlying9 hx w
        rwa [show ((2 * p.length : Nat) : Int) = 2 * (p.length : Int) by omega] at this
      have i2 : ∀ w, (Instr.index 9 (.string s) (.int .i64 (2 * (p.length : Int) + 1))).run Tryd.prog w = .ok (.int .u8 (y.toNat : Int)) w := fun w => by
        have := run_index_str (P := Tryd.prog) 9 s (2 * p.length + 1) y Tryd.underlying9 hy w
        rwa [show ((2 * p.length + 1 : Nat) : Int) = 2 * (p.length : Int) + 1 by omega] at this
      have hne : ((2 * (p.length : Int) + 1) == (s.size : Int)) = false := by simp; omega
      have N1 := Lib.hid (fun w => Value_c x w)
      have N2 := Lib.hid (fun w => Value_c y w)
      have l1 := numV_lt x
      have l2 := numV_lt y
      have HZ := Lib.hid hz
      clear hx hy ht hsr hz
      cases hvx : (valC x).isSome
      · have HN := Lib.hid (show rawL s.data.toList = none by rw [HRW.out, rawL_two, raw2_no (.inl hvx)]; rfl)
        rw [valV_none hvx] at N1
        clear hvx
        generalize valV y = q at *
        go_wp2_with fail
        refine (N1.out _).mono ?_
        rintro e w2 ⟨rfl, rfl⟩
        go_wp2_with fail
        refine (N2.out _).mono ?_
        rintro e w3 ⟨rfl, rfl⟩
        go_wp2_with fail
        go_ret2
        exact ⟨by rw [rawV_none HN.out]; rfl, HB.out⟩
      cases hvy : (valC y).isSome
      · have HN := Lib.hid (show rawL s.data.toList = none by rw [HRW.out, rawL_two, raw2_no (.inr hvy)]; rfl)
        rw [valV_some hvx] at N1
        rw [valV_none hvy] at N2
        clear hvx hvy
        generalize numV x = a at *
        have hna : decide ((a : Int) < 0) = false := by simp
        go_wp2_with fail
        refine (N1.out _).mono ?_
        rintro e w2 ⟨rfl, rfl⟩
        go_wp2_with fail
        refine (N2.out _).mono ?_
        rintro e w3 ⟨rfl, rfl⟩
        go_wp2_with fail
        go_ret2
        exact ⟨by rw [rawV_none HN.out]; rfl, HB.out⟩
      · have hc2 := raw2_num hvx hvy
        have HTK2 := Lib.hid (show rawL (s.data.toList.take (2 * (p.length + 1))) = some (p ++ [UInt8.ofNat (16 * numV x + numV y)]) by rw [HTK.out, rawL_two, hc2]; rfl)
        have HCV := Lib.hid (show strOfNums [16 * (numV x : Int) + (numV y : Int)] = ⟨#[UInt8.ofNat (16 * numV x + numV y)]⟩ by
          rw [show (16 * (numV x : Int) + (numV y : Int)) = ((UInt8.ofNat (16 * numV x + numV y)).toNat : Int) by rw [UInt8.toNat_ofNat']; omega]
          exact strOne _)
        rw [valV_some hvx] at N1
        rw [valV_some hvy] at N2
        clear hvx hvy hc2
        generalize UInt8.ofNat (16 * numV x + numV y) = c at *
        generalize numV x = a at *
        generalize numV y = b at *
        have hna : decide ((a : Int) < 0) = false := by simp
        have hnb : decide ((b : Int) < 0) = false := by simp
        have hone := fun z => run_one_byte z wr
        have hsz : ∀ q : Int, (strOfNums [q]).size = 1 := fun q => rfl
        have ha1 : ∀ q : Int, (z.size + (strOfNums [q]).size > 9223372036854775807) = False := fun q => eq_false (by rw [hsz]; omega)
        have ha2 : ∀ q : Int, (9223372036854775807 < z.size + (strOfNums [q]).size) = False := fun q => eq_false (by rw [hsz]; omega)
        go_wp2_with fail
        refine (N1.out _).mono ?_
        rintro e w2 ⟨rfl, rfl⟩
        go_wp2_with fail
        refine (N2.out _).mono ?_
        rintro e w3 ⟨rfl, rfl⟩
        go_wp2_with fail
        trace_state
        go_roundg (s.size - (p.length + 1))
        case measure => omega
        case rel =>
          refine ⟨p.length + 1, p ++ [c], rfl, by omega, by simp; omega, HTK2.out, by simp, ?_, (HB.out).alloc (HB.out).size _⟩
          rw [HCV.out, ← HZ.out]
          rw [cat_mk p [c]]
    · by_cases hl2 : 2 * p.length + 1 = s.size
      · have HN := Lib.hid (show rawL s.data.toList = none by
          cases h : rawL s.data.toList with
          | none => rfl
          | some q => have := raw_even _ _ h; rw [← Lib.size_eq] at this; omega)
        have hne : ((2 * (p.length : Int) + 1) == (s.size : Int)) = true := by simp; omega
        have hnl : decide (2 * (p.length : Int) < (s.size : Int)) = true := by simp; omega
        clear hz hzs
        go_wp2_with fail
        go_ret2
        exact ⟨by rw [rawV_none HN.out]; rfl, HB.out⟩
      · have HE := Lib.hid (show rawL s.data.toList = some p by
          have := HP.out
          rwa [show 2 * p.length = s.size by omega, Lib.size_eq, List.take_length] at this)
        have HZ := Lib.hid hz
        have hnl : decide (2 * (p.length : Int) < (s.size : Int)) = false := by simp; omega
        clear hz hzs hl2 hlt
        go_wp2_with fail
        go_ret2
        exact ⟨by rw [rawV_some HE.out, HZ.out]; rfl, HB.out⟩
end Go.Proofs.YtoblhikablbapaaDoor
