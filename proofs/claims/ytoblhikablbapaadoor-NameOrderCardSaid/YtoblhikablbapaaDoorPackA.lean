/- pack: width, number, told: walks. -/
import Derived.Test.YtoblhikablbapaaDoorBuilder
import Derived.Test.YtoblhikablbapaaDoorBase
import Derived.WalkSpells
import Derived.WalkLawsBesides
import Derived.Deep.LoopGhost
import Derived.Deep.RegionHeld3
import Derived.Deep.AppendLies
import Derived.Deep.DrawnRows
namespace Go.Proofs.YtoblhikablbapaaDoor
set_option linter.unusedVariables false
open Go.RowKit

def widthB (c : Int) : Int := if c = 110 then 8 else if c = 104 then 4 else if c = 98 then 1 else 0
theorem width_c (c : Int) (w : World) : Calls Tryd.prog 53 #[.int .u8 c] w fun e w' => e = .returned (.int .i64 (widthB c)) ∧ w = w' := by
  by_cases h1 : c = 110
  · subst h1
    go_enter Tryd.func53, Tryd.ntmps53
    go_wp2
    go_ret
    exact ⟨rfl, rfl⟩
  · by_cases h2 : c = 104
    · subst h2
      go_enter Tryd.func53, Tryd.ntmps53
      go_wp2
      go_ret
      exact ⟨rfl, rfl⟩
    · by_cases h3 : c = 98
      · subst h3
        go_enter Tryd.func53, Tryd.ntmps53
        go_wp2
        go_ret
        exact ⟨rfl, rfl⟩
      · have q1 : (c == 110) = false := by simpa using h1
        have q2 : (c == 104) = false := by simpa using h2
        have q3 : (c == 98) = false := by simpa using h3
        have e : widthB c = 0 := by simp [widthB, h1, h2, h3]
        rw [e]
        clear h1 h2 h3 e
        go_enter Tryd.func53, Tryd.ntmps53
        go_wp2
        go_ret
        exact ⟨rfl, rfl⟩

/-- The builder of a call: block b, the bytes l so far. -/
def Bld (B b : Nat) (l : List UInt8) (w : World) : Prop := Lib.IsBuilderF 64 5 B b (Lib.byteCells l) w
/-- Big-endian bytes of a number. -/
def be : Nat → Nat → List UInt8
  | _, 0 => []
  | n, w + 1 => UInt8.ofNat (n / 256 ^ w % 256) :: be n w
theorem be_length (n w : Nat) : (be n w).length = w := by induction w with
  | zero => rfl
  | succ w ih => simp [be, ih]
theorem be_get (n w i : Nat) (h : i < w) : (be n w)[i]? = some (UInt8.ofNat (n / 256 ^ (w - 1 - i) % 256)) := by
  induction w generalizing i with
  | zero => omega
  | succ w ih =>
    cases i with
    | zero => simp [be]
    | succ i =>
      simp only [be, List.getElem?_cons_succ]
      rw [ih i (by omega)]
      congr 5
      omega
theorem be_step (n w g : Nat) (h0 : 1 ≤ g) (h1 : g ≤ w) : (be n w).take (w - (g - 1)) = (be n w).take (w - g) ++ [UInt8.ofNat (n / 256 ^ (g - 1) % 256)] := by
  have e : w - (g - 1) = (w - g) + 1 := by omega
  rw [e, List.take_add_one, be_get _ _ _ (by omega)]
  simp only [Option.toList_some]
  rw [show w - 1 - (w - g) = g - 1 by omega]
theorem byteCells_snoc (l : List UInt8) (c : UInt8) : Lib.byteCells (l ++ [c]) = Lib.byteCells l ++ [.int .u8 c.toNat] := by simp [Lib.byteCells]
theorem byteCells_length (l : List UInt8) : (Lib.byteCells l).length = l.length := by simp [Lib.byteCells]
theorem pow256 (k : Nat) : 2 ^ (8 * k) = 256 ^ k := by rw [Nat.pow_mul]
theorem byteOf (n k : Nat) : (((UInt8.ofNat (n / 256 ^ k % 256)).toNat : Nat) : Int) = (n : Int) / 2 ^ (8 * k) % 256 := by
  have h : (UInt8.ofNat (n / 256 ^ k % 256)).toNat = n / 256 ^ k % 256 := by
    rw [UInt8.toNat_ofNat']; exact Nat.mod_eq_of_lt (Nat.mod_lt _ (by decide))
  rw [h]
  have : (2 : Int) ^ (8 * k) = ((256 ^ k : Nat) : Int) := by rw [← pow256]; simp
  rw [this]; simp
theorem Bld.of {B b : Nat} {l : List UInt8} {w : World} (h : Lib.BuilderAtF 64 5 B b (.pointer (some ⟨b, 0, none⟩)) (Lib.byteCells l) w) : Bld B b l w := .inr h
def NumRel (B b n wd : Nat) (l : List UInt8) (w : World) (g : Nat) (s6 : Value) (wr : World) : Prop :=
  g ≤ wd ∧ s6 = .int .i64 (8 * ((g : Int) - 1)) ∧ Bld B b (l ++ (be n wd).take (wd - g)) wr ∧ Below B w wr ∧ Lib.OthersKept 5 (some b) w wr
set_option maxHeartbeats 400000 in
theorem number_c (B b n wd : Nat) (l : List UInt8) (w : World) (h : Bld B b l w) (hB : B ≤ w.heap.size) (hn : n < 18446744073709551616) (hw : wd ≤ 8) (hl : l.length ≤ 100000000000) :
    Calls Tryd.prog 54 #[.pointer (some ⟨b, 0, none⟩), .int .u64 n, .int .i64 wd] w fun e w' => e = .returned (.tuple #[]) ∧ Hid (Bld B b (l ++ be n wd) w' ∧ Below B w w' ∧ Lib.OthersKept 5 (some b) w w') := by
  have R0 := Lib.hid (show NumRel B b n wd l w wd (.int .i64 (8 * ((wd : Int) - 1))) w from ⟨Nat.le_refl _, rfl, by simpa using h, Below.refl _ _, Lib.OthersKept.refl _ _ _⟩)
  clear h
  go_enter Tryd.func54, Tryd.ntmps54
  go_wp2_with fail
  go_loopg [6] wd (fun g s6 wr => NumRel B b n wd l w g s6 wr)
  case atStart => exact R0.out
  case round =>
    obtain ⟨h1, rfl, h2, h3, h4⟩ := hrel
    clear R0
    have HB := Lib.hid h2
    have HL := Lib.hid h3
    have HO := Lib.hid h4
    clear h2 h3 h4
    by_cases hg : gk = 0
    · subst hg
      have e : 8 * (((0 : Nat) : Int) - 1) < 0 := by omega
      have He : Hid (Bld B b (l ++ be n wd) wr ∧ Below B w wr ∧ Lib.OthersKept 5 (some b) w wr) := Lib.hid ⟨by have := HB.out; rwa [List.take_of_length_le (by rw [be_length]; omega)] at this, HL.out, HO.out⟩
      go_wp2_with fail
      go_end0
      exact ⟨rfl, He⟩
    · have g1 : 0 ≤ 8 * ((gk : Int) - 1) := by omega
      have g2 : 8 * ((gk : Int) - 1) ≤ 56 := by omega
      have hs := HL.out.size
      have wb := Tryd.Builder_WriteByte_k B b _ (((UInt8.ofNat (n / 256 ^ (gk - 1) % 256)).toNat : Nat) : Int) wr HB.out (by simp [Lib.byteCells]; have := List.length_take_le (wd - gk) (be n wd); omega) (by omega)
      rw [← byteCells_snoc, List.append_assoc, ← be_step n wd gk (by omega) h1, byteOf] at wb
      go_wp2_with fail
      refine wb.mono ?_
      rintro e w' ⟨rfl, g3, g4, g5⟩
      have R1 := Lib.hid (show NumRel B b n wd l w (gk - 1) (.int .i64 (8 * ((gk : Int) - 1) - 8)) w' from ⟨by omega, by congr 1; omega, Bld.of g3, (HL.out).trans g4, (HO.out).trans g5⟩)
      clear g3 g4 g5 wb hs
      go_wp2_with fail
      go_roundg (gk - 1)
      case measure => omega
      case rel => exact R1.out

/-- The number of bytes, modulo 2^64. -/
def toldN : Nat → List UInt8 → Nat
  | n, [] => n
  | n, c :: r => toldN (n * 256 % 18446744073709551616 + c.toNat) r
theorem toldN_append (n : Nat) (a b : List UInt8) : toldN n (a ++ b) = toldN (toldN n a) b := by
  induction a generalizing n with
  | nil => rfl
  | cons c r ih => simp [toldN, ih]
theorem toldN_lt (n : Nat) (hn : n < 18446744073709551616) (l : List UInt8) : toldN n l < 18446744073709551616 := by
  induction l generalizing n with
  | nil => exact hn
  | cons c r ih =>
    refine ih _ ?_
    have := c.toNat_lt
    omega
def ToldRel (s : ByteArray) (W : World) (g : Nat) (s3 s9 : Value) (wr : World) : Prop :=
  ∃ k, g = s.size - k ∧ k ≤ s.size ∧ s3 = .int .u64 (toldN 0 (s.data.toList.take k)) ∧ s9 = .int .i64 k ∧ W = wr
theorem told_step (s : ByteArray) (k : Nat) (h : k < s.size) : toldN 0 (s.data.toList.take (k + 1)) = toldN 0 (s.data.toList.take k) * 256 % 18446744073709551616 + s.data[k].toNat := by
  have h' : k < s.data.toList.length := by simpa using h
  rw [List.take_succ_eq_append_getElem h', toldN_append]
  simp [toldN]
theorem or_byte (n c : Nat) (hc : c < 256) : bits .or .u64 (IntKind.u64.wrap ((n : Int) * 256)) (c : Int) = ((n * 256 % 18446744073709551616 + c : Nat) : Int) := by
  have e : IntKind.u64.wrap ((n : Int) * 256) = ((n * 256 % 18446744073709551616 : Nat) : Int) := by
    simp [IntKind.wrap, IntKind.bits, IntKind.signed]
  rw [e, u64_or_nat _ _ (Nat.mod_lt _ (by decide)) (by omega)]
  have h : n * 256 % 18446744073709551616 = (n % 72057594037927936) <<< 8 := by
    rw [Nat.shiftLeft_eq]; omega
  rw [h, Nat.shiftLeft_add_eq_or_of_lt (by simpa using hc)]
theorem ret_u64 {a b : Nat} (h : a = b) : Ending.returned (.int .u64 (a : Int)) = .returned (.int .u64 (b : Int)) := by rw [h]
set_option maxHeartbeats 400000 in
theorem told_c (s : ByteArray) (w : World) (hs : s.size ≤ 1000000000) :
    Calls Tryd.prog 61 #[.string s] w fun e w' => e = .returned (.int .u64 (toldN 0 s.data.toList)) ∧ Below w.heap.size w w' := by
  have hcv := run_bytes_of_string w 9 62 5 s Tryd.underlying9 Tryd.underlying62 Tryd.underlying5
  go_enter Tryd.func61, Tryd.ntmps61
  go_wp2_with fail
  have hc : ∀ j (h : j < s.size), ((w.alloc (.cells (bytesRow s (grownCap w s.size 0 5)) 5 ((bytesRow s (grownCap w s.size 0 5)).size, (bytesRow s (grownCap w s.size 0 5)).size + 1))).drew).cell? ⟨w.heap.size, j, none⟩ = some (.int .u8 (s.data[j].toNat : Int)) := by
    intro j h
    rw [World.cell?_drew, World.cell?_alloc_mark]
    exact bytesRow_at s _ j h
  have hb : Below w.heap.size w ((w.alloc (.cells (bytesRow s (grownCap w s.size 0 5)) 5 ((bytesRow s (grownCap w s.size 0 5)).size, (bytesRow s (grownCap w s.size 0 5)).size + 1))).drew) := ((Below.refl _ _).alloc (Nat.le_refl _) _).drew
  generalize (w.alloc (.cells (bytesRow s (grownCap w s.size 0 5)) 5 ((bytesRow s (grownCap w s.size 0 5)).size, (bytesRow s (grownCap w s.size 0 5)).size + 1))).drew = W at *
  have HC := Lib.hid hc
  have HB := Lib.hid hb
  clear hcv hc hb
  go_loopg [3, 9] s.size (fun g s3 s9 wr => ToldRel s W g s3 s9 wr)
  case atStart => exact ⟨0, by omega, Nat.zero_le _, rfl, rfl, rfl⟩
  case round =>
    obtain ⟨k, rfl, hk, rfl, rfl, rfl⟩ := hrel
    by_cases hlt : k < s.size
    · have c1 := HC.out k hlt
      have n1 := toldN_lt 0 (by decide) (s.data.toList.take k)
      have c2 := s.data[k].toNat_lt
      have HS := Lib.hid (told_step s k hlt)
      generalize toldN 0 (s.data.toList.take k) = n at *
      generalize s.data[k].toNat = c at *
      go_wp2_with fail
      go_roundg (s.size - (k + 1))
      case measure => omega
      case rel =>
        exact ⟨k + 1, rfl, by omega, by rw [HS.out, or_byte n c c2], by simp, rfl⟩
    · obtain rfl : k = s.size := by omega
      go_wp2_with fail
      go_ret
      exact ⟨ret_u64 (by rw [List.take_of_length_le (by simp)]), HB.out⟩
end Go.Proofs.YtoblhikablbapaaDoor
