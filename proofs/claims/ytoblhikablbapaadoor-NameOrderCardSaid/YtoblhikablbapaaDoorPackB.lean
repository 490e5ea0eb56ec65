/- pack: Right, Falls, Fell, Part, Cut; the reference's Width, Number, Told, Right, Cut: walks. -/
import Derived.Test.YtoblhikablbapaaDoorPackA
import Derived.Test.YtoblhikablbapaaDoorPackL
import Derived.Shelf.Strings.SlTrimAscii
namespace Go.Proofs.YtoblhikablbapaaDoor
set_option linter.unusedVariables false
open Go.RowKit

theorem ret_bool {a b : Bool} (h : a = b) : Ending.returned (.bool a) = .returned (.bool b) := by rw [h]
theorem ret_str {a b : ByteArray} (h : a = b) : Ending.returned (.string a) = .returned (.string b) := by rw [h]
set_option maxHeartbeats 400000 in
theorem Right_c (s : ByteArray) (w : World) (hs : s.size ≤ 1000000000) :
    Calls Tryd.prog 17 #[.string s] w fun e w' => e = .returned (.bool (rightL s.data.toList)) ∧ Below w.heap.size w w' := by
  go_enter Tryd.func17, Tryd.ntmps17
  go_wp2_with fail
  refine (Tryd.strings_TrimSuffix s _ w (by omega)).mono ?_
  rintro e w1 ⟨rfl, rfl⟩
  have hts : (ByteArray.mk (Lib.trimSuffix s.data.toList [114]).toArray).size ≤ s.size := by
    show (Lib.trimSuffix s.data.toList [114]).toArray.size ≤ s.size
    unfold Lib.trimSuffix
    rw [List.size_toArray]
    have : s.data.toList.length = s.size := by simp
    split
    · have := List.length_take_le (s.data.toList.length - [(114 : UInt8)].length) s.data.toList; omega
    · omega
  have e1 : (ByteArray.mk (Lib.trimSuffix s.data.toList [114]).toArray).data.toList = Lib.trimSuffix s.data.toList [114] := by simp
  have HE := Lib.hid e1
  clear e1
  generalize hx : ByteArray.mk (Lib.trimSuffix s.data.toList _).toArray = x
  rw [show (ByteArray.mk (Lib.trimSuffix s.data.toList [114]).toArray) = x from hx] at HE hts
  clear hx
  go_wp2_with fail
  refine (Any.strings_Trim_laid Tryd.lays160 (by kernel_rfl) x ⟨#[110, 104, 98, 116]⟩ _ (by omega) (by decide) (ascii_of_all (by decide))).mono ?_
  rintro e w2 ⟨rfl, hb⟩
  rw [HE.out]
  have Hb := Lib.hid hb
  clear hb
  go_wp2_with fail
  go_ret
  exact ⟨ret_bool (right_trim' _), Hb.out⟩

theorem bld_new (w : World) : Bld w.heap.size w.heap.size [] (w.alloc (.cells #[.pointer none, .slice none 0 0] 64)) :=
  .inl ⟨Nat.le_refl _, _, heap_alloc_new _ _, World.ownsRowF_of (World.ownsRow_nil _ _ _ _), by simp [Value.ownBlock]⟩
theorem nat_not (n : Nat) (h : n < 18446744073709551616) : 18446744073709551615 ^^^ n = 18446744073709551615 - n := by
  have h1 : (~~~ (BitVec.ofNat 64 n)).toNat = 2 ^ 64 - 1 - (BitVec.ofNat 64 n).toNat := BitVec.toNat_not
  have h2 : ~~~ (BitVec.ofNat 64 n) = BitVec.allOnes 64 ^^^ BitVec.ofNat 64 n := by rw [BitVec.allOnes_xor]
  rw [h2, BitVec.toNat_xor, BitVec.toNat_allOnes, BitVec.toNat_ofNat, Nat.mod_eq_of_lt (by simpa using h)] at h1
  simpa using h1
theorem not_u64 (n : Nat) (h : n < 18446744073709551616) : bits .xor .u64 IntKind.u64.max (n : Int) = ((18446744073709551615 - n : Nat) : Int) := by
  have : (IntKind.u64.max : Int) = ((18446744073709551615 : Nat) : Int) := by decide
  rw [this, u64_xor_nat _ _ (by decide) h, nat_not n h]
/-- The bytes of a number that falls where n rises. -/
def fallsL (n : Nat) : List UInt8 := be (18446744073709551615 - n) 8
set_option maxHeartbeats 400000 in
theorem Falls_c (n : Nat) (w : World) (hn : n < 18446744073709551616) :
    Calls Tryd.prog 22 #[.int .u64 n] w fun e w' => e = .returned (.string ⟨(fallsL n).toArray⟩) ∧ Below w.heap.size w w' := by
  go_enter Tryd.func22, Tryd.ntmps22
  go_wp2_with fail
  rw [not_u64 n hn]
  refine (number_c w.heap.size w.heap.size (18446744073709551615 - n) 8 [] _ (bld_new w) (by simp) (by omega) (Nat.le_refl _) (by simp)).mono ?_
  rintro e w1 ⟨rfl, h1, h2, h3⟩
  rw [List.nil_append] at h1
  have hsz := h2.size
  rw [World.size_alloc] at hsz
  have H2 := Lib.hid (((Below.refl w.heap.size w).alloc (Nat.le_refl _) _).trans h2)
  clear h2 h3
  go_wp2_with fail
  refine (Tryd.Builder_String_any_k w.heap.size w.heap.size _ w1 h1 (by omega)).mono ?_
  rintro e w2 ⟨rfl, h4, h5, h6⟩
  have H5 := Lib.hid h5
  clear h4 h5 h6 h1
  go_wp2_with fail
  go_ret
  exact ⟨rfl, (H2.out).trans H5.out⟩
/-- pack.Fell, of eight bytes. -/
theorem Fell_no (s : ByteArray) (w : World) (hs : s.size ≤ 1000000000) (h8 : s.size ≠ 8) :
    Calls Tryd.prog 23 #[.string s] w fun e w' => e = .returned (.tuple #[.int .u64 0, .bool false]) ∧ w = w' := by
  have q1 : ((s.size : Int) == 8) = false := by simp; omega
  have q2 : ((s.size : Int) != 8) = true := by simp; omega
  clear h8
  go_enter Tryd.func23, Tryd.ntmps23
  go_wp2
  go_ret2
  exact ⟨rfl, rfl⟩
def fellN (s : ByteArray) : Nat := 18446744073709551615 - toldN 0 s.data.toList
theorem Fell_yes (s : ByteArray) (w : World) (h8 : s.size = 8) :
    Calls Tryd.prog 23 #[.string s] w fun e w' => e = .returned (.tuple #[.int .u64 (fellN s), .bool true]) ∧ Below w.heap.size w w' := by
  have q1 : ((s.size : Int) == 8) = true := by simp; omega
  have q2 : ((s.size : Int) != 8) = false := by simp; omega
  have tc := told_c s w (by omega)
  have HN := Lib.hid (not_u64 (toldN 0 s.data.toList) (toldN_lt 0 (by decide) _))
  unfold fellN
  generalize hT : toldN 0 s.data.toList = n at *
  clear h8
  go_enter Tryd.func23, Tryd.ntmps23
  go_wp2_with fail
  refine tc.mono ?_
  rintro e w1 ⟨rfl, hb⟩
  have Hb := Lib.hid hb
  clear hb tc
  go_wp2_with fail
  go_ret2
  rw [HN.out]
  exact ⟨rfl, Hb.out⟩

/-! Part, Cut -/
/-- Where the first byte 0 stands: the bytes ahead of it, and those behind. -/
def cutL : List UInt8 → Option (List UInt8 × List UInt8)
  | [] => none
  | c :: r => if c = 0 then some ([], r) else (cutL r).map fun p => (c :: p.1, p.2)
theorem indexByte_cut (l : List UInt8) : (cutL l = none ∧ Lib.indexByte l 0 = -1) ∨ (∃ k : Nat, Lib.indexByte l 0 = k ∧ k < l.length ∧ cutL l = some (l.take k, l.drop (k + 1))) := by
  induction l with
  | nil => exact .inl ⟨rfl, rfl⟩
  | cons c r ih =>
    unfold Lib.indexByte cutL
    by_cases h : c = 0
    · subst h; exact .inr ⟨0, by simp, by simp, by simp⟩
    · have hb : (c == 0) = false := by simpa using h
      simp only [hb, h, if_false]
      rcases ih with ⟨h1, h2⟩ | ⟨k, h1, h2, h3⟩
      · exact .inl ⟨by rw [h1]; rfl, by rw [h2]; rfl⟩
      · refine .inr ⟨k + 1, ?_, by simp; omega, by rw [h3]; simp⟩
        rw [h1]
        have : ((k : Int) == -1) = false := by simp
        simp [this]
theorem Part_no (s : ByteArray) (w : World) (h : cutL s.data.toList ≠ none) :
    Calls Tryd.prog 24 #[.string s] w fun e w' => e = .returned (.tuple #[.string ByteArray.empty, .bool false]) ∧ w = w' := by
  rcases indexByte_cut s.data.toList with ⟨h1, _⟩ | ⟨k, h1, h2, h3⟩
  · exact absurd h1 h
  · have ib := Tryd.strings_IndexByte s 0 w
    rw [show ((0 : Int).toNat.toUInt8) = 0 from rfl, h1] at ib
    clear h h1 h2 h3
    go_enter Tryd.func24, Tryd.ntmps24
    go_wp2_with fail
    refine ib.mono ?_
    rintro e w1 ⟨rfl, rfl⟩
    clear ib
    go_wp2_with fail
    go_ret2
    exact ⟨rfl, rfl⟩
theorem Part_yes (s : ByteArray) (w : World) (h : cutL s.data.toList = none) (hs : s.size ≤ 1000000000000000) :
    Calls Tryd.prog 24 #[.string s] w fun e w' => e = .returned (.tuple #[.string ⟨(s.data.toList ++ [0]).toArray⟩, .bool true]) ∧ w = w' := by
  rcases indexByte_cut s.data.toList with ⟨_, h1⟩ | ⟨k, h1, h2, h3⟩
  · have ib := Tryd.strings_IndexByte s 0 w
    rw [show ((0 : Int).toNat.toUInt8) = 0 from rfl, h1] at ib
    clear h
    clear h1
    go_enter Tryd.func24, Tryd.ntmps24
    go_wp2_with fail
    refine ib.mono ?_
    rintro e w1 ⟨rfl, rfl⟩
    clear ib
    go_wp2_with fail
    go_ret2
    refine ⟨?_, rfl⟩
    congr 5
  · rw [h] at h3; cases h3
set_option maxHeartbeats 400000 in
theorem SlCut_no (s : ByteArray) (w : World) (h : cutL s.data.toList = none) :
    Calls Tryd.prog 85 #[.string s, .string ⟨#[0]⟩] w fun e w' => e = .returned (.tuple #[.string s, .string ⟨#[]⟩, .bool false]) ∧ Below w.heap.size w w' := by
  have ix := Tryd.stringslite_Index_one s 0 w
  rcases indexByte_cut s.data.toList with ⟨h1, h2⟩ | ⟨k, h1, h2, h3⟩
  · rw [h2] at ix
    clear h1 h2 h
    go_enter Tryd.func85, Tryd.ntmps85
    go_wp2_with (first | (go_at_call 97; refine ix.mono ?_; rintro e w1 ⟨rfl, rfl⟩))
    go_ret3
    exact ⟨rfl, Below.refl _ _⟩
  · rw [h] at h3; cases h3
set_option maxHeartbeats 400000 in
theorem SlCut_yes (s : ByteArray) (k : Nat) (w : World) (hk : k < s.size) (hs : s.size ≤ 1000000000000000) (h1 : Lib.indexByte s.data.toList 0 = k) :
    Calls Tryd.prog 85 #[.string s, .string ⟨#[0]⟩] w fun e w' => e = .returned (.tuple #[.string (s.extract 0 k), .string (s.extract (k + 1) s.size), .bool true]) ∧ Below w.heap.size w w' := by
  have ix := Tryd.stringslite_Index_one s 0 w
  rw [h1] at ix
  clear h1
  go_enter Tryd.func85, Tryd.ntmps85
  go_wp2_with (first | (go_at_call 97; refine ix.mono ?_; rintro e w1 ⟨rfl, rfl⟩))
  go_region
  all_goals
    go_wp2
    go_ret3
    exact ⟨rfl, (Below.refl _ _).drew⟩
theorem SCut_no (s : ByteArray) (w : World) (h : cutL s.data.toList = none) :
    Calls Tryd.prog 64 #[.string s, .string ⟨#[0]⟩] w fun e w' => e = .returned (.tuple #[.string s, .string ⟨#[]⟩, .bool false]) ∧ Below w.heap.size w w' := by
  have sc := SlCut_no s w h
  clear h
  go_enter Tryd.func64, Tryd.ntmps64
  go_wp2_with (first | (go_at_call 85; refine sc.mono ?_; rintro e w1 ⟨rfl, hb⟩))
  go_ret3
  exact ⟨rfl, hb⟩
theorem SCut_yes (s : ByteArray) (k : Nat) (w : World) (hk : k < s.size) (hs : s.size ≤ 1000000000000000) (h1 : Lib.indexByte s.data.toList 0 = k) :
    Calls Tryd.prog 64 #[.string s, .string ⟨#[0]⟩] w fun e w' => e = .returned (.tuple #[.string (s.extract 0 k), .string (s.extract (k + 1) s.size), .bool true]) ∧ Below w.heap.size w w' := by
  have sc := SlCut_yes s k w hk hs h1
  clear h1
  go_enter Tryd.func64, Tryd.ntmps64
  go_wp2_with (first | (go_at_call 85; refine sc.mono ?_; rintro e w1 ⟨rfl, hb⟩))
  go_ret3
  exact ⟨rfl, hb⟩
/-- pack.Cut's answer. -/
def cutVal (l : List UInt8) : Value := match cutL l with
  | none => .tuple #[.string ⟨#[]⟩, .string ⟨#[]⟩, .bool false]
  | some p => .tuple #[.string ⟨p.1.toArray⟩, .string ⟨p.2.toArray⟩, .bool true]
theorem extract_take (s : ByteArray) (k : Nat) : s.extract 0 k = ⟨(s.data.toList.take k).toArray⟩ := by
  apply ByteArray.ext; apply Array.ext'; simp [ByteArray.data_extract]
theorem extract_drop (s : ByteArray) (k : Nat) : s.extract k s.size = ⟨(s.data.toList.drop k).toArray⟩ := by
  apply ByteArray.ext; apply Array.ext'
  rw [Lib.extract_data, List.take_of_length_le (by simp)]
theorem Cut_c (s : ByteArray) (w : World) (hs : s.size ≤ 1000000000000000) :
    Calls Tryd.prog 26 #[.string s] w fun e w' => e = .returned (cutVal s.data.toList) ∧ Below w.heap.size w w' := by
  rcases indexByte_cut s.data.toList with ⟨h1, h2⟩ | ⟨k, h1, h2, h3⟩
  · have sc := SCut_no s w h1
    have e1 : cutVal s.data.toList = .tuple #[.string ⟨#[]⟩, .string ⟨#[]⟩, .bool false] := by unfold cutVal; rw [h1]
    rw [e1]
    clear h1 h2 e1
    go_enter Tryd.func26, Tryd.ntmps26
    go_wp2_with (first | (go_at_call 64; refine sc.mono ?_; rintro e w1 ⟨rfl, hb⟩))
    go_ret3
    exact ⟨rfl, hb⟩
  · have sc := SCut_yes s k w (by simpa using h2) hs h1
    have e1 : cutVal s.data.toList = .tuple #[.string (s.extract 0 k), .string (s.extract (k + 1) s.size), .bool true] := by
      unfold cutVal; rw [h3, extract_take, extract_drop]
    rw [e1]
    clear h1 h2 h3 e1
    go_enter Tryd.func26, Tryd.ntmps26
    go_wp2_with (first | (go_at_call 64; refine sc.mono ?_; rintro e w1 ⟨rfl, hb⟩))
    go_ret3
    exact ⟨rfl, hb⟩

/-! The reference. -/
theorem RWidth_c (c : Int) (w : World) : Calls Tryd.prog 57 #[.int .u8 c] w fun e w' => e = .returned (.int .i64 (widthB c)) ∧ w = w' := by
  by_cases h1 : c = 110
  · subst h1
    go_enter Tryd.func57, Tryd.ntmps57
    go_wp2
    go_ret
    exact ⟨rfl, rfl⟩
  · by_cases h2 : c = 104
    · subst h2
      go_enter Tryd.func57, Tryd.ntmps57
      go_wp2
      go_ret
      exact ⟨rfl, rfl⟩
    · by_cases h3 : c = 98
      · subst h3
        go_enter Tryd.func57, Tryd.ntmps57
        go_wp2
        go_ret
        exact ⟨rfl, rfl⟩
      · have q1 : (c == 110) = false := by simpa using h1
        have q2 : (c == 104) = false := by simpa using h2
        have q3 : (c == 98) = false := by simpa using h3
        have e : widthB c = 0 := by simp [widthB, h1, h2, h3]
        rw [e]
        clear h1 h2 h3 e
        go_enter Tryd.func57, Tryd.ntmps57
        go_wp2
        go_ret
        exact ⟨rfl, rfl⟩
/-- The lowest k bytes of n, the highest of them first. -/
def RNumRel (n wd : Nat) (w : World) (g : Nat) (s0 s5 s6 : Value) (wr : World) : Prop :=
  ∃ k, g = wd - k ∧ k ≤ wd ∧ s0 = .int .u64 ((n / 256 ^ k : Nat) : Int) ∧ s5 = .string ⟨(be n k).toArray⟩ ∧ s6 = .int .i64 k ∧ Below w.heap.size w wr
theorem run_byte (c : Int) (w : World) : (convert 62 9 (.slice (some ⟨w.heap.size, 0, none⟩) 1 1)).run Tryd.prog (w.alloc (.cells #[.int .u8 c] 5)) = .ok (.string (strOfNums [c])) (w.alloc (.cells #[.int .u8 c] 5)) := by
  refine run_convert_bytes_arg _ 62 5 Tryd.underlying62 Tryd.underlying5 w.heap.size 0 1 1 [c] rfl (fun i hi => ?_) 9 Tryd.underlying9
  obtain rfl : i = 0 := by omega
  exact cell_lit (heap_alloc_new _ _) rfl
theorem be_succ (n k : Nat) : (⟨(be n (k + 1)).toArray⟩ : ByteArray) = strOfNums [((n / 256 ^ k : Nat) : Int) % 256] ++ ⟨(be n k).toArray⟩ := by
  apply ByteArray.ext
  have : ((n / 256 ^ k : Nat) : Int) % 256 = ((n / 256 ^ k % 256 : Nat) : Int) := by simp
  rw [this]
  simp only [be, strOfNums, List.map_cons, List.map_nil, Int.toNat_natCast, ByteArray.data_append]
  simp
set_option maxHeartbeats 400000 in
theorem RNumber_c (n wd : Nat) (w : World) (hn : n < 18446744073709551616) (hw : wd ≤ 8) :
    Calls Tryd.prog 58 #[.int .u64 n, .int .i64 wd] w fun e w' => e = .returned (.string ⟨(be n wd).toArray⟩) ∧ Below w.heap.size w w' := by
  go_enter Tryd.func58, Tryd.ntmps58
  go_wp2_with fail
  go_loopg [0, 5, 6] wd (fun g s0 s5 s6 wr => RNumRel n wd w g s0 s5 s6 wr)
  case atStart => exact ⟨0, by omega, Nat.zero_le _, by simp, rfl, rfl, Below.refl _ _⟩
  case round =>
    obtain ⟨k, rfl, hk, rfl, rfl, rfl, hb⟩ := hrel
    have Hb := Lib.hid hb
    have hsz := hb.size
    clear hb
    by_cases hlt : k < wd
    · have hm : n / 256 ^ k ≤ n := Nat.div_le_self _ _
      have HS := Lib.hid (be_succ n k)
      have HD := Lib.hid (show n / 256 ^ k / 256 = n / 256 ^ (k + 1) from by rw [Nat.pow_succ, Nat.div_div_eq_div_mul])
      have hsize : (⟨(be n k).toArray⟩ : ByteArray).size = k := by show (be n k).toArray.size = k; simp [be_length]
      have hs9 : (⟨(be n k).toArray⟩ : ByteArray).size ≤ 8 := by omega
      clear hsize
      generalize (⟨(be n k).toArray⟩ : ByteArray) = z at *
      generalize n / 256 ^ k = m at *
      have hcv := run_byte ((m : Int) % 256) wr
      have hs1 : (strOfNums [((m : Int) % 256)]).size ≤ 1 := by rw [strOfNums_size]; simp
      go_wp2_with fail
      go_roundg (wd - (k + 1))
      case measure => omega
      case rel => exact ⟨k + 1, rfl, by omega, by rw [← HD.out]; simp, by rw [HS.out], by simp, (Hb.out).alloc hsz _⟩
    · obtain rfl : k = wd := by omega
      go_wp2_with fail
      go_ret
      exact ⟨rfl, Hb.out⟩
end Go.Proofs.YtoblhikablbapaaDoor
